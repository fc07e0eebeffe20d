/- The number of few bytes. By a session's own hand. -/
import Derived.Test.YtlpenkjkggopiaaGreatWF
set_option linter.unusedSimpArgs false
set_option linter.unusedVariables false
namespace Go.Mir
open Go.Proofs

def ofT (a b e : Int) : Value := .tuple #[.int .i64 a, .int .i64 b, .int .i64 e]
/-- a number, how many letters it has, and what is wrong -/
def compactOfV (s : ByteArray) : Value :=
  if (s.size : Int) < 1 then ofT 0 0 2 else if sgi s 0 < 128 then ofT (sgi s 0) 1 0 else if (s.size : Int) < 2 then ofT 0 0 2 else if sgi s 1 < 128 then ofT (sgi s 0 - 128 + 128 * sgi s 1) 2 0
  else if (s.size : Int) < 3 then ofT 0 0 2 else ofT (sgi s 0 - 128 + 128 * (sgi s 1 - 128) + 16384 * sgi s 2) 3 0
theorem compactOfV_closed (s : ByteArray) : closed (compactOfV s) = true := by
  unfold compactOfV ofT
  repeat' split
  all_goals simp [closed, Value.closed1]

theorem rcompactOf_p (s : ByteArray) : APure P0 31 #[.string s] (compactOfV s) := by
  refine apure_empty (by kernel_rfl) (by simp [closed, Value.closed1]) (compactOfV_closed s) ?_
  refine acall_of_awp good.tabOK Tryz.func31 rfl rfl rfl fun _ => ?_
  have hs : 0 ≤ (s.size : Int) := by omega
  all_goals repeat' (first
    | refine aops_dec rfl rfl rfl rfl (fun hq => ?_) (fun hq => ?_)
    | refine awp_seq ?_
    | refine awp_region good ?_
    | refine awp_block ?_
    | refine awp_scope ?_
    | refine aops_nil ?_
    | refine ret_ret rfl ?_
    | refine ret_normal rfl ?_
    | refine then_normal ?_
    | refine then_ret ?_
    | refine then_exit ?_
    | refine block_normal ?_
    | refine block_ret ?_
    | refine block_exit ?_
    | refine block_other rfl ?_
    | refine awp_skip ?_
    | refine awp_exit ?_
    | refine awp_ret ?_
    | refine awp_label ?_
    | refine awp_cond_t rfl ?_
    | refine awp_cond_f rfl ?_
    | refine un_step ?_
    | refine aops_val (v := .bool true) rfl rfl rfl rfl ?_
    | refine aops_val (v := .bool false) rfl rfl rfl rfl ?_
    | refine aops_dec rfl rfl rfl rfl (fun hq => ?_) (fun hq => absurd hq (by omega))
    | refine aops_dec rfl rfl rfl rfl (fun hq => absurd hq (by omega)) (fun hq => ?_)
    | refine aops_eqi rfl rfl rfl rfl (fun hq => ?_) (fun hq => absurd hq (by omega))
    | refine aops_eqi rfl rfl rfl rfl (fun hq => absurd hq (by omega)) (fun hq => ?_)
    | refine aops_nei rfl rfl rfl rfl (fun hq => ?_) (fun hq => absurd hq (by omega))
    | refine aops_nei rfl rfl rfl rfl (fun hq => absurd hq (by omega)) (fun hq => ?_)
    | refine aops_idx rfl rfl rfl rfl rfl rfl rfl (by omega) (fun hc => ?_)
    | refine aops_cut rfl rfl rfl rfl rfl rfl rfl rfl rfl rfl (by omega) ?_
    | refine aops_w64 rfl rfl rfl rfl (by omega) ?_
    | refine aops_u8 rfl rfl rfl rfl ?_
    | refine aops_val rfl rfl rfl rfl ?_
    | refine aops_skip rfl rfl rfl ?_
    | refine aops_skip' rfl rfl ?_
    | refine aops_alloc rfl rfl rfl rfl rfl ?_
    | refine aops_rd rfl rfl rfl rfl rfl rfl ?_
    | refine aops_eff rfl rfl rfl rfl ?_
    | refine aops_eff' rfl rfl rfl ?_
    | refine aord_nil ?_
    | refine aord_cut rfl rfl rfl rfl rfl rfl rfl rfl rfl rfl rfl (by omega) ?_
    | refine aord_w64 rfl rfl rfl rfl rfl (by omega) ?_
    | refine aord_val rfl rfl rfl rfl rfl ?_
    | refine aord_rd rfl rfl rfl rfl rfl rfl rfl ?_)
  all_goals
    unfold compactOfV
    repeat (first | rw [if_pos (by omega)] | rw [if_neg (by omega)])
    try rfl
end Go.Mir

