/- A cursor in a text. By a session's own hand. -/
import Derived.Test.YtlpenkjkggopiaaGreatWF
set_option linter.unusedSimpArgs false
set_option linter.unusedVariables false
namespace Go.Mir
set_option maxRecDepth 100000
open Go.Proofs

/-- a cursor's row -/
def cur (s : ByteArray) (at_ err : Int) (opn : Bool) : Blk := .cells [.string s, .int .i64 at_, .int .i64 err] 127 opn true
theorem cur_closed (s : ByteArray) (at_ err : Int) : closedCells [.string s, .int .i64 at_, .int .i64 err] = true := rfl

theorem bytes_0 {s : ByteArray} {a e n : Int} {opn : Bool} (h0 : 0 ≤ a) (h1 : a ≤ s.size) (h2 : (s.size : Int) < 2 ^ 62) (he : e ≠ 0) (hn : -2 ^ 62 < n ∧ n < 2 ^ 62) :
    ACall P0 75 #[.pointer (some ⟨0, 0, none⟩), .int .i64 n] (hr1 (cur s a e opn)) (fun u h' => u = .string ⟨#[]⟩ ∧ h'.get 0 = some (cur s a e opn)) := by
  refine acall_of_awp good.tabOK Tryz.func75 rfl rfl rfl fun _ => ?_
  all_goals repeat' (first
    | refine aops_inline rfl rfl rfl rfl (by kernel_rfl) (acall_of_awp good.tabOK Tryz.func43 rfl rfl rfl fun _ => ?_)
    | refine aops_inline rfl rfl rfl rfl (by kernel_rfl) (acall_of_awp good.tabOK Tryz.func131 rfl rfl rfl fun _ => ?_)
    | refine awp_drawL 43 1 rfl (by kernel_rfl) ?_
    | refine awp_drawL 75 8 rfl (by kernel_rfl) ?_
    | refine awp_seq ?_
    | refine awp_region good ?_
    | refine awp_block ?_
    | refine awp_scope ?_
    | refine aops_nil ?_
    | refine ret_ret rfl ?_
    | refine ret_normal rfl ?_
    | refine then_normal ?_
    | refine then_ret ?_
    | refine then_exit ?_
    | refine block_normal ?_
    | refine block_ret ?_
    | refine block_exit ?_
    | refine block_other rfl ?_
    | refine awp_skip ?_
    | refine awp_exit ?_
    | refine awp_ret ?_
    | refine awp_label ?_
    | refine awp_cond_t rfl ?_
    | refine awp_cond_f rfl ?_
    | refine un_step ?_
    | refine aops_val (v := .bool true) rfl rfl rfl rfl ?_
    | refine aops_val (v := .bool false) rfl rfl rfl rfl ?_
    | refine aops_dec rfl rfl rfl rfl (fun hq => ?_) (fun hq => absurd hq (by omega))
    | refine aops_dec rfl rfl rfl rfl (fun hq => absurd hq (by omega)) (fun hq => ?_)
    | refine aops_eqi rfl rfl rfl rfl (fun hq => ?_) (fun hq => absurd hq (by omega))
    | refine aops_eqi rfl rfl rfl rfl (fun hq => absurd hq (by omega)) (fun hq => ?_)
    | refine aops_nei rfl rfl rfl rfl (fun hq => ?_) (fun hq => absurd hq (by omega))
    | refine aops_nei rfl rfl rfl rfl (fun hq => absurd hq (by omega)) (fun hq => ?_)
    | refine aops_idx rfl rfl rfl rfl rfl rfl rfl (by omega) (fun hc => ?_)
    | refine aops_cut rfl rfl rfl rfl rfl rfl rfl rfl rfl rfl (by omega) ?_
    | refine aops_w64 rfl rfl rfl rfl (by omega) ?_
    | refine aops_u8 rfl rfl rfl rfl ?_
    | refine aops_dec rfl rfl rfl rfl (fun hq => ?_) (fun hq => ?_)
    | refine aops_eqi rfl rfl rfl rfl (fun hq => ?_) (fun hq => ?_)
    | refine aops_nei rfl rfl rfl rfl (fun hq => ?_) (fun hq => ?_)
    | refine aops_val rfl rfl rfl rfl ?_
    | refine aops_skip rfl rfl rfl ?_
    | refine aops_skip' rfl rfl ?_
    | refine aops_alloc rfl rfl rfl rfl rfl ?_
    | refine aops_rd rfl rfl rfl rfl rfl rfl ?_
    | refine aops_eff rfl rfl rfl rfl ?_
    | refine aops_eff' rfl rfl rfl ?_
    | refine aord_nil ?_
    | refine aord_cut rfl rfl rfl rfl rfl rfl rfl rfl rfl rfl rfl (by omega) ?_
    | refine aord_w64 rfl rfl rfl rfl rfl (by omega) ?_
    | refine aord_val rfl rfl rfl rfl rfl ?_
    | refine aord_rd rfl rfl rfl rfl rfl rfl rfl ?_)
  all_goals exact ⟨rfl, rfl⟩
theorem bytes_neg {s : ByteArray} {a n : Int} {opn : Bool} (h0 : 0 ≤ a) (h1 : a ≤ s.size) (h2 : (s.size : Int) < 2 ^ 62) (hn : n < 0) :
    ACall P0 75 #[.pointer (some ⟨0, 0, none⟩), .int .i64 n] (hr1 (cur s a 0 opn)) (fun u h' => u = .string ⟨#[]⟩ ∧ h'.get 0 = some (cur s a 1 opn)) := by
  refine acall_of_awp good.tabOK Tryz.func75 rfl rfl rfl fun _ => ?_
  all_goals repeat' (first
    | refine aops_inline rfl rfl rfl rfl (by kernel_rfl) (acall_of_awp good.tabOK Tryz.func43 rfl rfl rfl fun _ => ?_)
    | refine aops_inline rfl rfl rfl rfl (by kernel_rfl) (acall_of_awp good.tabOK Tryz.func131 rfl rfl rfl fun _ => ?_)
    | refine awp_drawL 43 1 rfl (by kernel_rfl) ?_
    | refine awp_drawL 75 8 rfl (by kernel_rfl) ?_
    | refine awp_seq ?_
    | refine awp_region good ?_
    | refine awp_block ?_
    | refine awp_scope ?_
    | refine aops_nil ?_
    | refine ret_ret rfl ?_
    | refine ret_normal rfl ?_
    | refine then_normal ?_
    | refine then_ret ?_
    | refine then_exit ?_
    | refine block_normal ?_
    | refine block_ret ?_
    | refine block_exit ?_
    | refine block_other rfl ?_
    | refine awp_skip ?_
    | refine awp_exit ?_
    | refine awp_ret ?_
    | refine awp_label ?_
    | refine awp_cond_t rfl ?_
    | refine awp_cond_f rfl ?_
    | refine un_step ?_
    | refine aops_val (v := .bool true) rfl rfl rfl rfl ?_
    | refine aops_val (v := .bool false) rfl rfl rfl rfl ?_
    | refine aops_dec rfl rfl rfl rfl (fun hq => ?_) (fun hq => absurd hq (by omega))
    | refine aops_dec rfl rfl rfl rfl (fun hq => absurd hq (by omega)) (fun hq => ?_)
    | refine aops_eqi rfl rfl rfl rfl (fun hq => ?_) (fun hq => absurd hq (by omega))
    | refine aops_eqi rfl rfl rfl rfl (fun hq => absurd hq (by omega)) (fun hq => ?_)
    | refine aops_nei rfl rfl rfl rfl (fun hq => ?_) (fun hq => absurd hq (by omega))
    | refine aops_nei rfl rfl rfl rfl (fun hq => absurd hq (by omega)) (fun hq => ?_)
    | refine aops_idx rfl rfl rfl rfl rfl rfl rfl (by omega) (fun hc => ?_)
    | refine aops_cut rfl rfl rfl rfl rfl rfl rfl rfl rfl rfl (by omega) ?_
    | refine aops_w64 rfl rfl rfl rfl (by omega) ?_
    | refine aops_u8 rfl rfl rfl rfl ?_
    | refine aops_dec rfl rfl rfl rfl (fun hq => ?_) (fun hq => ?_)
    | refine aops_eqi rfl rfl rfl rfl (fun hq => ?_) (fun hq => ?_)
    | refine aops_nei rfl rfl rfl rfl (fun hq => ?_) (fun hq => ?_)
    | refine aops_val rfl rfl rfl rfl ?_
    | refine aops_skip rfl rfl rfl ?_
    | refine aops_skip' rfl rfl ?_
    | refine aops_alloc rfl rfl rfl rfl rfl ?_
    | refine aops_rd rfl rfl rfl rfl rfl rfl ?_
    | refine aops_eff rfl rfl rfl rfl ?_
    | refine aops_eff' rfl rfl rfl ?_
    | refine aord_nil ?_
    | refine aord_cut rfl rfl rfl rfl rfl rfl rfl rfl rfl rfl rfl (by omega) ?_
    | refine aord_w64 rfl rfl rfl rfl rfl (by omega) ?_
    | refine aord_val rfl rfl rfl rfl rfl ?_
    | refine aord_rd rfl rfl rfl rfl rfl rfl rfl ?_)
  all_goals exact ⟨rfl, rfl⟩
theorem bytes_more {s : ByteArray} {a n : Int} {opn : Bool} (h0 : 0 ≤ a) (h1 : a ≤ s.size) (h2 : (s.size : Int) < 2 ^ 62) (hn : 0 ≤ n) (hm : n > s.size - a) :
    ACall P0 75 #[.pointer (some ⟨0, 0, none⟩), .int .i64 n] (hr1 (cur s a 0 opn)) (fun u h' => u = .string ⟨#[]⟩ ∧ h'.get 0 = some (cur s a 2 opn)) := by
  refine acall_of_awp good.tabOK Tryz.func75 rfl rfl rfl fun _ => ?_
  all_goals repeat' (first
    | refine aops_inline rfl rfl rfl rfl (by kernel_rfl) (acall_of_awp good.tabOK Tryz.func43 rfl rfl rfl fun _ => ?_)
    | refine aops_inline rfl rfl rfl rfl (by kernel_rfl) (acall_of_awp good.tabOK Tryz.func131 rfl rfl rfl fun _ => ?_)
    | refine awp_drawL 43 1 rfl (by kernel_rfl) ?_
    | refine awp_drawL 75 8 rfl (by kernel_rfl) ?_
    | refine awp_seq ?_
    | refine awp_region good ?_
    | refine awp_block ?_
    | refine awp_scope ?_
    | refine aops_nil ?_
    | refine ret_ret rfl ?_
    | refine ret_normal rfl ?_
    | refine then_normal ?_
    | refine then_ret ?_
    | refine then_exit ?_
    | refine block_normal ?_
    | refine block_ret ?_
    | refine block_exit ?_
    | refine block_other rfl ?_
    | refine awp_skip ?_
    | refine awp_exit ?_
    | refine awp_ret ?_
    | refine awp_label ?_
    | refine awp_cond_t rfl ?_
    | refine awp_cond_f rfl ?_
    | refine un_step ?_
    | refine aops_val (v := .bool true) rfl rfl rfl rfl ?_
    | refine aops_val (v := .bool false) rfl rfl rfl rfl ?_
    | refine aops_dec rfl rfl rfl rfl (fun hq => ?_) (fun hq => absurd hq (by omega))
    | refine aops_dec rfl rfl rfl rfl (fun hq => absurd hq (by omega)) (fun hq => ?_)
    | refine aops_eqi rfl rfl rfl rfl (fun hq => ?_) (fun hq => absurd hq (by omega))
    | refine aops_eqi rfl rfl rfl rfl (fun hq => absurd hq (by omega)) (fun hq => ?_)
    | refine aops_nei rfl rfl rfl rfl (fun hq => ?_) (fun hq => absurd hq (by omega))
    | refine aops_nei rfl rfl rfl rfl (fun hq => absurd hq (by omega)) (fun hq => ?_)
    | refine aops_idx rfl rfl rfl rfl rfl rfl rfl (by omega) (fun hc => ?_)
    | refine aops_cut rfl rfl rfl rfl rfl rfl rfl rfl rfl rfl (by omega) ?_
    | refine aops_w64 rfl rfl rfl rfl (by omega) ?_
    | refine aops_u8 rfl rfl rfl rfl ?_
    | refine aops_dec rfl rfl rfl rfl (fun hq => ?_) (fun hq => ?_)
    | refine aops_eqi rfl rfl rfl rfl (fun hq => ?_) (fun hq => ?_)
    | refine aops_nei rfl rfl rfl rfl (fun hq => ?_) (fun hq => ?_)
    | refine aops_val rfl rfl rfl rfl ?_
    | refine aops_skip rfl rfl rfl ?_
    | refine aops_skip' rfl rfl ?_
    | refine aops_alloc rfl rfl rfl rfl rfl ?_
    | refine aops_rd rfl rfl rfl rfl rfl rfl ?_
    | refine aops_eff rfl rfl rfl rfl ?_
    | refine aops_eff' rfl rfl rfl ?_
    | refine aord_nil ?_
    | refine aord_cut rfl rfl rfl rfl rfl rfl rfl rfl rfl rfl rfl (by omega) ?_
    | refine aord_w64 rfl rfl rfl rfl rfl (by omega) ?_
    | refine aord_val rfl rfl rfl rfl rfl ?_
    | refine aord_rd rfl rfl rfl rfl rfl rfl rfl ?_)
  all_goals exact ⟨rfl, rfl⟩
theorem bytes_ok {s : ByteArray} {a n : Int} {opn : Bool} (h0 : 0 ≤ a) (h1 : a ≤ s.size) (h2 : (s.size : Int) < 2 ^ 62) (hn : 0 ≤ n) (hm : n ≤ s.size - a) :
    ACall P0 75 #[.pointer (some ⟨0, 0, none⟩), .int .i64 n] (hr1 (cur s a 0 opn)) (fun u h' => u = .string (cutS s a (a + n)) ∧ h'.get 0 = some (cur s (a + n) 0 opn)) := by
  refine acall_of_awp good.tabOK Tryz.func75 rfl rfl rfl fun _ => ?_
  all_goals repeat' (first
    | refine aops_inline rfl rfl rfl rfl (by kernel_rfl) (acall_of_awp good.tabOK Tryz.func43 rfl rfl rfl fun _ => ?_)
    | refine aops_inline rfl rfl rfl rfl (by kernel_rfl) (acall_of_awp good.tabOK Tryz.func131 rfl rfl rfl fun _ => ?_)
    | refine awp_drawL 43 1 rfl (by kernel_rfl) ?_
    | refine awp_drawL 75 8 rfl (by kernel_rfl) ?_
    | refine awp_seq ?_
    | refine awp_region good ?_
    | refine awp_block ?_
    | refine awp_scope ?_
    | refine aops_nil ?_
    | refine ret_ret rfl ?_
    | refine ret_normal rfl ?_
    | refine then_normal ?_
    | refine then_ret ?_
    | refine then_exit ?_
    | refine block_normal ?_
    | refine block_ret ?_
    | refine block_exit ?_
    | refine block_other rfl ?_
    | refine awp_skip ?_
    | refine awp_exit ?_
    | refine awp_ret ?_
    | refine awp_label ?_
    | refine awp_cond_t rfl ?_
    | refine awp_cond_f rfl ?_
    | refine un_step ?_
    | refine aops_val (v := .bool true) rfl rfl rfl rfl ?_
    | refine aops_val (v := .bool false) rfl rfl rfl rfl ?_
    | refine aops_dec rfl rfl rfl rfl (fun hq => ?_) (fun hq => absurd hq (by omega))
    | refine aops_dec rfl rfl rfl rfl (fun hq => absurd hq (by omega)) (fun hq => ?_)
    | refine aops_eqi rfl rfl rfl rfl (fun hq => ?_) (fun hq => absurd hq (by omega))
    | refine aops_eqi rfl rfl rfl rfl (fun hq => absurd hq (by omega)) (fun hq => ?_)
    | refine aops_nei rfl rfl rfl rfl (fun hq => ?_) (fun hq => absurd hq (by omega))
    | refine aops_nei rfl rfl rfl rfl (fun hq => absurd hq (by omega)) (fun hq => ?_)
    | refine aops_idx rfl rfl rfl rfl rfl rfl rfl (by omega) (fun hc => ?_)
    | refine aops_cut rfl rfl rfl rfl rfl rfl rfl rfl rfl rfl (by omega) ?_
    | refine aops_w64 rfl rfl rfl rfl (by omega) ?_
    | refine aops_u8 rfl rfl rfl rfl ?_
    | refine aops_dec rfl rfl rfl rfl (fun hq => ?_) (fun hq => ?_)
    | refine aops_eqi rfl rfl rfl rfl (fun hq => ?_) (fun hq => ?_)
    | refine aops_nei rfl rfl rfl rfl (fun hq => ?_) (fun hq => ?_)
    | refine aops_val rfl rfl rfl rfl ?_
    | refine aops_skip rfl rfl rfl ?_
    | refine aops_skip' rfl rfl ?_
    | refine aops_alloc rfl rfl rfl rfl rfl ?_
    | refine aops_rd rfl rfl rfl rfl rfl rfl ?_
    | refine aops_eff rfl rfl rfl rfl ?_
    | refine aops_eff' rfl rfl rfl ?_
    | refine aord_nil ?_
    | refine aord_cut rfl rfl rfl rfl rfl rfl rfl rfl rfl rfl rfl (by omega) ?_
    | refine aord_w64 rfl rfl rfl rfl rfl (by omega) ?_
    | refine aord_val rfl rfl rfl rfl rfl ?_
    | refine aord_rd rfl rfl rfl rfl rfl rfl rfl ?_)
  all_goals exact ⟨by rw [show a + n - n = a by omega], rfl⟩
/-! ### anywhere -/
theorem bytesF_0 {s : ByteArray} {a e n : Int} {opn : Bool} (h0 : 0 ≤ a) (h1 : a ≤ s.size) (h2 : (s.size : Int) < 2 ^ 62) (he : e ≠ 0) (hn : -2 ^ 62 < n ∧ n < 2 ^ 62) {h : Heap} {m : Nat} (hm : h.get m = some (cur s a e opn)) :
    ACall P0 75 #[.pointer (some ⟨m, 0, none⟩), .int .i64 n] h (fun u h' => u = .string ⟨#[]⟩ ∧ h' = h.set m (cur s a e opn)) :=
  acall_frame (rest := #[.int .i64 n]) rfl rfl (by simp [closed, Value.closed1]) (by simp [closed, Value.closed1]) (bytes_0 h0 h1 h2 he hn) h m hm
theorem bytesF_more {s : ByteArray} {a n : Int} {opn : Bool} (h0 : 0 ≤ a) (h1 : a ≤ s.size) (h2 : (s.size : Int) < 2 ^ 62) (hn : 0 ≤ n) (hmm : n > s.size - a) {h : Heap} {m : Nat} (hm : h.get m = some (cur s a 0 opn)) :
    ACall P0 75 #[.pointer (some ⟨m, 0, none⟩), .int .i64 n] h (fun u h' => u = .string ⟨#[]⟩ ∧ h' = h.set m (cur s a 2 opn)) :=
  acall_frame (rest := #[.int .i64 n]) rfl rfl (by simp [closed, Value.closed1]) (by simp [closed, Value.closed1]) (bytes_more h0 h1 h2 hn hmm) h m hm
theorem bytesF_ok {s : ByteArray} {a n : Int} {opn : Bool} (h0 : 0 ≤ a) (h1 : a ≤ s.size) (h2 : (s.size : Int) < 2 ^ 62) (hn : 0 ≤ n) (hmm : n ≤ s.size - a) {h : Heap} {m : Nat} (hm : h.get m = some (cur s a 0 opn)) :
    ACall P0 75 #[.pointer (some ⟨m, 0, none⟩), .int .i64 n] h (fun u h' => u = .string (cutS s a (a + n)) ∧ h' = h.set m (cur s (a + n) 0 opn)) :=
  acall_frame (rest := #[.int .i64 n]) rfl rfl (by simp [closed, Value.closed1]) (by simp [closed, Value.closed1]) (bytes_ok h0 h1 h2 hn hmm) h m hm

/-- one letter -/
def sg (s : ByteArray) (a : Int) : UInt8 := s.data.toList.getD a.toNat 0
theorem sgi_sg (s : ByteArray) (a : Int) : sgi s a = ((sg s a).toNat : Int) := rfl
theorem cut_one {s : ByteArray} {a : Int} (h : 0 ≤ a ∧ a < s.size) : cutS s a (a + 1) = ⟨⟨[sg s a]⟩⟩ := by
  obtain ⟨i, rfl⟩ := Int.eq_ofNat_of_zero_le h.1
  have hi : i < s.data.toList.length := by
    have : s.data.toList.length = s.size := Array.length_toList
    omega
  unfold cutS sg
  have e1 : ((i : Int) + 1).toNat = i + 1 := by omega
  have e2 : ((i : Int)).toNat = i := by omega
  rw [e1, e2]
  congr 2
  rw [List.drop_take, List.drop_eq_getElem_cons hi]
  have e3 : i + 1 - i = 0 + 1 := by omega
  rw [e3, List.take_succ_cons, List.take_zero]
  simp [List.getD_eq_getElem?_getD, List.getElem?_eq_getElem hi]

theorem turned_0 : APure P0 105 #[.string ⟨#[]⟩] (.string ⟨#[]⟩) := by
  refine apure_empty (by kernel_rfl) (by simp [closed, Value.closed1]) (by simp [closed, Value.closed1]) ?_
  refine acall_of_awp good.tabOK Tryz.func105 rfl rfl rfl fun _ => ?_
  all_goals repeat' (first
    | refine aops_inline rfl rfl rfl rfl (by kernel_rfl) (acall_of_awp good.tabOK Tryz.func159 rfl rfl rfl fun _ => ?_)
    | refine awp_unroll 4 (un_step ?_)
    | refine awp_seq ?_
    | refine awp_region good ?_
    | refine awp_block ?_
    | refine awp_scope ?_
    | refine aops_nil ?_
    | refine ret_ret rfl ?_
    | refine ret_normal rfl ?_
    | refine then_normal ?_
    | refine then_ret ?_
    | refine then_exit ?_
    | refine block_normal ?_
    | refine block_ret ?_
    | refine block_exit ?_
    | refine block_other rfl ?_
    | refine awp_skip ?_
    | refine awp_exit ?_
    | refine awp_ret ?_
    | refine awp_label ?_
    | refine awp_cond_t rfl ?_
    | refine awp_cond_f rfl ?_
    | refine un_step ?_
    | refine aops_val (v := .bool true) rfl rfl rfl rfl ?_
    | refine aops_val (v := .bool false) rfl rfl rfl rfl ?_
    | refine aops_dec rfl rfl rfl rfl (fun hq => ?_) (fun hq => absurd hq (by omega))
    | refine aops_dec rfl rfl rfl rfl (fun hq => absurd hq (by omega)) (fun hq => ?_)
    | refine aops_eqi rfl rfl rfl rfl (fun hq => ?_) (fun hq => absurd hq (by omega))
    | refine aops_eqi rfl rfl rfl rfl (fun hq => absurd hq (by omega)) (fun hq => ?_)
    | refine aops_nei rfl rfl rfl rfl (fun hq => ?_) (fun hq => absurd hq (by omega))
    | refine aops_nei rfl rfl rfl rfl (fun hq => absurd hq (by omega)) (fun hq => ?_)
    | refine aops_idx rfl rfl rfl rfl rfl rfl rfl (by omega) (fun hc => ?_)
    | refine aops_cut rfl rfl rfl rfl rfl rfl rfl rfl rfl rfl (by omega) ?_
    | refine aops_w64 rfl rfl rfl rfl (by omega) ?_
    | refine aops_u8 rfl rfl rfl rfl ?_
    | refine aops_val rfl rfl rfl rfl ?_
    | refine aops_skip rfl rfl rfl ?_
    | refine aops_skip' rfl rfl ?_
    | refine aops_alloc rfl rfl rfl rfl rfl ?_
    | refine aops_rd rfl rfl rfl rfl rfl rfl ?_
    | refine aops_eff rfl rfl rfl rfl ?_
    | refine aops_eff' rfl rfl rfl ?_
    | refine aord_nil ?_
    | refine aord_cut rfl rfl rfl rfl rfl rfl rfl rfl rfl rfl rfl (by omega) ?_
    | refine aord_w64 rfl rfl rfl rfl rfl (by omega) ?_
    | refine aord_val rfl rfl rfl rfl rfl ?_
    | refine aord_rd rfl rfl rfl rfl rfl rfl rfl ?_)
  all_goals rfl
theorem turned_1 (x : UInt8) : APure P0 105 #[.string ⟨⟨[x]⟩⟩] (.string ⟨⟨[x]⟩⟩) := by
  refine apure_empty (by kernel_rfl) (by simp [closed, Value.closed1]) (by simp [closed, Value.closed1]) ?_
  refine acall_of_awp good.tabOK Tryz.func105 rfl rfl rfl fun _ => ?_
  all_goals repeat' (first
    | refine aops_inline rfl rfl rfl rfl (by kernel_rfl) (acall_of_awp good.tabOK Tryz.func159 rfl rfl rfl fun _ => ?_)
    | refine awp_unroll 4 (un_step ?_)
    | refine awp_seq ?_
    | refine awp_region good ?_
    | refine awp_block ?_
    | refine awp_scope ?_
    | refine aops_nil ?_
    | refine ret_ret rfl ?_
    | refine ret_normal rfl ?_
    | refine then_normal ?_
    | refine then_ret ?_
    | refine then_exit ?_
    | refine block_normal ?_
    | refine block_ret ?_
    | refine block_exit ?_
    | refine block_other rfl ?_
    | refine awp_skip ?_
    | refine awp_exit ?_
    | refine awp_ret ?_
    | refine awp_label ?_
    | refine awp_cond_t rfl ?_
    | refine awp_cond_f rfl ?_
    | refine un_step ?_
    | refine aops_val (v := .bool true) rfl rfl rfl rfl ?_
    | refine aops_val (v := .bool false) rfl rfl rfl rfl ?_
    | refine aops_dec rfl rfl rfl rfl (fun hq => ?_) (fun hq => absurd hq (by omega))
    | refine aops_dec rfl rfl rfl rfl (fun hq => absurd hq (by omega)) (fun hq => ?_)
    | refine aops_eqi rfl rfl rfl rfl (fun hq => ?_) (fun hq => absurd hq (by omega))
    | refine aops_eqi rfl rfl rfl rfl (fun hq => absurd hq (by omega)) (fun hq => ?_)
    | refine aops_nei rfl rfl rfl rfl (fun hq => ?_) (fun hq => absurd hq (by omega))
    | refine aops_nei rfl rfl rfl rfl (fun hq => absurd hq (by omega)) (fun hq => ?_)
    | refine aops_idx rfl rfl rfl rfl rfl rfl rfl (by omega) (fun hc => ?_)
    | refine aops_cut rfl rfl rfl rfl rfl rfl rfl rfl rfl rfl (by omega) ?_
    | refine aops_w64 rfl rfl rfl rfl (by omega) ?_
    | refine aops_u8 rfl rfl rfl rfl ?_
    | refine aops_val rfl rfl rfl rfl ?_
    | refine aops_skip rfl rfl rfl ?_
    | refine aops_skip' rfl rfl ?_
    | refine aops_alloc rfl rfl rfl rfl rfl ?_
    | refine aops_rd rfl rfl rfl rfl rfl rfl ?_
    | refine aops_eff rfl rfl rfl rfl ?_
    | refine aops_eff' rfl rfl rfl ?_
    | refine aord_nil ?_
    | refine aord_cut rfl rfl rfl rfl rfl rfl rfl rfl rfl rfl rfl (by omega) ?_
    | refine aord_w64 rfl rfl rfl rfl rfl (by omega) ?_
    | refine aord_val rfl rfl rfl rfl rfl ?_
    | refine aord_rd rfl rfl rfl rfl rfl rfl rfl ?_)
  all_goals simp
end Go.Mir

