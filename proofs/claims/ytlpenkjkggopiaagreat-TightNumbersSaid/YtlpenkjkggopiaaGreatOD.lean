/- A cursor's numbers of one byte. By a session's own hand. -/
import Derived.Test.YtlpenkjkggopiaaGreatOC
set_option linter.unusedSimpArgs false
set_option linter.unusedVariables false
namespace Go.Mir
open Go.Proofs
set_option maxRecDepth 100000

theorem shl0 {x : Int} (h : 0 ≤ x ∧ x < 256) : IntKind.i64.wrap (x * 2 ^ (min (Int.toNat 0) IntKind.i64.bits)) = x := by
  have : x * 2 ^ (min (Int.toNat 0) IntKind.i64.bits) = x := by
    show x * 2 ^ 0 = x
    omega
  rw [this, wrap64 (by omega)]
theorem or0 {x : Int} (h : 0 ≤ x ∧ x < 256) : IntKind.i64.wrap ((BitVec.ofInt IntKind.i64.bits 0 ||| BitVec.ofInt IntKind.i64.bits x).toNat : Int) = x := by
  obtain ⟨m, rfl⟩ := Int.eq_ofNat_of_zero_le h.1
  show IntKind.i64.wrap ((BitVec.ofInt 64 0 ||| BitVec.ofInt 64 (m : Int)).toNat : Int) = m
  rw [BitVec.toNat_or, BitVec.toNat_ofInt, BitVec.toNat_ofInt]
  have e1 : ((0 : Int) % ((2 ^ 64 : Nat) : Int)).toNat = 0 := rfl
  have e2 : ((m : Int) % ((2 ^ 64 : Nat) : Int)).toNat = m := by omega
  rw [e1, e2, Nat.zero_or, wrap64 (by omega)]

theorem bytesF_one {s : ByteArray} {a : Int} {opn : Bool} (h0 : 0 ≤ a) (h1 : a < s.size) (h2 : (s.size : Int) < 2 ^ 62) {h : Heap} {m : Nat} (hm : h.get m = some (cur s a 0 opn)) :
    ACall P0 75 #[.pointer (some ⟨m, 0, none⟩), .int .i64 1] h (fun u h' => u = .string ⟨⟨[sg s a]⟩⟩ ∧ h' = h.set m (cur s (a + 1) 0 opn)) :=
  (bytesF_ok h0 (by omega) h2 (by omega) (by omega) hm).mono fun u h' q => ⟨by rw [q.1, cut_one ⟨h0, h1⟩], q.2⟩

theorem int1_0 {s : ByteArray} {a e : Int} {opn : Bool} (h0 : 0 ≤ a) (h1 : a ≤ s.size) (h2 : (s.size : Int) < 2 ^ 62) (he : e ≠ 0) :
    ACall P0 64 #[.pointer (some ⟨0, 0, none⟩), .int .i64 1] (hr1 (cur s a e opn)) (fun u h' => u = .int .i64 0 ∧ h'.get 0 = some (cur s a e opn)) := by
  refine acall_of_awp good.tabOK Tryz.func64 rfl rfl rfl fun _ => ?_
  all_goals repeat' (first
    | refine aops_inline rfl rfl rfl rfl (by kernel_rfl) (acall_of_awp good.tabOK Tryz.func110 rfl rfl rfl fun _ => ?_)
    | refine aops_inline rfl rfl rfl rfl (by kernel_rfl) (acall_of_awp good.tabOK Tryz.func158 rfl rfl rfl fun _ => ?_)
    | refine aops_inline rfl rfl rfl rfl (by kernel_rfl) (acall_of_awp good.tabOK Tryz.func131 rfl rfl rfl fun _ => ?_)
    | refine aops_upd rfl rfl rfl rfl (by kernel_rfl) (bytesF_0 h0 h1 h2 he (by omega) rfl) ?_
    | refine aops_pure rfl rfl rfl rfl turned_0 (by kernel_rfl) ?_
    | refine awp_unroll 4 (un_step ?_)
    | refine awp_seq ?_
    | refine awp_region good ?_
    | refine awp_block ?_
    | refine awp_scope ?_
    | refine aops_nil ?_
    | refine ret_ret rfl ?_
    | refine ret_normal rfl ?_
    | refine then_normal ?_
    | refine then_ret ?_
    | refine then_exit ?_
    | refine block_normal ?_
    | refine block_ret ?_
    | refine block_exit ?_
    | refine block_other rfl ?_
    | refine awp_skip ?_
    | refine awp_exit ?_
    | refine awp_ret ?_
    | refine awp_label ?_
    | refine awp_cond_t rfl ?_
    | refine awp_cond_f rfl ?_
    | refine un_step ?_
    | refine aops_val (v := .bool true) rfl rfl rfl rfl ?_
    | refine aops_val (v := .bool false) rfl rfl rfl rfl ?_
    | refine aops_dec rfl rfl rfl rfl (fun hq => ?_) (fun hq => absurd hq (by omega))
    | refine aops_dec rfl rfl rfl rfl (fun hq => absurd hq (by omega)) (fun hq => ?_)
    | refine aops_eqi rfl rfl rfl rfl (fun hq => ?_) (fun hq => absurd hq (by omega))
    | refine aops_eqi rfl rfl rfl rfl (fun hq => absurd hq (by omega)) (fun hq => ?_)
    | refine aops_nei rfl rfl rfl rfl (fun hq => ?_) (fun hq => absurd hq (by omega))
    | refine aops_nei rfl rfl rfl rfl (fun hq => absurd hq (by omega)) (fun hq => ?_)
    | refine aops_idx rfl rfl rfl rfl rfl rfl rfl (by omega) (fun hc => ?_)
    | refine aops_cut rfl rfl rfl rfl rfl rfl rfl rfl rfl rfl (by omega) ?_
    | refine aops_w64 rfl rfl rfl rfl (by omega) ?_
    | refine aops_u8 rfl rfl rfl rfl ?_
    | refine aops_val rfl rfl rfl rfl ?_
    | refine aops_skip rfl rfl rfl ?_
    | refine aops_skip' rfl rfl ?_
    | refine aops_alloc rfl rfl rfl rfl rfl ?_
    | refine aops_rd rfl rfl rfl rfl rfl rfl ?_
    | refine aops_eff rfl rfl rfl rfl ?_
    | refine aops_eff' rfl rfl rfl ?_
    | refine aord_nil ?_
    | refine aord_cut rfl rfl rfl rfl rfl rfl rfl rfl rfl rfl rfl (by omega) ?_
    | refine aord_w64 rfl rfl rfl rfl rfl (by omega) ?_
    | refine aord_val rfl rfl rfl rfl rfl ?_
    | refine aord_rd rfl rfl rfl rfl rfl rfl rfl ?_)
  all_goals exact ⟨rfl, rfl⟩
theorem int1_more {s : ByteArray} {a : Int} {opn : Bool} (h0 : 0 ≤ a) (h1 : a = s.size) (h2 : (s.size : Int) < 2 ^ 62) :
    ACall P0 64 #[.pointer (some ⟨0, 0, none⟩), .int .i64 1] (hr1 (cur s a 0 opn)) (fun u h' => u = .int .i64 0 ∧ h'.get 0 = some (cur s a 2 opn)) := by
  refine acall_of_awp good.tabOK Tryz.func64 rfl rfl rfl fun _ => ?_
  all_goals repeat' (first
    | refine aops_inline rfl rfl rfl rfl (by kernel_rfl) (acall_of_awp good.tabOK Tryz.func110 rfl rfl rfl fun _ => ?_)
    | refine aops_inline rfl rfl rfl rfl (by kernel_rfl) (acall_of_awp good.tabOK Tryz.func158 rfl rfl rfl fun _ => ?_)
    | refine aops_inline rfl rfl rfl rfl (by kernel_rfl) (acall_of_awp good.tabOK Tryz.func131 rfl rfl rfl fun _ => ?_)
    | refine aops_upd rfl rfl rfl rfl (by kernel_rfl) (bytesF_more h0 (by omega) h2 (by omega) (by omega) rfl) ?_
    | refine aops_pure rfl rfl rfl rfl turned_0 (by kernel_rfl) ?_
    | refine awp_unroll 4 (un_step ?_)
    | refine awp_seq ?_
    | refine awp_region good ?_
    | refine awp_block ?_
    | refine awp_scope ?_
    | refine aops_nil ?_
    | refine ret_ret rfl ?_
    | refine ret_normal rfl ?_
    | refine then_normal ?_
    | refine then_ret ?_
    | refine then_exit ?_
    | refine block_normal ?_
    | refine block_ret ?_
    | refine block_exit ?_
    | refine block_other rfl ?_
    | refine awp_skip ?_
    | refine awp_exit ?_
    | refine awp_ret ?_
    | refine awp_label ?_
    | refine awp_cond_t rfl ?_
    | refine awp_cond_f rfl ?_
    | refine un_step ?_
    | refine aops_val (v := .bool true) rfl rfl rfl rfl ?_
    | refine aops_val (v := .bool false) rfl rfl rfl rfl ?_
    | refine aops_dec rfl rfl rfl rfl (fun hq => ?_) (fun hq => absurd hq (by omega))
    | refine aops_dec rfl rfl rfl rfl (fun hq => absurd hq (by omega)) (fun hq => ?_)
    | refine aops_eqi rfl rfl rfl rfl (fun hq => ?_) (fun hq => absurd hq (by omega))
    | refine aops_eqi rfl rfl rfl rfl (fun hq => absurd hq (by omega)) (fun hq => ?_)
    | refine aops_nei rfl rfl rfl rfl (fun hq => ?_) (fun hq => absurd hq (by omega))
    | refine aops_nei rfl rfl rfl rfl (fun hq => absurd hq (by omega)) (fun hq => ?_)
    | refine aops_idx rfl rfl rfl rfl rfl rfl rfl (by omega) (fun hc => ?_)
    | refine aops_cut rfl rfl rfl rfl rfl rfl rfl rfl rfl rfl (by omega) ?_
    | refine aops_w64 rfl rfl rfl rfl (by omega) ?_
    | refine aops_u8 rfl rfl rfl rfl ?_
    | refine aops_val rfl rfl rfl rfl ?_
    | refine aops_skip rfl rfl rfl ?_
    | refine aops_skip' rfl rfl ?_
    | refine aops_alloc rfl rfl rfl rfl rfl ?_
    | refine aops_rd rfl rfl rfl rfl rfl rfl ?_
    | refine aops_eff rfl rfl rfl rfl ?_
    | refine aops_eff' rfl rfl rfl ?_
    | refine aord_nil ?_
    | refine aord_cut rfl rfl rfl rfl rfl rfl rfl rfl rfl rfl rfl (by omega) ?_
    | refine aord_w64 rfl rfl rfl rfl rfl (by omega) ?_
    | refine aord_val rfl rfl rfl rfl rfl ?_
    | refine aord_rd rfl rfl rfl rfl rfl rfl rfl ?_)
  all_goals exact ⟨rfl, rfl⟩
theorem int1_ok {s : ByteArray} {a : Int} {opn : Bool} (h0 : 0 ≤ a) (h1 : a < s.size) (h2 : (s.size : Int) < 2 ^ 62) :
    ACall P0 64 #[.pointer (some ⟨0, 0, none⟩), .int .i64 1] (hr1 (cur s a 0 opn)) (fun u h' => u = .int .i64 (sgi s a) ∧ h'.get 0 = some (cur s (a + 1) 0 opn)) := by
  refine acall_of_awp good.tabOK Tryz.func64 rfl rfl rfl fun _ => ?_
  have hb : 0 ≤ ((sg s a).toNat : Int) ∧ ((sg s a).toNat : Int) < 256 := sgi_lt s a
  all_goals repeat' (first
    | refine aops_inline rfl rfl rfl rfl (by kernel_rfl) (acall_of_awp good.tabOK Tryz.func110 rfl rfl rfl fun _ => ?_)
    | refine aops_inline rfl rfl rfl rfl (by kernel_rfl) (acall_of_awp good.tabOK Tryz.func158 rfl rfl rfl fun _ => ?_)
    | refine aops_inline rfl rfl rfl rfl (by kernel_rfl) (acall_of_awp good.tabOK Tryz.func131 rfl rfl rfl fun _ => ?_)
    | refine aops_upd rfl rfl rfl rfl (by kernel_rfl) (bytesF_one h0 h1 h2 rfl) ?_
    | refine aops_pure rfl rfl rfl rfl (turned_1 (sg s a)) (by kernel_rfl) ?_
    | refine awp_unroll 4 (un_step ?_)
    | refine aops_as rfl rfl rfl rfl (congrArg (Value.int .i64) (shl0 hb)) ?_
    | refine aops_as rfl rfl rfl rfl (congrArg (Value.int .i64) (or0 hb)) ?_
    | refine awp_seq ?_
    | refine awp_region good ?_
    | refine awp_block ?_
    | refine awp_scope ?_
    | refine aops_nil ?_
    | refine ret_ret rfl ?_
    | refine ret_normal rfl ?_
    | refine then_normal ?_
    | refine then_ret ?_
    | refine then_exit ?_
    | refine block_normal ?_
    | refine block_ret ?_
    | refine block_exit ?_
    | refine block_other rfl ?_
    | refine awp_skip ?_
    | refine awp_exit ?_
    | refine awp_ret ?_
    | refine awp_label ?_
    | refine awp_cond_t rfl ?_
    | refine awp_cond_f rfl ?_
    | refine un_step ?_
    | refine aops_val (v := .bool true) rfl rfl rfl rfl ?_
    | refine aops_val (v := .bool false) rfl rfl rfl rfl ?_
    | refine aops_dec rfl rfl rfl rfl (fun hq => ?_) (fun hq => absurd hq (by omega))
    | refine aops_dec rfl rfl rfl rfl (fun hq => absurd hq (by omega)) (fun hq => ?_)
    | refine aops_eqi rfl rfl rfl rfl (fun hq => ?_) (fun hq => absurd hq (by omega))
    | refine aops_eqi rfl rfl rfl rfl (fun hq => absurd hq (by omega)) (fun hq => ?_)
    | refine aops_nei rfl rfl rfl rfl (fun hq => ?_) (fun hq => absurd hq (by omega))
    | refine aops_nei rfl rfl rfl rfl (fun hq => absurd hq (by omega)) (fun hq => ?_)
    | refine aops_idx rfl rfl rfl rfl rfl rfl rfl (by omega) (fun hc => ?_)
    | refine aops_cut rfl rfl rfl rfl rfl rfl rfl rfl rfl rfl (by omega) ?_
    | refine aops_w64 rfl rfl rfl rfl (by omega) ?_
    | refine aops_u8 rfl rfl rfl rfl ?_
    | refine aops_val rfl rfl rfl rfl ?_
    | refine aops_skip rfl rfl rfl ?_
    | refine aops_skip' rfl rfl ?_
    | refine aops_alloc rfl rfl rfl rfl rfl ?_
    | refine aops_rd rfl rfl rfl rfl rfl rfl ?_
    | refine aops_eff rfl rfl rfl rfl ?_
    | refine aops_eff' rfl rfl rfl ?_
    | refine aord_nil ?_
    | refine aord_cut rfl rfl rfl rfl rfl rfl rfl rfl rfl rfl rfl (by omega) ?_
    | refine aord_w64 rfl rfl rfl rfl rfl (by omega) ?_
    | refine aord_val rfl rfl rfl rfl rfl ?_
    | refine aord_rd rfl rfl rfl rfl rfl rfl rfl ?_)
  all_goals exact ⟨rfl, rfl⟩
/-! ### anywhere -/
theorem int1F_0 {s : ByteArray} {a e : Int} {opn : Bool} (h0 : 0 ≤ a) (h1 : a ≤ s.size) (h2 : (s.size : Int) < 2 ^ 62) (he : e ≠ 0) {h : Heap} {m : Nat} (hm : h.get m = some (cur s a e opn)) :
    ACall P0 64 #[.pointer (some ⟨m, 0, none⟩), .int .i64 1] h (fun u h' => u = .int .i64 0 ∧ h' = h.set m (cur s a e opn)) :=
  acall_frame (rest := #[.int .i64 1]) rfl rfl (by simp [closed, Value.closed1]) (by simp [closed, Value.closed1]) (int1_0 h0 h1 h2 he) h m hm
theorem int1F_more {s : ByteArray} {a : Int} {opn : Bool} (h0 : 0 ≤ a) (h1 : a = s.size) (h2 : (s.size : Int) < 2 ^ 62) {h : Heap} {m : Nat} (hm : h.get m = some (cur s a 0 opn)) :
    ACall P0 64 #[.pointer (some ⟨m, 0, none⟩), .int .i64 1] h (fun u h' => u = .int .i64 0 ∧ h' = h.set m (cur s a 2 opn)) :=
  acall_frame (rest := #[.int .i64 1]) rfl rfl (by simp [closed, Value.closed1]) (by simp [closed, Value.closed1]) (int1_more h0 h1 h2) h m hm
theorem int1F_ok {s : ByteArray} {a : Int} {opn : Bool} (h0 : 0 ≤ a) (h1 : a < s.size) (h2 : (s.size : Int) < 2 ^ 62) {h : Heap} {m : Nat} (hm : h.get m = some (cur s a 0 opn)) :
    ACall P0 64 #[.pointer (some ⟨m, 0, none⟩), .int .i64 1] h (fun u h' => u = .int .i64 (sgi s a) ∧ h' = h.set m (cur s (a + 1) 0 opn)) :=
  acall_frame (rest := #[.int .i64 1]) rfl rfl (by simp [closed, Value.closed1]) (by simp [closed, Value.closed1]) (int1_ok h0 h1 h2) h m hm
end Go.Mir

