/- The number of few bytes, by the cursor. By a session's own hand. -/
import Derived.Test.YtlpenkjkggopiaaGreatOD
import Derived.Test.YtlpenkjkggopiaaGreatTO
set_option linter.unusedSimpArgs false
set_option linter.unusedVariables false
namespace Go.Mir
open Go.Proofs
set_option maxRecDepth 100000
set_option maxHeartbeats 2000000

theorem orAt (i : Nat) (hi : i ≤ 20) {n z : Int} (h : 0 ≤ n ∧ n < 2 ^ i) (hz : 0 ≤ z ∧ z < 256) :
    IntKind.i64.wrap ((BitVec.ofInt IntKind.i64.bits n ||| BitVec.ofInt IntKind.i64.bits (z * 2 ^ i)).toNat : Int) = n + z * 2 ^ i := by
  obtain ⟨a, rfl⟩ := Int.eq_ofNat_of_zero_le h.1
  obtain ⟨b, rfl⟩ := Int.eq_ofNat_of_zero_le hz.1
  have hp : 2 ^ i ≤ 2 ^ 20 := Nat.pow_le_pow_right (by omega) hi
  have ha : a < 2 ^ i := by have := h.2; exact_mod_cast this
  have hb : b < 256 := by omega
  have hm : b * 2 ^ i ≤ 255 * 2 ^ 20 := Nat.mul_le_mul (by omega) hp
  have e0 : (b : Int) * 2 ^ i = ((b * 2 ^ i : Nat) : Int) := by push_cast; rfl
  show IntKind.i64.wrap ((BitVec.ofInt 64 (a : Int) ||| BitVec.ofInt 64 ((b : Int) * 2 ^ i)).toNat : Int) = _
  rw [e0, BitVec.toNat_or, BitVec.toNat_ofInt, BitVec.toNat_ofInt]
  have e1 : ((a : Int) % ((2 ^ 64 : Nat) : Int)).toNat = a := by omega
  have e2 : (((b * 2 ^ i : Nat) : Int) % ((2 ^ 64 : Nat) : Int)).toNat = b * 2 ^ i := by omega
  rw [e1, e2]
  have e3 : a ||| b * 2 ^ i = b * 2 ^ i + a := by
    rw [Nat.or_comm, Nat.mul_comm, Nat.two_pow_add_eq_or_of_lt ha]
  rw [e3, wrap64 (by omega)]
  omega

section
variable {P : Program} {tab : Tab} {N : Nat} {ops : Array Oper} {K : Env → Heap → Prop} {o : Oper} {l : List Oper} {ρ : Env} {h : Heap} {d : Nat}
theorem val_shl (i : Nat) (c : Int) {t : TypeId} {x y : Operand} {g : TypeId} {k' : IntKind} {a b : Int} (ho : o.op = .binOp .shl t x y g) (hx : ev ρ x = some (.int .i64 a)) (hy : ev ρ y = some (.int k' b)) (hb : b = i) (hi : i ≤ 20) (hc : (2 : Int) ^ i = c) (ha : 0 ≤ a ∧ a < 256) :
    aval tab ρ o = some (.int .i64 (a * c)) := by
  simp only [aval, ho, hx, hy, abin, isShift, Bool.true_or, cond_true, aint]
  rw [if_neg (by omega), hb, Int.toNat_natCast]
  have e1 : min i IntKind.i64.bits = i := Nat.min_eq_left (Nat.le_trans hi (by decide))
  have hp : (2 : Int) ^ i ≤ 2 ^ 20 := by
    have : 2 ^ i ≤ 2 ^ 20 := Nat.pow_le_pow_right (by omega) hi
    exact_mod_cast this
  have hp0 : 0 ≤ (2 : Int) ^ i := Int.pow_nonneg (by omega)
  rw [e1, hc]
  rw [hc] at hp hp0
  have h1 : a * c ≤ 255 * 2 ^ 20 := Int.mul_le_mul (by omega) hp hp0 (by omega)
  have h2 : 0 ≤ a * c := Int.mul_nonneg ha.1 hp0
  rw [wrap64 (by omega)]
theorem val_or (i : Nat) (c : Int) {t : TypeId} {x y : Operand} {g : TypeId} {n z : Int} (ho : o.op = .binOp .or t x y g) (hx : ev ρ x = some (.int .i64 n)) (hy : ev ρ y = some (.int .i64 (z * c))) (hi : i ≤ 20) (hc : (2 : Int) ^ i = c) (hn : 0 ≤ n ∧ n < c) (hz : 0 ≤ z ∧ z < 256) :
    aval tab ρ o = some (.int .i64 (n + z * c)) := by
  simp only [aval, ho, hx, hy, abin, sameKind, Bool.or_true, cond_true, aint]
  rw [← hc] at hn ⊢
  rw [orAt i hi hn hz]
theorem aops_shl (i : Nat) (c : Int) {t : TypeId} {x y : Operand} {g : TypeId} {k' : IntKind} {a b : Int} (ho : o.op = .binOp .shl t x y g) (hx : ev ρ x = some (.int .i64 a)) (hy : ev ρ y = some (.int k' b)) (hb : b = i) (hi : i ≤ 20) (hc : (2 : Int) ^ i = c) (ha : 0 ≤ a ∧ a < 256)
    (hd : o.dst = some d) (hlt : Nat.blt d N = true) (hw : wantedA ops o ρ = some true) (hk : AOps P tab N ops K l (put ρ d (.int .i64 (a * c))) h) : AOps P tab N ops K (o :: l) ρ h := aops_val hd hlt hw (val_shl i c ho hx hy hb hi hc ha) hk
theorem aops_or (i : Nat) (c : Int) {t : TypeId} {x y : Operand} {g : TypeId} {n z : Int} (ho : o.op = .binOp .or t x y g) (hx : ev ρ x = some (.int .i64 n)) (hy : ev ρ y = some (.int .i64 (z * c))) (hi : i ≤ 20) (hc : (2 : Int) ^ i = c) (hn : 0 ≤ n ∧ n < c) (hz : 0 ≤ z ∧ z < 256)
    (hd : o.dst = some d) (hlt : Nat.blt d N = true) (hw : wantedA ops o ρ = some true) (hk : AOps P tab N ops K l (put ρ d (.int .i64 (n + z * c))) h) : AOps P tab N ops K (o :: l) ρ h := aops_val hd hlt hw (val_or i c ho hx hy hi hc hn hz) hk
end
theorem ofT_eq {a a' b e : Int} (h : a = a') : ofT a b e = ofT a' b e := by rw [h]
theorem cof_0 {s : ByteArray} (h : (s.size : Int) < 1) : ACall P0 30 #[.string s] h00 (fun u _ => u = ofT (0) 0 2) := by
  refine acall_of_awp good.tabOK Tryz.func30 rfl rfl rfl fun _ => ?_
  have hb0 := sgi_lt s 0
  have hb1 : 0 ≤ sgi s (0 + 1) ∧ sgi s (0 + 1) < 256 := sgi_lt s 1
  have hb2 : 0 ≤ sgi s (0 + 1 + 1) ∧ sgi s (0 + 1 + 1) < 256 := sgi_lt s 2
  all_goals repeat' (first
    | refine aops_inline rfl rfl rfl rfl (by kernel_rfl) (acall_of_awp good.tabOK Tryz.func38 rfl rfl rfl fun _ => ?_)
    | refine aops_inline rfl rfl rfl rfl (by kernel_rfl) (acall_of_awp good.tabOK Tryz.func41 rfl rfl rfl fun _ => ?_)
    | refine aops_inline rfl rfl rfl rfl (by kernel_rfl) (acall_of_awp good.tabOK Tryz.func65 rfl rfl rfl fun _ => ?_)
    | refine aops_upd rfl rfl rfl rfl (by kernel_rfl) (int1F_more (s := s) (a := 0) (by omega) (by omega) (by omega) rfl) ?_
    | refine awp_unroll 4 (un_step ?_)
    | refine awp_seq ?_
    | refine awp_region good ?_
    | refine awp_block ?_
    | refine awp_scope ?_
    | refine aops_nil ?_
    | refine ret_ret rfl ?_
    | refine ret_normal rfl ?_
    | refine then_normal ?_
    | refine then_ret ?_
    | refine then_exit ?_
    | refine block_normal ?_
    | refine block_ret ?_
    | refine block_exit ?_
    | refine block_other rfl ?_
    | refine awp_skip ?_
    | refine awp_exit ?_
    | refine awp_ret ?_
    | refine awp_label ?_
    | refine awp_cond_t rfl ?_
    | refine awp_cond_f rfl ?_
    | refine un_step ?_
    | refine aops_val (v := .bool true) rfl rfl rfl rfl ?_
    | refine aops_val (v := .bool false) rfl rfl rfl rfl ?_
    | refine aops_dec rfl rfl rfl rfl (fun hq => ?_) (fun hq => absurd hq (by omega))
    | refine aops_dec rfl rfl rfl rfl (fun hq => absurd hq (by omega)) (fun hq => ?_)
    | refine aops_eqi rfl rfl rfl rfl (fun hq => ?_) (fun hq => absurd hq (by omega))
    | refine aops_eqi rfl rfl rfl rfl (fun hq => absurd hq (by omega)) (fun hq => ?_)
    | refine aops_nei rfl rfl rfl rfl (fun hq => ?_) (fun hq => absurd hq (by omega))
    | refine aops_nei rfl rfl rfl rfl (fun hq => absurd hq (by omega)) (fun hq => ?_)
    | refine aops_idx rfl rfl rfl rfl rfl rfl rfl (by omega) (fun hc => ?_)
    | refine aops_cut rfl rfl rfl rfl rfl rfl rfl rfl rfl rfl (by omega) ?_
    | refine aops_w64 rfl rfl rfl rfl (by omega) ?_
    | refine aops_u8 rfl rfl rfl rfl ?_
    | refine aops_shl 0 1 rfl rfl rfl (by omega) (by omega) (by decide) (by omega) rfl rfl rfl ?_
    | refine aops_or 0 1 rfl rfl rfl (by omega) (by decide) (by omega) (by omega) rfl rfl rfl ?_
    | refine aops_shl 7 128 rfl rfl rfl (by omega) (by omega) (by decide) (by omega) rfl rfl rfl ?_
    | refine aops_or 7 128 rfl rfl rfl (by omega) (by decide) (by omega) (by omega) rfl rfl rfl ?_
    | refine aops_shl 14 16384 rfl rfl rfl (by omega) (by omega) (by decide) (by omega) rfl rfl rfl ?_
    | refine aops_or 14 16384 rfl rfl rfl (by omega) (by decide) (by omega) (by omega) rfl rfl rfl ?_
    | refine aops_val rfl rfl rfl rfl ?_
    | refine aops_skip rfl rfl rfl ?_
    | refine aops_skip' rfl rfl ?_
    | refine aops_alloc rfl rfl rfl rfl rfl ?_
    | refine aops_rd rfl rfl rfl rfl rfl rfl ?_
    | refine aops_eff rfl rfl rfl rfl ?_
    | refine aops_eff' rfl rfl rfl ?_
    | refine aord_nil ?_
    | refine aord_cut rfl rfl rfl rfl rfl rfl rfl rfl rfl rfl rfl (by omega) ?_
    | refine aord_w64 rfl rfl rfl rfl rfl (by omega) ?_
    | refine aord_val rfl rfl rfl rfl rfl ?_
    | refine aord_rd rfl rfl rfl rfl rfl rfl rfl ?_)
  all_goals refine ⟨fun _ e => (by cases e), ret_ret rfl ?_⟩
  all_goals show ofT _ _ _ = ofT _ _ _
  all_goals (first | rfl | exact ofT_eq (by omega))
theorem cof_1 {s : ByteArray} (h2 : (s.size : Int) < 2 ^ 62) (h : 1 ≤ (s.size : Int)) (hb : sgi s 0 < 128) : ACall P0 30 #[.string s] h00 (fun u _ => u = ofT (sgi s 0) 1 0) := by
  refine acall_of_awp good.tabOK Tryz.func30 rfl rfl rfl fun _ => ?_
  have hb0 := sgi_lt s 0
  have hb1 : 0 ≤ sgi s (0 + 1) ∧ sgi s (0 + 1) < 256 := sgi_lt s 1
  have hb2 : 0 ≤ sgi s (0 + 1 + 1) ∧ sgi s (0 + 1 + 1) < 256 := sgi_lt s 2
  all_goals repeat' (first
    | refine aops_inline rfl rfl rfl rfl (by kernel_rfl) (acall_of_awp good.tabOK Tryz.func38 rfl rfl rfl fun _ => ?_)
    | refine aops_inline rfl rfl rfl rfl (by kernel_rfl) (acall_of_awp good.tabOK Tryz.func41 rfl rfl rfl fun _ => ?_)
    | refine aops_inline rfl rfl rfl rfl (by kernel_rfl) (acall_of_awp good.tabOK Tryz.func65 rfl rfl rfl fun _ => ?_)
    | refine aops_upd rfl rfl rfl rfl (by kernel_rfl) (int1F_ok (s := s) (a := 0) (by omega) (by omega) (by omega) rfl) ?_
    | refine awp_unroll 4 (un_step ?_)
    | refine awp_seq ?_
    | refine awp_region good ?_
    | refine awp_block ?_
    | refine awp_scope ?_
    | refine aops_nil ?_
    | refine ret_ret rfl ?_
    | refine ret_normal rfl ?_
    | refine then_normal ?_
    | refine then_ret ?_
    | refine then_exit ?_
    | refine block_normal ?_
    | refine block_ret ?_
    | refine block_exit ?_
    | refine block_other rfl ?_
    | refine awp_skip ?_
    | refine awp_exit ?_
    | refine awp_ret ?_
    | refine awp_label ?_
    | refine awp_cond_t rfl ?_
    | refine awp_cond_f rfl ?_
    | refine un_step ?_
    | refine aops_val (v := .bool true) rfl rfl rfl rfl ?_
    | refine aops_val (v := .bool false) rfl rfl rfl rfl ?_
    | refine aops_dec rfl rfl rfl rfl (fun hq => ?_) (fun hq => absurd hq (by omega))
    | refine aops_dec rfl rfl rfl rfl (fun hq => absurd hq (by omega)) (fun hq => ?_)
    | refine aops_eqi rfl rfl rfl rfl (fun hq => ?_) (fun hq => absurd hq (by omega))
    | refine aops_eqi rfl rfl rfl rfl (fun hq => absurd hq (by omega)) (fun hq => ?_)
    | refine aops_nei rfl rfl rfl rfl (fun hq => ?_) (fun hq => absurd hq (by omega))
    | refine aops_nei rfl rfl rfl rfl (fun hq => absurd hq (by omega)) (fun hq => ?_)
    | refine aops_idx rfl rfl rfl rfl rfl rfl rfl (by omega) (fun hc => ?_)
    | refine aops_cut rfl rfl rfl rfl rfl rfl rfl rfl rfl rfl (by omega) ?_
    | refine aops_w64 rfl rfl rfl rfl (by omega) ?_
    | refine aops_u8 rfl rfl rfl rfl ?_
    | refine aops_shl 0 1 rfl rfl rfl (by omega) (by omega) (by decide) (by omega) rfl rfl rfl ?_
    | refine aops_or 0 1 rfl rfl rfl (by omega) (by decide) (by omega) (by omega) rfl rfl rfl ?_
    | refine aops_shl 7 128 rfl rfl rfl (by omega) (by omega) (by decide) (by omega) rfl rfl rfl ?_
    | refine aops_or 7 128 rfl rfl rfl (by omega) (by decide) (by omega) (by omega) rfl rfl rfl ?_
    | refine aops_shl 14 16384 rfl rfl rfl (by omega) (by omega) (by decide) (by omega) rfl rfl rfl ?_
    | refine aops_or 14 16384 rfl rfl rfl (by omega) (by decide) (by omega) (by omega) rfl rfl rfl ?_
    | refine aops_val rfl rfl rfl rfl ?_
    | refine aops_skip rfl rfl rfl ?_
    | refine aops_skip' rfl rfl ?_
    | refine aops_alloc rfl rfl rfl rfl rfl ?_
    | refine aops_rd rfl rfl rfl rfl rfl rfl ?_
    | refine aops_eff rfl rfl rfl rfl ?_
    | refine aops_eff' rfl rfl rfl ?_
    | refine aord_nil ?_
    | refine aord_cut rfl rfl rfl rfl rfl rfl rfl rfl rfl rfl rfl (by omega) ?_
    | refine aord_w64 rfl rfl rfl rfl rfl (by omega) ?_
    | refine aord_val rfl rfl rfl rfl rfl ?_
    | refine aord_rd rfl rfl rfl rfl rfl rfl rfl ?_)
  all_goals refine ⟨fun _ e => (by cases e), ret_ret rfl ?_⟩
  all_goals show ofT _ _ _ = ofT _ _ _
  all_goals (first | rfl | exact ofT_eq (by omega))
theorem cof_2 {s : ByteArray} (h : (s.size : Int) = 1) (hb : 128 ≤ sgi s 0) : ACall P0 30 #[.string s] h00 (fun u _ => u = ofT (0) 0 2) := by
  refine acall_of_awp good.tabOK Tryz.func30 rfl rfl rfl fun _ => ?_
  have hb0 := sgi_lt s 0
  have hb1 : 0 ≤ sgi s (0 + 1) ∧ sgi s (0 + 1) < 256 := sgi_lt s 1
  have hb2 : 0 ≤ sgi s (0 + 1 + 1) ∧ sgi s (0 + 1 + 1) < 256 := sgi_lt s 2
  all_goals repeat' (first
    | refine aops_inline rfl rfl rfl rfl (by kernel_rfl) (acall_of_awp good.tabOK Tryz.func38 rfl rfl rfl fun _ => ?_)
    | refine aops_inline rfl rfl rfl rfl (by kernel_rfl) (acall_of_awp good.tabOK Tryz.func41 rfl rfl rfl fun _ => ?_)
    | refine aops_inline rfl rfl rfl rfl (by kernel_rfl) (acall_of_awp good.tabOK Tryz.func65 rfl rfl rfl fun _ => ?_)
    | refine aops_upd rfl rfl rfl rfl (by kernel_rfl) (int1F_ok (s := s) (a := 0) (by omega) (by omega) (by omega) rfl) ?_
    | refine aops_upd rfl rfl rfl rfl (by kernel_rfl) (int1F_more (s := s) (a := 0 + 1) (by omega) (by omega) (by omega) rfl) ?_
    | refine awp_unroll 4 (un_step ?_)
    | refine awp_seq ?_
    | refine awp_region good ?_
    | refine awp_block ?_
    | refine awp_scope ?_
    | refine aops_nil ?_
    | refine ret_ret rfl ?_
    | refine ret_normal rfl ?_
    | refine then_normal ?_
    | refine then_ret ?_
    | refine then_exit ?_
    | refine block_normal ?_
    | refine block_ret ?_
    | refine block_exit ?_
    | refine block_other rfl ?_
    | refine awp_skip ?_
    | refine awp_exit ?_
    | refine awp_ret ?_
    | refine awp_label ?_
    | refine awp_cond_t rfl ?_
    | refine awp_cond_f rfl ?_
    | refine un_step ?_
    | refine aops_val (v := .bool true) rfl rfl rfl rfl ?_
    | refine aops_val (v := .bool false) rfl rfl rfl rfl ?_
    | refine aops_dec rfl rfl rfl rfl (fun hq => ?_) (fun hq => absurd hq (by omega))
    | refine aops_dec rfl rfl rfl rfl (fun hq => absurd hq (by omega)) (fun hq => ?_)
    | refine aops_eqi rfl rfl rfl rfl (fun hq => ?_) (fun hq => absurd hq (by omega))
    | refine aops_eqi rfl rfl rfl rfl (fun hq => absurd hq (by omega)) (fun hq => ?_)
    | refine aops_nei rfl rfl rfl rfl (fun hq => ?_) (fun hq => absurd hq (by omega))
    | refine aops_nei rfl rfl rfl rfl (fun hq => absurd hq (by omega)) (fun hq => ?_)
    | refine aops_idx rfl rfl rfl rfl rfl rfl rfl (by omega) (fun hc => ?_)
    | refine aops_cut rfl rfl rfl rfl rfl rfl rfl rfl rfl rfl (by omega) ?_
    | refine aops_w64 rfl rfl rfl rfl (by omega) ?_
    | refine aops_u8 rfl rfl rfl rfl ?_
    | refine aops_shl 0 1 rfl rfl rfl (by omega) (by omega) (by decide) (by omega) rfl rfl rfl ?_
    | refine aops_or 0 1 rfl rfl rfl (by omega) (by decide) (by omega) (by omega) rfl rfl rfl ?_
    | refine aops_shl 7 128 rfl rfl rfl (by omega) (by omega) (by decide) (by omega) rfl rfl rfl ?_
    | refine aops_or 7 128 rfl rfl rfl (by omega) (by decide) (by omega) (by omega) rfl rfl rfl ?_
    | refine aops_shl 14 16384 rfl rfl rfl (by omega) (by omega) (by decide) (by omega) rfl rfl rfl ?_
    | refine aops_or 14 16384 rfl rfl rfl (by omega) (by decide) (by omega) (by omega) rfl rfl rfl ?_
    | refine aops_val rfl rfl rfl rfl ?_
    | refine aops_skip rfl rfl rfl ?_
    | refine aops_skip' rfl rfl ?_
    | refine aops_alloc rfl rfl rfl rfl rfl ?_
    | refine aops_rd rfl rfl rfl rfl rfl rfl ?_
    | refine aops_eff rfl rfl rfl rfl ?_
    | refine aops_eff' rfl rfl rfl ?_
    | refine aord_nil ?_
    | refine aord_cut rfl rfl rfl rfl rfl rfl rfl rfl rfl rfl rfl (by omega) ?_
    | refine aord_w64 rfl rfl rfl rfl rfl (by omega) ?_
    | refine aord_val rfl rfl rfl rfl rfl ?_
    | refine aord_rd rfl rfl rfl rfl rfl rfl rfl ?_)
  all_goals refine ⟨fun _ e => (by cases e), ret_ret rfl ?_⟩
  all_goals show ofT _ _ _ = ofT _ _ _
  all_goals (first | rfl | exact ofT_eq (by omega))
theorem cof_3 {s : ByteArray} (h2 : (s.size : Int) < 2 ^ 62) (h : 2 ≤ (s.size : Int)) (hb : 128 ≤ sgi s 0) (hc : sgi s 1 < 128) : ACall P0 30 #[.string s] h00 (fun u _ => u = ofT (sgi s 0 - 128 + 128 * sgi s 1) 2 0) := by
  refine acall_of_awp good.tabOK Tryz.func30 rfl rfl rfl fun _ => ?_
  have hc : sgi s (0 + 1) < 128 := hc
  have e1 : sgi s 1 = sgi s (0 + 1) := rfl
  have e2 : sgi s 2 = sgi s (0 + 1 + 1) := rfl
  have hb0 := sgi_lt s 0
  have hb1 : 0 ≤ sgi s (0 + 1) ∧ sgi s (0 + 1) < 256 := sgi_lt s 1
  have hb2 : 0 ≤ sgi s (0 + 1 + 1) ∧ sgi s (0 + 1 + 1) < 256 := sgi_lt s 2
  all_goals repeat' (first
    | refine aops_inline rfl rfl rfl rfl (by kernel_rfl) (acall_of_awp good.tabOK Tryz.func38 rfl rfl rfl fun _ => ?_)
    | refine aops_inline rfl rfl rfl rfl (by kernel_rfl) (acall_of_awp good.tabOK Tryz.func41 rfl rfl rfl fun _ => ?_)
    | refine aops_inline rfl rfl rfl rfl (by kernel_rfl) (acall_of_awp good.tabOK Tryz.func65 rfl rfl rfl fun _ => ?_)
    | refine aops_upd rfl rfl rfl rfl (by kernel_rfl) (int1F_ok (s := s) (a := 0) (by omega) (by omega) (by omega) rfl) ?_
    | refine aops_upd rfl rfl rfl rfl (by kernel_rfl) (int1F_ok (s := s) (a := 0 + 1) (by omega) (by omega) (by omega) rfl) ?_
    | refine awp_unroll 4 (un_step ?_)
    | refine awp_seq ?_
    | refine awp_region good ?_
    | refine awp_block ?_
    | refine awp_scope ?_
    | refine aops_nil ?_
    | refine ret_ret rfl ?_
    | refine ret_normal rfl ?_
    | refine then_normal ?_
    | refine then_ret ?_
    | refine then_exit ?_
    | refine block_normal ?_
    | refine block_ret ?_
    | refine block_exit ?_
    | refine block_other rfl ?_
    | refine awp_skip ?_
    | refine awp_exit ?_
    | refine awp_ret ?_
    | refine awp_label ?_
    | refine awp_cond_t rfl ?_
    | refine awp_cond_f rfl ?_
    | refine un_step ?_
    | refine aops_val (v := .bool true) rfl rfl rfl rfl ?_
    | refine aops_val (v := .bool false) rfl rfl rfl rfl ?_
    | refine aops_dec rfl rfl rfl rfl (fun hq => ?_) (fun hq => absurd hq (by omega))
    | refine aops_dec rfl rfl rfl rfl (fun hq => absurd hq (by omega)) (fun hq => ?_)
    | refine aops_eqi rfl rfl rfl rfl (fun hq => ?_) (fun hq => absurd hq (by omega))
    | refine aops_eqi rfl rfl rfl rfl (fun hq => absurd hq (by omega)) (fun hq => ?_)
    | refine aops_nei rfl rfl rfl rfl (fun hq => ?_) (fun hq => absurd hq (by omega))
    | refine aops_nei rfl rfl rfl rfl (fun hq => absurd hq (by omega)) (fun hq => ?_)
    | refine aops_idx rfl rfl rfl rfl rfl rfl rfl (by omega) (fun hc => ?_)
    | refine aops_cut rfl rfl rfl rfl rfl rfl rfl rfl rfl rfl (by omega) ?_
    | refine aops_w64 rfl rfl rfl rfl (by omega) ?_
    | refine aops_u8 rfl rfl rfl rfl ?_
    | refine aops_shl 0 1 rfl rfl rfl (by omega) (by omega) (by decide) (by omega) rfl rfl rfl ?_
    | refine aops_or 0 1 rfl rfl rfl (by omega) (by decide) (by omega) (by omega) rfl rfl rfl ?_
    | refine aops_shl 7 128 rfl rfl rfl (by omega) (by omega) (by decide) (by omega) rfl rfl rfl ?_
    | refine aops_or 7 128 rfl rfl rfl (by omega) (by decide) (by omega) (by omega) rfl rfl rfl ?_
    | refine aops_shl 14 16384 rfl rfl rfl (by omega) (by omega) (by decide) (by omega) rfl rfl rfl ?_
    | refine aops_or 14 16384 rfl rfl rfl (by omega) (by decide) (by omega) (by omega) rfl rfl rfl ?_
    | refine aops_val rfl rfl rfl rfl ?_
    | refine aops_skip rfl rfl rfl ?_
    | refine aops_skip' rfl rfl ?_
    | refine aops_alloc rfl rfl rfl rfl rfl ?_
    | refine aops_rd rfl rfl rfl rfl rfl rfl ?_
    | refine aops_eff rfl rfl rfl rfl ?_
    | refine aops_eff' rfl rfl rfl ?_
    | refine aord_nil ?_
    | refine aord_cut rfl rfl rfl rfl rfl rfl rfl rfl rfl rfl rfl (by omega) ?_
    | refine aord_w64 rfl rfl rfl rfl rfl (by omega) ?_
    | refine aord_val rfl rfl rfl rfl rfl ?_
    | refine aord_rd rfl rfl rfl rfl rfl rfl rfl ?_)
  all_goals refine ⟨fun _ e => (by cases e), ret_ret rfl ?_⟩
  all_goals show ofT _ _ _ = ofT _ _ _
  all_goals (first | rfl | exact ofT_eq (by omega))
theorem cof_4 {s : ByteArray} (h : (s.size : Int) = 2) (hb : 128 ≤ sgi s 0) (hc : 128 ≤ sgi s 1) : ACall P0 30 #[.string s] h00 (fun u _ => u = ofT (0) 0 2) := by
  refine acall_of_awp good.tabOK Tryz.func30 rfl rfl rfl fun _ => ?_
  have hc : 128 ≤ sgi s (0 + 1) := hc
  have hb0 := sgi_lt s 0
  have hb1 : 0 ≤ sgi s (0 + 1) ∧ sgi s (0 + 1) < 256 := sgi_lt s 1
  have hb2 : 0 ≤ sgi s (0 + 1 + 1) ∧ sgi s (0 + 1 + 1) < 256 := sgi_lt s 2
  all_goals repeat' (first
    | refine aops_inline rfl rfl rfl rfl (by kernel_rfl) (acall_of_awp good.tabOK Tryz.func38 rfl rfl rfl fun _ => ?_)
    | refine aops_inline rfl rfl rfl rfl (by kernel_rfl) (acall_of_awp good.tabOK Tryz.func41 rfl rfl rfl fun _ => ?_)
    | refine aops_inline rfl rfl rfl rfl (by kernel_rfl) (acall_of_awp good.tabOK Tryz.func65 rfl rfl rfl fun _ => ?_)
    | refine aops_upd rfl rfl rfl rfl (by kernel_rfl) (int1F_ok (s := s) (a := 0) (by omega) (by omega) (by omega) rfl) ?_
    | refine aops_upd rfl rfl rfl rfl (by kernel_rfl) (int1F_ok (s := s) (a := 0 + 1) (by omega) (by omega) (by omega) rfl) ?_
    | refine aops_upd rfl rfl rfl rfl (by kernel_rfl) (int1F_more (s := s) (a := 0 + 1 + 1) (by omega) (by omega) (by omega) rfl) ?_
    | refine awp_unroll 4 (un_step ?_)
    | refine awp_seq ?_
    | refine awp_region good ?_
    | refine awp_block ?_
    | refine awp_scope ?_
    | refine aops_nil ?_
    | refine ret_ret rfl ?_
    | refine ret_normal rfl ?_
    | refine then_normal ?_
    | refine then_ret ?_
    | refine then_exit ?_
    | refine block_normal ?_
    | refine block_ret ?_
    | refine block_exit ?_
    | refine block_other rfl ?_
    | refine awp_skip ?_
    | refine awp_exit ?_
    | refine awp_ret ?_
    | refine awp_label ?_
    | refine awp_cond_t rfl ?_
    | refine awp_cond_f rfl ?_
    | refine un_step ?_
    | refine aops_val (v := .bool true) rfl rfl rfl rfl ?_
    | refine aops_val (v := .bool false) rfl rfl rfl rfl ?_
    | refine aops_dec rfl rfl rfl rfl (fun hq => ?_) (fun hq => absurd hq (by omega))
    | refine aops_dec rfl rfl rfl rfl (fun hq => absurd hq (by omega)) (fun hq => ?_)
    | refine aops_eqi rfl rfl rfl rfl (fun hq => ?_) (fun hq => absurd hq (by omega))
    | refine aops_eqi rfl rfl rfl rfl (fun hq => absurd hq (by omega)) (fun hq => ?_)
    | refine aops_nei rfl rfl rfl rfl (fun hq => ?_) (fun hq => absurd hq (by omega))
    | refine aops_nei rfl rfl rfl rfl (fun hq => absurd hq (by omega)) (fun hq => ?_)
    | refine aops_idx rfl rfl rfl rfl rfl rfl rfl (by omega) (fun hc => ?_)
    | refine aops_cut rfl rfl rfl rfl rfl rfl rfl rfl rfl rfl (by omega) ?_
    | refine aops_w64 rfl rfl rfl rfl (by omega) ?_
    | refine aops_u8 rfl rfl rfl rfl ?_
    | refine aops_shl 0 1 rfl rfl rfl (by omega) (by omega) (by decide) (by omega) rfl rfl rfl ?_
    | refine aops_or 0 1 rfl rfl rfl (by omega) (by decide) (by omega) (by omega) rfl rfl rfl ?_
    | refine aops_shl 7 128 rfl rfl rfl (by omega) (by omega) (by decide) (by omega) rfl rfl rfl ?_
    | refine aops_or 7 128 rfl rfl rfl (by omega) (by decide) (by omega) (by omega) rfl rfl rfl ?_
    | refine aops_shl 14 16384 rfl rfl rfl (by omega) (by omega) (by decide) (by omega) rfl rfl rfl ?_
    | refine aops_or 14 16384 rfl rfl rfl (by omega) (by decide) (by omega) (by omega) rfl rfl rfl ?_
    | refine aops_val rfl rfl rfl rfl ?_
    | refine aops_skip rfl rfl rfl ?_
    | refine aops_skip' rfl rfl ?_
    | refine aops_alloc rfl rfl rfl rfl rfl ?_
    | refine aops_rd rfl rfl rfl rfl rfl rfl ?_
    | refine aops_eff rfl rfl rfl rfl ?_
    | refine aops_eff' rfl rfl rfl ?_
    | refine aord_nil ?_
    | refine aord_cut rfl rfl rfl rfl rfl rfl rfl rfl rfl rfl rfl (by omega) ?_
    | refine aord_w64 rfl rfl rfl rfl rfl (by omega) ?_
    | refine aord_val rfl rfl rfl rfl rfl ?_
    | refine aord_rd rfl rfl rfl rfl rfl rfl rfl ?_)
  all_goals refine ⟨fun _ e => (by cases e), ret_ret rfl ?_⟩
  all_goals show ofT _ _ _ = ofT _ _ _
  all_goals (first | rfl | exact ofT_eq (by omega))
theorem cof_5 {s : ByteArray} (h2 : (s.size : Int) < 2 ^ 62) (h : 3 ≤ (s.size : Int)) (hb : 128 ≤ sgi s 0) (hc : 128 ≤ sgi s 1) : ACall P0 30 #[.string s] h00 (fun u _ => u = ofT (sgi s 0 - 128 + 128 * (sgi s 1 - 128) + 16384 * sgi s 2) 3 0) := by
  refine acall_of_awp good.tabOK Tryz.func30 rfl rfl rfl fun _ => ?_
  have hc : 128 ≤ sgi s (0 + 1) := hc
  have e1 : sgi s 1 = sgi s (0 + 1) := rfl
  have e2 : sgi s 2 = sgi s (0 + 1 + 1) := rfl
  have hb0 := sgi_lt s 0
  have hb1 : 0 ≤ sgi s (0 + 1) ∧ sgi s (0 + 1) < 256 := sgi_lt s 1
  have hb2 : 0 ≤ sgi s (0 + 1 + 1) ∧ sgi s (0 + 1 + 1) < 256 := sgi_lt s 2
  all_goals repeat' (first
    | refine aops_inline rfl rfl rfl rfl (by kernel_rfl) (acall_of_awp good.tabOK Tryz.func38 rfl rfl rfl fun _ => ?_)
    | refine aops_inline rfl rfl rfl rfl (by kernel_rfl) (acall_of_awp good.tabOK Tryz.func41 rfl rfl rfl fun _ => ?_)
    | refine aops_inline rfl rfl rfl rfl (by kernel_rfl) (acall_of_awp good.tabOK Tryz.func65 rfl rfl rfl fun _ => ?_)
    | refine aops_upd rfl rfl rfl rfl (by kernel_rfl) (int1F_ok (s := s) (a := 0) (by omega) (by omega) (by omega) rfl) ?_
    | refine aops_upd rfl rfl rfl rfl (by kernel_rfl) (int1F_ok (s := s) (a := 0 + 1) (by omega) (by omega) (by omega) rfl) ?_
    | refine aops_upd rfl rfl rfl rfl (by kernel_rfl) (int1F_ok (s := s) (a := 0 + 1 + 1) (by omega) (by omega) (by omega) rfl) ?_
    | refine awp_unroll 4 (un_step ?_)
    | refine awp_seq ?_
    | refine awp_region good ?_
    | refine awp_block ?_
    | refine awp_scope ?_
    | refine aops_nil ?_
    | refine ret_ret rfl ?_
    | refine ret_normal rfl ?_
    | refine then_normal ?_
    | refine then_ret ?_
    | refine then_exit ?_
    | refine block_normal ?_
    | refine block_ret ?_
    | refine block_exit ?_
    | refine block_other rfl ?_
    | refine awp_skip ?_
    | refine awp_exit ?_
    | refine awp_ret ?_
    | refine awp_label ?_
    | refine awp_cond_t rfl ?_
    | refine awp_cond_f rfl ?_
    | refine un_step ?_
    | refine aops_val (v := .bool true) rfl rfl rfl rfl ?_
    | refine aops_val (v := .bool false) rfl rfl rfl rfl ?_
    | refine aops_dec rfl rfl rfl rfl (fun hq => ?_) (fun hq => absurd hq (by omega))
    | refine aops_dec rfl rfl rfl rfl (fun hq => absurd hq (by omega)) (fun hq => ?_)
    | refine aops_eqi rfl rfl rfl rfl (fun hq => ?_) (fun hq => absurd hq (by omega))
    | refine aops_eqi rfl rfl rfl rfl (fun hq => absurd hq (by omega)) (fun hq => ?_)
    | refine aops_nei rfl rfl rfl rfl (fun hq => ?_) (fun hq => absurd hq (by omega))
    | refine aops_nei rfl rfl rfl rfl (fun hq => absurd hq (by omega)) (fun hq => ?_)
    | refine aops_idx rfl rfl rfl rfl rfl rfl rfl (by omega) (fun hc => ?_)
    | refine aops_cut rfl rfl rfl rfl rfl rfl rfl rfl rfl rfl (by omega) ?_
    | refine aops_w64 rfl rfl rfl rfl (by omega) ?_
    | refine aops_u8 rfl rfl rfl rfl ?_
    | refine aops_shl 0 1 rfl rfl rfl (by omega) (by omega) (by decide) (by omega) rfl rfl rfl ?_
    | refine aops_or 0 1 rfl rfl rfl (by omega) (by decide) (by omega) (by omega) rfl rfl rfl ?_
    | refine aops_shl 7 128 rfl rfl rfl (by omega) (by omega) (by decide) (by omega) rfl rfl rfl ?_
    | refine aops_or 7 128 rfl rfl rfl (by omega) (by decide) (by omega) (by omega) rfl rfl rfl ?_
    | refine aops_shl 14 16384 rfl rfl rfl (by omega) (by omega) (by decide) (by omega) rfl rfl rfl ?_
    | refine aops_or 14 16384 rfl rfl rfl (by omega) (by decide) (by omega) (by omega) rfl rfl rfl ?_
    | refine aops_val rfl rfl rfl rfl ?_
    | refine aops_skip rfl rfl rfl ?_
    | refine aops_skip' rfl rfl ?_
    | refine aops_alloc rfl rfl rfl rfl rfl ?_
    | refine aops_rd rfl rfl rfl rfl rfl rfl ?_
    | refine aops_eff rfl rfl rfl rfl ?_
    | refine aops_eff' rfl rfl rfl ?_
    | refine aord_nil ?_
    | refine aord_cut rfl rfl rfl rfl rfl rfl rfl rfl rfl rfl rfl (by omega) ?_
    | refine aord_w64 rfl rfl rfl rfl rfl (by omega) ?_
    | refine aord_val rfl rfl rfl rfl rfl ?_
    | refine aord_rd rfl rfl rfl rfl rfl rfl rfl ?_)
  all_goals refine ⟨fun _ e => (by cases e), ret_ret rfl ?_⟩
  all_goals show ofT _ _ _ = ofT _ _ _
  all_goals (first | rfl | exact ofT_eq (by omega))

theorem compactOf_p {s : ByteArray} (h2 : (s.size : Int) < 2 ^ 62) : APure P0 30 #[.string s] (compactOfV s) := by
  refine apure_empty (by kernel_rfl) (by simp [closed, Value.closed1]) (compactOfV_closed s) ?_
  unfold compactOfV
  by_cases h1 : (s.size : Int) < 1
  · rw [if_pos h1]; exact cof_0 h1
  rw [if_neg h1]
  by_cases hb : sgi s 0 < 128
  · rw [if_pos hb]; exact cof_1 h2 (by omega) hb
  rw [if_neg hb]
  by_cases h3 : (s.size : Int) < 2
  · rw [if_pos h3]; exact cof_2 (by omega) (by omega)
  rw [if_neg h3]
  by_cases hc : sgi s 1 < 128
  · rw [if_pos hc]; exact cof_3 h2 (by omega) (by omega) hc
  rw [if_neg hc]
  by_cases h4 : (s.size : Int) < 3
  · rw [if_pos h4]; exact cof_4 (by omega) (by omega) (by omega)
  rw [if_neg h4]
  exact cof_5 h2 (by omega) (by omega) (by omega)
end Go.Mir

