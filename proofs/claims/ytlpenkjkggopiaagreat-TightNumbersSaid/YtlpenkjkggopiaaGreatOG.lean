/- The numbers of few bytes: the law's own walk. By a session's own hand. -/
import Derived.Test.YtlpenkjkggopiaaGreatOE
import Derived.Test.YtlpenkjkggopiaaGreatTN
import Derived.Test.YtlpenkjkggopiaaGreatWkQ
set_option linter.unusedSimpArgs false
set_option linter.unusedVariables false
namespace Go.Mir
open Go.Proofs
set_option maxRecDepth 100000

section
variable {P : Program} {tab : Tab} {N : Nat} {ops : Array Oper} {K : Env → Heap → Prop} {o : Oper} {l : List Oper} {ρ : Env} {h : Heap} {d : Nat}
theorem val_cat {t : TypeId} {x y : Operand} {g : TypeId} {s u : ByteArray} (ho : o.op = .binOp .add t x y g) (hx : ev ρ x = some (.string s)) (hy : ev ρ y = some (.string u)) (hs : s.size + u.size < 2 ^ 63) :
    aval tab ρ o = some (.string (s ++ u)) := by
  simp only [aval, ho, hx, hy, abin]
  simp [astr, hs]
theorem aops_cat {t : TypeId} {x y : Operand} {g : TypeId} {s u : ByteArray} (ho : o.op = .binOp .add t x y g) (hx : ev ρ x = some (.string s)) (hy : ev ρ y = some (.string u)) (hs : s.size + u.size < 2 ^ 63)
    (hd : o.dst = some d) (hlt : Nat.blt d N = true) (hw : wantedA ops o ρ = some true) (hk : AOps P tab N ops K l (put ρ d (.string (s ++ u))) h) : AOps P tab N ops K (o :: l) ρ h := aops_val hd hlt hw (val_cat ho hx hy hs) hk
end
theorem neqs_self {A : ByteArray} : (!(A.toList == A.toList)) = false := by simp
theorem eqs_self {A : ByteArray} : (A.toList == A.toList) = true := by simp

theorem tn_good {n x y z : Int} {A s : ByteArray} (h28 : APure P0 28 #[.int .i64 n] (.tuple #[.string A, .int .i64 0])) (h29 : APure P0 29 #[.int .i64 n] (.tuple #[.string A, .int .i64 0])) (h30 : APure P0 30 #[.string s] (ofT x y z)) (h31 : APure P0 31 #[.string s] (ofT x y z))
    (h30' : APure P0 30 #[.string (A ++ s)] (ofT n A.size 0)) (hA : A.size + s.size < 2 ^ 63) : ACall P0 8 #[.int .i64 n, .string s] h00 (fun u _ => u = .bool true) := by
  refine acall_of_awp good.tabOK Tryz.func8 rfl rfl rfl fun _ => ?_
  all_goals repeat' (first
    | refine aops_pure rfl rfl rfl rfl works20 (by kernel_rfl) ?_
    | refine aops_pure rfl rfl rfl rfl h28 (by kernel_rfl) ?_
    | refine aops_pure rfl rfl rfl rfl h29 (by kernel_rfl) ?_
    | refine aops_pure rfl rfl rfl rfl h30 (by kernel_rfl) ?_
    | refine aops_pure rfl rfl rfl rfl h31 (by kernel_rfl) ?_
    | refine aops_pure rfl rfl rfl rfl h30' (by kernel_rfl) ?_
    | refine aops_cat rfl rfl rfl hA rfl rfl rfl ?_
    | refine aops_as rfl rfl rfl rfl (congrArg Value.bool neqs_self) ?_
    | refine awp_seq ?_
    | refine awp_region good ?_
    | refine awp_block ?_
    | refine awp_scope ?_
    | refine aops_nil ?_
    | refine ret_ret rfl ?_
    | refine ret_normal rfl ?_
    | refine then_normal ?_
    | refine then_ret ?_
    | refine then_exit ?_
    | refine block_normal ?_
    | refine block_ret ?_
    | refine block_exit ?_
    | refine block_other rfl ?_
    | refine awp_skip ?_
    | refine awp_exit ?_
    | refine awp_ret ?_
    | refine awp_label ?_
    | refine awp_cond_t rfl ?_
    | refine awp_cond_f rfl ?_
    | refine un_step ?_
    | refine aops_val (v := .bool true) rfl rfl rfl rfl ?_
    | refine aops_val (v := .bool false) rfl rfl rfl rfl ?_
    | refine aops_dec rfl rfl rfl rfl (fun hq => ?_) (fun hq => absurd hq (by omega))
    | refine aops_dec rfl rfl rfl rfl (fun hq => absurd hq (by omega)) (fun hq => ?_)
    | refine aops_eqi rfl rfl rfl rfl (fun hq => ?_) (fun hq => absurd hq (by omega))
    | refine aops_eqi rfl rfl rfl rfl (fun hq => absurd hq (by omega)) (fun hq => ?_)
    | refine aops_nei rfl rfl rfl rfl (fun hq => ?_) (fun hq => absurd hq (by omega))
    | refine aops_nei rfl rfl rfl rfl (fun hq => absurd hq (by omega)) (fun hq => ?_)
    | refine aops_idx rfl rfl rfl rfl rfl rfl rfl (by omega) (fun hc => ?_)
    | refine aops_cut rfl rfl rfl rfl rfl rfl rfl rfl rfl rfl (by omega) ?_
    | refine aops_w64 rfl rfl rfl rfl (by omega) ?_
    | refine aops_u8 rfl rfl rfl rfl ?_
    | refine aops_val rfl rfl rfl rfl ?_
    | refine aops_skip rfl rfl rfl ?_
    | refine aops_skip' rfl rfl ?_
    | refine aops_alloc rfl rfl rfl rfl rfl ?_
    | refine aops_rd rfl rfl rfl rfl rfl rfl ?_
    | refine aops_eff rfl rfl rfl rfl ?_
    | refine aops_eff' rfl rfl rfl ?_
    | refine aord_nil ?_
    | refine aord_cut rfl rfl rfl rfl rfl rfl rfl rfl rfl rfl rfl (by omega) ?_
    | refine aord_w64 rfl rfl rfl rfl rfl (by omega) ?_
    | refine aord_val rfl rfl rfl rfl rfl ?_
    | refine aord_rd rfl rfl rfl rfl rfl rfl rfl ?_)
  all_goals rfl
theorem tn_bad {n x y z : Int} {s : ByteArray} (h28 : APure P0 28 #[.int .i64 n] (.tuple #[.string ⟨#[]⟩, .int .i64 1])) (h29 : APure P0 29 #[.int .i64 n] (.tuple #[.string ⟨#[]⟩, .int .i64 1])) (h30 : APure P0 30 #[.string s] (ofT x y z)) (h31 : APure P0 31 #[.string s] (ofT x y z)) :
    ACall P0 8 #[.int .i64 n, .string s] h00 (fun u _ => u = .bool true) := by
  refine acall_of_awp good.tabOK Tryz.func8 rfl rfl rfl fun _ => ?_
  all_goals repeat' (first
    | refine aops_pure rfl rfl rfl rfl works20 (by kernel_rfl) ?_
    | refine aops_pure rfl rfl rfl rfl h28 (by kernel_rfl) ?_
    | refine aops_pure rfl rfl rfl rfl h29 (by kernel_rfl) ?_
    | refine aops_pure rfl rfl rfl rfl h30 (by kernel_rfl) ?_
    | refine aops_pure rfl rfl rfl rfl h31 (by kernel_rfl) ?_
    | refine aops_as rfl rfl rfl rfl (congrArg Value.bool neqs_self) ?_
    | refine aops_as rfl rfl rfl rfl (congrArg Value.bool eqs_self) ?_
    | refine awp_seq ?_
    | refine awp_region good ?_
    | refine awp_block ?_
    | refine awp_scope ?_
    | refine aops_nil ?_
    | refine ret_ret rfl ?_
    | refine ret_normal rfl ?_
    | refine then_normal ?_
    | refine then_ret ?_
    | refine then_exit ?_
    | refine block_normal ?_
    | refine block_ret ?_
    | refine block_exit ?_
    | refine block_other rfl ?_
    | refine awp_skip ?_
    | refine awp_exit ?_
    | refine awp_ret ?_
    | refine awp_label ?_
    | refine awp_cond_t rfl ?_
    | refine awp_cond_f rfl ?_
    | refine un_step ?_
    | refine aops_val (v := .bool true) rfl rfl rfl rfl ?_
    | refine aops_val (v := .bool false) rfl rfl rfl rfl ?_
    | refine aops_dec rfl rfl rfl rfl (fun hq => ?_) (fun hq => absurd hq (by omega))
    | refine aops_dec rfl rfl rfl rfl (fun hq => absurd hq (by omega)) (fun hq => ?_)
    | refine aops_eqi rfl rfl rfl rfl (fun hq => ?_) (fun hq => absurd hq (by omega))
    | refine aops_eqi rfl rfl rfl rfl (fun hq => absurd hq (by omega)) (fun hq => ?_)
    | refine aops_nei rfl rfl rfl rfl (fun hq => ?_) (fun hq => absurd hq (by omega))
    | refine aops_nei rfl rfl rfl rfl (fun hq => absurd hq (by omega)) (fun hq => ?_)
    | refine aops_idx rfl rfl rfl rfl rfl rfl rfl (by omega) (fun hc => ?_)
    | refine aops_cut rfl rfl rfl rfl rfl rfl rfl rfl rfl rfl (by omega) ?_
    | refine aops_w64 rfl rfl rfl rfl (by omega) ?_
    | refine aops_u8 rfl rfl rfl rfl ?_
    | refine aops_val rfl rfl rfl rfl ?_
    | refine aops_skip rfl rfl rfl ?_
    | refine aops_skip' rfl rfl ?_
    | refine aops_alloc rfl rfl rfl rfl rfl ?_
    | refine aops_rd rfl rfl rfl rfl rfl rfl ?_
    | refine aops_eff rfl rfl rfl rfl ?_
    | refine aops_eff' rfl rfl rfl ?_
    | refine aord_nil ?_
    | refine aord_cut rfl rfl rfl rfl rfl rfl rfl rfl rfl rfl rfl (by omega) ?_
    | refine aord_w64 rfl rfl rfl rfl rfl (by omega) ?_
    | refine aord_val rfl rfl rfl rfl rfl ?_
    | refine aord_rd rfl rfl rfl rfl rfl rfl rfl ?_)
  all_goals rfl

/-! ### the plain law -/
theorem compactOfV_is (s : ByteArray) : ∃ x y z, compactOfV s = ofT x y z := by
  unfold compactOfV
  repeat' split
  all_goals exact ⟨_, _, _, rfl⟩
theorem byte1_toNat {x : Int} (h : 0 ≤ x ∧ x < 256) : ((byte1 x).toNat : Int) = x := by
  unfold byte1
  rw [UInt8.toNat_ofNat']
  omega
theorem sgi_cat {L : List UInt8} {s : ByteArray} {i : Nat} {b : UInt8} (h : L[i]? = some b) : sgi (⟨⟨L⟩⟩ ++ s) i = (b.toNat : Int) := by
  unfold sgi
  have e : (((⟨⟨L⟩⟩ : ByteArray) ++ s).data).toList = L ++ s.data.toList := by simp
  have hl : i < L.length := by
    rcases Nat.lt_or_ge i L.length with q | q
    · exact q
    · rw [List.getElem?_eq_none q] at h; cases h
  rw [e, Int.toNat_natCast, List.getD_eq_getElem?_getD, List.getElem?_append_left hl, h]
  rfl
theorem size_cat {L : List UInt8} {s : ByteArray} : ((((⟨⟨L⟩⟩ : ByteArray) ++ s).size : Nat) : Int) = L.length + s.size := by
  rw [ByteArray.size_append]
  rfl
theorem back {n : Int} {s : ByteArray} (h0 : 0 ≤ n) (h1 : n ≤ 4194303) : compactOfV (⟨⟨compactS n⟩⟩ ++ s) = ofT n (ByteArray.size ⟨⟨compactS n⟩⟩) 0 := by
  have hs : 0 ≤ (s.size : Int) := by omega
  by_cases c1 : n < 128
  · have e : compactS n = [byte1 n] := by unfold compactS; rw [if_pos c1]
    have q0 : sgi (⟨⟨compactS n⟩⟩ ++ s) 0 = n := by
      rw [e]; exact (sgi_cat (i := 0) rfl).trans (byte1_toNat (by omega))
    have hz := size_cat (L := compactS n) (s := s)
    rw [e] at hz
    unfold compactOfV
    rw [q0, e, hz]
    simp only [List.length_cons, List.length_nil]
    rw [if_neg (by omega), if_pos c1]
    rfl
  · by_cases c2 : n < 16384
    · have e : compactS n = [byte1 (128 + n % 128), byte1 (n / 128)] := by unfold compactS; rw [if_neg c1, if_pos c2]
      have q0 : sgi (⟨⟨compactS n⟩⟩ ++ s) 0 = 128 + n % 128 := by
        rw [e]; exact (sgi_cat (i := 0) rfl).trans (byte1_toNat (by omega))
      have q1 : sgi (⟨⟨compactS n⟩⟩ ++ s) 1 = n / 128 := by
        rw [e]; exact (sgi_cat (i := 1) rfl).trans (byte1_toNat (by omega))
      have hz := size_cat (L := compactS n) (s := s)
      rw [e] at hz
      unfold compactOfV
      rw [q0, q1, e, hz]
      simp only [List.length_cons, List.length_nil]
      rw [if_neg (by omega), if_neg (by omega), if_neg (by omega), if_pos (by omega)]
      show ofT _ 2 0 = ofT n 2 0
      congr 1
      omega
    · have e : compactS n = [byte1 (128 + n % 128), byte1 (128 + n / 128 % 128), byte1 (n / 16384)] := by unfold compactS; rw [if_neg c1, if_neg c2]
      have q0 : sgi (⟨⟨compactS n⟩⟩ ++ s) 0 = 128 + n % 128 := by
        rw [e]; exact (sgi_cat (i := 0) rfl).trans (byte1_toNat (by omega))
      have q1 : sgi (⟨⟨compactS n⟩⟩ ++ s) 1 = 128 + n / 128 % 128 := by
        rw [e]; exact (sgi_cat (i := 1) rfl).trans (byte1_toNat (by omega))
      have q2 : sgi (⟨⟨compactS n⟩⟩ ++ s) 2 = n / 16384 := by
        rw [e]; exact (sgi_cat (i := 2) rfl).trans (byte1_toNat (by omega))
      have hz := size_cat (L := compactS n) (s := s)
      rw [e] at hz
      unfold compactOfV
      rw [q0, q1, q2, e, hz]
      simp only [List.length_cons, List.length_nil]
      rw [if_neg (by omega), if_neg (by omega), if_neg (by omega), if_neg (by omega), if_neg (by omega)]
      show ofT _ 3 0 = ofT n 3 0
      congr 1
      omega

theorem tightNumbers_p {n : Int} {s : ByteArray} (hs : s.size < 2 ^ 61) : APure P0 8 #[.int .i64 n, .string s] (.bool true) := by
  refine apure_empty (by kernel_rfl) (by simp [closed, Value.closed1]) (by simp [closed, Value.closed1]) ?_
  obtain ⟨x, y, z, hv⟩ := compactOfV_is s
  have h30 := compactOf_p (s := s) (by omega)
  have h31 := rcompactOf_p s
  have h28 := compact_p n
  have h29 := rcompact_p n
  rw [hv] at h30 h31
  by_cases hn : n < 0 ∨ n > 4194303
  · unfold compactV at h28 h29
    rw [if_pos hn] at h28 h29
    exact tn_bad h28 h29 h30 h31
  · unfold compactV at h28 h29
    rw [if_neg hn] at h28 h29
    have hl : (compactS n).length ≤ 3 := by
      unfold compactS
      repeat' split
      all_goals simp
    have hA : ByteArray.size ⟨⟨compactS n⟩⟩ ≤ 3 := hl
    have h30' := compactOf_p (s := ⟨⟨compactS n⟩⟩ ++ s) (by rw [ByteArray.size_append]; omega)
    rw [back (by omega) (by omega)] at h30'
    exact tn_good h28 h29 h30 h31 h30' (by omega)
end Go.Mir

