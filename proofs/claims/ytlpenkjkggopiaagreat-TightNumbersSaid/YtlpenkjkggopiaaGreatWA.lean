/- Rules for walks by cases: what is compared is known as true or false behind it; what fits is not wrapped. By a session's own hand. -/
import Derived.Test.YtlpenkjkggopiaaGreatMQ
set_option linter.unusedSimpArgs false
set_option linter.unusedVariables false
namespace Go.Mir

theorem wrap64 {x : Int} (h : -9223372036854775808 ≤ x ∧ x < 9223372036854775808) : IntKind.i64.wrap x = x := by
  simp only [IntKind.wrap, IntKind.bits, IntKind.signed]
  simp
  omega
theorem wrapU8 (x : Int) : IntKind.u8.wrap x = x % 256 := by
  simp [IntKind.wrap, IntKind.bits, IntKind.signed]
theorem wrapU32 (x : Int) : IntKind.u32.wrap x = x % 4294967296 := by
  simp [IntKind.wrap, IntKind.bits, IntKind.signed]
theorem wrapU64 (x : Int) : IntKind.u64.wrap x = x % 18446744073709551616 := by
  simp [IntKind.wrap, IntKind.bits, IntKind.signed]

section
variable {P : Program} {tab : Tab} {N : Nat} {ops : Array Oper} {K : Env → Heap → Prop} {o : Oper} {l : List Oper} {ρ : Env} {h : Heap} {Q : Exit → Env → Heap → Prop} {d : Nat}
variable {pend : Pend} {i : Nat} {lo : List (Nat × Bool)} {h' : Heap}

theorem aops_bool {b : Bool} (hd : o.dst = some d) (hlt : Nat.blt d N = true) (hw : wantedA ops o ρ = some true) (hv : aval tab ρ o = some (.bool b))
    (ht : b = true → AOps P tab N ops K l (put ρ d (.bool true)) h) (hf : b = false → AOps P tab N ops K l (put ρ d (.bool false)) h) : AOps P tab N ops K (o :: l) ρ h :=
  aops_val hd hlt hw hv (by cases b with | true => exact ht rfl | false => exact hf rfl)
theorem aops_dec {p : Prop} {q : Decidable p} (hd : o.dst = some d) (hlt : Nat.blt d N = true) (hw : wantedA ops o ρ = some true) (hv : aval tab ρ o = some (.bool (@decide p q)))
    (ht : p → AOps P tab N ops K l (put ρ d (.bool true)) h) (hf : ¬ p → AOps P tab N ops K l (put ρ d (.bool false)) h) : AOps P tab N ops K (o :: l) ρ h :=
  aops_bool hd hlt hw hv (fun e => ht (of_decide_eq_true e)) (fun e => hf (of_decide_eq_false e))
theorem aops_eqi {a b : Int} (hd : o.dst = some d) (hlt : Nat.blt d N = true) (hw : wantedA ops o ρ = some true) (hv : aval tab ρ o = some (.bool (a == b)))
    (ht : a = b → AOps P tab N ops K l (put ρ d (.bool true)) h) (hf : a ≠ b → AOps P tab N ops K l (put ρ d (.bool false)) h) : AOps P tab N ops K (o :: l) ρ h :=
  aops_bool hd hlt hw hv (fun e => ht (by simpa using e)) (fun e => hf (by simpa using e))
theorem aops_nei {a b : Int} (hd : o.dst = some d) (hlt : Nat.blt d N = true) (hw : wantedA ops o ρ = some true) (hv : aval tab ρ o = some (.bool (a != b)))
    (ht : a ≠ b → AOps P tab N ops K l (put ρ d (.bool true)) h) (hf : a = b → AOps P tab N ops K l (put ρ d (.bool false)) h) : AOps P tab N ops K (o :: l) ρ h :=
  aops_bool hd hlt hw hv (fun e => ht (by simpa using e)) (fun e => hf (by simpa using e))
theorem aops_w64 {x : Int} (hd : o.dst = some d) (hlt : Nat.blt d N = true) (hw : wantedA ops o ρ = some true) (hv : aval tab ρ o = some (.int .i64 (IntKind.i64.wrap x)))
    (hx : -9223372036854775808 ≤ x ∧ x < 9223372036854775808) (hk : AOps P tab N ops K l (put ρ d (.int .i64 x)) h) : AOps P tab N ops K (o :: l) ρ h :=
  aops_val hd hlt hw (by rw [wrap64 hx] at hv; exact hv) hk
theorem aops_u8 {x : Int} (hd : o.dst = some d) (hlt : Nat.blt d N = true) (hw : wantedA ops o ρ = some true) (hv : aval tab ρ o = some (.int .u8 (IntKind.u8.wrap x)))
    (hk : AOps P tab N ops K l (put ρ d (.int .u8 (x % 256))) h) : AOps P tab N ops K (o :: l) ρ h :=
  aops_val hd hlt hw (by rw [wrapU8] at hv; exact hv) hk
/-- the value, told in another way -/
theorem aops_as {v v' : Value} (hd : o.dst = some d) (hlt : Nat.blt d N = true) (hw : wantedA ops o ρ = some true) (hv : aval tab ρ o = some v) (he : v = v')
    (hk : AOps P tab N ops K l (put ρ d v') h) : AOps P tab N ops K (o :: l) ρ h := aops_val hd hlt hw (by rw [← he]; exact hv) hk

/-- the callee's body, walked here and now -/
theorem aops_inline {f : FuncId} {args : Array Value} (hd : o.dst = some d) (hlt : Nat.blt d N = true) (hw : wantedA ops o ρ = some true) (ha : acallee ρ o = some (f, args)) (hf : isFn P f = true)
    (hc : ACall P f args h fun v h' => AOps P tab N ops K l (put ρ d v) h') : AOps P tab N ops K (o :: l) ρ h := aops_call hd hlt hw ha hc hf fun _ _ q => q

/-- a call that answers v, and leaves h2 -/
theorem aops_upd {f : FuncId} {args : Array Value} {v : Value} {h2 : Heap} (hd : o.dst = some d) (hlt : Nat.blt d N = true) (hw : wantedA ops o ρ = some true) (ha : acallee ρ o = some (f, args)) (hf : isFn P f = true)
    (hc : ACall P f args h fun u h' => u = v ∧ h' = h2) (hk : AOps P tab N ops K l (put ρ d v) h2) : AOps P tab N ops K (o :: l) ρ h := aops_call hd hlt hw ha hc hf fun _ _ q => by rw [q.1, q.2]; exact hk

/-- a letter of a text, as a number -/
def sgi (s : ByteArray) (i : Int) : Int := ((s.data.toList.getD i.toNat 0).toNat : Int)
theorem sgi_lt (s : ByteArray) (i : Int) : 0 ≤ sgi s i ∧ sgi s i < 256 := by
  have := (s.data.toList.getD i.toNat 0).toNat_lt
  unfold sgi
  omega
theorem bytes_get {s : ByteArray} {i : Nat} (h : i < s.size) : s[i]? = some (s.data.toList.getD i 0) := by
  have h2 : i < s.data.size := h
  have : s[i]? = some (s[i]'h) := by simp [h]
  rw [this]
  congr 1
  show s.data[i] = _
  simp only [List.getD_eq_getElem?_getD, Array.getElem?_toList, Array.getElem?_eq_getElem h2, Option.getD_some]
theorem aindex_str {t : Nat} {k : IntKind} {s : ByteArray} {i : Int} {a b : Nat} {z : List Value} (ht : tab t = some ⟨.string, a, b, z⟩) (h : 0 ≤ i ∧ i < s.size) : aindex tab t (.string s) (.int k i) = some (.int .u8 (sgi s i)) := by
  simp only [aindex, ht]
  rw [if_pos h.1, bytes_get (by omega)]
  rfl
theorem val_idx {t : Nat} {x j : Operand} {k : IntKind} {s : ByteArray} {i : Int} {a b : Nat} {z : List Value} (ho : o.op = .index t x j) (ht : tab t = some ⟨.string, a, b, z⟩) (hx : ev ρ x = some (.string s)) (hj : ev ρ j = some (.int k i)) (h : 0 ≤ i ∧ i < s.size) :
    aval tab ρ o = some (.int .u8 (sgi s i)) := by
  simp only [aval, ho, hx, hj]
  exact aindex_str ht h
theorem aops_idx {t : Nat} {x j : Operand} {k : IntKind} {s : ByteArray} {i : Int} {a b : Nat} {z : List Value} (ho : o.op = .index t x j) (ht : tab t = some ⟨.string, a, b, z⟩) (hx : ev ρ x = some (.string s)) (hj : ev ρ j = some (.int k i))
    (hd : o.dst = some d) (hlt : Nat.blt d N = true) (hw : wantedA ops o ρ = some true) (h : 0 ≤ i ∧ i < s.size) (hk : 0 ≤ sgi s i ∧ sgi s i < 256 → AOps P tab N ops K l (put ρ d (.int .u8 (sgi s i))) h') : AOps P tab N ops K (o :: l) ρ h' :=
  aops_val hd hlt hw (val_idx ho ht hx hj h) (hk (sgi_lt s i))
/-- a part of a text -/
def cutS (s : ByteArray) (i j : Int) : ByteArray := ⟨⟨(s.data.toList.take j.toNat).drop i.toNat⟩⟩
theorem cutS_size {s : ByteArray} {i j : Int} (h : 0 ≤ i ∧ i ≤ j ∧ j ≤ s.size) : ((cutS s i j).size : Int) = j - i := by
  have h2 : s.data.toList.length = s.size := Array.length_toList
  show (((s.data.toList.take j.toNat).drop i.toNat).length : Int) = _
  simp only [List.length_drop, List.length_take, h2]
  omega
theorem extract_cut (s : ByteArray) (i j : Nat) : s.extract i j = ⟨⟨(s.data.toList.take j).drop i⟩⟩ := by
  have : (s.extract i j).data = s.data.extract i j := by simp
  cases hq : s.extract i j with
  | mk d =>
    rw [hq] at this
    simp only at this
    rw [this]
    congr 1
    apply Array.ext'
    simp [List.drop_take, Array.toList_extract, List.extract]
theorem val_cut {t : Nat} {x : Operand} {lo hi : Option Operand} {lv hv : Option Value} {s : ByteArray} {i j : Int} {a b : Nat} {z : List Value} (ho : o.op = .slice t x lo hi none) (ht : tab t = some ⟨.string, a, b, z⟩) (hx : ev ρ x = some (.string s))
    (hl : evo ρ lo = some lv) (hl2 : abound lv 0 = some i) (hh : evo ρ hi = some hv) (hh2 : abound hv s.size = some j) (h : 0 ≤ i ∧ i ≤ j ∧ j ≤ s.size) : aval tab ρ o = some (.string (cutS s i j)) := by
  have e3 : evo ρ none = some none := rfl
  simp only [aval, ho, hx, hl, hh, e3, aslice, ht, hl2, hh2]
  rw [if_pos h, extract_cut]
  rfl
theorem aops_cut {t : Nat} {x : Operand} {lo hi : Option Operand} {lv hv : Option Value} {s : ByteArray} {i j : Int} {a b : Nat} {z : List Value} (ho : o.op = .slice t x lo hi none) (ht : tab t = some ⟨.string, a, b, z⟩) (hx : ev ρ x = some (.string s))
    (hl : evo ρ lo = some lv) (hl2 : abound lv 0 = some i) (hh : evo ρ hi = some hv) (hh2 : abound hv s.size = some j) (hd : o.dst = some d) (hlt : Nat.blt d N = true) (hw : wantedA ops o ρ = some true) (h : 0 ≤ i ∧ i ≤ j ∧ j ≤ s.size)
    (hk : AOps P tab N ops K l (put ρ d (.string (cutS s i j))) h') : AOps P tab N ops K (o :: l) ρ h' := aops_val hd hlt hw (val_cut ho ht hx hl hl2 hh hh2 h) hk

/-! the same, where the order is open -/
theorem aord_bool {b : Bool} (hi : ops[i]? = some o) (hd : o.dst = some d) (hlt : Nat.blt d N = true) (hw : wantedA ops o ρ = some true) (hv : aval tab ρ o = some (.bool b))
    (ht : b = true → AOrd P tab N ops K pend lo (put ρ d (.bool true)) h) (hf : b = false → AOrd P tab N ops K pend lo (put ρ d (.bool false)) h) : AOrd P tab N ops K pend ((i, true) :: lo) ρ h :=
  aord_val hi hd hlt hw hv (by cases b with | true => exact ht rfl | false => exact hf rfl)
theorem aord_dec {p : Prop} {q : Decidable p} (hi : ops[i]? = some o) (hd : o.dst = some d) (hlt : Nat.blt d N = true) (hw : wantedA ops o ρ = some true) (hv : aval tab ρ o = some (.bool (@decide p q)))
    (ht : p → AOrd P tab N ops K pend lo (put ρ d (.bool true)) h) (hf : ¬ p → AOrd P tab N ops K pend lo (put ρ d (.bool false)) h) : AOrd P tab N ops K pend ((i, true) :: lo) ρ h :=
  aord_bool hi hd hlt hw hv (fun e => ht (of_decide_eq_true e)) (fun e => hf (of_decide_eq_false e))
theorem aord_w64 {x : Int} (hi : ops[i]? = some o) (hd : o.dst = some d) (hlt : Nat.blt d N = true) (hw : wantedA ops o ρ = some true) (hv : aval tab ρ o = some (.int .i64 (IntKind.i64.wrap x)))
    (hx : -9223372036854775808 ≤ x ∧ x < 9223372036854775808) (hk : AOrd P tab N ops K pend lo (put ρ d (.int .i64 x)) h) : AOrd P tab N ops K pend ((i, true) :: lo) ρ h :=
  aord_val hi hd hlt hw (by rw [wrap64 hx] at hv; exact hv) hk
theorem aord_as {v v' : Value} (hi : ops[i]? = some o) (hd : o.dst = some d) (hlt : Nat.blt d N = true) (hw : wantedA ops o ρ = some true) (hv : aval tab ρ o = some v) (he : v = v')
    (hk : AOrd P tab N ops K pend lo (put ρ d v') h) : AOrd P tab N ops K pend ((i, true) :: lo) ρ h := aord_val hi hd hlt hw (by rw [← he]; exact hv) hk
theorem aord_cut {t : Nat} {x : Operand} {lo' hi' : Option Operand} {lv hv : Option Value} {s : ByteArray} {i' j : Int} {a b : Nat} {z : List Value} (hi : ops[i]? = some o) (ho : o.op = .slice t x lo' hi' none) (ht : tab t = some ⟨.string, a, b, z⟩) (hx : ev ρ x = some (.string s))
    (hl : evo ρ lo' = some lv) (hl2 : abound lv 0 = some i') (hh : evo ρ hi' = some hv) (hh2 : abound hv s.size = some j) (hd : o.dst = some d) (hlt : Nat.blt d N = true) (hw : wantedA ops o ρ = some true) (h' : 0 ≤ i' ∧ i' ≤ j ∧ j ≤ s.size)
    (hk : AOrd P tab N ops K pend lo (put ρ d (.string (cutS s i' j))) h) : AOrd P tab N ops K pend ((i, true) :: lo) ρ h := aord_val hi hd hlt hw (val_cut ho ht hx hl hl2 hh hh2 h') hk

theorem awp_cond_t {c : Operand} {x y : Code} (hc : ev ρ c = some (.bool true)) (ht : AWP P N x Q ρ h) : AWP P N (.cond c x y) Q ρ h := awp_cond hc (fun _ => ht) (fun e => by cases e)
theorem awp_cond_f {c : Operand} {x y : Code} (hc : ev ρ c = some (.bool false)) (hf : AWP P N y Q ρ h) : AWP P N (.cond c x y) Q ρ h := awp_cond hc (fun e => by cases e) (fun _ => hf)

theorem awp_drawL (f id : Nat) {ops : Array Oper} {N : Nat} {Q : Exit → Env → Heap → Prop} {ρ : Env} {h : Heap} (_hn : (ordOf f id).list.length = ops.size) (hl : ((ordOf f id).list.length == ops.size && goodOrder ops (ordOf f id).list (Array.replicate ops.size false)) = true)
    (ho : AOrd P0 Mir.tab N ops (Q .normal) [] (ordOf f id).list ρ h) : AWP P0 N (.region id ops true) Q ρ h := awp_draw f hl ho

/-- a loop that is left after at most so many rounds -/
def Un (P : Program) (N : Nat) (c : Code) (Q : Exit → Env → Heap → Prop) : Nat → Env → Heap → Prop
  | 0, _, _ => False
  | n + 1, ρ, h => AWP P N c (Then (Un P N c Q n) Q) ρ h
theorem un_step {c : Code} {n : Nat} (hc : AWP P N c (Then (Un P N c Q n) Q) ρ h) : Un P N c Q (n + 1) ρ h := hc
theorem awp_unroll {c : Code} (n : Nat) (h0 : Un P N c Q n ρ h) : AWP P N (.loop c) Q ρ h := by
  refine awp_loop (fun n => Un P N c Q n) n h0 fun n ρ h hn => ?_
  cases n with
  | zero => exact hn.elim
  | succ n =>
    refine AWP.mono hn fun e ρ h q => ?_
    cases e <;> first | exact ⟨n, Nat.lt_succ_self n, q⟩ | exact q
end
end Go.Mir

