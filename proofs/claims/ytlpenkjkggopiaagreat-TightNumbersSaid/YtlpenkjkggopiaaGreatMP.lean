/- A table of types, and how it is held against the program. By a session's own hand. -/
import Derived.Test.YtlpenkjkggopiaaGreatMO
set_option linter.unusedSimpArgs false
set_option linter.unusedVariables false
namespace Go.Mir

inductive TT where
  | leaf
  | node (l : TT) (v : Option TK) (r : TT)

def TT.get : TT → Nat → Option TK
  | .leaf, _ => none
  | .node l v r, n => bif Nat.beq n 0 then v else bif Nat.beq (n % 2) 1 then l.get (n / 2) else r.get (n / 2 - 1)

def sameV : Value → Value → Bool
  | .bool a, .bool b => a == b
  | .int k a, .int k' b => sameKind k k' && a == b
  | .string a, .string b => a.data.toList == b.data.toList
  | .pointer none, .pointer none => true
  | .slice none 0 0, .slice none 0 0 => true
  | .map none, .map none => true
  | .nilFunc, .nilFunc => true
  | _, _ => false

def sameVs : List Value → List Value → Bool
  | [], [] => true
  | x :: l, y :: l' => sameV x y && sameVs l l'
  | _, _ => false

def sameD : TypeDesc → TD → Bool
  | .bool, .bool => true
  | .int k, .int k' => sameKind k k'
  | .string, .string => true
  | .pointer e, .pointer e' => e == e'
  | .slice e, .slice e' => e == e'
  | .array n e, .array n' e' => n == n' && e == e'
  | .struct fs, .struct l => fs.toList.map (fun f => (f.offset, f.type)) == l
  | .map k e, .map k' e' => k == k' && e == e'
  | .func _ _ _, .func => true
  | .unsafePointer, .unsafeP => true
  | _, _ => false

def isAggV : Value → Bool
  | .agg _ => true
  | _ => false
def isOneV : Value → Bool
  | .agg _ | .tuple _ => false
  | _ => true
def shapeOK (d : TD) (sz : Nat) (z : Value) : Bool :=
  match d with
  | .struct _ | .array _ _ => isAggV z
  | _ => sz == 1 && isOneV z

def checkK (P : Program) (t : Nat) (k : TK) : Bool :=
  match P.info? t, P.underlying t with
  | some i, some d => match i.zero with
    | some z => (i.size == k.size && i.bytes == k.bytes && sameVs z.cells.toList k.zero && k.zero.all Value.closed1 && k.zero.length == k.size && sameD d k.desc && decide (k.bytes ≤ 256) &&
        shapeOK k.desc k.size z)
    | none => false
  | _, _ => false

def checkT (P : Program) (tab : Tab) (n : Nat) : Bool := (List.range n).all fun t => match tab t with
  | some k => checkK P t k
  | none => true

theorem sameV_eq {x y : Value} (h : sameV x y = true) : x = y := by
  unfold sameV at h
  split at h <;> first | rfl | (cases h; done) | skip
  · simp at h; rw [h]
  · simp only [Bool.and_eq_true, beq_iff_eq] at h; rw [sameKind_eq h.1, h.2]
  · rename_i a b
    have : a.data = b.data := by apply Array.ext'; simpa using h
    cases a; cases b; simp at this; rw [this]

theorem sameVs_eq : ∀ {l l' : List Value}, sameVs l l' = true → l = l'
  | [], [], _ => rfl
  | x :: l, y :: l', h => by
    simp only [sameVs, Bool.and_eq_true] at h
    rw [sameV_eq h.1, sameVs_eq h.2]
  | [], _ :: _, h => by cases h
  | _ :: _, [], h => by cases h

theorem sameD_ok {d : TypeDesc} {k : TD} (h : sameD d k = true) : TDOK d k := by
  unfold sameD at h
  split at h <;> first | trivial | (cases h; done) | skip
  · exact sameKind_eq h
  · simpa [TDOK] using h
  · simpa [TDOK] using h
  · simpa [TDOK] using h
  · simpa [TDOK] using h
  · simpa [TDOK] using h

theorem checkK_ok {P : Program} {t : Nat} {k : TK} (h : checkK P t k = true) : TKOK P t k ∧ k.bytes ≤ 256 := by
  unfold checkK at h
  split at h
  · rename_i i d hi hd
    split at h
    · rename_i z hz
      simp only [Bool.and_eq_true, beq_iff_eq, decide_eq_true_eq] at h
      obtain ⟨⟨⟨⟨⟨⟨⟨h1, h2⟩, h3⟩, h4⟩, h5⟩, h6⟩, h7⟩, h8⟩ := h
      have hz0 := sameVs_eq h3
      have hcl : ∀ v ∈ k.zero, Value.closed1 v = true := by simpa using h4
      refine ⟨⟨i, d, z, hi, h1, h2, hz, hz0, ⟨hcl, h5⟩, hd, sameD_ok h6, ?_⟩, h7⟩
      revert h8
      unfold shapeOK
      cases k.desc <;> intro h8
      case struct => cases z <;> first | rfl | (cases h8; done)
      case array => cases z <;> first | rfl | (cases h8; done)
      all_goals
        simp only [Bool.and_eq_true, beq_iff_eq] at h8
        have hc : z.cells = #[z] := by
          have := h8.2
          cases z <;> first | rfl | (cases this; done)
        refine ⟨h8.1, ?_, hc⟩
        have h9 : Value.closed1 z = true := hcl z (by rw [← hz0, hc]; simp)
        have h10 := h8.2
        clear hc hz0 h3 hz
        cases z <;> first | exact h9 | (cases h10; done)
    · cases h
  · cases h

theorem checkT_ok {P : Program} {tab : Tab} {n : Nat} (h : checkT P tab n = true) (hn : ∀ t, n ≤ t → tab t = none) : TabOK P tab ∧ ∀ t k, tab t = some k → k.bytes ≤ 256 := by
  have key : ∀ t k, tab t = some k → checkK P t k = true := by
    intro t k hk
    simp only [checkT, List.all_eq_true, List.mem_range] at h
    rcases Nat.lt_or_ge t n with q | q
    · have := h t q; rw [hk] at this; exact this
    · rw [hn t q] at hk; cases hk
  exact ⟨fun t k hk => (checkK_ok (key t k hk)).1, fun t k hk => (checkK_ok (key t k hk)).2⟩

/-- the table, as far as it goes -/
def mkTab (T : TT) (n : Nat) : Tab := fun t => bif Nat.blt t n then T.get t else none

theorem mkTab_none (T : TT) (n t : Nat) (h : n ≤ t) : mkTab T n t = none := by
  have : Nat.blt t n = false := by
    cases hb : Nat.blt t n
    · rfl
    · rw [Nat.blt_eq] at hb; omega
  simp [mkTab, this]
end Go.Mir

namespace Go.Mir
/-- the order of an open region: as it is; or with one allocation put behind all that does not hang on it -/
inductive DOrd where
  | plain (l : List (Nat × Bool))
  | late (i : Nat) (l : List (Nat × Bool))
def DOrd.list : DOrd → List (Nat × Bool)
  | .plain l => l
  | .late _ l => l
/-- a table of orders -/
inductive OT where
  | leaf
  | node (l : OT) (v : DOrd) (r : OT)
def OT.get : OT → Nat → DOrd
  | .leaf, _ => .plain []
  | .node l v r, n => bif Nat.beq n 0 then v else bif Nat.beq (n % 2) 1 then l.get (n / 2) else r.get (n / 2 - 1)
end Go.Mir

