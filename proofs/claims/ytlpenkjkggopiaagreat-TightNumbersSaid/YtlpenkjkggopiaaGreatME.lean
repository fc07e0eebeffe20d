/- Memory: what an allocation, a store, a load do to the abstract heap and to the model's world. By a session's own hand. -/
import Derived.Test.YtlpenkjkggopiaaGreatMD
import Derived.Laws.World
set_option linter.unusedSimpArgs false
set_option linter.unusedVariables false
namespace Go.Mir

def Heap.set (h : Heap) (n : Nat) (b : Blk) : Heap := ⟨fun m => if m = n then some b else h.get m, h.next⟩

theorem Heap.set_same (h : Heap) (n : Nat) (b : Blk) : (h.set n b).get n = some b := by simp [Heap.set]
theorem Heap.set_ne (h : Heap) {n m : Nat} (b : Blk) (e : m ≠ n) : (h.set n b).get m = h.get m := by simp [Heap.set, e]
theorem Heap.set_next (h : Heap) (n : Nat) (b : Blk) : (h.set n b).next = h.next := rfl

def Ren.add (r : Ren) (n : Nat) (l : Loc) : Ren := fun m => if m = n then some l else r m
theorem Ren.add_same (r : Ren) (n : Nat) (l : Loc) : r.add n l n = some l := by simp [Ren.add]
theorem Ren.add_ne (r : Ren) {n m : Nat} (l : Loc) (e : m ≠ n) : r.add n l m = r m := by simp [Ren.add, e]
theorem Ren.le_add {r : Ren} {n : Nat} (h : r n = none) (l : Loc) : r.le (r.add n l) := fun m l' e => by
  by_cases q : m = n
  · subst q; rw [h] at e; cases e
  · rw [Ren.add_ne _ _ q]; exact e

/-- worlds whose memory is the same -/
theorem HRel.world {prot : Prot} {r : Ren} {h : Heap} {w w' : World} (hh : HRel prot r h w) (e : w'.heap = w.heap) (ex : (w'.os, w'.output) = (w.os, w.output) := by rfl) : HRel prot r h w' :=
  ⟨hh.dom, hh.fresh, fun n l k a b => by rw [e]; exact hh.blk n l k a b, hh.inj, fun b o hb => by rw [e]; exact hh.safe b o hb, hh.keep, ex.trans hh.ext⟩

theorem blk_some {r : Ren} {l : Loc} {k : Blk} {o : Option Obj} (h : BlkRel r l k o) (hk : k ≠ .dead) : ∃ o', o = some o' := by
  cases k with
  | dead => exact absurd rfl hk
  | cells c e opn wr => cases o with
    | none => exact h.elim
    | some o => exact ⟨o, rfl⟩
  | amap es => cases o with
    | none => exact h.elim
    | some o => exact ⟨o, rfl⟩
  | loop a1 a2 a3 a4 a5 a6 a7 => cases o with
    | none => exact h.elim
    | some o => exact ⟨o, rfl⟩

/-- a new block -/
theorem HRel.alloc {prot : Prot} {r : Ren} {h : Heap} {w w' : World} (hh : HRel prot r h w) {n : Nat} (hn : h.get n = none) (hlt : n < h.next) {obj : Obj}
    (hw : w'.heap = w.heap.push obj) {l : Loc} (hl : l.b = w.heap.size) {k : Blk} (hk : BlkRel (r.add n l) l k (some obj)) (ex : (w'.os, w'.output) = (w.os, w.output) := by rfl) :
    HRel prot (r.add n l) (h.set n k) w' := by
  have hr : r n = none := (hh.dom n).2 hn
  have old : ∀ b o, w.heap[b]? = some o → w'.heap[b]? = some o := fun b o e => by
    obtain ⟨hlt, _⟩ := Array.getElem?_eq_some_iff.1 e
    rw [hw, Array.getElem?_push, if_neg (by omega)]; exact e
  have live : ∀ m l' k', r m = some l' → h.get m = some k' → k' ≠ .dead → l'.b < w.heap.size := fun m l' k' a b c => by
    obtain ⟨o, ho⟩ := blk_some (hh.blk m l' k' a b) c
    exact (Array.getElem?_eq_some_iff.1 ho).1
  refine ⟨fun m => ?_, fun m hm => ?_, fun m l' k' hm hk' => ?_, fun m m' l1 l2 k1 k2 hmm h1 h2 g1 g2 hwr hd => ?_, fun b o hb => old b o.1 (hh.safe b o hb), fun b o hb m l' k' hm hlb hk' => ?_, ex.trans hh.ext⟩
  · by_cases q : m = n
    · subst q; simp [Ren.add, Heap.set]
    · rw [Ren.add_ne _ _ q, Heap.set_ne _ _ q]; exact hh.dom m
  · rw [Heap.set_ne _ _ (by simp only [Heap.set] at hm; omega)]; exact hh.fresh m hm
  · by_cases q : m = n
    · subst q
      rw [Ren.add_same] at hm; cases hm
      rw [Heap.set_same] at hk'; cases hk'
      rw [hw, hl, Array.getElem?_push, if_pos rfl]; exact hk
    · rw [Ren.add_ne _ _ q] at hm
      rw [Heap.set_ne _ _ q] at hk'
      have hb := hh.blk m l' k' hm hk'
      by_cases hd : k' = .dead
      · subst hd; trivial
      · obtain ⟨o, ho⟩ := blk_some hb hd
        rw [old _ _ ho, ← ho]
        exact hb.mono (Ren.le_add hr l)
  · by_cases q : m = n
    · subst q
      rw [Ren.add_same] at h1; cases h1
      have q' : m' ≠ m := fun e => hmm e.symm
      rw [Ren.add_ne _ _ q'] at h2; rw [Heap.set_ne _ _ q'] at g2
      have := live m' l2 k2 h2 g2 hd
      omega
    · rw [Ren.add_ne _ _ q] at h1; rw [Heap.set_ne _ _ q] at g1
      have := live m l1 k1 h1 g1 (by intro e; subst e; simp [Blk.wr] at hwr)
      by_cases q' : m' = n
      · subst q'; rw [Ren.add_same] at h2; cases h2; omega
      · rw [Ren.add_ne _ _ q'] at h2; rw [Heap.set_ne _ _ q'] at g2
        exact hh.inj m m' l1 l2 k1 k2 hmm h1 h2 g1 g2 hwr hd
  · by_cases q : m = n
    · subst q
      rw [Ren.add_same] at hm; cases hm
      have := (Array.getElem?_eq_some_iff.1 (hh.safe b o hb)).1
      omega
    · rw [Ren.add_ne _ _ q] at hm; rw [Heap.set_ne _ _ q] at hk'
      exact hh.keep b o hb m l' k' hm hlb hk'

/-- a block that may be written is turned -/
theorem HRel.turn {prot : Prot} {r : Ren} {h : Heap} {w w' : World} (hh : HRel prot r h w) {n : Nat} {l : Loc} {k k' : Blk} {obj : Obj} (hr : r n = some l)
    (hk : h.get n = some k) (hwr : k.wr = true) (hsame : ∀ b, b ≠ l.b → w'.heap[b]? = w.heap[b]?) (hobj : w'.heap[l.b]? = some obj) (hb : BlkRel r l k' (some obj)) (ex : (w'.os, w'.output) = (w.os, w.output) := by rfl) :
    HRel prot r (h.set n k') w' := by
  have hd : k ≠ .dead := fun e => by subst e; simp [Blk.wr] at hwr
  have apartL : ∀ m l2 k2, m ≠ n → r m = some l2 → h.get m = some k2 → k2 ≠ .dead → l2.b ≠ l.b := fun m l2 k2 hm h2 g2 hd2 =>
    (hh.inj n m l l2 k k2 (Ne.symm hm) hr h2 hk g2 hwr hd2).symm
  refine ⟨fun m => ?_, fun m hm => ?_, fun m l' q hm hq => ?_, fun m m' l1 l2 k1 k2 hmm h1 h2 g1 g2 hw1 hd1 => ?_, fun b o hb' => ?_, fun b o hb' m l' q hm hlb hq => ?_, ex.trans hh.ext⟩
  · by_cases e : m = n
    · subst e; simp [Heap.set, hr]
    · rw [Heap.set_ne _ _ e]; exact hh.dom m
  · have : m ≠ n := fun e => by
      subst e
      have := hh.lt m l hr
      simp only [Heap.set] at hm; omega
    rw [Heap.set_ne _ _ this]; exact hh.fresh m hm
  · by_cases e : m = n
    · subst e
      rw [hr] at hm; cases hm
      rw [Heap.set_same] at hq; cases hq
      rw [hobj]; exact hb
    · rw [Heap.set_ne _ _ e] at hq
      have hx := hh.blk m l' q hm hq
      by_cases hd2 : q = .dead
      · subst hd2; trivial
      · rw [hsame _ (apartL m l' q e hm hq hd2)]; exact hx
  · by_cases e : m = n
    · subst e
      rw [Heap.set_ne _ _ (Ne.symm hmm)] at g2
      rw [hr] at h1; cases h1
      exact (apartL m' l2 k2 (Ne.symm hmm) h2 g2 hd1).symm
    · rw [Heap.set_ne _ _ e] at g1
      by_cases e' : m' = n
      · subst e'
        rw [hr] at h2; cases h2
        exact apartL m l1 k1 e h1 g1 (by intro e; subst e; simp [Blk.wr] at hw1)
      · rw [Heap.set_ne _ _ e'] at g2
        exact hh.inj m m' l1 l2 k1 k2 hmm h1 h2 g1 g2 hw1 hd1
  · have hne : b ≠ l.b := fun e => by
      have := hh.keep b o hb' n l k hr e.symm hk
      rw [hwr] at this; cases this.1
    rw [hsame _ hne]; exact hh.safe b o hb'
  · have hne : b ≠ l.b := fun e => by
      have := hh.keep b o hb' n l k hr e.symm hk
      rw [hwr] at this; cases this.1
    have e : m ≠ n := fun e => by
      subst e; rw [hr] at hm; cases hm; exact hne hlb.symm
    rw [Heap.set_ne _ _ e] at hq
    exact hh.keep b o hb' m l' q hm hlb hq

/-- a row is killed: nobody may look at it any more -/
theorem HRel.kill {prot : Prot} {r : Ren} {h : Heap} {w : World} (hh : HRel prot r h w) {n : Nat} (hn : h.get n ≠ none) : HRel prot r (h.set n .dead) w := by
  refine ⟨fun m => ?_, fun m hm => ?_, fun m l' q hm hq => ?_, fun m m' l1 l2 k1 k2 hmm h1 h2 g1 g2 hw1 hd1 => ?_, hh.safe, fun b o hb' m l' q hm hlb hq => ?_, hh.ext⟩
  · by_cases e : m = n
    · subst e
      simp only [Heap.set, if_true, reduceCtorEq, iff_false]
      exact fun e => hn ((hh.dom m).1 e)
    · rw [Heap.set_ne _ _ e]; exact hh.dom m
  · have : m ≠ n := fun e => by
      subst e; exact hn (hh.fresh m hm)
    rw [Heap.set_ne _ _ this]; exact hh.fresh m hm
  · by_cases e : m = n
    · subst e; rw [Heap.set_same] at hq; cases hq; trivial
    · rw [Heap.set_ne _ _ e] at hq; exact hh.blk m l' q hm hq
  · by_cases e : m = n
    · subst e; rw [Heap.set_same] at g1; cases g1; simp [Blk.wr] at hw1
    · rw [Heap.set_ne _ _ e] at g1
      by_cases e' : m' = n
      · subst e'; rw [Heap.set_same] at g2; cases g2; exact absurd rfl hd1
      · rw [Heap.set_ne _ _ e'] at g2
        exact hh.inj m m' l1 l2 k1 k2 hmm h1 h2 g1 g2 hw1 hd1
  · by_cases e : m = n
    · subst e; rw [Heap.set_same] at hq; cases hq; exact ⟨rfl, fun _ => rfl⟩
    · rw [Heap.set_ne _ _ e] at hq; exact hh.keep b o hb' m l' q hm hlb hq

/-- a row goes on in the place of a killed one -/
theorem HRel.heir {prot : Prot} {r : Ren} {h : Heap} {w w' : World} (hh : HRel prot r h w) {n m : Nat} {l l2 : Loc} {k k' : Blk} {obj : Obj} (hr : r n = some l)
    (hk : h.get n = some k) (hwr : k.wr = true) (hm : h.get m = none) (hlt : m < h.next) (hl : l2.b = l.b) (hsame : ∀ b, b ≠ l.b → w'.heap[b]? = w.heap[b]?)
    (hobj : w'.heap[l.b]? = some obj) (hb : BlkRel (r.add m l2) l2 k' (some obj)) (ex : (w'.os, w'.output) = (w.os, w.output) := by rfl) : HRel prot (r.add m l2) ((h.set n .dead).set m k') w' := by
  have hmn : m ≠ n := fun e => by subst e; rw [hm] at hk; cases hk
  have hrm : r m = none := (hh.dom m).2 hm
  have h1 := hh.kill (n := n) (by rw [hk]; simp)
  have apartL : ∀ q lq kq, q ≠ n → r q = some lq → h.get q = some kq → kq ≠ .dead → lq.b ≠ l.b := fun q lq kq hq h2 g2 hd2 =>
    (hh.inj n q l lq k kq (Ne.symm hq) hr h2 hk g2 hwr hd2).symm
  have hprot : ∀ b o, prot b = some o → b ≠ l.b := fun b o hb' e => by
    have := hh.keep b o hb' n l k hr e.symm hk
    rw [hwr] at this; cases this.1
  refine ⟨fun q => ?_, fun q hq => ?_, fun q lq kq hq hkq => ?_, fun q q' l3 l4 k3 k4 hqq g3 g4 f3 f4 hw3 hd4 => ?_, fun b o hb' => ?_, fun b o hb' q lq kq hq hlb hkq => ?_, ex.trans hh.ext⟩
  · by_cases e : q = m
    · subst e; simp [Ren.add, Heap.set]
    · rw [Ren.add_ne _ _ e, Heap.set_ne _ _ e]; exact h1.dom q
  · have : q ≠ m := by simp only [Heap.set] at hq; omega
    rw [Heap.set_ne _ _ this]; exact h1.fresh q hq
  · by_cases e : q = m
    · subst e
      rw [Ren.add_same] at hq; cases hq
      rw [Heap.set_same] at hkq; cases hkq
      rw [hl, hobj]; exact hb
    · rw [Ren.add_ne _ _ e] at hq
      rw [Heap.set_ne _ _ e] at hkq
      by_cases hd : kq = .dead
      · subst hd; trivial
      · have e2 : q ≠ n := fun e => by subst e; rw [Heap.set_same] at hkq; cases hkq; exact hd rfl
        rw [Heap.set_ne _ _ e2] at hkq
        rw [hsame _ (apartL q lq kq e2 hq hkq hd)]
        exact (hh.blk q lq kq hq hkq).mono (Ren.le_add hrm l2)
  · by_cases e : q = m
    · subst e
      rw [Ren.add_same] at g3; cases g3
      have e' : q' ≠ q := Ne.symm hqq
      rw [Ren.add_ne _ _ e'] at g4; rw [Heap.set_ne _ _ e'] at f4
      have e2 : q' ≠ n := fun e => by subst e; rw [Heap.set_same] at f4; cases f4; exact hd4 rfl
      rw [Heap.set_ne _ _ e2] at f4
      have := apartL q' l4 k4 e2 g4 f4 hd4
      omega
    · rw [Ren.add_ne _ _ e] at g3; rw [Heap.set_ne _ _ e] at f3
      have e2 : q ≠ n := fun e => by subst e; rw [Heap.set_same] at f3; cases f3; simp [Blk.wr] at hw3
      rw [Heap.set_ne _ _ e2] at f3
      by_cases e' : q' = m
      · subst e'
        rw [Ren.add_same] at g4; cases g4
        have := apartL q l3 k3 e2 g3 f3 (by intro e; subst e; simp [Blk.wr] at hw3)
        omega
      · rw [Ren.add_ne _ _ e'] at g4; rw [Heap.set_ne _ _ e'] at f4
        have e3 : q' ≠ n := fun e => by subst e; rw [Heap.set_same] at f4; cases f4; exact hd4 rfl
        rw [Heap.set_ne _ _ e3] at f4
        exact hh.inj q q' l3 l4 k3 k4 hqq g3 g4 f3 f4 hw3 hd4
  · rw [hsame _ (hprot b o hb')]; exact hh.safe b o hb'
  · by_cases e : q = m
    · subst e
      rw [Ren.add_same] at hq; cases hq
      exact absurd (hlb ▸ hl) (hprot b o hb')
    · rw [Ren.add_ne _ _ e] at hq; rw [Heap.set_ne _ _ e] at hkq
      exact h1.keep b o hb' q lq kq hq hlb hkq
end Go.Mir

