/-
  jumps.List: what a list of jumps is in memory; drop. Conditions: stated at each theorem.
-/
import Derived.Test.YtglbhabpenkpdaaIter
set_option linter.unusedSimpArgs false
set_option linter.unusedVariables false
namespace Go.Proofs.Ytglbhabpenkpdaa
open Go.RowKit Go.Shelf
attribute [local go_sem] Oper.semAt_some
theorem wide_fn (f : FuncId) : Fence.wide.fn f = True := rfl
attribute [local go_sem] wide_fn

theorem Keep.fresh {S : List Nat} {a b : World} (h : Keep S a b) (hs : ∀ i, i ∈ S → a.heap.size ≤ i) : Keep [] a b := (Keep.refl [] a).trans' h (fun i hi => .inr (hs i hi))

/-- A list of jumps behind a pointer. -/
structure JL (w : World) (L p : Nat) (r : Option Nat) (ps : List Pos) (at_ : Int) : Prop where
  box : w.heap[L]? = some (.cells #[.pointer (some ⟨p, 0, none⟩), .int .i64 at_] 51 (0, 0))
  vec : Vec 65 29 2 w p r ps.length (posV ps)
  ne : L ≠ p
  nr : r ≠ some L

theorem JL.keep {S : List Nat} {w w' : World} {L p : Nat} {r : Option Nat} {ps : List Pos} {at_ : Int} (h : JL w L p r ps at_) (k : Keep S w w') (hS : ∀ i, i ∈ L :: p :: r.toList → i ∉ S) : JL w' L p r ps at_ :=
  ⟨k.heap h.box (hS L (by simp)), h.vec.keep k (hS p (by simp)) (fun g hg => hS g (by simp [hg])), h.ne, h.nr⟩

theorem JL.lt {w : World} {L p : Nat} {r : Option Nat} {ps : List Pos} {at_ : Int} (h : JL w L p r ps at_) : ∀ i, i ∈ L :: p :: r.toList → i < w.heap.size := by
  intro i hi
  simp at hi
  rcases hi with rfl | rfl | hi
  · exact blk_lt h.box
  · exact h.vec.lt.1
  · exact h.vec.lt.2 i hi

/-- Where the index stands when all but the first m were gone through. -/
def atK (ps : List Pos) (kp : Pos → Bool) (at_ m : Nat) : Nat := min at_ m + (((ps.take at_).drop m).filter kp).length
def lsK (ps : List Pos) (kp : Pos → Bool) (m : Nat) : List Pos := ps.take m ++ (ps.drop m).filter kp

theorem atK_all (ps : List Pos) (kp : Pos → Bool) (at_ : Nat) (h : at_ ≤ ps.length) : atK ps kp at_ ps.length = at_ := by
  unfold atK
  rw [List.drop_of_length_le (by simp; omega)]
  simp; omega
theorem lsK_all (ps : List Pos) (kp : Pos → Bool) : lsK ps kp ps.length = ps := by simp [lsK]
theorem atK_zero (ps : List Pos) (kp : Pos → Bool) (at_ : Nat) : atK ps kp at_ 0 = ((ps.take at_).filter kp).length := by simp [atK]
theorem lsK_zero (ps : List Pos) (kp : Pos → Bool) : lsK ps kp 0 = ps.filter kp := by simp [lsK]

theorem drop_cons {α : Type} (l : List α) (j : Nat) (h : j < l.length) : l.drop j = l[j] :: l.drop (j + 1) := List.drop_eq_getElem_cons h

theorem lsK_keep (ps : List Pos) (kp : Pos → Bool) (j : Nat) (q : Pos) (hq : ps[j]? = some q) (hk : kp q = true) : lsK ps kp j = lsK ps kp (j + 1) := by
  have hj : j < ps.length := (List.getElem?_eq_some_iff.1 hq).1
  have he : ps[j] = q := (List.getElem?_eq_some_iff.1 hq).2
  unfold lsK
  rw [drop_cons ps j hj, List.filter_cons, he, hk, List.take_add_one, hq]
  simp
theorem lsK_len (ps : List Pos) (kp : Pos → Bool) (j : Nat) (hj : j ≤ ps.length) : (lsK ps kp j).length = j + ((ps.drop j).filter kp).length := by
  simp [lsK]; omega
theorem lsK_drop (ps : List Pos) (kp : Pos → Bool) (j : Nat) (q : Pos) (hq : ps[j]? = some q) (hk : kp q = false) : lsK ps kp j = (lsK ps kp (j + 1)).take j ++ (lsK ps kp (j + 1)).drop (j + 1) := by
  have hj : j < ps.length := (List.getElem?_eq_some_iff.1 hq).1
  have he : ps[j] = q := (List.getElem?_eq_some_iff.1 hq).2
  unfold lsK
  have hl : (ps.take (j + 1)).length = j + 1 := by simp; omega
  rw [drop_cons ps j hj, List.filter_cons, he, hk, List.take_append_of_le_length (by omega), List.drop_append_of_le_length (by omega), List.drop_of_length_le (l := ps.take (j + 1)) (by omega), List.take_take, show min j (j + 1) = j by omega]
  simp
theorem lsK_at (ps : List Pos) (kp : Pos → Bool) (j : Nat) (q : Pos) (hq : ps[j]? = some q) : (lsK ps kp (j + 1))[j]? = some q := by
  have hj : j < ps.length := (List.getElem?_eq_some_iff.1 hq).1
  unfold lsK
  rw [List.getElem?_append_left (by simp; omega), List.getElem?_take, if_pos (by omega), hq]
theorem atK_lt (ps : List Pos) (kp : Pos → Bool) (at_ j : Nat) : (j < atK ps kp at_ (j + 1)) ↔ j < at_ := by
  unfold atK
  constructor
  · intro h
    rcases Nat.lt_or_ge j at_ with h1 | h1
    · exact h1
    · rw [List.drop_of_length_le (by simp; omega)] at h
      simp at h; omega
  · intro h; omega
theorem atK_ge (ps : List Pos) (kp : Pos → Bool) (at_ j : Nat) (h : at_ ≤ j) : atK ps kp at_ j = atK ps kp at_ (j + 1) := by
  unfold atK
  rw [List.drop_of_length_le (by simp; omega), List.drop_of_length_le (by simp; omega)]
  simp; omega
theorem atK_keep (ps : List Pos) (kp : Pos → Bool) (at_ j : Nat) (q : Pos) (hq : ps[j]? = some q) (hk : kp q = true) : atK ps kp at_ j = atK ps kp at_ (j + 1) := by
  rcases Nat.lt_or_ge j at_ with h1 | h1
  · have hj : j < ps.length := (List.getElem?_eq_some_iff.1 hq).1
    have he : ps[j] = q := (List.getElem?_eq_some_iff.1 hq).2
    unfold atK
    rw [drop_cons (ps.take at_) j (by simp; omega), List.getElem_take, he, List.filter_cons, hk]
    simp; omega
  · exact atK_ge ps kp at_ j h1
theorem atK_drop (ps : List Pos) (kp : Pos → Bool) (at_ j : Nat) (q : Pos) (hq : ps[j]? = some q) (hk : kp q = false) (h1 : j < at_) : atK ps kp at_ j + 1 = atK ps kp at_ (j + 1) := by
  have hj : j < ps.length := (List.getElem?_eq_some_iff.1 hq).1
  have he : ps[j] = q := (List.getElem?_eq_some_iff.1 hq).2
  unfold atK
  rw [drop_cons (ps.take at_) j (by simp; omega), List.getElem_take, he, List.filter_cons, hk]
  simp; omega
end Go.Proofs.Ytglbhabpenkpdaa
