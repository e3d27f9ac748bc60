/-
  How arguments that came in read: slices of strings and of integers as 'Arg'. Conditions: stated at each theorem.
-/
import Derived.Test.YtglbhabpenkpdaaBase
import Derived.ProofKit
import Derived.SliceStrings
namespace Go.Proofs.Ytglbhabpenkpdaa
open Go.ChangeShapes Go.WideShapes Go.ChangeAt Go.RowKit Go.ChangeMaps

def strV (ss : List ByteArray) : List Value := ss.map .string
theorem strV_one (ss : List ByteArray) : ∀ y ∈ strV ss, y.oneCell' = true := by
  intro y hy
  obtain ⟨s, _, rfl⟩ := List.mem_map.1 hy
  rfl

def intV (k : IntKind) (zs : List Int) : List Value := zs.map (.int k)
theorem intV_one (k : IntKind) (zs : List Int) : ∀ y ∈ intV k zs, y.oneCell' = true := by
  intro y hy
  obtain ⟨s, _, rfl⟩ := List.mem_map.1 hy
  rfl

theorem arg_of_cells {w : World} {a : Addr} {len cap : Nat} {ys : List Value} (hl : ys.length = len) (h1 : ∀ y ∈ ys, y.oneCell' = true) (hc : ∀ j v, ys[j]? = some v → w.cell? (a.add j) = some v) : Arg w 1 (.slice (some a) len cap) len ys none := by
  refine ⟨by omega, h1, ?_⟩
  by_cases h0 : len = 0
  · subst h0
    exact .inl ⟨rfl, _, _, rfl, fun h => by cases h⟩
  · obtain ⟨b, off, spot⟩ := a
    have hs : spot = none := by
      have := World.cell?_spot (hc 0 ys[0] (List.getElem?_eq_getElem (by omega)))
      simpa [Addr.add] using this
    subst hs
    exact .inr ⟨by omega, b, off, cap, rfl, fun j v hj => by have := hc j v hj; rwa [Addr.add_lit] at this, by simp⟩

theorem arg_strings {H : Type} {enc : TypeId × Value → H} {P : Program} {W : World} {base : Nat} {spare : Nat → Bool} {held : Bool} {t e : TypeId} {a : Option Addr} {len cap : Nat} {d : DataW H} {ps : List MemPlace}
    (hu : P.underlying t = some (.slice e)) (he : P.underlying e = some .string) (hc : P.cellsOf e = 1) (h : DataW.Trod enc P W base spare held t (.slice a len cap) d ps) :
    ∃ ss, Arg W 1 (.slice a len cap) len (strV ss) none ∧ len ≤ cap := by
  obtain ⟨fuel, hf⟩ := h
  rcases open_strings hu he hc hf with ⟨hcs, _⟩ | ⟨x, l, c, zs, hcs, _, hl, _, hz, _, hcell, _⟩
  · simp [Value.cells] at hcs
    obtain ⟨rfl, rfl, rfl⟩ := hcs
    exact ⟨[], ⟨rfl, by simp [strV], .inl ⟨rfl, none, 0, rfl, fun _ => rfl⟩⟩, Nat.le_refl _⟩
  · simp [Value.cells] at hcs
    obtain ⟨rfl, rfl, rfl⟩ := hcs
    have hl2 : len ≤ zs.length := by
      rw [hz]
      split
      · exact hl
      · exact Nat.le_refl _
    refine ⟨zs.take len, arg_of_cells (by simp [strV]; omega) (strV_one _) (fun j v hj => ?_), hl⟩
    simp only [strV, List.getElem?_map, List.getElem?_take] at hj
    split at hj
    · rename_i hjl
      rw [List.getElem?_eq_getElem (show j < zs.length by omega)] at hj
      have := hcell j (by omega)
      rw [this]
      simp at hj
      rw [← hj]
      simp [List.getD, show j < zs.length by omega]
    · simp at hj

theorem arg_ints {H : Type} {enc : TypeId × Value → H} {P : Program} {W : World} {base : Nat} {spare : Nat → Bool} {held : Bool} {t e : TypeId} {k : IntKind} {a : Option Addr} {len cap : Nat} {d : DataW H} {ps : List MemPlace}
    (hu : P.underlying t = some (.slice e)) (he : P.underlying e = some (.int k)) (hc : P.cellsOf e = 1) (h : DataW.Trod enc P W base spare held t (.slice a len cap) d ps) :
    ∃ zs, Arg W 1 (.slice a len cap) len (intV k zs) none ∧ len ≤ cap ∧ ∀ z ∈ zs, (Lit.int k z).wf = true := by
  obtain ⟨fuel, hf⟩ := h
  rcases open_ints hu he hc hf with ⟨hcs, _⟩ | ⟨x, l, c, zs, hcs, _, hl, _, hz, _, hcell, hw⟩
  · simp [Value.cells] at hcs
    obtain ⟨rfl, rfl, rfl⟩ := hcs
    exact ⟨[], ⟨rfl, by simp [intV], .inl ⟨rfl, none, 0, rfl, fun _ => rfl⟩⟩, Nat.le_refl _, by simp⟩
  · simp [Value.cells] at hcs
    obtain ⟨rfl, rfl, rfl⟩ := hcs
    have hl2 : len ≤ zs.length := by
      rw [hz]
      split
      · exact hl
      · exact Nat.le_refl _
    refine ⟨zs.take len, arg_of_cells (by simp [intV]; omega) (intV_one _ _) (fun j v hj => ?_), hl, fun z hz => hw z (List.mem_of_mem_take hz)⟩
    simp only [intV, List.getElem?_map, List.getElem?_take] at hj
    split at hj
    · rename_i hjl
      rw [List.getElem?_eq_getElem (show j < zs.length by omega)] at hj
      have := hcell j (by omega)
      rw [this]
      simp at hj
      rw [← hj]
      simp [List.getD, show j < zs.length by omega]
    · simp at hj
end Go.Proofs.Ytglbhabpenkpdaa
