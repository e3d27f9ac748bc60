/-
  JumpsBack: the plain law. Conditions: stated at each theorem.
-/
import Derived.Test.YtglbhabpenkpdaaMapK
set_option linter.unusedSimpArgs false
set_option linter.unusedVariables false
namespace Go.Proofs.Ytglbhabpenkpdaa.Sx
open Go.RowKit Go.Proofs.Ytglbhabpenkpdaa

def psI (bs : List Int) : Nat → List Pos
  | 0 => []
  | i + 1 => pushL (psI bs i) (bs.getD i 0, (i : Int))
def ksI (bs : List Int) : Nat → List Int
  | 0 => []
  | i + 1 => addK (ksI bs i) (bs.getD i 0)

theorem filter_len (x : Int) : ∀ (ps : List Pos), (ps.map (·.1)).Nodup → (ps.filter (otherLine x)).length + (if x ∈ ps.map (·.1) then 1 else 0) = ps.length
  | [], _ => by simp
  | p :: ps, h => by
    simp only [List.map_cons, List.nodup_cons] at h
    have ih := filter_len x ps h.2
    by_cases hx : x = p.1
    · subst hx
      have : (ps.filter (otherLine p.1)).length = ps.length := by rw [if_neg h.1] at ih; simpa using ih
      simp [otherLine, List.filter_cons] at this ⊢
      omega
    · have h1 : otherLine x p = true := by simp [otherLine]; exact fun e => hx (by rw [e])
      have h2 : (x ∈ (p :: ps).map (·.1)) ↔ x ∈ ps.map (·.1) := by simp [hx]
      simp only [List.filter_cons, h1, if_true, List.length_cons, h2]
      omega

structure BI (ps : List Pos) (ks : List Int) (i : Nat) : Prop where
  nd : (ps.map (·.1)).Nodup
  len : ps.length = ks.length
  le : ps.length ≤ i
  mem : ∀ x, x ∈ ps.map (·.1) ↔ x ∈ ks
  lt : ∀ x, x ∈ ps.map (·.1) → x ≤ 255

theorem pushL_small {ps : List Pos} {q : Pos} (h : ps.length ≤ 15) : pushL ps q = ps.filter (otherLine q.1) ++ [q] := by
  unfold pushL
  have : (ps.filter (otherLine q.1)).length ≤ ps.length := List.length_filter_le _ _
  rw [show (ps.filter (otherLine q.1) ++ [q]).length - 16 = 0 by simp; omega]
  rfl

theorem BI.step {ps : List Pos} {ks : List Int} {i : Nat} (h : BI ps ks i) (hi : i ≤ 15) {x : Int} (hx : x ≤ 255) (c : Int) : BI (pushL ps (x, c)) (addK ks x) (i + 1) := by
  have hle := h.le
  rw [pushL_small (by omega)]
  have hl := filter_len x ps h.nd
  have hmem : ∀ y, y ∈ (ps.filter (otherLine x)).map (·.1) ↔ y ∈ ps.map (·.1) ∧ y ≠ x := fun y => by
    simp only [List.mem_map, List.mem_filter, otherLine]
    constructor
    · rintro ⟨q, ⟨h1, h2⟩, rfl⟩
      exact ⟨⟨q, h1, rfl⟩, by simpa using h2⟩
    · rintro ⟨⟨q, h1, rfl⟩, h2⟩
      exact ⟨q, ⟨h1, by simpa using h2⟩, rfl⟩
  have hk : x ∈ ps.map (·.1) ↔ x ∈ ks := h.mem x
  refine ⟨?_, ?_, ?_, fun y => ?_, fun y hy => ?_⟩
  · rw [List.map_append, List.nodup_append]
    refine ⟨?_, by simp, fun a ha b hb => ?_⟩
    · exact (List.filter_sublist.map _).nodup h.nd
    · simp at hb
      subst hb
      exact ((hmem a).1 ha).2
  · unfold addK
    have := h.len
    by_cases hx' : x ∈ ks
    · rw [if_pos hx']
      rw [if_pos (hk.2 hx')] at hl
      simp only [List.length_append, List.length_singleton]; omega
    · rw [if_neg hx']
      rw [if_neg (fun hh => hx' (hk.1 hh))] at hl
      simp only [List.length_append, List.length_singleton]; omega
  · have := List.length_filter_le (otherLine x) ps
    simp only [List.length_append, List.length_singleton]
    omega
  · have := h.mem y
    unfold addK
    simp only [List.map_append, List.mem_append, hmem, List.map_cons, List.map_nil, List.mem_singleton]
    by_cases hxk : x ∈ ks
    · rw [if_pos hxk]
      rw [this]
      constructor
      · rintro (⟨h1, _⟩ | rfl)
        · exact h1
        · exact hxk
      · intro h1
        by_cases hyx : y = x
        · exact .inr hyx
        · exact .inl ⟨h1, hyx⟩
    · rw [if_neg hxk, this]
      simp only [List.mem_append, List.mem_singleton]
      constructor
      · rintro (⟨h1, _⟩ | rfl)
        · exact .inl h1
        · exact .inr rfl
      · rintro (h1 | rfl)
        · exact .inl ⟨h1, fun e => hxk (e ▸ h1)⟩
        · exact .inr rfl
  · simp only [List.map_append, List.mem_append, hmem, List.map_cons, List.map_nil, List.mem_singleton] at hy
    rcases hy with ⟨h1, _⟩ | rfl
    · exact h.lt y h1
    · exact hx

theorem bi (bs : List Int) (hb : ∀ b, b ∈ bs → b ≤ 255) : ∀ i, i ≤ 12 → BI (psI bs i) (ksI bs i) i
  | 0, _ => ⟨by simp [psI], rfl, by simp [psI], by simp [psI, ksI], by simp [psI]⟩
  | i + 1, h => (bi bs hb i (by omega)).step (by omega) (by
      rw [List.getD_eq_getElem?_getD]
      cases hh : bs[i]? with
      | none => decide
      | some b => exact hb b (List.mem_of_getElem? hh)) _

theorem older_far {ps : List Pos} {ks : List Int} {i : Nat} (h : BI ps ks i) (hi : i ≤ 12) {q : Pos} (hq : 255 < q.1) (k : Nat) (hk : 1 ≤ k) (hkl : k ≤ ps.length) :
    ∃ x, olderS ps ps.length q k = (x, true, ps ++ [q], ps.length - k) ∧ newerS (ps ++ [q]) (ps.length - k) k = (q, true, ps.length) ∧ (newerS (ps ++ [q]) ps.length 1).2.1 = false := by
  have hle := h.le
  have hp : pushL ps q = ps ++ [q] := by
    rw [pushL_small (by omega), List.filter_eq_self.2]
    intro a ha
    have := h.lt a.1 (List.mem_map_of_mem ha)
    simp [otherLine]
    omega
  refine ⟨(ps ++ [q]).getD ((ps ++ [q]).length - 1 - k) (0, 0), ?_, ?_, ?_⟩
  · unfold olderS
    rw [if_pos ⟨by omega, by omega⟩, if_neg (by omega), hp, Int.toNat_natCast]
    simp
  · unfold newerS
    rw [if_pos ⟨by omega, by simp; omega⟩, Int.toNat_natCast, show ps.length - k + k = ps.length by omega]
    simp
  · unfold newerS
    rw [if_neg (by simp)]

theorem older_none {ps : List Pos} {q : Pos} (k : Nat) (hkl : ps.length < k) : olderS ps ps.length q k = ((0, 0), false, ps, ps.length) := by
  unfold olderS
  rw [if_neg (by omega)]
end Go.Proofs.Ytglbhabpenkpdaa.Sx
