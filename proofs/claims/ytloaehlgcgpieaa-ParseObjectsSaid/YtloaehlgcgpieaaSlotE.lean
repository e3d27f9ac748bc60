/-
  Slices of bytes for the reckoner: what is made, appended, written. Conditions: stated at each theorem.
-/
import Derived.Test.YtloaehlgcgpieaaSlotR
set_option linter.all false
namespace Go.Proofs.Ytloaehlgcgpieaa.Sx
open Go.RowKit Go.Proofs.Ytloaehlgcgpieaa

abbrev bytesV (xs : List Int) : SlV := .ints 22 5 .u8 xs
theorem elt5 : Elt Try.prog 22 5 1 1 (.int .u8 0) := ⟨Try.underlying22, by kernel_rfl, rfl, by simp [Value.cells, Value.oneCell'], by decide, by decide⟩
theorem bytesT (xs : List Int) : SlT (bytesV xs) := ⟨⟨1, _, elt5, by decide⟩, ty5_ok.sizeOf, ty5_ok.isAgg⟩

theorem arg_rd {w : World} {u : Value} {v : SlV} (h : RdV w u v) : Arg w 1 u v.len v.vals none := by
  obtain ⟨ad, c, rfl, hnil, hcap, hsp, hcell⟩ := h.ex
  refine ⟨by rw [vals_len]; omega, vals_one v, ?_⟩
  by_cases h0 : v.len = 0
  · refine .inl ⟨h0, ad, c, by rw [h0], hnil⟩
  · refine .inr ⟨by omega, ?_⟩
    obtain ⟨b, o, h1, _⟩ := hcell 0 _ (List.getElem?_eq_getElem (by rw [vals_len]; omega))
    subst h1
    refine ⟨b, o, c, rfl, fun j y hj => ?_, by simp⟩
    obtain ⟨b', o', h2, h3⟩ := hcell j y hj
    injection h2 with h2
    injection h2 with h4 h5
    subst h4 h5
    exact h3

/-- Appended to a slice that is full: a new row. -/
theorem app_full {w : World} {u1 u2 : Value} {xs ys : List Int} (h1 : RdV w u1 (bytesV xs)) (hfull : ∃ ad, u1 = .slice ad xs.length xs.length) (h2 : RdV w u2 (bytesV ys)) (hy : 1 ≤ ys.length) (hsm : xs.length + ys.length ≤ 1000000) :
    ∃ a' c' w', (∀ ty, (Builtin.append_ #[22, 22] ty #[u1, u2]).run Try.prog w = .ok (.slice a' (xs.length + ys.length) c') w') ∧ w'.ownsRow 0 5 1 (.slice a' (xs.length + ys.length) c') (xs.length + ys.length) ((bytesV (xs ++ ys)).vals) ∧ Keep [] w w' ∧ a'.map (·.block) = some w.heap.size := by
  obtain ⟨ad, rfl⟩ := hfull
  obtain ⟨ad', c, hu, hnil, hcap, hsp, hcell⟩ := h1.ex
  injection hu with e1 e2 e3
  subst e1 e3
  have hcell : ∀ j v, (bytesV xs).vals[j]? = some v → ∃ b o, ad = some ⟨b, o, none⟩ ∧ w.cell? ⟨b, o + j, none⟩ = some v := hcell
  cases ad with
  | none =>
    have hx : xs = [] := by
      cases xs with
      | nil => rfl
      | cons y ys =>
        obtain ⟨b, o, h1, _⟩ := hcell 0 _ rfl
        cases h1
    subst hx
    obtain ⟨a', c', w', hr, ho, hk, hb⟩ := app_mem elt5 w none 0 0 [] (World.ownsRow_nil _ _ _ _) _ _ _ none (arg_rd h2) (by simp [SlV.len]; omega)
    rw [Nat.zero_add, List.nil_append] at ho
    rw [Nat.zero_add] at hr
    refine ⟨a', c', w', fun ty => by simpa [SlV.len] using hr ty, by simpa [SlV.len] using ho, by simpa using hk, ?_⟩
    rcases hb with hb | hb
    · exfalso
      rcases ho.2 with ⟨_, h0⟩ | ⟨g, cap, cur, h, _⟩
      · have h0 : ys.length = 0 := h0
        omega
      · injection h with h
        rw [h] at hb
        cases hb
    · exact hb
  | some a =>
    obtain ⟨b2, o2, c2, rfl, hc2, _⟩ : ∃ b off c, u2 = .slice (some ⟨b, off, none⟩) ys.length c ∧ (∀ j v, (bytesV ys).vals[j]? = some v → w.cell? ⟨b, off + j, none⟩ = some v) ∧ some b ≠ none := by
      rcases (arg_rd h2).2.2 with ⟨h, _⟩ | ⟨_, h⟩
      · have h : ys.length = 0 := h
        omega
      · exact h
    obtain ⟨b1, o1, sp⟩ := a
    have hsp1 := (hsp _ rfl).1
    simp only at hsp1
    subst hsp1
    have hc1 : ∀ j v, (bytesV xs).vals[j]? = some v → w.cell? ⟨b1, o1 + j, none⟩ = some v := fun j v hj => by
      obtain ⟨b', o', h3, h4⟩ := hcell j v hj
      injection h3 with h3
      injection h3 with h5 h6
      subst h5 h6
      exact h4
    obtain ⟨i0, hi0, hz0, hzs, hzb⟩ := info_parts elt5.info
    have hr := fun ty => run_append_grow (P := Try.prog) w 22 ty 5 i0 _ elt5.und hi0 hz0 ⟨b1, o1, none⟩ xs.length xs.length (bytesV xs).vals (by rw [hzs]; simp [SlV.vals]) (fun j v hj => by rw [Addr.add_lit]; exact hc1 j v hj) ⟨b2, o2, none⟩ ys.length c2 (bytesV ys).vals (by rw [hzs]; simp [SlV.vals]) (fun j v hj => by rw [Addr.add_lit]; exact hc2 j v hj) (by omega) (by omega) (growslice_fits (by omega) (by rw [hzb]; omega))
    have hge := grownCap_ge w (xs.length + ys.length) xs.length 5
    have hcm : grownCap w (xs.length + ys.length) xs.length 5 ≤ maxLen := grownCap_le_maxLen w _ _ 5 (by unfold maxLen; omega)
    refine ⟨_, _, _, fun ty => hr ty, ⟨?_, .inr ⟨w.heap.size, _, _, rfl, Nat.zero_le _, heap_alloc_new w.drew _, hge, hcm, ?_, ?_⟩⟩, ⟨rfl, rfl, rfl, by simp, fun k hk _ => heap_alloc_old w.drew _ hk⟩, rfl⟩
    · simp [SlV.vals]
    · simp [size_zeroCells, elt5.zsz, SlV.vals]
      omega
    · simp [SlV.vals]
      rw [show xs.length + ys.length = (xs.map (Value.int .u8) ++ ys.map (Value.int .u8)).length by simp, ← List.append_assoc]
      exact List.take_left
end Go.Proofs.Ytloaehlgcgpieaa.Sx
