/-
  JumpsPlay: whatever the input, it answers true, and each argument reads as it did. No condition.
-/
import Derived.Test.YtglbhabpenkpdaaRows
import Derived.Test.YtglbhabpenkpdaaPlayW
import Derived.Deep.Slices
import Derived.ProofKit
import Derived.OpenShut
namespace Go.Proofs.Ytglbhabpenkpdaa.jumpsPlay
open Go.ChangeShapes Go.WideShapes Go.ChangeAt Go.RowKit Go.ChangeMaps
set_option linter.unusedVariables false
set_option linter.unusedSimpArgs false
theorem own : ownKnob Try.prog.godebug = none := by kernel_rfl
theorem laidOut : laidOutB Try.prog = true := by kernel_rfl

theorem open_acts {H : Type} {enc : TypeId × Value → H} {W : World} {base : Nat} {spare : Nat → Bool} {held : Bool} {a : Option Addr} {len cap : Nat} {d : DataW H} {ps : List MemPlace}
    (h : DataW.Trod enc Try.prog W base spare held 39 (.slice a len cap) d ps) :
    (len ≤ cap) ∧ ∀ k, k < len → ∃ b o, a = some ⟨b, o, none⟩ ∧ ∃ x : Sx.Act7, ∀ j v, x.cells[j]? = some v → W.cell? ⟨b, o + (k * 7 + j), none⟩ = some v := by
  obtain ⟨fuel, hf⟩ := h
  have hc7 : Try.prog.cellsOf 44 = 7 := by kernel_rfl
  rcases Go.Deep.open_slice Try.underlying39 hf with ⟨hcs, _⟩ | ⟨x, l, c, m, n, D, Pl, hcs, _, hl, _, hm, _, hx⟩
  · simp [Value.cells] at hcs
    obtain ⟨rfl, rfl, rfl⟩ := hcs
    exact ⟨Nat.le_refl _, fun k hk => by omega⟩
  · simp [Value.cells] at hcs
    obtain ⟨rfl, rfl, rfl⟩ := hcs
    refine ⟨hl, fun k hk => ?_⟩
    obtain ⟨cs', h1, h2⟩ := hx k (by rw [hm]; split <;> omega)
    obtain ⟨_, hl4, hcell⟩ := World.cells?_some h1
    obtain ⟨xs, n', _, _, hl5, hlx, hfld⟩ := DataW.trod_struct Try.underlying44 h2
    rw [hc7] at hl4 hl5 hcell
    match cs', hl4 with
    | [v0, v1, v2, v3, v4, v5, v6], _ =>
      match xs, hlx with
      | [y0, y1, y2, y3, y4, y5], _ =>
        have c5 : Try.prog.cellsOf 5 = 1 := by kernel_rfl
        have c3 : Try.prog.cellsOf 3 = 1 := by kernel_rfl
        have c29 : Try.prog.cellsOf 29 = 2 := by kernel_rfl
        have f0 : DataW.trod enc Try.prog W base spare held n' 5 (List.take (Try.prog.cellsOf 5) [v0, v1, v2, v3, v4, v5, v6]) = some y0 := hfld 0 _ rfl
        have f1 : DataW.trod enc Try.prog W base spare held n' 29 (List.take (Try.prog.cellsOf 29) [v1, v2, v3, v4, v5, v6]) = some y1 := hfld 1 _ rfl
        have f2 : DataW.trod enc Try.prog W base spare held n' 3 (List.take (Try.prog.cellsOf 3) [v3, v4, v5, v6]) = some y2 := hfld 2 _ rfl
        have f3 : DataW.trod enc Try.prog W base spare held n' 3 (List.take (Try.prog.cellsOf 3) [v4, v5, v6]) = some y3 := hfld 3 _ rfl
        have f4 : DataW.trod enc Try.prog W base spare held n' 3 (List.take (Try.prog.cellsOf 3) [v5, v6]) = some y4 := hfld 4 _ rfl
        have f5 : DataW.trod enc Try.prog W base spare held n' 3 (List.take (Try.prog.cellsOf 3) [v6]) = some y5 := hfld 5 _ rfl
        rw [c5] at f0
        rw [c29] at f1
        rw [c3] at f2 f3 f4 f5
        obtain ⟨xs2, n2, _, _, _, hlx2, hfld2⟩ := DataW.trod_struct Try.underlying29 f1
        match xs2, hlx2 with
        | [u0, u1], _ =>
        have g0 : DataW.trod enc Try.prog W base spare held n2 3 (List.take (Try.prog.cellsOf 3) [v1, v2]) = some u0 := hfld2 0 _ rfl
        have g1 : DataW.trod enc Try.prog W base spare held n2 3 (List.take (Try.prog.cellsOf 3) [v2]) = some u1 := hfld2 1 _ rfl
        rw [c3] at g0 g1
        obtain ⟨what, hw, _, _⟩ := DataW.trod_int Try.underlying5 f0
        obtain ⟨z, hz, _, _⟩ := DataW.trod_int Try.underlying3 g0
        obtain ⟨y, hy, _, _⟩ := DataW.trod_int Try.underlying3 g1
        obtain ⟨N, hN, _, _⟩ := DataW.trod_int Try.underlying3 f2
        obtain ⟨A, hA, _, _⟩ := DataW.trod_int Try.underlying3 f3
        obtain ⟨O, hO, _, _⟩ := DataW.trod_int Try.underlying3 f4
        obtain ⟨V, hV, _, _⟩ := DataW.trod_int Try.underlying3 f5
        simp at hw hz hy hN hA hO hV
        subst hw hz hy hN hA hO hV
        obtain ⟨b, o, spot⟩ := x
        have hs : spot = none := by
          obtain ⟨cs0, q1, q2⟩ := hx 0 (by rw [hm]; split <;> omega)
          obtain ⟨_, ql, qc⟩ := World.cells?_some q1
          have q0 := qc 0 (by rw [hc7]; decide)
          rw [hc7] at ql
          obtain ⟨v, r, rfl⟩ : ∃ v r, cs0 = v :: r := by
            cases cs0 with
            | nil => cases ql
            | cons v r => exact ⟨v, r, rfl⟩
          have := World.cell?_spot q0
          simpa [Addr.add] using this
        subst hs
        refine ⟨b, o, rfl, ⟨what, z, y, N, A, O, V⟩, fun j v hj => ?_⟩
        have hj7 : j < 7 := by have := (List.getElem?_eq_some_iff.1 hj).1; simpa [Sx.Act7.cells] using this
        have := hcell j hj7
        have e : (Addr.add ⟨b, o, none⟩ (k * 7)).add j = ⟨b, o + (k * 7 + j), none⟩ := by
          unfold Addr.add
          by_cases hj : j = 0 <;> by_cases hk0 : k * 7 = 0 <;> simp [hj, hk0] <;> omega
        rw [e] at this
        rw [this]
        exact hj

set_option maxRecDepth 100000 in
theorem lifted (os : Os) (started : os.Started) (H : Type) (enc : TypeId × Value → H) :
    ReturnsInHanded {} Try.checked os 5 .any (Rows.jumpsPlaySpec.pre6 enc Try.prog Try.f5 Rows.jumpsPlayRow.domain false) (Rows.jumpsPlaySpec.post enc Try.prog Try.f5 false true false false) := by
  refine returnsInHanded_of_change (C := Try.checked) own started (by kernel_rfl) Try.func5
    (ChangeSpec.witness6 (enc := enc) (C := Try.checked) false ⟨#[], #[.slice none 0 0], []⟩ 8 (by kernel_rfl) (by kernel_rfl) (by kernel_rfl) (by kernel_rfl)) ?_
  intro W base args ds gs before hval0 hW _ _
  have hval : ∀ (j : Nat) t v, Try.f5.params[j]? = some t → args[j]? = some v → Value.okWide Try.prog W .any base t v := hval0
  have hW' := hW
  obtain ⟨p, q, hA0, hV, rfl, _, _⟩ := hW
  have hA : DataW.TrodAll enc Try.prog W 0 (fun _ => true) true Try.f5.params.toList args.toList ds p := hA0
  rw [Try.params5] at hA hval
  obtain ⟨v0, d0, rfl, rfl, h0⟩ := trodAll_one hA
  obtain ⟨rfl, rfl⟩ := trodVars_none hV
  obtain ⟨a0, len0, cap0, rfl⟩ := okWide_slice Try.underlying39 (hval 0 39 v0 rfl rfl)
  have k0 := h0
  have lt0 : ∀ x ∈ p, x.block < W.heap.size := by obtain ⟨m, hm⟩ := k0; exact DataW.trod_lt m _ _ _ hm
  obtain ⟨hc0, hs0⟩ := open_acts h0
  clear hA0 hval0
  obtain ⟨f, hf⟩ : ∃ f : Nat → Sx.Act7, ∀ k, k < len0 → ∃ b o, a0 = some ⟨b, o, none⟩ ∧ ∀ j v, (f k).cells[j]? = some v → W.cell? ⟨b, o + (k * 7 + j), none⟩ = some v := by
    refine ⟨fun k => if hk : k < len0 then (hs0 k hk).choose_spec.choose_spec.2.choose else ⟨0, 0, 0, 0, 0, 0, 0⟩, fun k hk => ?_⟩
    simp only [dif_pos hk]
    exact ⟨_, _, (hs0 k hk).choose_spec.choose_spec.1, (hs0 k hk).choose_spec.choose_spec.2.choose_spec⟩
  have hrow : Sx.RowOK W [] (Sx.rowY a0 cap0 len0 f 0) := by
    refine ⟨fun hn => ?_, fun k hk => rfl, hc0⟩
    have hn : 0 < len0 := hn
    obtain ⟨b, o, ha, hc⟩ := hf 0 hn
    refine ⟨b, o, ha, ?_, by simp, fun k hk j hj => ?_⟩
    · have h1 := hc 0 _ rfl
      have := World.block_lt_of_cell? _ _ h1
      simpa using this
    · have hk : k < len0 := hk
      have hj : j < 7 := hj
      obtain ⟨b2, o2, ha2, hc2⟩ := hf k hk
      rw [ha] at ha2
      injection ha2 with ha2
      injection ha2 with h3 h4
      subst h3 h4
      have hlj : j < (f k).cells.length := hj
      have := hc2 j _ (List.getElem?_eq_getElem hlj)
      show W.cell? ⟨b, o + (k * 7 + j), none⟩ = (f k).cells[j]?
      rw [this, List.getElem?_eq_getElem hlj]
  refine (Sx.play5 a0 cap0 len0 f W hrow).mono fun e W' ⟨he, hk⟩ => ?_
  have bel : Below W.heap.size W W' := hk.below (Nat.le_refl _) (by simp)
  subst he
  exact ⟨_, rfl, _, _, _, [], _, [], hW', trodAll_mk1 (shut_bool Try.underlying4 _), trodAll_mk1 (Below.trod laidOut (by kernel_rfl) (of_decide_eq_true (by kernel_rfl)) k0 bel lt0), rfl, bel.frame _, fun h => by cases h⟩

theorem proved : Rows.JumpsPlaySaid :=
  OpenClaim.holds_of_wide 5 Try.f5 rfl rfl rfl rfl rfl rfl rfl ⟨rfl, rfl, rfl, rfl, rfl⟩ rfl rfl rfl rfl rfl (by kernel_rfl) Try.func5 (by kernel_rfl)
    (of_decide_eq_true (by kernel_rfl)) (by unfold Func.isWrapper; first | (rw [if_pos (by decide +kernel)]; kernel_rfl) | (rw [if_neg (by decide +kernel)]; exact ⟨rfl, rfl⟩))
    (fun os started H enc _ => lifted os started H enc)
end Go.Proofs.Ytglbhabpenkpdaa.jumpsPlay
namespace Go.Proofs.Ytglbhabpenkpdaa
theorem jumpsPlay_holds : Rows.JumpsPlaySaid := jumpsPlay.proved
#print axioms jumpsPlay_holds
end Go.Proofs.Ytglbhabpenkpdaa
