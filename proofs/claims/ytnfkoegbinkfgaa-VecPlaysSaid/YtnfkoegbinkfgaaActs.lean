/-
  A script of the list law, read: each record's four cells. Conditions: stated at each theorem.
-/
import Derived.Test.YtnfkoegbinkfgaaSame
import Derived.Test.YtnfkoegbinkfgaaRow
import Derived.Deep.Slices
set_option linter.unusedSimpArgs false
set_option linter.unusedVariables false
namespace Go.Proofs.Ytnfkoegbinkfgaa
open Go.ChangeShapes Go.WideShapes Go.ChangeAt Go.RowKit Go.ChangeMaps
/-- One record of a script at (b, o). -/
def ActAt (W : World) (b o : Nat) (what I N : Int) (aX : Option Addr) (nX cX : Nat) (zs : List Int) : Prop :=
  W.cell? ⟨b, o, none⟩ = some (.int .u8 what) ∧ W.cell? ⟨b, o + 1, none⟩ = some (.int .i64 I) ∧ W.cell? ⟨b, o + 2, none⟩ = some (.int .i64 N) ∧ W.cell? ⟨b, o + 3, none⟩ = some (.slice aX nX cX) ∧
    Arg W 1 (.slice aX nX cX) nX (ints zs) none ∧ (0 ≤ what ∧ what ≤ 255) ∧ (-9223372036854775808 ≤ I ∧ I ≤ 9223372036854775807) ∧ (-9223372036854775808 ≤ N ∧ N ≤ 9223372036854775807) ∧ b < W.heap.size

theorem wf_i64 {z : Int} (h : (Lit.int .i64 z).wf = true) : -9223372036854775808 ≤ z ∧ z ≤ 9223372036854775807 := by
  have hm : IntKind.i64.min = -9223372036854775808 := by kernel_rfl
  have hx : IntKind.i64.max = 9223372036854775807 := by kernel_rfl
  simp only [Lit.wf, Bool.and_eq_true, decide_eq_true_eq] at h
  rw [hm, hx] at h
  exact h

theorem wf_u8 {z : Int} (h : (Lit.int .u8 z).wf = true) : 0 ≤ z ∧ z ≤ 255 := by
  have hm : IntKind.u8.min = 0 := by kernel_rfl
  have hx : IntKind.u8.max = 255 := by kernel_rfl
  simp only [Lit.wf, Bool.and_eq_true, decide_eq_true_eq] at h
  rw [hm, hx] at h
  exact h

theorem open_acts {H : Type} {enc : TypeId × Value → H} {W : World} {base : Nat} {spare : Nat → Bool} {held : Bool} {a : Option Addr} {len cap : Nat} {d : DataW H} {ps : List MemPlace}
    (h : DataW.Trod enc Try.prog W base spare held 32 (.slice a len cap) d ps) :
    ∀ k, k < len → ∃ b o, a = some ⟨b, o, none⟩ ∧ ∃ what I N aX nX cX zs, ActAt W b (o + 4 * k) what I N aX nX cX zs := by
  obtain ⟨fuel, hf⟩ := h
  have hc4 : Try.prog.cellsOf 36 = 4 := by kernel_rfl
  rcases Go.Deep.open_slice Try.underlying32 hf with ⟨hcs, _⟩ | ⟨x, l, c, m, n, D, Pl, hcs, _, hl, _, hm, _, hx⟩
  · simp [Value.cells] at hcs
    obtain ⟨rfl, rfl, rfl⟩ := hcs
    intro k hk
    omega
  · simp [Value.cells] at hcs
    obtain ⟨rfl, rfl, rfl⟩ := hcs
    intro k hk
    obtain ⟨cs', h1, h2⟩ := hx k (by rw [hm]; split <;> omega)
    obtain ⟨_, hl4, hcell⟩ := World.cells?_some h1
    obtain ⟨xs, n', _, _, hl5, hlx, hfld⟩ := DataW.trod_struct Try.underlying36 h2
    rw [hc4] at hl4 hl5 hcell
    match cs', hl4 with
    | [v0, v1, v2, v3], _ =>
      match xs, hlx with
      | [y0, y1, y2, y3], _ =>
        have c5 : Try.prog.cellsOf 5 = 1 := by kernel_rfl
        have c3 : Try.prog.cellsOf 3 = 1 := by kernel_rfl
        have c31 : Try.prog.cellsOf 31 = 1 := by kernel_rfl
        have f0 : DataW.trod enc Try.prog W base spare held n' 5 (List.take (Try.prog.cellsOf 5) [v0, v1, v2, v3]) = some y0 := hfld 0 _ rfl
        have f1 : DataW.trod enc Try.prog W base spare held n' 3 (List.take (Try.prog.cellsOf 3) [v1, v2, v3]) = some y1 := hfld 1 _ rfl
        have f2 : DataW.trod enc Try.prog W base spare held n' 3 (List.take (Try.prog.cellsOf 3) [v2, v3]) = some y2 := hfld 2 _ rfl
        have f3 : DataW.trod enc Try.prog W base spare held n' 31 (List.take (Try.prog.cellsOf 31) [v3]) = some y3 := hfld 3 _ rfl
        rw [c5] at f0
        rw [c3] at f1 f2
        rw [c31] at f3
        obtain ⟨what, hw, _, ww⟩ := DataW.trod_int Try.underlying5 f0
        obtain ⟨I, hI, _, wI⟩ := DataW.trod_int Try.underlying3 f1
        obtain ⟨N, hN, _, wN⟩ := DataW.trod_int Try.underlying3 f2
        simp at hw hI hN
        subst hw hI hN
        obtain ⟨aX, nX, cX, rfl⟩ : ∃ aX nX cX, v3 = .slice aX nX cX := by
          rcases DataW.trod_slice Try.underlying31 f3 with ⟨hc, _⟩ | ⟨a', l', c', _, _, _, _, hc, _⟩
          · exact ⟨none, 0, 0, by simpa using hc⟩
          · exact ⟨some a', l', c', by simpa using hc⟩
        obtain ⟨zs, hz, _, _⟩ := arg_ints (k := .i64) (d := y3.1) (ps := y3.2) Try.underlying31 Try.underlying3 (by kernel_rfl) ⟨_, f3⟩
        have g0 := hcell 0 (by decide)
        have g1 := hcell 1 (by decide)
        have g2 := hcell 2 (by decide)
        have g3 := hcell 3 (by decide)
        simp only [List.getElem?_cons_zero, List.getElem?_cons_succ] at g0 g1 g2 g3
        obtain ⟨b, o, spot⟩ := x
        have hs : spot = none := by
          obtain ⟨cs0, q1, q2⟩ := hx 0 (by rw [hm]; split <;> omega)
          obtain ⟨_, ql, qc⟩ := World.cells?_some q1
          have q0 := qc 0 (by rw [hc4]; decide)
          rw [hc4] at ql
          obtain ⟨v, r, rfl⟩ : ∃ v r, cs0 = v :: r := by
            cases cs0 with
            | nil => cases ql
            | cons v r => exact ⟨v, r, rfl⟩
          have := World.cell?_spot q0
          simpa [Addr.add] using this
        subst hs
        have e : ∀ j, (Addr.add ⟨b, o, none⟩ (k * 4)).add j = ⟨b, o + 4 * k + j, none⟩ := by
          intro j
          unfold Addr.add
          by_cases hj : j = 0 <;> by_cases hk0 : k * 4 = 0 <;> simp [hj, hk0] <;> omega
        rw [e] at g0 g1 g2 g3
        exact ⟨b, o, rfl, what, I, N, aX, nX, cX, zs, g0, g1, g2, g3, hz, wf_u8 ww, wf_i64 wI, wf_i64 wN, by
          have := World.block_lt_of_cell? _ _ g0
          simpa using this⟩
end Go.Proofs.Ytnfkoegbinkfgaa
