/-
  Rows put together by append, twice and thrice, with what lies between told. Conditions: stated at each theorem.
-/
import Derived.Test.YtnfkoegbinkfgaaBase
set_option linter.unusedSimpArgs false
set_option linter.unusedVariables false
namespace Go.Proofs.Ytnfkoegbinkfgaa
open Go.RowKit

theorem own_cap {w : World} {e : TypeId} {sz : Nat} {a : Option Addr} {n c : Nat} {xs : List Value} (ho : w.ownsRow 0 e sz (.slice a n c) n xs) : n ≤ c := by
  rcases ho.2 with ⟨h, h0⟩ | ⟨g', cap, cur', hv', _, hg', hnc, _⟩
  · omega
  · injection hv' with _ _ h3
    omega

section
variable {P : Program} {S e sz bytes : Nat} {z : Value}
theorem join2_mem (E : Elt P S e sz bytes z) (w : World) (u1 u2 : Value) (m1 m2 : Nat) (y1 y2 : List Value) (h1 : Arg w sz u1 m1 y1 none) (h2 : Arg w sz u2 m2 y2 none) (hbig : (m1 + m2) * bytes ≤ 140737488355328) :
    ∃ a1 c1 w1 a2 c2 w2, (∀ ty, (Builtin.append_ #[S, S] ty #[.slice none 0 0, u1]).run P w = .ok (.slice a1 m1 c1) w1) ∧
      (∀ ty, (Builtin.append_ #[S, S] ty #[.slice a1 m1 c1, u2]).run P w1 = .ok (.slice a2 (m1 + m2) c2) w2) ∧
      w2.ownsRow 0 e sz (.slice a2 (m1 + m2) c2) (m1 + m2) (y1 ++ y2) ∧ Keep [] w w1 ∧ Keep [] w w2 ∧ (∀ g, a2.map (·.block) = some g → w.heap.size ≤ g) := by
  have hb0 : (0 + m1) * bytes ≤ (m1 + m2) * bytes := Nat.mul_le_mul_right _ (by omega)
  obtain ⟨a1, c1, w1, r1, o1, k1, f1⟩ := app_mem E w none 0 0 [] (World.ownsRow_nil _ _ _ _) u1 m1 y1 none h1 (by omega)
  have g1 : ∀ g, a1.map (·.block) = some g → w.heap.size ≤ g := fun g hg => by
    rcases f1 with f1 | f1
    · rw [hg] at f1; cases f1
    · rw [hg] at f1; injection f1 with f1; omega
  have k1' : Keep [] w w1 := k1.mono (by simp)
  simp only [Nat.zero_add, List.nil_append] at r1 o1
  obtain ⟨a2, c2, w2, r2, o2, k2, f2⟩ := app_mem E w1 a1 m1 c1 y1 o1 u2 m2 y2 none (h2.keep E.pos k1' (fun c _ => ⟨by simp, by simp⟩)) (by omega)
  have g2 : ∀ g, a2.map (·.block) = some g → w.heap.size ≤ g := fun g hg => by
    rcases f2 with f2 | f2
    · rw [hg] at f2; exact g1 g f2.symm
    · rw [hg] at f2; injection f2 with f2; have := k1.size; omega
  have k2' : Keep [] w w2 := k1'.trans' k2 (fun i hi => .inr (g1 i (by simpa using hi)))
  exact ⟨a1, c1, w1, a2, c2, w2, r1, r2, o2, k1', k2', g2⟩

theorem join3_mem' (E : Elt P S e sz bytes z) (w : World) (u1 u2 u3 : Value) (m1 m2 m3 : Nat) (y1 y2 y3 : List Value) (h1 : Arg w sz u1 m1 y1 none) (h2 : Arg w sz u2 m2 y2 none) (h3 : Arg w sz u3 m3 y3 none) (hbig : (m1 + m2 + m3) * bytes ≤ 140737488355328) :
    ∃ a1 c1 w1 a2 c2 w2 a3 c3 w3, (∀ ty, (Builtin.append_ #[S, S] ty #[.slice none 0 0, u1]).run P w = .ok (.slice a1 m1 c1) w1) ∧
      (∀ ty, (Builtin.append_ #[S, S] ty #[.slice a1 m1 c1, u2]).run P w1 = .ok (.slice a2 (m1 + m2) c2) w2) ∧ (∀ ty, (Builtin.append_ #[S, S] ty #[.slice a2 (m1 + m2) c2, u3]).run P w2 = .ok (.slice a3 (m1 + m2 + m3) c3) w3) ∧
      w3.ownsRow 0 e sz (.slice a3 (m1 + m2 + m3) c3) (m1 + m2 + m3) (y1 ++ y2 ++ y3) ∧ Keep [] w w1 ∧ Keep [] w w2 ∧ Keep [] w w3 ∧ (∀ g, a3.map (·.block) = some g → w.heap.size ≤ g) := by
  have hb1 : (m1 + m2) * bytes ≤ (m1 + m2 + m3) * bytes := Nat.mul_le_mul_right _ (by omega)
  obtain ⟨a1, c1, w1, a2, c2, w2, r1, r2, o2, k1', k2', g2⟩ := join2_mem E w u1 u2 m1 m2 y1 y2 h1 h2 (by omega)
  obtain ⟨a3, c3, w3, r3, o3, k3, f3⟩ := app_mem E w2 a2 (m1 + m2) c2 (y1 ++ y2) o2 u3 m3 y3 none (h3.keep E.pos k2' (fun c _ => ⟨by simp, by simp⟩)) hbig
  have g3 : ∀ g, a3.map (·.block) = some g → w.heap.size ≤ g := fun g hg => by
    rcases f3 with f3 | f3
    · rw [hg] at f3; exact g2 g f3.symm
    · rw [hg] at f3; injection f3 with f3; have := k2'.size; omega
  exact ⟨a1, c1, w1, a2, c2, w2, a3, c3, w3, r1, r2, r3, o3, k1', k2', k2'.trans' k3 (fun i hi => .inr (g2 i (by simpa using hi))), g3⟩
end
end Go.Proofs.Ytnfkoegbinkfgaa
