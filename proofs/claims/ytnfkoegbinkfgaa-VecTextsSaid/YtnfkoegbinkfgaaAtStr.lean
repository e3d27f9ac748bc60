/-
  vec.Vec[string]: At and Set, elements of one cell. Conditions: stated at each theorem.
-/
import Derived.Test.YtnfkoegbinkfgaaVecStr
namespace Go.Proofs.Ytnfkoegbinkfgaa
open Go.RowKit Go.Lib

set_option maxHeartbeats 1000000 in
theorem at22_no (p : Nat) (r : Option Nat) (n : Nat) (xs : List Value) (i : Int) (w : World) (h : Vec 53 9 1 w p r n xs) (hn : i < 0 ∨ (n : Int) ≤ i) :
    Calls Try.prog 12 #[.pointer (some ⟨p, 0, none⟩), .int .i64 i] w fun e w' => e = .returned (.tuple #[.string ⟨#[]⟩, .bool false]) ∧ w = w' := by
  have hH := Lib.hid (has22_no p r n xs i w h hn)
  clear h hn
  go_enter Try.func12, Try.ntmps12
  go_wp2_with (go_at_call 25; refine hH.out.mono ?_; rintro e w1 ⟨rfl, rfl⟩)
  go_ret2
  exact ⟨rfl, rfl⟩

set_option maxHeartbeats 1000000 in
theorem at22 (p : Nat) (r : Option Nat) (n : Nat) (xs : List Value) (i : Nat) (x : ByteArray) (w : World) (h : Vec 53 9 1 w p r n xs) (hx : xs[i]? = some (.string x)) :
    Calls Try.prog 12 #[.pointer (some ⟨p, 0, none⟩), .int .i64 i] w fun e w' => e = .returned (.tuple #[.string x, .bool true]) ∧ w = w' := by
  obtain ⟨a, c, hp, ho, hr⟩ := h.ex
  have hxl := ho.1
  have hin : i < n := by have := (List.getElem?_eq_some_iff.1 hx).1; omega
  have hH := Lib.hid (has22_yes p r n xs i w h (by omega) (by omega))
  have hc : w.cell? ⟨p, 0, none⟩ = some (.slice a n c) := by rw [blk_cell hp]; rfl
  rcases ho.2 with ⟨_, h0⟩ | ⟨g, cap, cur, hv, _, hg, hnc, hcm, hcs, htk⟩
  · omega
  injection hv with hv1 hv2 hv3
  subst hv1 hv3
  have hc2 : w.cell? ⟨g, i, none⟩ = some (.string x) := by
    rw [blk_cell hg]
    rw [← htk, List.getElem?_take] at hx
    split at hx
    · simpa using hx
    · cases hx
  clear h hp ho hr hxl hg hcs htk hx
  go_enter Try.func12, Try.ntmps12
  go_wp2_with (go_at_call 25; refine hH.out.mono ?_; rintro e w1 ⟨rfl, rfl⟩)
  go_ret2
  exact ⟨rfl, rfl⟩

end Go.Proofs.Ytnfkoegbinkfgaa
