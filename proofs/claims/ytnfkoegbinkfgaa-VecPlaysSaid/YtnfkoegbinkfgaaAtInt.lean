/-
  vec.Vec[int]: At and Set, elements of one cell. Conditions: stated at each theorem.
-/
import Derived.Test.YtnfkoegbinkfgaaVecInt
namespace Go.Proofs.Ytnfkoegbinkfgaa
open Go.RowKit Go.Lib

set_option maxHeartbeats 1000000 in
theorem at31_no (p : Nat) (r : Option Nat) (n : Nat) (xs : List Value) (i : Int) (w : World) (h : Vec 58 3 1 w p r n xs) (hn : i < 0 ∨ (n : Int) ≤ i) :
    Calls Try.prog 18 #[.pointer (some ⟨p, 0, none⟩), .int .i64 i] w fun e w' => e = .returned (.tuple #[.int .i64 0, .bool false]) ∧ w = w' := by
  have hH := Lib.hid (has31_no p r n xs i w h hn)
  clear h hn
  go_enter Try.func18, Try.ntmps18
  go_wp2_with (go_at_call 28; refine hH.out.mono ?_; rintro e w1 ⟨rfl, rfl⟩)
  go_ret2
  exact ⟨rfl, rfl⟩

set_option maxHeartbeats 1000000 in
theorem at31 (p : Nat) (r : Option Nat) (n : Nat) (xs : List Value) (i : Nat) (x : Int) (w : World) (h : Vec 58 3 1 w p r n xs) (hx : xs[i]? = some (.int .i64 x)) :
    Calls Try.prog 18 #[.pointer (some ⟨p, 0, none⟩), .int .i64 i] w fun e w' => e = .returned (.tuple #[.int .i64 x, .bool true]) ∧ w = w' := by
  obtain ⟨a, c, hp, ho, hr⟩ := h.ex
  have hxl := ho.1
  have hin : i < n := by have := (List.getElem?_eq_some_iff.1 hx).1; omega
  have hH := Lib.hid (has31_yes p r n xs i w h (by omega) (by omega))
  have hc : w.cell? ⟨p, 0, none⟩ = some (.slice a n c) := by rw [blk_cell hp]; rfl
  rcases ho.2 with ⟨_, h0⟩ | ⟨g, cap, cur, hv, _, hg, hnc, hcm, hcs, htk⟩
  · omega
  injection hv with hv1 hv2 hv3
  subst hv1 hv3
  have hc2 : w.cell? ⟨g, i, none⟩ = some (.int .i64 x) := by
    rw [blk_cell hg]
    rw [← htk, List.getElem?_take] at hx
    split at hx
    · simpa using hx
    · cases hx
  clear h hp ho hr hxl hg hcs htk hx
  go_enter Try.func18, Try.ntmps18
  go_wp2_with (go_at_call 28; refine hH.out.mono ?_; rintro e w1 ⟨rfl, rfl⟩)
  go_ret2
  exact ⟨rfl, rfl⟩

set_option maxHeartbeats 1000000 in
theorem set31_no (p : Nat) (r : Option Nat) (n : Nat) (xs : List Value) (i : Int) (v : Value) (w : World) (h : Vec 58 3 1 w p r n xs) (hn : i < 0 ∨ (n : Int) ≤ i) :
    Calls Try.prog 17 #[.pointer (some ⟨p, 0, none⟩), .int .i64 i, v] w fun e w' => e = .returned (.bool false) ∧ w = w' := by
  have hH := Lib.hid (has31_no p r n xs i w h hn)
  clear h hn
  go_enter Try.func17, Try.ntmps17
  go_wp2_with (go_at_call 28; refine hH.out.mono ?_; rintro e w1 ⟨rfl, rfl⟩)
  go_ret
  exact ⟨rfl, rfl⟩

theorem setvec31 {w : World} {p : Nat} {r : Option Nat} {n : Nat} {xs : List Value} {g c i : Nat} {cur : Array Value} {v : Value} (h : Vec 58 3 1 w p r n xs) (hr : r = some g) (ho : w.ownsRow 0 3 1 (.slice (some ⟨g, 0, none⟩) n c) n xs) (hp : w.heap[p]? = some (.cells #[.slice (some ⟨g, 0, none⟩) n c] 58 (0, 0)))
    (hg : w.heap[g]? = some (.cells cur 3 (0, 0))) (hi : i < n) (hv : v.oneCell' = true) : VecPost31 w p r n (xs.set i v) (w.setCell ⟨g, i, none⟩ v) := by
  subst hr
  have hpg : p ≠ g := fun hh => h.ne (by rw [hh])
  have hxl := ho.1
  refine ⟨some g, ⟨⟨some ⟨g, 0, none⟩, c, ?_, ?_, rfl⟩, ?_, h.ne⟩, Keep.setCell w _ _ (by simp), .inl rfl⟩
  · exact (setCell_other _ _ hpg).trans hp
  · rcases ho.2 with ⟨_, h0⟩ | ⟨g', cap, cur', hv', _, hg', hnc, hcm, hcs, htk⟩
    · omega
    injection hv' with hv1 hv2 hv3
    injection hv1 with hv1
    injection hv1 with hv1
    subst hv1 hv3
    rw [hg] at hg'
    injection hg' with hg'
    injection hg' with hg'
    subst hg'
    refine ⟨by simpa using hxl, .inr ⟨g, c, _, rfl, Nat.zero_le _, setCell_heap hg i v, hnc, hcm, by simpa using hcs, ?_⟩⟩
    rw [Array.toList_setIfInBounds, List.take_set, htk]
  · intro x hx
    rcases List.mem_or_eq_of_mem_set hx with hx | hx
    · exact h.one x hx
    · rw [hx]; exact hv

set_option maxHeartbeats 1000000 in
theorem set31 (p : Nat) (r : Option Nat) (n : Nat) (xs : List Value) (i : Nat) (x : Int) (w : World) (h : Vec 58 3 1 w p r n xs) (hi : i < n) :
    Calls Try.prog 17 #[.pointer (some ⟨p, 0, none⟩), .int .i64 i, .int .i64 x] w fun e w' => e = .returned (.bool true) ∧ VecPost31 w p r n (xs.set i (.int .i64 x)) w' := by
  obtain ⟨a, c, hp, ho, hr⟩ := h.ex
  have hH := Lib.hid (has31_yes p r n xs i w h (by omega) (by omega))
  have hc : w.cell? ⟨p, 0, none⟩ = some (.slice a n c) := by rw [blk_cell hp]; rfl
  rcases ho.2 with ⟨_, h0⟩ | ⟨g, cap, cur, hv, _, hg, hnc, hcm, hcs, htk⟩
  · omega
  injection hv with hv1 hv2 hv3
  subst hv1 hv3
  have hc2 : ∃ y, w.cell? ⟨g, i, none⟩ = some y := ⟨cur[i]'(by omega), by rw [blk_cell hg]; exact Array.getElem?_eq_getElem (by omega)⟩
  obtain ⟨y, hc2⟩ := hc2
  have hf2 : w.frozen? ⟨g, i, none⟩ = false := blk_frozen hg i
  have HP := Lib.hid (setvec31 h hr ho hp hg hi (v := .int .i64 x) rfl)
  clear h hp ho hr hg hcs htk
  go_enter Try.func17, Try.ntmps17
  go_wp2_with (go_at_call 28; refine hH.out.mono ?_; rintro e w1 ⟨rfl, rfl⟩)
  go_ret
  exact ⟨rfl, HP.out⟩
end Go.Proofs.Ytnfkoegbinkfgaa
