/-
  Lists of places: their cells; At and Set over them. Conditions: stated at each theorem.
-/
import Derived.Test.YtglbhabpenkpdaaVecPos
import Derived.BigRegion
set_option linter.unusedSimpArgs false
set_option linter.unusedVariables false
namespace Go.Proofs.Ytglbhabpenkpdaa
open Go.RowKit Go.Lib

abbrev Pos := Int × Int
def posV (ps : List Pos) : List Value := ps.flatMap fun q => [.int .i64 q.1, .int .i64 q.2]
theorem posV_nil : posV [] = [] := rfl
theorem posV_cons (q : Pos) (ps : List Pos) : posV (q :: ps) = .int .i64 q.1 :: .int .i64 q.2 :: posV ps := rfl
theorem posV_app (a b : List Pos) : posV (a ++ b) = posV a ++ posV b := by simp [posV]
theorem posV_len (ps : List Pos) : (posV ps).length = ps.length * 2 := by
  induction ps with
  | nil => rfl
  | cons q ps ih => rw [posV_cons]; simp only [List.length_cons, ih]; omega
theorem posV_one (ps : List Pos) : ∀ y ∈ posV ps, y.oneCell' = true := by
  induction ps with
  | nil => simp [posV]
  | cons q ps ih =>
    intro y hy
    rw [posV_cons] at hy
    simp only [List.mem_cons] at hy
    rcases hy with rfl | rfl | hy
    · rfl
    · rfl
    · exact ih y hy
theorem posV_take (ps : List Pos) (k : Nat) : posV (ps.take k) = (posV ps).take (k * 2) := by
  induction ps generalizing k with
  | nil => simp [posV]
  | cons q ps ih =>
    cases k with
    | zero => simp [posV]
    | succ k => rw [List.take_succ_cons, posV_cons, posV_cons, show (k + 1) * 2 = k * 2 + 1 + 1 by omega, List.take_succ_cons, List.take_succ_cons, ih]
theorem posV_drop (ps : List Pos) (k : Nat) : posV (ps.drop k) = (posV ps).drop (k * 2) := by
  induction ps generalizing k with
  | nil => simp [posV]
  | cons q ps ih =>
    cases k with
    | zero => simp
    | succ k => rw [List.drop_succ_cons, posV_cons, show (k + 1) * 2 = k * 2 + 1 + 1 by omega, List.drop_succ_cons, List.drop_succ_cons, ih]
theorem posV_get0 (ps : List Pos) (k : Nat) : (posV ps)[k * 2]? = ps[k]?.map fun q => .int .i64 q.1 := by
  induction ps generalizing k with
  | nil => simp [posV]
  | cons q ps ih =>
    cases k with
    | zero => simp [posV_cons]
    | succ k => rw [posV_cons, show (k + 1) * 2 = k * 2 + 1 + 1 by omega, List.getElem?_cons_succ, List.getElem?_cons_succ, ih, List.getElem?_cons_succ]
theorem posV_get1 (ps : List Pos) (k : Nat) : (posV ps)[k * 2 + 1]? = ps[k]?.map fun q => .int .i64 q.2 := by
  induction ps generalizing k with
  | nil => simp [posV]
  | cons q ps ih =>
    cases k with
    | zero => simp [posV_cons]
    | succ k => rw [posV_cons, show (k + 1) * 2 + 1 = k * 2 + 1 + 1 + 1 by omega, List.getElem?_cons_succ, List.getElem?_cons_succ, ih, List.getElem?_cons_succ]
theorem posV_set (ps : List Pos) (k : Nat) (q : Pos) : posV (ps.set k q) = ((posV ps).set (k * 2) (.int .i64 q.1)).set (k * 2 + 1) (.int .i64 q.2) := by
  induction ps generalizing k with
  | nil => simp [posV]
  | cons a ps ih =>
    cases k with
    | zero => simp [posV_cons]
    | succ k => rw [List.set_cons_succ, posV_cons, posV_cons, show (k + 1) * 2 = k * 2 + 1 + 1 by omega, List.set_cons_succ, List.set_cons_succ, List.set_cons_succ, List.set_cons_succ, ih]

def posAgg (q : Pos) : Value := .agg #[.int .i64 q.1, .int .i64 q.2]

set_option maxHeartbeats 1000000 in
theorem at35_no (p : Nat) (r : Option Nat) (n : Nat) (xs : List Value) (i : Int) (w : World) (h : Vec 65 29 2 w p r n xs) (hn : i < 0 ∨ (n : Int) ≤ i) :
    Calls Try.prog 24 #[.pointer (some ⟨p, 0, none⟩), .int .i64 i] w fun e w' => e = .returned (.tuple #[posAgg (0, 0), .bool false]) ∧ Keep [] w w' := by
  have hk : Hid (Keep [] w (((w.alloc (.cells #[.int .i64 0, .int .i64 0] 29)).alloc (.cells #[.int .i64 0, .int .i64 0] 29)))) := (Keep.alloc [] w _).trans (Keep.alloc [] _ _)
  have hH := Lib.hid (has35_no p r n xs i _ (h.keep (Keep.alloc [] w (.cells #[.int .i64 0, .int .i64 0] 29)) (by simp) (by simp)) hn)
  clear h hn
  unfold posAgg
  go_enter Try.func24, Try.ntmps24
  go_wp2_with (go_at_call 33; refine hH.out.mono ?_; rintro e w1 ⟨rfl, rfl⟩)
  have c0 : ((w.alloc (.cells #[.int .i64 0, .int .i64 0] 29)).alloc (.cells #[.int .i64 0, .int .i64 0] 29)).heap[w.heap.size]? = some (.cells #[.int .i64 0, .int .i64 0] 29 (0, 0)) := by
    rw [heap_alloc_old _ _ (by simp)]; exact heap_alloc_new w _
  have d0 := blk_cell c0 0
  have d1 := blk_cell c0 1
  refine bodyPost_ret (v := .tuple #[.agg #[.int .i64 0, .int .i64 0], .bool false]) ?_ rfl ⟨rfl, hk.out⟩
  simp [results, Try.f24, go_sem, d0, d1]

set_option maxHeartbeats 1000000 in
theorem at35 (p : Nat) (r : Option Nat) (ps : List Pos) (i : Nat) (q : Pos) (w : World) (h : Vec 65 29 2 w p r ps.length (posV ps)) (hx : ps[i]? = some q) :
    Calls Try.prog 24 #[.pointer (some ⟨p, 0, none⟩), .int .i64 i] w fun e w' => e = .returned (.tuple #[posAgg q, .bool true]) ∧ Keep [] w w' := by
  have ka : Keep [] w (w.alloc (.cells #[.int .i64 0, .int .i64 0] 29)) := Keep.alloc [] w _
  obtain ⟨w1, hw1⟩ : ∃ w1, w1 = w.alloc (.cells #[.int .i64 0, .int .i64 0] 29) := ⟨_, rfl⟩
  have hR : w1.heap[w.heap.size]? = some (.cells #[.int .i64 0, .int .i64 0] 29 (0, 0)) := by rw [hw1]; exact heap_alloc_new w _
  rw [← hw1] at ka
  have h1 := h.keep ka (by simp) (by simp)
  obtain ⟨a, c, hp, ho, hr⟩ := h1.ex
  have hin : i < ps.length := (List.getElem?_eq_some_iff.1 hx).1
  have hH := Lib.hid (has35_yes p r ps.length _ i w1 h1 (by omega) (by omega))
  have hc : w1.cell? ⟨p, 0, none⟩ = some (.slice a ps.length c) := by rw [blk_cell hp]; rfl
  obtain ⟨g, rfl⟩ := own_addr ho (by omega)
  have hc2 : w1.cell? ⟨g, i * 2, none⟩ = some (.int .i64 q.1) := own_cell ho (by rw [posV_get0, hx]; rfl)
  have hc3 : w1.cell? ⟨g, i * 2 + 1, none⟩ = some (.int .i64 q.2) := own_cell ho (by rw [posV_get1, hx]; rfl)
  have c0 : w1.cell? ⟨w.heap.size, 0, none⟩ = some (.int .i64 0) := by rw [blk_cell hR]; rfl
  have c1 : w1.cell? ⟨w.heap.size, 1, none⟩ = some (.int .i64 0) := by rw [blk_cell hR]; rfl
  have f0 := blk_frozen hR 0
  have f1 := blk_frozen hR 1
  have HR := Lib.hid hR
  have HK : Hid (Keep [] w ((w1.setCell ⟨w.heap.size, 0, none⟩ (.int .i64 q.1)).setCell ⟨w.heap.size, 1, none⟩ (.int .i64 q.2))) :=
    (Keep.refl [] w).trans' ((ka.mono (T := [w.heap.size]) (by simp)).trans ((Keep.setCell w1 _ _ (by simp)).trans (Keep.setCell _ _ _ (by simp)))) (by simp)
  have HW := Lib.hid hw1
  clear h h1 hp ho hr hR hx ka
  unfold posAgg
  obtain ⟨q1, q2⟩ := q
  go_enter Try.func24, Try.ntmps24
  go_wp2_with fail
  rw [← hw1]
  clear hw1
  refine hH.out.mono ?_
  rintro e w2 ⟨rfl, rfl⟩
  go_wp2_with fail
  have k1 := setCell_heap HR.out 0 (.int .i64 q1)
  have k2 := setCell_heap k1 1 (.int .i64 q2)
  have d0 := blk_cell k2 0
  have d1 := blk_cell k2 1
  refine bodyPost_ret (v := .tuple #[.agg #[.int .i64 q1, .int .i64 q2], .bool true]) ?_ rfl ⟨rfl, HK.out⟩
  simp [results, Try.f24, go_sem, d0, d1]

theorem own_set2 {w : World} {e : TypeId} {g n c i : Nat} {xs : List Value} (ho : w.ownsRow 0 e 2 (.slice (some ⟨g, 0, none⟩) n c) n xs) (x y : Value) :
    ((w.setCell ⟨g, i * 2, none⟩ x).setCell ⟨g, i * 2 + 1, none⟩ y).ownsRow 0 e 2 (.slice (some ⟨g, 0, none⟩) n c) n ((xs.set (i * 2) x).set (i * 2 + 1) y) := by
  have hxl := ho.1
  rcases ho.2 with ⟨h, _⟩ | ⟨g', cap, cur', hv', _, hg', hnc, hcm, hcs, htk⟩
  · cases h
  injection hv' with hv1 hv2 hv3
  injection hv1 with hv1
  injection hv1 with hv1
  subst hv1 hv3
  refine ⟨by simpa using hxl, .inr ⟨g, c, _, rfl, Nat.zero_le _, setCell_heap (setCell_heap hg' (i * 2) x) (i * 2 + 1) y, hnc, hcm, by simpa using hcs, ?_⟩⟩
  rw [Array.toList_setIfInBounds, Array.toList_setIfInBounds, List.take_set, List.take_set, htk]

set_option maxHeartbeats 1000000 in
theorem set35 (p : Nat) (r : Option Nat) (ps : List Pos) (i : Nat) (q : Pos) (w : World) (h : Vec 65 29 2 w p r ps.length (posV ps)) (hi : i < ps.length) :
    Calls Try.prog 28 #[.pointer (some ⟨p, 0, none⟩), .int .i64 i, posAgg q] w fun e w' => e = .returned (.bool true) ∧ Vec 65 29 2 w' p r ps.length (posV (ps.set i q)) ∧ Keep r.toList w w' := by
  have ka : Keep [] w (w.alloc (.cells #[.int .i64 q.1, .int .i64 q.2] 29)) := Keep.alloc [] w _
  obtain ⟨w1, hw1⟩ : ∃ w1, w1 = w.alloc (.cells #[.int .i64 q.1, .int .i64 q.2] 29) := ⟨_, rfl⟩
  have hR : w1.heap[w.heap.size]? = some (.cells #[.int .i64 q.1, .int .i64 q.2] 29 (0, 0)) := by rw [hw1]; exact heap_alloc_new w _
  rw [← hw1] at ka
  have h1 := h.keep ka (by simp) (by simp)
  obtain ⟨a, c, hp, ho, hr⟩ := h1.ex
  have hH := Lib.hid (has35_yes p r ps.length _ i w1 h1 (by omega) (by omega))
  have hc : w1.cell? ⟨p, 0, none⟩ = some (.slice a ps.length c) := by rw [blk_cell hp]; rfl
  obtain ⟨g, rfl⟩ := own_addr ho (by omega)
  obtain ⟨z, hz⟩ : ∃ z, ps[i]? = some z := ⟨ps[i]'hi, List.getElem?_eq_getElem hi⟩
  have hc2 : w1.cell? ⟨g, i * 2, none⟩ = some (.int .i64 z.1) := own_cell ho (by rw [posV_get0, hz]; rfl)
  have hc3 : w1.cell? ⟨g, i * 2 + 1, none⟩ = some (.int .i64 z.2) := own_cell ho (by rw [posV_get1, hz]; rfl)
  have hf2 := own_frozen ho (i * 2)
  have hf3 := own_frozen ho (i * 2 + 1)
  have c0 : w1.cell? ⟨w.heap.size, 0, none⟩ = some (.int .i64 q.1) := by rw [blk_cell hR]; rfl
  have c1 : w1.cell? ⟨w.heap.size, 1, none⟩ = some (.int .i64 q.2) := by rw [blk_cell hR]; rfl
  have hpg : p ≠ g := fun hh => h1.ne (by rw [hr, hh]; rfl)
  simp at hr
  have HP : Hid (Vec 65 29 2 ((w1.setCell ⟨g, i * 2, none⟩ (.int .i64 q.1)).setCell ⟨g, i * 2 + 1, none⟩ (.int .i64 q.2)) p r ps.length (posV (ps.set i q)) ∧ Keep r.toList w ((w1.setCell ⟨g, i * 2, none⟩ (.int .i64 q.1)).setCell ⟨g, i * 2 + 1, none⟩ (.int .i64 q.2))) := by
    refine ⟨⟨⟨_, c, (setCell_other _ _ hpg).trans ((setCell_other _ _ hpg).trans hp), by rw [posV_set]; exact own_set2 ho _ _, by simpa using hr⟩, posV_one _, h1.ne⟩, ?_⟩
    rw [hr]
    exact (ka.mono (by simp)).trans ((Keep.setCell w1 _ _ (by simp)).trans (Keep.setCell _ _ _ (by simp)))
  clear h h1 hp ho hr hR ka hz
  unfold posAgg
  obtain ⟨q1, q2⟩ := q
  have x2 : w1.drew.cell? ⟨g, i * 2, none⟩ = some (.int .i64 z.1) := hc2
  go_enter Try.func28, Try.ntmps28
  go_wp2_with fail
  rw [← hw1]
  clear hw1
  refine hH.out.mono ?_
  rintro e w2 ⟨rfl, rfl⟩
  go_wp2_with fail
  go_region
  go_wp2
  go_ret
  exact ⟨rfl, HP.out.1.keep (Keep.drew [] _) (by simp) (by simp), HP.out.2.trans (Keep.drew _ _)⟩
end Go.Proofs.Ytglbhabpenkpdaa
