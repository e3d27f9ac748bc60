/-
  jumps.List's New, Newer. Conditions: stated at each theorem.
-/
import Derived.Test.YtglbhabpenkpdaaPush
import Derived.Deep.QuietTactic
import Derived.BigQuiet
set_option linter.unusedSimpArgs false
set_option linter.unusedVariables false
namespace Go.Proofs.Ytglbhabpenkpdaa
open Go.RowKit Go.Lib

set_option maxHeartbeats 2000000 in
theorem newL (w : World) : Calls Try.prog 7 #[] w fun e w' => ∃ L p r, e = .returned (.pointer (some ⟨L, 0, none⟩)) ∧ JL w' L p r [] 0 ∧ Keep [] w w' ∧ ∀ i, i ∈ L :: p :: r.toList → w.heap.size ≤ i := by
  have HN := Lib.hid (new35 (.slice none 0 0) 0 [] none w ⟨rfl, by simp, .inl ⟨rfl, none, 0, rfl, fun _ => rfl⟩⟩ (by decide))
  go_enter Try.func7, Try.ntmps7
  go_wp2_with fail
  refine HN.out.mono ?_
  rintro e w1 ⟨p, r, rfl, hv, k1, hp, hr⟩
  have hlt := hv.lt
  have ka : Keep [] w1 (w1.alloc (.cells #[.pointer (some ⟨p, 0, none⟩), .int .i64 0] 51)) := Keep.alloc [] w1 _
  have H : Hid (JL (w1.alloc (.cells #[.pointer (some ⟨p, 0, none⟩), .int .i64 0] 51)) w1.heap.size p r [] 0) :=
    ⟨heap_alloc_new w1 _, hv.keep ka (by simp) (by simp), by omega, fun hh => by have := hlt.2 _ hh; omega⟩
  have HK := Lib.hid (k1.trans ka)
  have hz := k1.size
  clear hv ka k1 hlt
  go_wp2_with fail
  go_ret
  refine ⟨_, p, r, rfl, H.out, HK.out, fun i hi => ?_⟩
  simp at hi
  rcases hi with rfl | rfl | hi
  · omega
  · omega
  · exact hr i hi

/-- Newer where there is none. -/
theorem newer_no (L p : Nat) (r : Option Nat) (ps : List Pos) (at_ : Nat) (n : Int) (w : World) (h : JL w L p r ps at_) (hat : at_ ≤ ps.length) (hlen : ps.length ≤ 16) (hn : n < 1 ∨ (ps.length : Int) - at_ ≤ n) :
    Calls Try.prog 10 #[.pointer (some ⟨L, 0, none⟩), .int .i64 n] w fun e w' => e = .returned (.tuple #[posAgg (0, 0), .bool false]) ∧ Keep [] w w' := by
  have kd : ∀ m, Keep [] w ((w.alloc (.cells #[.int .i64 0, .int .i64 0] 29)).drewN m) := fun m => (Keep.alloc [] w _).trans ⟨rfl, rfl, rfl, Nat.le_refl _, fun _ _ _ => rfl⟩
  have c0 : ∀ m, ((w.alloc (.cells #[.int .i64 0, .int .i64 0] 29)).drewN m).cell? ⟨L, 0, none⟩ = some (.pointer (some ⟨p, 0, none⟩)) := fun m => by rw [blk_cell ((kd m).heap h.box (by simp))]; rfl
  have c1 : ∀ m, ((w.alloc (.cells #[.int .i64 0, .int .i64 0] 29)).drewN m).cell? ⟨L, 1, none⟩ = some (.int .i64 at_) := fun m => by rw [blk_cell ((kd m).heap h.box (by simp))]; rfl
  have c00 : (w.alloc (.cells #[.int .i64 0, .int .i64 0] 29)).cell? ⟨L, 0, none⟩ = some (.pointer (some ⟨p, 0, none⟩)) := c0 0
  have c10 : (w.alloc (.cells #[.int .i64 0, .int .i64 0] 29)).cell? ⟨L, 1, none⟩ = some (.int .i64 at_) := c1 0
  have HL := Lib.hid (fun m => (len35 p r ps.length _ ((w.alloc (.cells #[.int .i64 0, .int .i64 0] 29)).drewN m) (h.vec.keep (kd m) (by simp) (by simp))).mono (R' := fun e w' => e = .returned (.int .i64 ps.length) ∧ w' = (w.alloc (.cells #[.int .i64 0, .int .i64 0] 29)).drewN m) (fun _ _ h => ⟨h.1, h.2.symm⟩))
  have HK := Lib.hid kd
  clear h kd
  by_cases hn1 : n < 1
  · unfold posAgg
    go_enter Try.func10, Try.ntmps10
    go_wp2_with fail
    go_quiet (fail)
    have hR : ((w.alloc (.cells #[.int .i64 0, .int .i64 0] 29)).drewN nq).heap[w.heap.size]? = some (.cells #[.int .i64 0, .int .i64 0] 29 (0, 0)) := heap_alloc_new w _
    have kw := HK.out nq
    obtain ⟨W, hW⟩ : ∃ W, W = (w.alloc (.cells #[.int .i64 0, .int .i64 0] 29)).drewN nq := ⟨_, rfl⟩
    rw [← hW] at hR kw ⊢
    clear hW c0 c1 c00 c10 HL HK
    have r0 : W.cell? ⟨w.heap.size, 0, none⟩ = some (.int .i64 0) := by rw [blk_cell hR]; rfl
    have r1 : W.cell? ⟨w.heap.size, 1, none⟩ = some (.int .i64 0) := by rw [blk_cell hR]; rfl
    have f0 := blk_frozen hR 0
    have f1 := blk_frozen hR 1
    have HR := Lib.hid hR
    have HKW := Lib.hid kw
    clear hR kw
    go_wp2
    have q1 := setCell_heap HR.out 0 (.int .i64 0)
    have q2 := setCell_heap q1 1 (.int .i64 0)
    have d0 := blk_cell q2 0
    have d1 := blk_cell q2 1
    refine bodyPost_ret (v := .tuple #[.agg #[.int .i64 0, .int .i64 0], .bool false]) ?_ rfl ⟨rfl, ?_⟩
    · simp [results, Try.f10, go_sem, d0, d1]
    · exact (Keep.refl [] w).trans' ((HKW.out.mono (T := [w.heap.size]) (by simp)).trans ((Keep.setCell W _ _ (by simp)).trans (Keep.setCell _ _ _ (by simp)))) (by simp)
  · have hd : decide (n < 1) = false := by simp; omega
    have hd2 : (ps.length : Int) - (at_ : Int) ≤ n := by omega
    have hw16 : IntKind.i64.wrap ((ps.length : Int) - (at_ : Int)) = (ps.length : Int) - (at_ : Int) := by rw [IntKind.wrap_i64]; omega
    unfold posAgg
    go_enter Try.func10, Try.ntmps10
    go_wp2_with fail
    go_quiet ((go_at_call 22; exact Calls.quiet_of_same (HL.out _)))
    have hR : ((w.alloc (.cells #[.int .i64 0, .int .i64 0] 29)).drewN nq).heap[w.heap.size]? = some (.cells #[.int .i64 0, .int .i64 0] 29 (0, 0)) := heap_alloc_new w _
    have kw := HK.out nq
    obtain ⟨W, hW⟩ : ∃ W, W = (w.alloc (.cells #[.int .i64 0, .int .i64 0] 29)).drewN nq := ⟨_, rfl⟩
    rw [← hW] at hR kw ⊢
    clear hW c0 c1 c00 c10 HL HK
    have r0 : W.cell? ⟨w.heap.size, 0, none⟩ = some (.int .i64 0) := by rw [blk_cell hR]; rfl
    have r1 : W.cell? ⟨w.heap.size, 1, none⟩ = some (.int .i64 0) := by rw [blk_cell hR]; rfl
    have f0 := blk_frozen hR 0
    have f1 := blk_frozen hR 1
    have HR := Lib.hid hR
    have HKW := Lib.hid kw
    clear hR kw
    go_wp2
    have q1 := setCell_heap HR.out 0 (.int .i64 0)
    have q2 := setCell_heap q1 1 (.int .i64 0)
    have d0 := blk_cell q2 0
    have d1 := blk_cell q2 1
    refine bodyPost_ret (v := .tuple #[.agg #[.int .i64 0, .int .i64 0], .bool false]) ?_ rfl ⟨rfl, ?_⟩
    · simp [results, Try.f10, go_sem, d0, d1]
    · exact (Keep.refl [] w).trans' ((HKW.out.mono (T := [w.heap.size]) (by simp)).trans ((Keep.setCell W _ _ (by simp)).trans (Keep.setCell _ _ _ (by simp)))) (by simp)

/-- Newer where there is one. -/
theorem newer_yes (L p : Nat) (r : Option Nat) (ps : List Pos) (at_ k : Nat) (q : Pos) (w : World) (h : JL w L p r ps at_) (hlen : ps.length ≤ 16) (hk : 1 ≤ k) (hq : ps[at_ + k]? = some q) :
    Calls Try.prog 10 #[.pointer (some ⟨L, 0, none⟩), .int .i64 k] w fun e w' => e = .returned (.tuple #[posAgg q, .bool true]) ∧ JL w' L p r ps ((at_ + k : Nat) : Int) ∧ Keep [L] w w' := by
  have hkl : at_ + k < ps.length := (List.getElem?_eq_some_iff.1 hq).1
  have kd : ∀ m, Keep [] w ((w.alloc (.cells #[.int .i64 0, .int .i64 0] 29)).drewN m) := fun m => (Keep.alloc [] w _).trans ⟨rfl, rfl, rfl, Nat.le_refl _, fun _ _ _ => rfl⟩
  have c0 : ∀ m, ((w.alloc (.cells #[.int .i64 0, .int .i64 0] 29)).drewN m).cell? ⟨L, 0, none⟩ = some (.pointer (some ⟨p, 0, none⟩)) := fun m => by rw [blk_cell ((kd m).heap h.box (by simp))]; rfl
  have c1 : ∀ m, ((w.alloc (.cells #[.int .i64 0, .int .i64 0] 29)).drewN m).cell? ⟨L, 1, none⟩ = some (.int .i64 at_) := fun m => by rw [blk_cell ((kd m).heap h.box (by simp))]; rfl
  have c00 : (w.alloc (.cells #[.int .i64 0, .int .i64 0] 29)).cell? ⟨L, 0, none⟩ = some (.pointer (some ⟨p, 0, none⟩)) := c0 0
  have c10 : (w.alloc (.cells #[.int .i64 0, .int .i64 0] 29)).cell? ⟨L, 1, none⟩ = some (.int .i64 at_) := c1 0
  have HL := Lib.hid (fun m => (len35 p r ps.length _ ((w.alloc (.cells #[.int .i64 0, .int .i64 0] 29)).drewN m) (h.vec.keep (kd m) (by simp) (by simp))).mono (R' := fun e w' => e = .returned (.int .i64 ps.length) ∧ w' = (w.alloc (.cells #[.int .i64 0, .int .i64 0] 29)).drewN m) (fun _ _ h => ⟨h.1, h.2.symm⟩))
  have HK := Lib.hid kd
  have HH := Lib.hid h
  have Hq := Lib.hid hq
  clear h kd hq
  have hd : decide ((k : Int) < 1) = false := by simp; omega
  have hd2 : decide ((ps.length : Int) - (at_ : Int) ≤ (k : Int)) = false := by simp; omega
  have hw16 : IntKind.i64.wrap ((ps.length : Int) - (at_ : Int)) = (ps.length : Int) - (at_ : Int) := by rw [IntKind.wrap_i64]; omega
  have hw17 : IntKind.i64.wrap ((at_ : Int) + (k : Int)) = (at_ : Int) + (k : Int) := by rw [IntKind.wrap_i64]; omega
  unfold posAgg
  obtain ⟨qx, qy⟩ := q
  go_enter Try.func10, Try.ntmps10
  go_wp2_with fail
  go_quiet ((go_at_call 22; exact Calls.quiet_of_same (HL.out _)))
  have hR : ((w.alloc (.cells #[.int .i64 0, .int .i64 0] 29)).drewN nq).heap[w.heap.size]? = some (.cells #[.int .i64 0, .int .i64 0] 29 (0, 0)) := heap_alloc_new w _
  have kw := HK.out nq
  have hLw := blk_lt HH.out.box
  obtain ⟨W, hW⟩ : ∃ W, W = (w.alloc (.cells #[.int .i64 0, .int .i64 0] 29)).drewN nq := ⟨_, rfl⟩
  rw [← hW] at hR kw ⊢
  clear hW c0 c1 c00 c10 HL HK
  have hb := kw.heap HH.out.box (by simp)
  have y1 : W.cell? ⟨L, 1, none⟩ = some (.int .i64 at_) := by rw [blk_cell hb]; rfl
  have fy : W.frozen? ⟨L, 1, none⟩ = false := blk_frozen hb 1
  have ks : Keep [L] W (W.setCell ⟨L, 1, none⟩ (.int .i64 ((at_ : Int) + (k : Int)))) := Keep.setCell W _ _ (by simp)
  have hb2 := setCell_heap hb 1 (.int .i64 ((at_ : Int) + (k : Int)))
  have hR2 := ks.heap hR (by simp; omega)
  have hv2 := (HH.out.vec.keep kw (by simp) (by simp)).keep ks (by simp; exact fun hh => HH.out.ne hh.symm) (fun g hg => by simp; intro hh; subst hh; exact HH.out.nr hg)
  obtain ⟨W2, hW2⟩ : ∃ W2, W2 = W.setCell ⟨L, 1, none⟩ (.int .i64 ((at_ : Int) + (k : Int))) := ⟨_, rfl⟩
  have HW2 := Lib.hid hW2
  rw [← hW2] at ks hb2 hR2 hv2
  have kd2 : Keep [] W2 W2.drew := Keep.drew [] W2
  have s1 : W2.drew.cell? ⟨L, 0, none⟩ = some (.pointer (some ⟨p, 0, none⟩)) ∧ W2.drew.cell? ⟨L, 1, none⟩ = some (.int .i64 ((at_ : Int) + (k : Int))) := ⟨by rw [blk_cell (kd2.heap hb2 (by simp))]; rfl, by rw [blk_cell (kd2.heap hb2 (by simp))]; rfl⟩
  have HAt := Lib.hid (at35 p r ps (at_ + k) (qx, qy) W2.drew (hv2.keep kd2 (by simp) (by simp)) Hq.out)
  have e1 : ((at_ + k : Nat) : Int) = (at_ : Int) + (k : Int) := by omega
  rw [e1] at HAt
  simp only [posAgg] at HAt
  have Hb2 := Lib.hid hb2
  have HR2 := Lib.hid hR2
  have HKS := Lib.hid (And.intro kw ks)
  have Hv2 := Lib.hid hv2
  have HS : Hid (∀ w4, Keep [] W2.drew w4 → (w4.cell? ⟨L, 0, none⟩ = some (.pointer (some ⟨p, 0, none⟩)) ∧ w4.cell? ⟨L, 1, none⟩ = some (.int .i64 ((at_ : Int) + (k : Int)))) ∧ (w4.cell? ⟨w.heap.size, 0, none⟩ = some (.int .i64 0) ∧ w4.cell? ⟨w.heap.size, 1, none⟩ = some (.int .i64 0)) ∧ w4.frozen? ⟨w.heap.size, 0, none⟩ = false ∧ w4.frozen? ⟨w.heap.size, 1, none⟩ = false) := fun w4 k4 => by
    have a1 := k4.heap (kd2.heap hb2 (by simp)) (by simp)
    have a2 := k4.heap (kd2.heap hR2 (by simp)) (by simp)
    exact ⟨⟨by rw [blk_cell a1]; rfl, by rw [blk_cell a1]; rfl⟩, ⟨by rw [blk_cell a2]; rfl, by rw [blk_cell a2]; rfl⟩, blk_frozen a2 0, blk_frozen a2 1⟩
  clear hR kw hb ks hb2 hR2 hv2 kd2 hW2
  go_wp2_with fail
  rw [← HW2.out]
  go_region_held3 (fun V => V.cell? ⟨L, 0, none⟩ = some (.pointer (some ⟨p, 0, none⟩)) ∧ V.cell? ⟨L, 1, none⟩ = some (.int .i64 ((at_ : Int) + (k : Int)))) (first | exact s1 | exact s2 | exact s3) ((first | (go_at_call 24; refine HAt.out.mono ?_; rintro e w4 ⟨rfl, k4⟩; obtain ⟨s2, ⟨r0, r1⟩, f0, f1⟩ := HS.out w4 k4; have s3 : ((w4.setCell ⟨w.heap.size, 0, none⟩ (.int .i64 qx)).setCell ⟨w.heap.size, 1, none⟩ (.int .i64 qy)).cell? ⟨L, 0, none⟩ = some (.pointer (some ⟨p, 0, none⟩)) ∧ ((w4.setCell ⟨w.heap.size, 0, none⟩ (.int .i64 qx)).setCell ⟨w.heap.size, 1, none⟩ (.int .i64 qy)).cell? ⟨L, 1, none⟩ = some (.int .i64 ((at_ : Int) + (k : Int))) := ⟨by rw [World.cell?_setCell_other _ _ _ _ (by intro hh; injection hh; omega), World.cell?_setCell_other _ _ _ _ (by intro hh; injection hh; omega)]; exact s2.1, by rw [World.cell?_setCell_other _ _ _ _ (by intro hh; injection hh; omega), World.cell?_setCell_other _ _ _ _ (by intro hh; injection hh; omega)]; exact s2.2⟩)))
  go_wp2
  have a2 := k4.heap ((Keep.drew [] W2).heap HR2.out (by simp)) (by simp)
  have a1 := k4.heap ((Keep.drew [] W2).heap Hb2.out (by simp)) (by simp)
  have q1 := setCell_heap a2 0 (.int .i64 qx)
  have q2 := setCell_heap q1 1 (.int .i64 qy)
  have d0 := blk_cell q2 0
  have d1 := blk_cell q2 1
  have kR : Keep [w.heap.size] w4 ((w4.setCell ⟨w.heap.size, 0, none⟩ (.int .i64 qx)).setCell ⟨w.heap.size, 1, none⟩ (.int .i64 qy)) := (Keep.setCell w4 _ _ (by simp)).trans (Keep.setCell _ _ _ (by simp))
  have hvl := HH.out.vec.lt
  have k24 : Keep [] W2 w4 := (Keep.drew [] W2).trans k4
  refine bodyPost_ret (v := .tuple #[.agg #[.int .i64 qx, .int .i64 qy], .bool true]) ?_ rfl ⟨rfl, ⟨?_, (Hv2.out.keep k24 (by simp) (by simp)).keep kR (by simp; omega) (fun g hg => by have := hvl.2 g hg; simp; omega), HH.out.ne, HH.out.nr⟩, ?_⟩
  · simp [results, Try.f10, go_sem, d0, d1]
  · rw [kR.heap a1 (by simp; omega)]
    simp
  · exact (((HKS.out.1.mono (by simp)).trans HKS.out.2).trans (k24.mono (by simp))).trans' kR (fun i hi => .inr (by simp at hi; omega))
end Go.Proofs.Ytglbhabpenkpdaa
