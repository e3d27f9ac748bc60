/-
  jumps.List's Older. Conditions: stated at each theorem.
-/
import Derived.Test.YtglbhabpenkpdaaNewer
set_option linter.unusedSimpArgs false
set_option linter.unusedVariables false
namespace Go.Proofs.Ytglbhabpenkpdaa
open Go.RowKit Go.Lib

set_option maxHeartbeats 2000000 in
/-- Older where there is none. -/
theorem older_no (L p : Nat) (r : Option Nat) (ps : List Pos) (at_ : Nat) (q : Pos) (n : Int) (w : World) (h : JL w L p r ps at_) (hn : n < 1 ∨ (at_ : Int) < n) :
    Calls Try.prog 9 #[.pointer (some ⟨L, 0, none⟩), posAgg q, .int .i64 n] w fun e w' => e = .returned (.tuple #[posAgg (0, 0), .bool false]) ∧ Keep [] w w' := by
  obtain ⟨z, y⟩ := q
  obtain ⟨W, hW⟩ : ∃ W, W = (w.alloc (.cells #[.int .i64 z, .int .i64 y] 29)).alloc (.cells #[.int .i64 0, .int .i64 0] 29) := ⟨_, rfl⟩
  have kw : Keep [] w W := by rw [hW]; exact (Keep.alloc [] w _).trans (Keep.alloc [] _ _)
  have hR : W.heap[w.heap.size + 1]? = some (.cells #[.int .i64 0, .int .i64 0] 29 (0, 0)) := by
    have := heap_alloc_new (w.alloc (.cells #[.int .i64 z, .int .i64 y] 29)) (.cells #[.int .i64 0, .int .i64 0] 29)
    rw [World.size_alloc] at this
    rw [hW]; exact this
  have hb := kw.heap h.box (by simp)
  have c1 : W.cell? ⟨L, 1, none⟩ = some (.int .i64 at_) := by rw [blk_cell hb]; rfl
  have r0 : W.cell? ⟨w.heap.size + 1, 0, none⟩ = some (.int .i64 0) := by rw [blk_cell hR]; rfl
  have r1 : W.cell? ⟨w.heap.size + 1, 1, none⟩ = some (.int .i64 0) := by rw [blk_cell hR]; rfl
  have f0 := blk_frozen hR 0
  have f1 := blk_frozen hR 1
  have HW := Lib.hid hW
  have HR := Lib.hid hR
  have HKW := Lib.hid kw
  rw [hW] at c1 r0 r1 f0 f1
  clear h hb hR kw hW
  unfold posAgg
  by_cases hn1 : n < 1
  · go_enter Try.func9, Try.ntmps9
    go_wp2
    rw [← HW.out]
    have d0 := blk_cell HR.out 0
    have d1 := blk_cell HR.out 1
    refine bodyPost_ret (v := .tuple #[.agg #[.int .i64 0, .int .i64 0], .bool false]) ?_ rfl ⟨rfl, HKW.out⟩
    simp [results, Try.f9, go_sem, d0, d1]
  · have hd : decide (n < 1) = false := by simp; omega
    have hd2 : (at_ : Int) < n := by omega
    go_enter Try.func9, Try.ntmps9
    go_wp2
    rw [← HW.out]
    have d0 := blk_cell HR.out 0
    have d1 := blk_cell HR.out 1
    refine bodyPost_ret (v := .tuple #[.agg #[.int .i64 0, .int .i64 0], .bool false]) ?_ rfl ⟨rfl, HKW.out⟩
    simp [results, Try.f9, go_sem, d0, d1]

/-- The end of Older, from where the index is lowered. -/
theorem older_in (L p : Nat) (r : Option Nat) (ps : List Pos) (at_ k : Nat) (q0 q : Pos) (w : World) (h : JL w L p r ps at_) (hlen : ps.length ≤ 16) (hk : 1 ≤ k) (hka : k ≤ at_) (hal : at_ < ps.length) (hq : ps[at_ - k]? = some q) :
    Calls Try.prog 9 #[.pointer (some ⟨L, 0, none⟩), posAgg q0, .int .i64 k] w fun e w' => e = .returned (.tuple #[posAgg q, .bool true]) ∧ JL w' L p r ps ((at_ - k : Nat) : Int) ∧ Keep [L] w w' := by
  obtain ⟨z, y⟩ := q0
  have kd : ∀ m, Keep [] w (((w.alloc (.cells #[.int .i64 z, .int .i64 y] 29)).alloc (.cells #[.int .i64 0, .int .i64 0] 29)).drewN m) := fun m => ((Keep.alloc [] w _).trans (Keep.alloc [] _ _)).trans ⟨rfl, rfl, rfl, Nat.le_refl _, fun _ _ _ => rfl⟩
  have c0 : ∀ m, (((w.alloc (.cells #[.int .i64 z, .int .i64 y] 29)).alloc (.cells #[.int .i64 0, .int .i64 0] 29)).drewN m).cell? ⟨L, 0, none⟩ = some (.pointer (some ⟨p, 0, none⟩)) := fun m => by rw [blk_cell ((kd m).heap h.box (by simp))]; rfl
  have c1 : ∀ m, (((w.alloc (.cells #[.int .i64 z, .int .i64 y] 29)).alloc (.cells #[.int .i64 0, .int .i64 0] 29)).drewN m).cell? ⟨L, 1, none⟩ = some (.int .i64 at_) := fun m => by rw [blk_cell ((kd m).heap h.box (by simp))]; rfl
  have c00 := c0 0
  have c10 := c1 0
  have HL := Lib.hid (fun m => (len35 p r ps.length _ (((w.alloc (.cells #[.int .i64 z, .int .i64 y] 29)).alloc (.cells #[.int .i64 0, .int .i64 0] 29)).drewN m) (h.vec.keep (kd m) (by simp) (by simp))).mono (R' := fun e w' => e = .returned (.int .i64 ps.length) ∧ w' = ((w.alloc (.cells #[.int .i64 z, .int .i64 y] 29)).alloc (.cells #[.int .i64 0, .int .i64 0] 29)).drewN m) (fun _ _ h => ⟨h.1, h.2.symm⟩))
  have HK := Lib.hid kd
  have HH := Lib.hid h
  have Hq := Lib.hid hq
  clear h kd hq
  have hd : decide ((k : Int) < 1) = false := by simp; omega
  have hd2 : decide ((at_ : Int) < (k : Int)) = false := by simp; omega
  have hmx : ¬ (at_ : Int) - (k : Int) < 0 := by omega
  have hmy : (0 : Int) ≤ (at_ : Int) - (k : Int) := by omega
  have fz : ∀ m, (((w.alloc (.cells #[.int .i64 z, .int .i64 y] 29)).alloc (.cells #[.int .i64 0, .int .i64 0] 29)).drewN m).frozen? ⟨L, 1, none⟩ = false := fun m => blk_frozen ((HK.out m).heap HH.out.box (by simp)) 1
  have hd3 : decide ((at_ : Int) = (ps.length : Int)) = false := by simp; omega
  unfold posAgg
  obtain ⟨qx, qy⟩ := q
  have c11 : ((w.alloc (.cells #[.int .i64 z, .int .i64 y] 29)).alloc (.cells #[.int .i64 0, .int .i64 0] 29)).cell? ⟨L, 1, none⟩ = some (.int .i64 at_) := c10
  go_enter Try.func9, Try.ntmps9
  go_wp2_with fail
  go_quiet ((go_at_call 22; exact Calls.quiet_of_same (HL.out _)))
  have hR : (((w.alloc (.cells #[.int .i64 z, .int .i64 y] 29)).alloc (.cells #[.int .i64 0, .int .i64 0] 29)).drewN nq).heap[w.heap.size + 1]? = some (.cells #[.int .i64 0, .int .i64 0] 29 (0, 0)) := by
    have := heap_alloc_new (w.alloc (.cells #[.int .i64 z, .int .i64 y] 29)) (.cells #[.int .i64 0, .int .i64 0] 29)
    rw [World.size_alloc] at this
    exact this
  have kw := HK.out nq
  have hLw := blk_lt HH.out.box
  obtain ⟨W, hW⟩ : ∃ W, W = ((w.alloc (.cells #[.int .i64 z, .int .i64 y] 29)).alloc (.cells #[.int .i64 0, .int .i64 0] 29)).drewN nq := ⟨_, rfl⟩
  rw [← hW] at hR kw ⊢
  clear hW c0 c1 c00 c10 c11 fz HL HK
  have hb := kw.heap HH.out.box (by simp)
  have y1 : W.cell? ⟨L, 1, none⟩ = some (.int .i64 at_) := by rw [blk_cell hb]; rfl
  have fy : W.frozen? ⟨L, 1, none⟩ = false := blk_frozen hb 1
  have ks : Keep [L] W (W.setCell ⟨L, 1, none⟩ (.int .i64 ((at_ : Int) - (k : Int)))) := Keep.setCell W _ _ (by simp)
  have hb2 := setCell_heap hb 1 (.int .i64 ((at_ : Int) - (k : Int)))
  have hR2 := ks.heap hR (by simp; omega)
  have hv2 := (HH.out.vec.keep kw (by simp) (by simp)).keep ks (by simp; exact fun hh => HH.out.ne hh.symm) (fun g hg => by simp; intro hh; subst hh; exact HH.out.nr hg)
  obtain ⟨W2, hW2⟩ : ∃ W2, W2 = W.setCell ⟨L, 1, none⟩ (.int .i64 ((at_ : Int) - (k : Int))) := ⟨_, rfl⟩
  have HW2 := Lib.hid hW2
  rw [← hW2] at ks hb2 hR2 hv2
  have kd2 : Keep [] W2 W2.drew := Keep.drew [] W2
  have s1 : W2.drew.cell? ⟨L, 0, none⟩ = some (.pointer (some ⟨p, 0, none⟩)) ∧ W2.drew.cell? ⟨L, 1, none⟩ = some (.int .i64 ((at_ : Int) - (k : Int))) := ⟨by rw [blk_cell (kd2.heap hb2 (by simp))]; rfl, by rw [blk_cell (kd2.heap hb2 (by simp))]; rfl⟩
  have HAt := Lib.hid (at35 p r ps (at_ - k) (qx, qy) W2.drew (hv2.keep kd2 (by simp) (by simp)) Hq.out)
  have e1 : ((at_ - k : Nat) : Int) = (at_ : Int) - (k : Int) := by omega
  rw [e1] at HAt
  simp only [posAgg] at HAt
  have Hb2 := Lib.hid hb2
  have HR2 := Lib.hid hR2
  have HKS := Lib.hid (And.intro kw ks)
  have Hv2 := Lib.hid hv2
  have HS : Hid (∀ w4, Keep [] W2.drew w4 → (w4.cell? ⟨L, 0, none⟩ = some (.pointer (some ⟨p, 0, none⟩)) ∧ w4.cell? ⟨L, 1, none⟩ = some (.int .i64 ((at_ : Int) - (k : Int)))) ∧ (w4.cell? ⟨w.heap.size + 1, 0, none⟩ = some (.int .i64 0) ∧ w4.cell? ⟨w.heap.size + 1, 1, none⟩ = some (.int .i64 0)) ∧ w4.frozen? ⟨w.heap.size + 1, 0, none⟩ = false ∧ w4.frozen? ⟨w.heap.size + 1, 1, none⟩ = false) := fun w4 k4 => by
    have a1 := k4.heap (kd2.heap hb2 (by simp)) (by simp)
    have a2 := k4.heap (kd2.heap hR2 (by simp)) (by simp)
    exact ⟨⟨by rw [blk_cell a1]; rfl, by rw [blk_cell a1]; rfl⟩, ⟨by rw [blk_cell a2]; rfl, by rw [blk_cell a2]; rfl⟩, blk_frozen a2 0, blk_frozen a2 1⟩
  clear hR kw hb ks hb2 hR2 hv2 kd2 hW2
  go_wp2_with fail
  rw [← HW2.out]
  go_region_held3 (fun V => V.cell? ⟨L, 0, none⟩ = some (.pointer (some ⟨p, 0, none⟩)) ∧ V.cell? ⟨L, 1, none⟩ = some (.int .i64 ((at_ : Int) - (k : Int)))) (first | exact s1 | exact s2 | exact s3) ((first | (go_at_call 24; refine HAt.out.mono ?_; rintro e w4 ⟨rfl, k4⟩; obtain ⟨s2, ⟨r0, r1⟩, f0, f1⟩ := HS.out w4 k4; have s3 : ((w4.setCell ⟨w.heap.size + 1, 0, none⟩ (.int .i64 qx)).setCell ⟨w.heap.size + 1, 1, none⟩ (.int .i64 qy)).cell? ⟨L, 0, none⟩ = some (.pointer (some ⟨p, 0, none⟩)) ∧ ((w4.setCell ⟨w.heap.size + 1, 0, none⟩ (.int .i64 qx)).setCell ⟨w.heap.size + 1, 1, none⟩ (.int .i64 qy)).cell? ⟨L, 1, none⟩ = some (.int .i64 ((at_ : Int) - (k : Int))) := ⟨by rw [World.cell?_setCell_other _ _ _ _ (by intro hh; injection hh; omega), World.cell?_setCell_other _ _ _ _ (by intro hh; injection hh; omega)]; exact s2.1, by rw [World.cell?_setCell_other _ _ _ _ (by intro hh; injection hh; omega), World.cell?_setCell_other _ _ _ _ (by intro hh; injection hh; omega)]; exact s2.2⟩)))
  go_wp2
  have a2 := k4.heap ((Keep.drew [] W2).heap HR2.out (by simp)) (by simp)
  have a1 := k4.heap ((Keep.drew [] W2).heap Hb2.out (by simp)) (by simp)
  have q1 := setCell_heap a2 0 (.int .i64 qx)
  have q2 := setCell_heap q1 1 (.int .i64 qy)
  have d0 := blk_cell q2 0
  have d1 := blk_cell q2 1
  have kR : Keep [w.heap.size + 1] w4 ((w4.setCell ⟨w.heap.size + 1, 0, none⟩ (.int .i64 qx)).setCell ⟨w.heap.size + 1, 1, none⟩ (.int .i64 qy)) := (Keep.setCell w4 _ _ (by simp)).trans (Keep.setCell _ _ _ (by simp))
  have hvl := HH.out.vec.lt
  have k24 : Keep [] W2 w4 := (Keep.drew [] W2).trans k4
  refine bodyPost_ret (v := .tuple #[.agg #[.int .i64 qx, .int .i64 qy], .bool true]) ?_ rfl ⟨rfl, ⟨?_, (Hv2.out.keep k24 (by simp) (by simp)).keep kR (by simp; omega) (fun g hg => by have := hvl.2 g hg; simp; omega), HH.out.ne, HH.out.nr⟩, ?_⟩
  · simp [results, Try.f9, go_sem, d0, d1]
  · rw [kR.heap a1 (by simp; omega), e1]
    simp
  · exact (((HKS.out.1.mono (by simp)).trans HKS.out.2).trans (k24.mono (by simp))).trans' kR (fun i hi => .inr (by simp at hi; omega))

theorem pushL_len (ps : List Pos) (q : Pos) (h : ps.length ≤ 16) : 1 ≤ (pushL ps q).length ∧ (pushL ps q).length ≤ 16 := by
  unfold pushL
  rw [List.length_drop]
  simp only [List.length_append, List.length_singleton]
  omega
end Go.Proofs.Ytglbhabpenkpdaa
