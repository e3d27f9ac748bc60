/-
  jumps.List's Push. Conditions: stated at each theorem.
-/
import Derived.Test.YtglbhabpenkpdaaDrop
import Derived.Deep.RegionHeld3
set_option linter.unusedSimpArgs false
set_option linter.unusedVariables false
namespace Go.Proofs.Ytglbhabpenkpdaa
open Go.RowKit Go.Lib

def otherLine (z : Int) (x : Pos) : Bool := x.1 != z
def pushL (ps : List Pos) (q : Pos) : List Pos := (ps.filter (otherLine q.1) ++ [q]).drop ((ps.filter (otherLine q.1) ++ [q]).length - 16)

def JPost (w : World) (L p : Nat) (r : Option Nat) (ps : List Pos) (at_ : Int) (w' : World) : Prop :=
  ∃ r', JL w' L p r' ps at_ ∧ Keep (L :: p :: r.toList) w w' ∧ (r' = r ∨ ∃ k, r' = some k ∧ w.heap.size ≤ k)

/-- The closure of Push: another line? -/
theorem clos20 (P : Nat) (z y : Int) (q : Pos) (W : World) (hP : W.heap[P]? = some (.cells #[.int .i64 z, .int .i64 y] 29 (0, 0))) :
    Calls Try.prog 20 (#[posAgg q] ++ #[.pointer (some ⟨P, 0, none⟩)]) W fun e W' => e = .returned (.bool (otherLine z q)) ∧ Keep [] W W' := by
  obtain ⟨q1, q2⟩ := q
  unfold posAgg otherLine
  have hk : Hid (Keep [] W (W.alloc (.cells #[.int .i64 q1, .int .i64 q2] 29))) := Keep.alloc [] W _
  have c0 : (W.alloc (.cells #[.int .i64 q1, .int .i64 q2] 29)).cell? ⟨P, 0, none⟩ = some (.int .i64 z) := by
    rw [blk_cell ((heap_alloc_old W _ (blk_lt hP)).trans hP)]; rfl
  clear hP
  show Calls Try.prog 20 #[.agg #[.int .i64 q1, .int .i64 q2], .pointer (some ⟨P, 0, none⟩)] W _
  by_cases he : q1 = z
  · subst he
    go_enter Try.func20, Try.ntmps20
    go_wp2
    go_ret
    exact ⟨by simp, hk.out⟩
  · have hb : (q1 != z) = true := by simp [he]
    go_enter Try.func20, Try.ntmps20
    go_wp2
    go_ret
    exact ⟨by simp [he], hk.out⟩

set_option maxHeartbeats 4000000 in
set_option maxRecDepth 100000 in
theorem push8 (L p : Nat) (r : Option Nat) (ps : List Pos) (at_ : Nat) (q : Pos) (w : World) (h : JL w L p r ps at_) (hat : at_ ≤ ps.length) (hlen : ps.length ≤ 16) :
    Calls Try.prog 8 #[.pointer (some ⟨L, 0, none⟩), posAgg q] w fun e w' => e = .returned (.tuple #[]) ∧ JPost w L p r (pushL ps q) (pushL ps q).length w' := by
  obtain ⟨z, y⟩ := q
  have ka : Keep [] w (w.alloc (.cells #[.int .i64 z, .int .i64 y] 29)) := Keep.alloc [] w _
  obtain ⟨w1, hw1⟩ : ∃ w1, w1 = w.alloc (.cells #[.int .i64 z, .int .i64 y] 29) := ⟨_, rfl⟩
  have hP : w1.heap[w.heap.size]? = some (.cells #[.int .i64 z, .int .i64 y] 29 (0, 0)) := by rw [hw1]; exact heap_alloc_new w _
  rw [← hw1] at ka
  have h1 := h.keep ka (by simp)
  have hlt := h.lt
  have hPn : w.heap.size ∉ L :: p :: r.toList := fun hm => by have := hlt _ hm; omega
  have HD := Lib.hid (drop20 L p r ps at_ #[.pointer (some ⟨w.heap.size, 0, none⟩)] (otherLine z) w1 h1 hat (by omega) (fun W q' hW => clos20 _ z y q' W (hW.heap hP hPn)))
  have HW := Lib.hid hw1
  have HP := Lib.hid hP
  have HPn := Lib.hid hPn
  have Hlt := Lib.hid hlt
  have HKa := Lib.hid ka
  have HH := Lib.hid h
  clear h h1 hw1 hP hPn hlt ka
  unfold posAgg
  go_enter Try.func8, Try.ntmps8
  go_wp2_with fail
  rw [← HW.out]
  refine HD.out.mono ?_
  rintro e w2 ⟨rfl, hj2, k2⟩
  obtain ⟨fs, hfs⟩ : ∃ fs, fs = ps.filter (otherLine z) := ⟨_, rfl⟩
  rw [← hfs] at hj2
  have hfl : fs.length ≤ 16 := by have := List.length_filter_le (otherLine z) ps; rw [← hfs] at this; omega
  have hP2 := k2.heap HP.out HPn.out
  have kd : Keep [] w2 w2.drew := Keep.drew [] w2
  have s1 : w2.drew.cell? ⟨L, 0, none⟩ = some (.pointer (some ⟨p, 0, none⟩)) ∧ w2.drew.cell? ⟨w.heap.size, 0, none⟩ = some (.int .i64 z) ∧ w2.drew.cell? ⟨w.heap.size, 1, none⟩ = some (.int .i64 y) :=
    ⟨by rw [blk_cell (kd.heap hj2.box (by simp))]; rfl, by rw [blk_cell (kd.heap hP2 (by simp))]; rfl, by rw [blk_cell (kd.heap hP2 (by simp))]; rfl⟩
  have kd2 : Keep [] w2 (w2.drew.alloc (.cells #[.int .i64 z, .int .i64 y] 29)) := kd.trans (Keep.alloc [] _ _)
  have s2 : (w2.drew.alloc (.cells #[.int .i64 z, .int .i64 y] 29)).cell? ⟨L, 0, none⟩ = some (.pointer (some ⟨p, 0, none⟩)) ∧ (w2.drew.alloc (.cells #[.int .i64 z, .int .i64 y] 29)).cell? ⟨w.heap.size, 0, none⟩ = some (.int .i64 z) ∧ (w2.drew.alloc (.cells #[.int .i64 z, .int .i64 y] 29)).cell? ⟨w.heap.size, 1, none⟩ = some (.int .i64 y) :=
    ⟨by rw [blk_cell (kd2.heap hj2.box (by simp))]; rfl, by rw [blk_cell (kd2.heap hP2 (by simp))]; rfl, by rw [blk_cell (kd2.heap hP2 (by simp))]; rfl⟩
  have HL1 := Lib.hid (len35 p r fs.length _ w2.drew (hj2.vec.keep kd (by simp) (by simp)))
  have HL2 := Lib.hid (len35 p r fs.length _ _ (hj2.vec.keep kd2 (by simp) (by simp)))
  have hArg : Arg (w2.drew.alloc (.cells #[.int .i64 z, .int .i64 y] 29)) 2 (.slice (some ⟨w2.heap.size, 0, none⟩) 1 1) 1 (posV [(z, y)]) r :=
    ⟨rfl, posV_one _, .inr ⟨by decide, w2.heap.size, 0, 1, rfl, fun j v hj => by rw [blk_cell (show (w2.drew.alloc (.cells #[.int .i64 z, .int .i64 y] 29)).heap[w2.heap.size]? = some (.cells #[.int .i64 z, .int .i64 y] 29 (0, 0)) from heap_alloc_new w2.drew _)]; simpa [posV] using hj, fun hh => by have := hj2.vec.lt.2 _ hh.symm; omega⟩⟩
  have HIn := Lib.hid (insert35 p r fs.length _ fs.length _ 1 (posV [(z, y)]) _ (hj2.vec.keep kd2 (by simp) (by simp)) hArg (by omega) (by omega) (by omega))
  have hLn : L ∉ p :: r.toList := by simp; exact ⟨hj2.ne, fun hh => hj2.nr hh⟩
  have HS3 : Hid (∀ w3, Keep (p :: r.toList) (w2.drew.alloc (.cells #[.int .i64 z, .int .i64 y] 29)) w3 → w3.cell? ⟨L, 0, none⟩ = some (.pointer (some ⟨p, 0, none⟩)) ∧ w3.cell? ⟨w.heap.size, 0, none⟩ = some (.int .i64 z) ∧ w3.cell? ⟨w.heap.size, 1, none⟩ = some (.int .i64 y)) := fun w3 k3 =>
    ⟨by rw [blk_cell (k3.heap (kd2.heap hj2.box (by simp)) hLn)]; rfl, by rw [blk_cell (k3.heap (kd2.heap hP2 (by simp)) (fun hm => HPn.out (List.mem_cons_of_mem _ hm)))]; rfl, by rw [blk_cell (k3.heap (kd2.heap hP2 (by simp)) (fun hm => HPn.out (List.mem_cons_of_mem _ hm)))]; rfl⟩
  have HLn := Lib.hid hLn
  clear hLn
  have Hj2 := Lib.hid hj2
  have Hk2 := Lib.hid k2
  have HP2 := Lib.hid hP2
  have Hkd2 := Lib.hid kd2
  have Hfs := Lib.hid hfs
  clear hj2 k2 hP2 kd kd2 hArg hfs
  go_wp2_with fail
  go_region_held3 (fun W => W.cell? ⟨L, 0, none⟩ = some (.pointer (some ⟨p, 0, none⟩)) ∧ W.cell? ⟨w.heap.size, 0, none⟩ = some (.int .i64 z) ∧ W.cell? ⟨w.heap.size, 1, none⟩ = some (.int .i64 y)) (first | exact s1 | exact s2 | exact s3) ((first | (go_at_call 22; first | (refine HL1.out.mono ?_; rintro e w4 ⟨rfl, rfl⟩) | (refine HL2.out.mono ?_; rintro e w4 ⟨rfl, rfl⟩)) | (go_at_call 21; refine HIn.out.mono ?_; rintro e w3 ⟨rfl, r3, hv3, k3, hf3⟩; have s3 := HS3.out w3 k3)))
  all_goals (
    have hbx3 := k3.heap (Hkd2.out.heap Hj2.out.box (by simp)) HLn.out
    have hvs : List.take ((fs.length : Int).toNat * 2) (posV fs) ++ posV [(z, y)] ++ List.drop ((fs.length : Int).toNat * 2) (posV fs) = posV (fs ++ [(z, y)]) := by
      rw [Int.toNat_natCast, ← posV_take, ← posV_drop, List.take_length, List.drop_length, posV_nil, List.append_nil, ← posV_app]
    rw [hvs] at hv3
    have kw3 : Keep (L :: p :: r.toList) w w3 := ((HKa.out.mono (by simp)).trans (Hk2.out.trans (Hkd2.out.mono (by simp)))).trans (k3.mono (fun i hi => List.mem_cons_of_mem _ hi))
    have hz3 : w.heap.size ≤ w2.heap.size := ((HKa.out.mono (T := L :: p :: r.toList) (by simp)).trans Hk2.out).size
    have hf3' : ∀ g, r3 = some g → r = some g ∨ w.heap.size ≤ g := fun g hg => by
      rcases hf3 with hf3 | ⟨k', hf3, hle⟩
      · exact .inl (by rw [← hf3]; exact hg)
      · rw [hg] at hf3; injection hf3 with hf3; subst hf3; simp at hle; exact .inr (by omega)
    have hf3e : r3 = r ∨ ∃ k, r3 = some k ∧ w.heap.size ≤ k := by
      rcases hf3 with hf3 | ⟨k', hf3, hle⟩
      · exact .inl hf3
      · simp at hle; exact .inr ⟨k', hf3, by omega⟩
    have Hf3e := Lib.hid hf3e
    have hL3 : r3 ≠ some L := fun hh => by
      rcases hf3' L hh with h1 | h1
      · exact Hj2.out.nr h1
      · have := Hlt.out L (by simp); omega
    have Hbx3 := Lib.hid hbx3
    have Hv3 := Lib.hid hv3
    have Hkw3 := Lib.hid kw3
    have Hf3 := Lib.hid hf3'
    have HL3 := Lib.hid hL3
    have HLp : Hid (L ≠ p) := Hj2.out.ne
    clear hvs hbx3 hv3 kw3 hf3 hf3' hf3e hL3 k3 s1 s2 s3 HL1 HL2 HIn HD HS3
    obtain ⟨M, hM⟩ : ∃ M, fs.length + 1 = M := ⟨_, rfl⟩
    rw [hM] at Hv3
    have hMa : 1 ≤ M := by omega
    have hMc : M ≤ 17 := by omega
    have hw16 : IntKind.i64.wrap ((M : Int) - 16) = (M : Int) - 16 := by rw [IntKind.wrap_i64]; omega
    have HM := Lib.hid hM
    clear hM hfl
    have kd3 : Keep [] w3 w3.drew := Keep.drew [] w3
    have t1 : w3.drew.cell? ⟨L, 0, none⟩ = some (.pointer (some ⟨p, 0, none⟩)) := by rw [blk_cell (kd3.heap Hbx3.out (by simp))]; rfl
    have hLr : L ∉ p :: r3.toList := by simp; exact ⟨HLp.out, fun hh => HL3.out hh⟩
    have HLr := Lib.hid hLr
    have HL3' := Lib.hid (len35 p r3 M _ w3.drew (Hv3.out.keep kd3 (by simp) (by simp)))
    have HFin : Hid (∀ (W : World) (vs : List Pos) (M' : Nat), vs.length = M' → Vec 65 29 2 W p r3 M' (posV vs) → Keep (p :: r3.toList) w3 W → JPost w L p r vs M' (W.setCell ⟨L, 1, none⟩ (.int .i64 M'))) := fun W vs M' hl hv hk => by
      subst hl
      have hb := hk.heap Hbx3.out HLr.out
      have ks : Keep [L] W (W.setCell ⟨L, 1, none⟩ (.int .i64 (vs.length : Nat))) := Keep.setCell W _ _ (by simp)
      refine ⟨r3, ⟨by rw [setCell_heap hb]; simp, hv.keep ks (by simp; exact fun hh => HLp.out hh.symm) (fun g hg => by simp; intro hh; subst hh; exact HL3.out hg), HLp.out, HL3.out⟩, (Hkw3.out.trans' hk (fun i hi => ?_)).trans (ks.mono (by simp)), Hf3e.out⟩
      simp at hi
      rcases hi with rfl | hi
      · exact .inl (by simp)
      · rcases Hf3.out i hi with h1 | h1
        · exact .inl (by simp [h1])
        · exact .inr h1
    have Hkd3 := Lib.hid kd3
    have Hpl : Hid (pushL ps (z, y) = (fs ++ [(z, y)]).drop (M - 16)) := Lib.hid <| by
      have e1 := Hfs.out
      have e2 := HM.out
      unfold pushL
      simp only
      rw [← e1, List.length_append, List.length_singleton, e2]
    have Hvl : Hid ((fs ++ [(z, y)]).length = M) := Lib.hid <| by rw [List.length_append, List.length_singleton]; exact HM.out
    clear kd3 hLr
    by_cases hM16 : M ≤ 16
    · have HDl := Lib.hid (delete35_no p r3 M _ 0 ((M : Int) - 16) w3.drew (Hv3.out.keep Hkd3.out (by simp) (by simp)) (.inr (.inr (by omega))))
      go_wp2_with fail
      go_region_held3 (fun W => W.cell? ⟨L, 0, none⟩ = some (.pointer (some ⟨p, 0, none⟩))) (exact t1) ((first | (go_at_call 22; refine HL3'.out.mono ?_; rintro e w4 ⟨rfl, rfl⟩) | (go_at_call 23; refine HDl.out.mono ?_; rintro e w4 ⟨rfl, rfl⟩)))
      have c1 : ∃ v, w3.drew.cell? ⟨L, 1, none⟩ = some v := ⟨_, by rw [blk_cell (Hkd3.out.heap Hbx3.out (by simp))]; rfl⟩
      obtain ⟨v1, c1⟩ := c1
      have f1 : w3.drew.frozen? ⟨L, 1, none⟩ = false := blk_frozen (Hkd3.out.heap Hbx3.out (by simp)) 1
      go_wp2_with fail
      refine HL3'.out.mono ?_
      rintro e w4 ⟨rfl, rfl⟩
      go_wp2_with fail
      go_end0
      refine ⟨rfl, ?_⟩
      rw [Hpl.out, show M - 16 = 0 by omega, List.drop_zero, Hvl.out]
      exact HFin.out _ _ M Hvl.out (Hv3.out.keep Hkd3.out (by simp) (by simp)) (Hkd3.out.mono (by simp))
    · obtain rfl : M = 17 := by omega
      have HT3 : Hid (∀ w5, Keep (p :: r3.toList) w3.drew w5 → w5.cell? ⟨L, 0, none⟩ = some (.pointer (some ⟨p, 0, none⟩))) := fun w5 k5 => by rw [blk_cell (k5.heap (Hkd3.out.heap Hbx3.out (by simp)) HLr.out)]; rfl
      have HDl := Lib.hid (delete35 p r3 17 _ 0 1 (((17 : Nat) : Int) - 16) w3.drew (Hv3.out.keep Hkd3.out (by simp) (by simp)) (by decide) (by decide) (by decide) (by decide))
      go_wp2_with fail
      go_region_held3 (fun W => W.cell? ⟨L, 0, none⟩ = some (.pointer (some ⟨p, 0, none⟩))) (first | exact t1 | exact t3) ((first | (go_at_call 22; refine HL3'.out.mono ?_; rintro e w4 ⟨rfl, rfl⟩) | (go_at_call 23; refine HDl.out.mono ?_; rintro e w5 ⟨ad, cd, rfl, had, hfd, r', hv5, k5, hre⟩; have t3 := HT3.out w5 k5)))
      have e5 : List.take (0 * 2) (posV (fs ++ [(z, y)])) ++ List.drop ((0 + 1) * 2) (posV (fs ++ [(z, y)])) = posV ((fs ++ [(z, y)]).drop 1) := by rw [posV_drop]; simp
      rw [hre, e5] at hv5
      have hb5 := k5.heap (Hkd3.out.heap Hbx3.out (by simp)) HLr.out
      have c1 : ∃ v, w5.cell? ⟨L, 1, none⟩ = some v := ⟨_, by rw [blk_cell hb5]; rfl⟩
      obtain ⟨v1, c1⟩ := c1
      have f1 : w5.frozen? ⟨L, 1, none⟩ = false := blk_frozen hb5 1
      have HL5 := Lib.hid (len35 p r3 16 _ w5 hv5)
      have Hv5 := Lib.hid hv5
      have Hk5 := Lib.hid k5
      clear hv5 k5 hb5 had hfd e5
      go_wp2_with fail
      refine HL5.out.mono ?_
      rintro e w4 ⟨rfl, rfl⟩
      go_wp2_with fail
      go_end0
      refine ⟨rfl, ?_⟩
      have hl16 : ((fs ++ [(z, y)]).drop 1).length = 16 := by rw [List.length_drop, Hvl.out]
      rw [Hpl.out, show 17 - 16 = 1 by omega, hl16]
      exact HFin.out _ _ 16 hl16 Hv5.out ((Hkd3.out.mono (by simp)).trans Hk5.out))
end Go.Proofs.Ytglbhabpenkpdaa
