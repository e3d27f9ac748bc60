/-
  The contract of the list law's own helper all: forwards, backwards, just these. Conditions: stated at each theorem.
-/
import Derived.Test.YtnfkoegbinkfgaaIter
import Derived.Shelf.RegionOpen
import Derived.Sort.QuietIn
set_option linter.unusedSimpArgs false
set_option linter.unusedVariables false
namespace Go.Proofs.Ytnfkoegbinkfgaa
open Go.RowKit Go.Shelf
attribute [local go_sem] Oper.semAt_some
theorem wide_fn (f : FuncId) : Fence.wide.fn f = True := rfl
attribute [local go_sem] wide_fn
set_option linter.unusedVariables false

theorem all1_31' (n : Nat) (hn : 1 ≤ n) (B : Nat) (a : Option Addr) (c : Nat) (zs : List Int) (N : Nat) (hN : zs.length = N) (bs : List Nat) (w : World) (hlen : N ≤ 4611686018427387904)
    (hB : w.heap[B]? = some (.cells #[.slice a N c] 31 (0, 0))) (ho : w.ownsRow 0 3 1 (.slice a N c) N (ints zs)) (hbB : B ∈ bs) (hbg : ∀ g, a.map (·.block) = some g → g ∈ bs) :
    SeqE Fence.wide n Try.prog 36 #[.pointer (some ⟨B, 0, none⟩)] (fun k => #[.int .i64 (k : Int), .int .i64 (zs[k]?.getD 0)]) bs N w := by
  subst hN
  exact all1_31 n hn B a c zs bs w hlen hB ho hbB hbg

theorem back1_31' (n : Nat) (hn : 1 ≤ n) (B : Nat) (a : Option Addr) (c : Nat) (zs : List Int) (N : Nat) (hN : zs.length = N) (bs : List Nat) (w : World) (hlen : N ≤ 4611686018427387904)
    (hB : w.heap[B]? = some (.cells #[.slice a N c] 31 (0, 0))) (ho : w.ownsRow 0 3 1 (.slice a N c) N (ints zs)) (hbB : B ∈ bs) (hbg : ∀ g, a.map (·.block) = some g → g ∈ bs) :
    SeqE Fence.wide n Try.prog 37 #[.pointer (some ⟨B, 0, none⟩)] (fun k => #[.int .i64 ((N - 1 - k : Nat) : Int), .int .i64 (zs[N - 1 - k]?.getD 0)]) bs N w := by
  subst hN
  exact back1_31 n hn B a c zs bs w hlen hB ho hbB hbg

theorem Keep.fresh {S : List Nat} {a b : World} (h : Keep S a b) (hs : ∀ i, i ∈ S → a.heap.size ≤ i) : Keep [] a b := (Keep.refl [] a).trans' h (fun i hi => .inr (hs i hi))

theorem eqlF36 (x : Addr) (w : World) : (binOp .eql 46 (.func (.func 36) #[] #[.pointer (some x)]) .nilFunc).run Try.prog w = .ok (.bool false) w := by kernel_rfl
theorem eqlF37 (x : Addr) (w : World) : (binOp .eql 46 (.func (.func 37) #[] #[.pointer (some x)]) .nilFunc).run Try.prog w = .ok (.bool false) w := by kernel_rfl

set_option maxRecDepth 100000 in
set_option maxHeartbeats 4000000 in
theorem allF (p : Nat) (r : Option Nat) (zs : List Int) (aw : Option Addr) (cw : Nat) (w : World) (hv : Vec 58 3 1 w p r zs.length (ints zs)) (hw : Arg w 1 (.slice aw zs.length cw) zs.length (ints zs) none) (hlen : zs.length ≤ 1000000) :
    Calls Try.prog 19 #[.pointer (some ⟨p, 0, none⟩), .slice aw zs.length cw] w fun e w' => e = .returned (.bool true) ∧ Keep [] w w' := by
  generalize hN : zs.length = N at *
  have HN := Lib.hid hN
  clear hN
  have HV := Lib.hid hv
  have HW := Lib.hid hw
  clear hv hw
  have hB0 : Keep [] w ((w.alloc (.cells #[.slice aw N cw] 31)).alloc (.cells #[.bool false] 4)) := (Keep.alloc [] w _).trans (Keep.alloc [] _ _)
  obtain ⟨W0, hW0⟩ : ∃ W0, W0 = (w.alloc (.cells #[.slice aw N cw] 31)).alloc (.cells #[.bool false] 4) := ⟨_, rfl⟩
  have hx3 : W0.cell? ⟨w.heap.size, 0, none⟩ = some (.slice aw N cw) := by
    rw [hW0, World.cell?_alloc_past _ _ _ (by simp)]
    simp
  have HB0 : Hid (Keep [] w W0) := by rw [hW0]; exact hB0
  have hsz : w.heap.size + 2 = W0.heap.size := by rw [hW0]; simp
  have HSZ := Lib.hid hsz
  clear hsz
  have HL := Lib.hid (fun m => (len31 p r N _ (W0.drewN m) (HV.out.keep (by rw [hW0]; exact hB0.trans ⟨rfl, rfl, rfl, Nat.le_refl _, fun _ _ _ => rfl⟩) (by simp) (by simp))).mono (R' := fun e w' => e = .returned (.int .i64 N) ∧ w' = W0.drewN m) (fun _ _ h => ⟨h.1, h.2.symm⟩))
  have hq1 := eqlF36
  have hq2 := eqlF37
  refine (callsIn_wide (n := 6)).1 ?_
  refine callsIn_of_wp_marks Try.func19 rfl trivial ?_ rfl
  simp only [Try.ntmps19, List.size_toArray, List.length_cons, List.length_nil, Nat.reduceAdd, Nat.reduceSub, Array.replicate_succ, Array.replicate_zero, List.push_toArray, List.append_toArray, List.nil_append, List.cons_append]
  gi_wp2
  rw [← hW0]
  have HW0 := Lib.hid hW0
  clear hW0 hB0
  gi_quiet ((gi_at_call 22; exact CallsIn.quiet_of_same (callsIn_wide.2 (HL.out _))))
  gi_wp2_with fail
  obtain ⟨W1, hW1⟩ : ∃ W1, W1 = W0.drewN nq := ⟨_, rfl⟩
  have k1 : Keep [] w W1 := by rw [hW1]; exact HB0.out.trans ⟨rfl, rfl, rfl, Nat.le_refl _, fun _ _ _ => rfl⟩
  have b3 : W1.heap[w.heap.size]? = some (.cells #[.slice aw N cw] 31 (0, 0)) := by
    rw [hW1, HW0.out]
    show ((w.alloc _).alloc _).heap[_]? = _
    rw [heap_alloc_old _ _ (by simp)]
    exact heap_alloc_new w _
  have b4 : W1.heap[w.heap.size + 1]? = some (.cells #[.bool false] 4 (0, 0)) := by
    rw [hW1, HW0.out]
    have := heap_alloc_new (w.alloc (.cells #[.slice aw N cw] 31)) (.cells #[.bool false] 4)
    rw [World.size_alloc] at this
    exact this
  have hb4l := blk_lt b4
  rw [← hW1]
  clear hW1 hx3 HL HB0
  refine (callsIn_wide.2 (all31 p r N _ W1 (HV.out.keep k1 (by simp) (by simp)) (by omega))).mono ?_
  rintro e W2 ⟨Bf, af, cf, rfl, hBf, hof, k2, hlf, hgf⟩
  gi_wp2_with fail
  refine (callsIn_wide.2 (back31 p r N _ W2 (HV.out.keep (k1.trans k2) (by simp) (by simp)) (by omega))).mono ?_
  rintro e W3 ⟨Bb, ab, cb, rfl, hBb, hob, k3, hlb, hgb⟩
  gi_wp2_with fail
  have hz2 := k1.size
  have hz3 := k2.size
  have hz4 := k3.size
  obtain ⟨W4, hW4⟩ : ∃ W4, W4 = W3.alloc (.cells #[.int .i64 0] 3) := ⟨_, rfl⟩
  have b7 : W4.heap[W3.heap.size]? = some (.cells #[.int .i64 0] 3 (0, 0)) := by rw [hW4]; exact heap_alloc_new W3 _
  have k4 : Keep [] W3 W4 := by rw [hW4]; exact Keep.alloc [] W3 _
  have hs4 : W4.heap.size = W3.heap.size + 1 := by rw [hW4]; simp
  rw [← hW4]
  clear hW4
  have kw : Keep [] w W4 := ((k1.trans k2).trans k3).trans k4
  have B3 : W4.heap[w.heap.size]? = some (.cells #[.slice aw N cw] 31 (0, 0)) := ((k2.trans k3).trans k4).heap b3 (by simp)
  have B4 : W4.heap[w.heap.size + 1]? = some (.cells #[.bool false] 4 (0, 0)) := ((k2.trans k3).trans k4).heap b4 (by simp)
  have Bf4 := (k3.trans k4).heap hBf (by simp)
  have of4 := (k3.trans k4).row hof (by simp)
  have Bb4 := k4.heap hBb (by simp)
  have ob4 := k4.row hob (by simp)
  have hBfl := blk_lt hBf
  have hBbl := blk_lt hBb
  have hofl := own_lt hof
  have hobl := own_lt hob
  refine wpIn_rangeFunc_U rfl (by decide) (gf := 36) (lb := #[.pointer (some ⟨Bf, 0, none⟩)]) rfl trivial (enters_of Try.func36 (by kernel_rfl) rfl)
    (bs := Bf :: (af.map (·.block)).toList) (N := N) (all1_31' 5 (by decide) Bf af cf zs N HN.out _ W4 (by omega) Bf4 of4 (by simp) (fun g hg => by simp [hg])) (fun _ => rfl)
    (fun k W => Keep [W3.heap.size] W4 W ∧ W.heap[W3.heap.size]? = some (.cells #[.int .i64 (k : Int)] 3 (0, 0))) (fun _ _ _ => False)
    (OwnFrom.and (ownFrom_keep (fun _ : Nat => [W3.heap.size]) W4 (Nat.le_refl _)) (ownFrom_cells _ (fun _ : Nat => W3.heap.size) (fun k : Nat => #[.int .i64 (k : Int)]) (fun _ => 3)))
    (fun _ _ _ _ _ hs _ _ => hs) ⟨Keep.refl _ _, b7⟩
    (fun k t => (((t.setIfInBounds 32 (.int .i64 (k : Int))).setIfInBounds 33 (.int .i64 (zs[k]?.getD 0))).setIfInBounds 8 (.int .i64 (k : Int))).setIfInBounds 9 (.int .i64 (zs[k]?.getD 0))) ?assign ?body ?done ?stop
  case assign =>
    intro l k W K hK
    gi_wp2
    exact hK
  case body =>
    rintro l k W ⟨hkW, hbn⟩ hlt
    have kW : Keep [W3.heap.size] w W := (kw.mono (by simp)).trans hkW
    obtain ⟨wb, wo, hwa, hwc⟩ : ∃ wb wo, aw = some ⟨wb, wo, none⟩ ∧ W.cell? ⟨wb, wo + k, none⟩ = some (.int .i64 (zs[k]?.getD 0)) := by
      rcases HW.out.2.2 with ⟨h0, _⟩ | ⟨_, b, off, c, he, hc, _⟩
      · omega
      · injection he with he1
        exact ⟨b, off, he1, kW.cell (hc k _ (ints_at zs (by rw [HN.out]; exact hlt))) (by
          have := World.block_lt_of_cell? _ _ (hc k _ (ints_at zs (by rw [HN.out]; exact hlt)))
          simp at this ⊢; omega)⟩
    subst hwa
    have c7 : W.cell? ⟨W3.heap.size, 0, none⟩ = some (.int .i64 (k : Int)) := by rw [blk_cell hbn]; rfl
    have f7 : W.frozen? ⟨W3.heap.size, 0, none⟩ = false := blk_frozen hbn 0
    have c3 : W.cell? ⟨w.heap.size, 0, none⟩ = some (.slice (some ⟨wb, wo, none⟩) N cw) := by rw [blk_cell (hkW.heap B3 (by simp; omega))]; rfl
    have HE : Hid (ownPostE W4.heap.size (Bf :: (af.map (·.block)).toList) (fun k W => Keep [W3.heap.size] W4 W ∧ W.heap[W3.heap.size]? = some (.cells #[.int .i64 (k : Int)] 3 (0, 0))) (fun _ _ _ => False) (k + 1) W .normal { tmps := #[], defers := [] } (W.setCell ⟨W3.heap.size, 0, none⟩ (.int .i64 ((k : Int) + 1)))) := by
      have ks : Keep [W3.heap.size] W (W.setCell ⟨W3.heap.size, 0, none⟩ (.int .i64 ((k : Int) + 1))) := Keep.setCell W _ _ (by simp)
      refine ⟨ks.from (fun i hi => by simp at hi; subst hi; exact .inl (by omega)), KeepC.of_keep ks (fun i hi => ?_), hkW.trans ks, ?_⟩
      · simp at hi ⊢
        rcases hi with rfl | hi
        · omega
        · have := hofl i (by simpa using hi); omega
      · rw [setCell_heap hbn]; simp
    clear hkW hbn kW b3 b4 hBf hof hgf hBb hob hgb b7 B3 B4 Bf4 of4 Bb4 ob4 hofl hobl k1 k2 k3 k4 kw hq1 hq2
    gi_wp2
    exact HE.out
  case done =>
    rintro D W hD ⟨hkW, hbn⟩ hK
    have kW : Keep [W3.heap.size] w W := (kw.mono (by simp)).trans hkW
    have c7 : W.cell? ⟨W3.heap.size, 0, none⟩ = some (.int .i64 (N : Int)) := by rw [blk_cell hbn]; rfl
    have h3 := hkW.heap B3 (by simp; omega)
    have c3 : W.cell? ⟨w.heap.size, 0, none⟩ = some (.slice aw N cw) := by rw [blk_cell h3]; rfl
    have h4 := hkW.heap B4 (by simp; omega)
    have hBbW := hkW.heap Bb4 (by simp; omega)
    have hobW := hkW.row ob4 (fun g hg hm => by rw [own_block] at hg; have := hobl g hg; simp at hm; omega)
    have hsW := hkW.size
    have HK := Lib.hid hK
    have HK4 := Lib.hid hkW
    have HB3 := Lib.hid h3
    have HB4 := Lib.hid h4
    have HBb := Lib.hid hBbW
    have HOb := Lib.hid hobW
    have HBN := Lib.hid hbn
    have HOL := Lib.hid hobl
    have HKW := Lib.hid kW
    clear hkW hbn kW b3 b4 hBf hof hgf hBb hob hgb b7 B3 B4 Bf4 of4 Bb4 ob4 hofl hobl k1 k2 k3 k4 kw hq1 hq2 hK h3 h4 hBbW hobW HW0 hBfl
    gi_wp2
    refine wpIn_rangeFunc_U rfl (by decide) (gf := 37) (lb := #[.pointer (some ⟨Bb, 0, none⟩)]) rfl trivial (enters_of Try.func37 (by kernel_rfl) rfl)
      (bs := Bb :: (ab.map (·.block)).toList) (N := N) (back1_31' 5 (by decide) Bb ab cb zs N HN.out _ W (by omega) HBb.out HOb.out (by simp) (fun g hg => by simp [hg])) (fun _ => rfl)
      (fun k W' => Keep [W3.heap.size] W W' ∧ W'.heap[W3.heap.size]? = some (.cells #[.int .i64 ((N - k : Nat) : Int)] 3 (0, 0))) (fun _ _ _ => False)
      (OwnFrom.and (ownFrom_keep (fun _ : Nat => [W3.heap.size]) W (Nat.le_refl _)) (ownFrom_cells _ (fun _ : Nat => W3.heap.size) (fun k : Nat => #[.int .i64 ((N - k : Nat) : Int)]) (fun _ => 3)))
      (fun _ _ _ _ _ hs _ _ => hs) ⟨Keep.refl _ _, HBN.out⟩
      (fun k t => (((t.setIfInBounds 58 (.int .i64 ((N - 1 - k : Nat) : Int))).setIfInBounds 59 (.int .i64 (zs[N - 1 - k]?.getD 0))).setIfInBounds 10 (.int .i64 ((N - 1 - k : Nat) : Int))).setIfInBounds 11 (.int .i64 (zs[N - 1 - k]?.getD 0))) ?assign2 ?body2 ?done2 ?stop2
    case assign2 =>
      intro l k W K hK
      gi_wp2
      exact hK
    case body2 =>
      rintro l k W' ⟨hkW, hbn⟩ hlt
      obtain ⟨j, hj⟩ : ∃ j, N - k = j + 1 := ⟨N - k - 1, by omega⟩
      have hj1 : N - 1 - k = j := by omega
      have hj2 : N - (k + 1) = j := by omega
      have hjN : j < N := by omega
      simp only [hj1]
      rw [hj] at hbn
      have kW : Keep [W3.heap.size] w W' := HKW.out.trans hkW
      obtain ⟨wb, wo, hwa, hwc⟩ : ∃ wb wo, aw = some ⟨wb, wo, none⟩ ∧ W'.cell? ⟨wb, wo + j, none⟩ = some (.int .i64 (zs[j]?.getD 0)) := by
        rcases HW.out.2.2 with ⟨h0, _⟩ | ⟨_, b, off, c, he, hc, _⟩
        · omega
        · injection he with he1
          exact ⟨b, off, he1, kW.cell (hc j _ (ints_at zs (by rw [HN.out]; exact hjN))) (by
            have := World.block_lt_of_cell? _ _ (hc j _ (ints_at zs (by rw [HN.out]; exact hjN)))
            simp at this ⊢; omega)⟩
      subst hwa
      have c7' : W'.cell? ⟨W3.heap.size, 0, none⟩ = some (.int .i64 ((j : Int) + 1)) := by rw [blk_cell hbn]; rfl
      have f7' : W'.frozen? ⟨W3.heap.size, 0, none⟩ = false := blk_frozen hbn 0
      have c3' : W'.cell? ⟨w.heap.size, 0, none⟩ = some (.slice (some ⟨wb, wo, none⟩) N cw) := by rw [blk_cell (hkW.heap HB3.out (by simp; omega))]; rfl
      have hne : w.heap.size ≠ W3.heap.size := by omega
      have hwb : wb ≠ W3.heap.size := by
        have := World.block_lt_of_cell? _ _ ((HW.out.2.2.resolve_left (by omega)).2.choose_spec.choose_spec.choose_spec.2.1 j _ (ints_at zs (by rw [HN.out]; exact hjN)))
        obtain ⟨_, b, off, c, he, hc, _⟩ := HW.out.2.2.resolve_left (by omega)
        injection he with he1
        injection he1 with he1
        injection he1 with he1
        subst he1
        have := World.block_lt_of_cell? _ _ (hc j _ (ints_at zs (by rw [HN.out]; exact hjN)))
        simp at this; omega
      have HE : Hid (ownPostE W.heap.size (Bb :: (ab.map (·.block)).toList) (fun k W' => Keep [W3.heap.size] W W' ∧ W'.heap[W3.heap.size]? = some (.cells #[.int .i64 ((N - k : Nat) : Int)] 3 (0, 0))) (fun _ _ _ => False) (k + 1) W' .normal { tmps := #[], defers := [] } (W'.setCell ⟨W3.heap.size, 0, none⟩ (.int .i64 (j : Int)))) := by
        have ks : Keep [W3.heap.size] W' (W'.setCell ⟨W3.heap.size, 0, none⟩ (.int .i64 (j : Int))) := Keep.setCell W' _ _ (by simp)
        refine ⟨ks.from (fun i hi => by simp at hi; subst hi; exact .inl (by omega)), KeepC.of_keep ks (fun i hi => ?_), hkW.trans ks, ?_⟩
        · simp at hi ⊢
          rcases hi with rfl | hi
          · omega
          · have := HOL.out i (by simpa using hi); omega
        · rw [setCell_heap hbn, hj2]; simp
      have q1 : (W'.setCell ⟨W3.heap.size, 0, none⟩ (.int .i64 (j : Int))).cell? ⟨w.heap.size, 0, none⟩ = some (.slice (some ⟨wb, wo, none⟩) N cw) := by rw [World.cell?_setCell_other _ _ _ _ (by intro hh; injection hh; omega)]; exact c3'
      have q2 : (W'.setCell ⟨W3.heap.size, 0, none⟩ (.int .i64 (j : Int))).cell? ⟨wb, wo + j, none⟩ = some (.int .i64 (zs[j]?.getD 0)) := by rw [World.cell?_setCell_other _ _ _ _ (by intro hh; injection hh; omega)]; exact hwc
      have q3 : (W'.setCell ⟨W3.heap.size, 0, none⟩ (.int .i64 (j : Int))).cell? ⟨W3.heap.size, 0, none⟩ = some (.int .i64 (j : Int)) := World.cell?_setCell_same _ _ _ c7'
      clear hkW hbn kW hj hj1 hj2 c7 c3 c3'
      gi_wp2
      exact HE.out
    case done2 =>
      rintro D2 W' hD2 ⟨hkW, hbn⟩ hK2
      rw [Nat.sub_self] at hbn
      have c7' : W'.cell? ⟨W3.heap.size, 0, none⟩ = some (.int .i64 0) := by rw [blk_cell hbn]; rfl
      have h4' := hkW.heap HB4.out (by simp; omega)
      have c4' : W'.cell? ⟨w.heap.size + 1, 0, none⟩ = some (.bool false) := by rw [blk_cell h4']; rfl
      have f4' : W'.frozen? ⟨w.heap.size + 1, 0, none⟩ = false := blk_frozen h4' 0
      have hsW' := hkW.size
      have KW' : Keep [W3.heap.size] w W' := HKW.out.trans hkW
      have hDl := blk_lt HK.out
      have hDW := hkW.heap HK.out (by simp; omega)
      have HF : Hid (W'.heap[D2]? = some (Obj.deferred (some [])) ∧ W'.heap[D]? = some (Obj.deferred (some [])) ∧ W'.heap[w.heap.size + 1]? = some (.cells #[.bool false] 4 (0, 0)) ∧ Keep [W3.heap.size] w W') := ⟨hK2, hDW, h4', KW'⟩
      clear hkW hbn hK2 h4' KW' hDW
      gi_wp2
      obtain ⟨fK2, fK, f4, fk⟩ := HF.out
      obtain ⟨W5, hW5⟩ : ∃ W5, W5 = W'.setCell ⟨w.heap.size + 1, 0, none⟩ (.bool true) := ⟨_, rfl⟩
      have h5 : W5.heap[w.heap.size + 1]? = some (.cells #[.bool true] 4 (0, 0)) := by rw [hW5, setCell_heap f4]; simp
      have k5 : Keep [w.heap.size + 1] W' W5 := by rw [hW5]; exact Keep.setCell W' _ _ (by simp)
      have fK2' := k5.heap fK2 (by simp; omega)
      have fK' := k5.heap fK (by simp; omega)
      have hs5 := k5.size
      rw [← hW5]
      clear hW5
      refine ⟨by simp, .inl ⟨_, _, rfl, run_takeDeferred fK2', ?_⟩⟩
      have kp : Keep [D2] W5 (W5.putObj D2 (.deferred none)) := Keep.of_grown (grownBy_putObj' W5 D2 (.deferred none))
      refine ⟨by simp, .inl ⟨_, _, rfl, run_takeDeferred (kp.heap fK' (by simp; omega)), ?_⟩⟩
      have kp2 : Keep [D] (W5.putObj D2 (.deferred none)) ((W5.putObj D2 (.deferred none)).putObj D (.deferred none)) := Keep.of_grown (grownBy_putObj' (W5.putObj D2 (.deferred none)) D (.deferred none))
      have kc : ((W5.putObj D2 (.deferred none)).putObj D (.deferred none)).cell? ⟨w.heap.size + 1, 0, none⟩ = some (.bool true) := blk_cell (kp2.heap (kp.heap h5 (by simp; omega)) (by simp; omega)) 0
      refine ⟨.bool true, ?_, rfl, Keep.fresh (S := [W3.heap.size, w.heap.size + 1, D2, D]) ?_ (by simp; omega)⟩
      · simp [results, Try.f19, go_sem, kc]
      · exact (((fk.mono (by simp)).trans (k5.mono (by simp))).trans (kp.mono (by simp))).trans (kp2.mono (by simp))
    case stop2 =>
      rintro D c k W _ _ _ h _
      exact h.elim
  case stop =>
    rintro D c k W _ _ _ h _
    exact h.elim
end Go.Proofs.Ytnfkoegbinkfgaa
