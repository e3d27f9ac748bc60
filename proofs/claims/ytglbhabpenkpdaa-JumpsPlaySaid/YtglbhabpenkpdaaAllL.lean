/-
  jumps.List's All. Conditions: stated at each theorem.
-/
import Derived.Test.YtglbhabpenkpdaaJList
import Derived.Sort.QuietIn
set_option linter.unusedSimpArgs false
set_option linter.unusedVariables false
namespace Go.Proofs.Ytglbhabpenkpdaa
open Go.RowKit Go.Shelf
attribute [local go_sem] Oper.semAt_some
attribute [local go_sem] wide_fn

theorem all1_35' (n : Nat) (hn : 1 ≤ n) (B : Nat) (a : Option Addr) (c : Nat) (zs : List Pos) (N : Nat) (hN : zs.length = N) (bs : List Nat) (w : World) (hlen : N ≤ 4611686018427387904)
    (hB : w.heap[B]? = some (.cells #[.slice a N c] 35 (0, 0))) (ho : w.ownsRow 0 29 2 (.slice a N c) N (posV zs)) (hbB : B ∈ bs) (hbg : ∀ g, a.map (·.block) = some g → g ∈ bs) :
    SeqE Fence.wide n Try.prog 41 #[.pointer (some ⟨B, 0, none⟩)] (fun k => #[.int .i64 (k : Int), posAgg (zs[k]?.getD (0, 0))]) bs N w := by
  subst hN
  exact all1_35 n hn B a c zs bs w hlen hB ho hbB hbg

/-- The rows collected so far. -/
def Coll (w2 : World) (b4 : Nat) (ps : List Pos) (k : Nat) (W : World) : Prop :=
  ∃ v, W.heap[b4]? = some (.cells #[v] 35 (0, 0)) ∧ W.ownsRow w2.heap.size 29 2 v k (posV (ps.take k)) ∧ Keep [b4] w2 W

theorem coll_own (w2 : World) (b4 : Nat) (ps : List Pos) : OwnFrom w2.heap.size (Coll w2 b4 ps) := by
  rintro k A C row ⟨v, h1, h2, h3⟩ hg hr
  exact ⟨v, ownFrom_cells _ (fun _ : Unit => b4) (fun _ => #[v]) (fun _ => 35) () A C row h1 hg hr, row_own w2.heap.size w2.heap.size 29 2 (fun _ : Unit => v) (fun _ => k) (fun _ => posV (ps.take k)) () A C row h2 hg hr, ownFrom_keep (fun _ : Unit => [b4]) w2 (Nat.le_refl _) () A C row h3 hg hr⟩

set_option maxRecDepth 100000 in
set_option maxHeartbeats 4000000 in
theorem all11 (L p : Nat) (r : Option Nat) (ps : List Pos) (at_ : Int) (w : World) (h : JL w L p r ps at_) (hlen : ps.length ≤ 1000) :
    Calls Try.prog 11 #[.pointer (some ⟨L, 0, none⟩)] w fun e w' => ∃ a c, e = .returned (.tuple #[.slice a ps.length c, .int .i64 at_]) ∧ w'.ownsRow w.heap.size 29 2 (.slice a ps.length c) ps.length (posV ps) ∧ Keep [] w w' := by
  generalize hN : ps.length = N at *
  have HN := Lib.hid hN
  have hlt := h.lt
  have k1 : Keep [] w (w.alloc (.cells #[.slice none 0 0] 35)) := Keep.alloc [] w _
  obtain ⟨w1, hw1⟩ : ∃ w1, w1 = w.alloc (.cells #[.slice none 0 0] 35) := ⟨_, rfl⟩
  have b0 : w1.heap[w.heap.size]? = some (.cells #[.slice none 0 0] 35 (0, 0)) := by rw [hw1]; exact heap_alloc_new w _
  have z1 : w1.heap.size = w.heap.size + 1 := by rw [hw1]; simp
  rw [← hw1] at k1
  have h1 := h.keep k1 (by simp)
  have c0 : w1.cell? ⟨L, 0, none⟩ = some (.pointer (some ⟨p, 0, none⟩)) := by rw [blk_cell h1.box]; rfl
  rw [hw1] at c0
  have HW1 := Lib.hid hw1
  have H1 := Lib.hid h1
  have Hlt := Lib.hid hlt
  have HKW := Lib.hid k1
  have Hb0 := Lib.hid b0
  have hv1 := h1.vec
  rw [hN] at hv1
  have HV1 := Lib.hid hv1
  clear hw1 h1 hlt k1 h b0 hN hv1
  refine (callsIn_wide (n := 7)).1 ?_
  refine callsIn_of_wp_marks Try.func11 rfl trivial ?_ rfl
  simp only [Try.ntmps11, List.size_toArray, List.length_cons, List.length_nil, Nat.reduceAdd, Nat.reduceSub, Array.replicate_succ, Array.replicate_zero, List.push_toArray, List.append_toArray, List.nil_append, List.cons_append]
  gi_wp2_with fail
  rw [← HW1.out]
  refine (callsIn_wide.2 (all35 p r N _ w1 HV1.out (by omega))).mono ?_
  rintro e w2 ⟨B, ab, cb, rfl, hB, hob, k2, hBl, habl⟩
  gi_wp2_with fail
  clear c0
  have e0 := k2.heap Hb0.out (by simp)
  have hz2 := k2.size
  refine wpIn_rangeFunc_AU rfl (by decide) (gf := 41) (lb := #[.pointer (some ⟨B, 0, none⟩)]) rfl trivial (enters_of Try.func41 (by kernel_rfl) rfl)
    (bs := B :: (ab.map (·.block)).toList) (N := N) (all1_35' 6 (by decide) B ab cb ps N HN.out _ w2 (by omega) hB hob (by simp) (fun g hg => by simp [hg])) (fun _ => rfl)
    (Coll w2 w.heap.size ps) (fun _ _ _ => False) (coll_own w2 w.heap.size ps)
    (fun _ _ _ _ _ hs _ _ => hs) ⟨_, e0, ⟨rfl, .inl ⟨rfl, rfl⟩⟩, Keep.refl _ _⟩
    (fun k b t => ((t.setIfInBounds 12 (.int .i64 (k : Int))).setIfInBounds 13 (posAgg (ps[k]?.getD (0, 0)))).setIfInBounds 6 (.pointer (some ⟨b, 0, none⟩))) (fun k => .cells #[.int .i64 (ps[k]?.getD (0, 0)).1, .int .i64 (ps[k]?.getD (0, 0)).2] 29) (fun _ => rfl) ?assign ?body ?done ?stop
  case assign =>
    intro l k W K hK
    unfold posAgg at hK ⊢
    gi_wp2
    exact hK
  case body =>
    rintro l k W b ⟨v, hv, hov, hkW⟩ hlt hb hbo
    obtain ⟨q, hq⟩ : ∃ q, ps[k]? = some q := ⟨ps[k]'(by rw [HN.out]; exact hlt), List.getElem?_eq_getElem _⟩
    simp only [hq, Option.getD_some] at hbo ⊢
    have x0 : W.cell? ⟨w.heap.size, 0, none⟩ = some v := by rw [blk_cell hv]; rfl
    have y0 : W.cell? ⟨b, 0, none⟩ = some (.int .i64 q.1) := by rw [blk_cell hbo]; rfl
    have y1 : W.cell? ⟨b, 1, none⟩ = some (.int .i64 q.2) := by rw [blk_cell hbo]; rfl
    obtain ⟨q1, q2⟩ := q
    obtain ⟨i0, hi0, hz0, hzs, hzb⟩ := info_parts elt35.info
    have hoA : (W.alloc (.cells #[.int .i64 q1, .int .i64 q2] 29)).ownsRow w2.heap.size 29 2 v k (posV (ps.take k)) := (Keep.alloc [] W _).row hov (by simp)
    have hcl : ∀ j u, [Value.int .i64 q1, .int .i64 q2][j]? = some u → (W.alloc (.cells #[.int .i64 q1, .int .i64 q2] 29)).cell? ((⟨W.heap.size, 0, none⟩ : Addr).add j) = some u := fun j u hj => by
      rw [Addr.add_lit, blk_cell (heap_alloc_new W _)]
      simpa using hj
    have hzW := hkW.size
    have hoA2 := Lib.hid hoA
    have hcl2 := Lib.hid hcl
    have Hv := Lib.hid hv
    have Hov := Lib.hid hov
    have HkW := Lib.hid hkW
    have Hq := Lib.hid hq
    have Hbo := Lib.hid hbo
    clear hoA hcl hv hov hkW hq hbo
    gi_wp2_with (gi_at_builtin; refine wpListIn_append_own _ rfl (.tmp 14) (.tmp 16) 35 rfl w2.heap.size 29 i0 (.agg #[.int .i64 0, .int .i64 0]) 2 16 Try.underlying35 hi0 hz0 hzs hzb rfl (by decide) v k _ rfl hoA2.out ⟨W.heap.size, 0, none⟩ 1 1 [.int .i64 q1, .int .i64 q2] rfl rfl hcl2.out ?c2 ?c3 ?c4 ?c5 ?_)
    case c2 => exact ⟨rfl, rfl⟩
    case c3 => unfold maxLen; omega
    case c4 => omega
    case c5 => omega
    intro v' w3 hown' hgrow _
    obtain ⟨a', c', rfl, hsl⟩ := own_form hown'
    have ka : Keep [] W (W.alloc (.cells #[.int .i64 q1, .int .i64 q2] 29)) := Keep.alloc [] W _
    have kg : Keep v.ownBlock.toList (W.alloc (.cells #[.int .i64 q1, .int .i64 q2] 29)) w3 := Keep.of_grown hgrow
    have hvo : ∀ g, v.ownBlock = some g → w2.heap.size ≤ g ∧ g < W.heap.size ∧ ∃ arr e fr, W.heap[g]? = some (.cells arr e fr) := fun g hg => by
      rcases Hov.out.2 with ⟨h1, _⟩ | ⟨g', cap, cur, h1, hb', hh, _⟩
      · rw [h1] at hg; cases hg
      · rw [h1] at hg
        have : g' = g := by simpa [Value.ownBlock] using hg
        subst this
        exact ⟨hb', blk_lt hh, _, _, _, hh⟩
    have hb0 := blk_lt e0
    have hb4 : w.heap.size ∉ v.ownBlock.toList := fun hm => by
      have := (hvo w.heap.size (by simpa using hm)).1
      omega
    have hv3 := kg.heap (ka.heap Hv.out (by simp)) hb4
    have c3 : w3.cell? ⟨w.heap.size, 0, none⟩ = some v := by rw [blk_cell hv3]; rfl
    have f3 : w3.frozen? ⟨w.heap.size, 0, none⟩ = false := blk_frozen hv3 0
    have ks : Keep [w.heap.size] w3 (w3.setCell ⟨w.heap.size, 0, none⟩ (.slice a' (k + 1) c')) := Keep.setCell w3 _ _ (by simp)
    have hv4 := setCell_heap hv3 0 (.slice a' (k + 1) c')
    have hfin : ownPostE w2.heap.size (B :: (ab.map (·.block)).toList) (Coll w2 w.heap.size ps) (fun _ _ _ => False) (k + 1) W .normal { tmps := #[], defers := [] } (w3.setCell ⟨w.heap.size, 0, none⟩ (.slice a' (k + 1) c')) := by
      have hne : ∀ g, (Value.slice a' (k + 1) c').ownBlock = some g → g ≠ w.heap.size := fun g hg e => by
        rcases hown'.2 with ⟨h1, _⟩ | ⟨g', cap, cur, h1, hb', hh, _⟩
        · rw [h1] at hg; cases hg
        · rw [h1] at hg
          have : g' = g := by simpa [Value.ownBlock] using hg
          omega
      have kW : Keep (w.heap.size :: v.ownBlock.toList) W (w3.setCell ⟨w.heap.size, 0, none⟩ (.slice a' (k + 1) c')) := ((ka.mono (by simp)).trans (kg.mono (fun i hi => List.mem_cons_of_mem _ hi))).trans (ks.mono (by simp))
      refine ⟨kW.from (fun i hi => ?_), KeepC.of_keep kW (fun i hi hm => ?_), .slice a' (k + 1) c', ?_, ?_, ?_⟩
      · rcases List.mem_cons.1 hi with rfl | hi
        · exact .inl hb0
        · exact .inr (hvo i (by simpa using hi)).2.2
      · rcases List.mem_cons.1 hm with rfl | hm
        · rcases List.mem_cons.1 hi with e | hi
          · omega
          · have := habl _ (by simpa using hi); omega
        · have h1 := (hvo i (by simpa using hm)).1
          rcases List.mem_cons.1 hi with e | hi
          · subst e
            have := blk_lt hB
            omega
          · have h2 := own_lt hob i (by simpa using hi)
            omega
      · simpa using hv4
      · have hq' : ps.take (k + 1) = ps.take k ++ [(q1, q2)] := by
          obtain ⟨hk1, hk2⟩ := List.getElem?_eq_some_iff.1 Hq.out
          rw [List.take_succ_eq_append_getElem hk1, hk2]
        rw [hq', posV_app]
        exact ks.row hown' (fun g hg hm => hne g hg (by simpa using hm))
      · refine (HkW.out.trans (ka.mono (by simp))).trans' (kg.mono (T := w.heap.size :: v.ownBlock.toList) (fun i hi => List.mem_cons_of_mem _ hi)) (fun i hi => ?_) |>.trans ks
        rcases List.mem_cons.1 hi with rfl | hi
        · exact .inl (by simp)
        · exact .inr (hvo i (by simpa using hi)).1
    have HF := Lib.hid hfin
    clear hfin ka kg hvo hb4 hv3 ks hv4 hown' hgrow HkW Hov Hv Hbo Hq hoA2 hcl2
    gi_wp2
    exact HF.out
  case done =>
    rintro D W hD ⟨v, hv, hov, hkW⟩ hdef
    have hb0 := blk_lt e0
    have hkw : Keep [] w W := ((HKW.out.trans k2).mono (T := [w.heap.size]) (by simp)).trans hkW |>.fresh (fun i hi => by simp at hi; omega)
    have hj := H1.out.keep ((k2.mono (T := [w.heap.size]) (by simp)).trans hkW) (fun i hi hm => by have := Hlt.out i hi; simp at hm; omega)
    obtain ⟨a', c', rfl, hsl⟩ := own_form hov
    rw [List.take_of_length_le (by rw [HN.out]; exact Nat.le_refl _)] at hov
    have x0 : W.cell? ⟨w.heap.size, 0, none⟩ = some (.slice a' N c') := by rw [blk_cell hv]; rfl
    have y1 : W.cell? ⟨L, 1, none⟩ = some (.int .i64 at_) := by rw [blk_cell hj.box]; rfl
    have HKw := Lib.hid hkw
    have Hov := Lib.hid hov
    have Hdef := Lib.hid hdef
    clear hj hkw hov hkW hv hdef hsl
    gi_wp2
    gi_quiet (fail)
    gi_wp2
    refine ⟨by simp, .inl ⟨_, _, rfl, run_takeDeferred Hdef.out, ?_⟩⟩
    have kd : Keep [] W (W.drewN nq) := ⟨rfl, rfl, rfl, Nat.le_refl _, fun _ _ _ => rfl⟩
    have kp2 : Keep [D] W ((W.drewN nq).putObj D (.deferred none)) := (kd.mono (by simp)).trans (Keep.of_grown (grownBy_putObj' (W.drewN nq) D (.deferred none)))
    have hz2 := k2.size
    refine ⟨.tuple #[.slice a' N c', .int .i64 at_], ?_, a', c', rfl, ?_, ?_⟩
    · simp [results, Try.f11, go_sem]
    · have := kp2.row Hov.out (fun g hg hm => ?_)
      · exact ⟨this.1, this.2.imp id (fun ⟨g, cap, cur, a, b, c⟩ => ⟨g, cap, cur, a, by omega, c⟩)⟩
      · have : g = D := by simpa using hm
        subst this
        rcases Hov.out.2 with ⟨h1, _⟩ | ⟨g', cap, cur, h1, hb', hh, _⟩
        · rw [h1] at hg; cases hg
        · rw [h1] at hg
          have : g' = g := by simpa [Value.ownBlock] using hg
          subst this
          rw [hh] at Hdef
          exact absurd Hdef.out (by simp)
    · exact (HKw.out).trans' kp2 (fun i hi => .inr (by rw [List.mem_singleton.1 hi]; omega))
  case stop =>
    intro D c k W hD hk0 hkN hs
    exact hs.elim
end Go.Proofs.Ytglbhabpenkpdaa
