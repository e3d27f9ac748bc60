/-
  jumps.List's Adjust. Conditions: stated at each theorem.
-/
import Derived.Test.YtglbhabpenkpdaaRefA
import Derived.Stop.RegionWithIn
set_option linter.all false
namespace Go.Proofs.Ytglbhabpenkpdaa
open Go.RowKit Go.Shelf Go.Proofs.Ytglbhabpenkpdaa.Sx
attribute [local go_sem] Oper.semAt_some
attribute [local go_sem] wide_fn

/-- The closure of Adjust: is the place kept? -/
theorem clos26 (P1 P2 P3 : Nat) (a o n : Int) (q : Pos) (W : World) (h1 : W.heap[P1]? = some (.cells #[.int .i64 a] 3 (0, 0))) (h2 : W.heap[P2]? = some (.cells #[.int .i64 o] 3 (0, 0))) (h3 : W.heap[P3]? = some (.cells #[.int .i64 n] 3 (0, 0))) :
    Calls Try.prog 26 (#[posAgg q] ++ #[.pointer (some ⟨P1, 0, none⟩), .pointer (some ⟨P2, 0, none⟩), .pointer (some ⟨P3, 0, none⟩)]) W fun e W' => e = .returned (.bool (kpS a o n q)) ∧ Keep [] W W' := by
  obtain ⟨q1, q2⟩ := q
  unfold posAgg kpS
  have hk : Keep [] W (W.alloc (.cells #[.int .i64 q1, .int .i64 q2] 29)) := Keep.alloc [] W _
  have c1 : (W.alloc (.cells #[.int .i64 q1, .int .i64 q2] 29)).cell? ⟨P1, 0, none⟩ = some (.int .i64 a) := by rw [blk_cell (hk.heap h1 (by simp))]; rfl
  have c2 : (W.alloc (.cells #[.int .i64 q1, .int .i64 q2] 29)).cell? ⟨P2, 0, none⟩ = some (.int .i64 o) := by rw [blk_cell (hk.heap h2 (by simp))]; rfl
  have c3 : (W.alloc (.cells #[.int .i64 q1, .int .i64 q2] 29)).cell? ⟨P3, 0, none⟩ = some (.int .i64 n) := by rw [blk_cell (hk.heap h3 (by simp))]; rfl
  have Hk := Lib.hid hk
  have HS := Lib.hid (shift27 q1 a o n (W.alloc (.cells #[.int .i64 q1, .int .i64 q2] 29)))
  generalize shiftS q1 a o n = s at *
  obtain ⟨s1, s2⟩ := s
  clear h1 h2 h3 hk
  show Calls Try.prog 26 #[.agg #[.int .i64 q1, .int .i64 q2], .pointer (some ⟨P1, 0, none⟩), .pointer (some ⟨P2, 0, none⟩), .pointer (some ⟨P3, 0, none⟩)] W _
  go_enter Try.func26, Try.ntmps26
  go_wp2_with (go_at_call 27; refine HS.out.mono ?_; rintro e w1 ⟨rfl, kc⟩)
  go_ret
  exact ⟨by simp, Hk.out.trans kc⟩

theorem all1_35'' (n : Nat) (hn : 1 ≤ n) (B : Nat) (a : Option Addr) (c : Nat) (zs : List Pos) (N : Nat) (hN : zs.length = N) (bs : List Nat) (w : World) (hlen : N ≤ 4611686018427387904)
    (hB : w.heap[B]? = some (.cells #[.slice a N c] 35 (0, 0))) (ho : w.ownsRow 0 29 2 (.slice a N c) N (posV zs)) (hbB : B ∈ bs) (hbg : ∀ g, a.map (·.block) = some g → g ∈ bs) :
    SeqE Fence.wide n Try.prog 41 #[.pointer (some ⟨B, 0, none⟩)] (fun k => #[.int .i64 (k : Int), posAgg (zs[k]?.getD (0, 0))]) bs N w := by
  subst hN
  exact all1_35 n hn B a c zs bs w hlen hB ho hbB hbg

/-- The first k are moved. -/
def asK (a o n : Int) (ps : List Pos) (k : Nat) : List Pos := (ps.take k).map (mvS a o n) ++ ps.drop k
theorem asK_len (a o n : Int) (ps : List Pos) (k : Nat) : (asK a o n ps k).length = ps.length := by simp [asK]; omega
theorem asK_set (a o n : Int) (ps : List Pos) (k : Nat) (q : Pos) (hq : ps[k]? = some q) : (asK a o n ps k).set k (mvS a o n q) = asK a o n ps (k + 1) := by
  obtain ⟨hk, he⟩ := List.getElem?_eq_some_iff.1 hq
  unfold asK
  have hl : ((ps.take k).map (mvS a o n)).length = k := by simp; omega
  rw [List.set_append_right _ _ (by omega), hl, Nat.sub_self, drop_cons ps k hk, List.set_cons_zero, List.take_succ_eq_append_getElem hk, List.map_append, he]
  simp

set_option maxRecDepth 100000 in
set_option maxHeartbeats 4000000 in
theorem adjust15 (L p : Nat) (r : Option Nat) (ps : List Pos) (at_ : Nat) (a o n : Int) (w : World) (h : JL w L p r ps at_) (hat : at_ ≤ ps.length) (hlen : ps.length ≤ 1000) :
    Calls Try.prog 15 #[.pointer (some ⟨L, 0, none⟩), .int .i64 a, .int .i64 o, .int .i64 n] w fun e w' => e = .returned (.tuple #[]) ∧ JL w' L p r (adjL ps a o n) (adjAt ps at_ a o n : Nat) ∧ Keep (L :: p :: r.toList) w w' := by
  have hlt := h.lt
  obtain ⟨w1, hw1⟩ : ∃ w1, w1 = (((w.alloc (.cells #[.pointer (some ⟨L, 0, none⟩)] 24)).alloc (.cells #[.int .i64 a] 3)).alloc (.cells #[.int .i64 o] 3)).alloc (.cells #[.int .i64 n] 3) := ⟨_, rfl⟩
  have k1 : Keep [] w w1 := by rw [hw1]; exact (((Keep.alloc [] w _).trans (Keep.alloc [] _ _)).trans (Keep.alloc [] _ _)).trans (Keep.alloc [] _ _)
  have z1 : w1.heap.size = w.heap.size + 4 := by rw [hw1]; simp
  have b0 : w1.heap[w.heap.size]? = some (.cells #[.pointer (some ⟨L, 0, none⟩)] 24 (0, 0)) := by
    rw [hw1, heap_alloc_old _ _ (by simp; try omega), heap_alloc_old _ _ (by simp; try omega), heap_alloc_old _ _ (by simp; try omega)]; exact heap_alloc_new w _
  have b1 : w1.heap[w.heap.size + 1]? = some (.cells #[.int .i64 a] 3 (0, 0)) := by
    rw [hw1, heap_alloc_old _ _ (by simp; try omega), heap_alloc_old _ _ (by simp; try omega)]
    have := heap_alloc_new (w.alloc (.cells #[.pointer (some ⟨L, 0, none⟩)] 24)) (.cells #[.int .i64 a] 3)
    rwa [World.size_alloc] at this
  have b2 : w1.heap[w.heap.size + 2]? = some (.cells #[.int .i64 o] 3 (0, 0)) := by
    rw [hw1, heap_alloc_old _ _ (by simp; try omega)]
    have := heap_alloc_new ((w.alloc (.cells #[.pointer (some ⟨L, 0, none⟩)] 24)).alloc (.cells #[.int .i64 a] 3)) (.cells #[.int .i64 o] 3)
    rwa [World.size_alloc, World.size_alloc] at this
  have b3 : w1.heap[w.heap.size + 3]? = some (.cells #[.int .i64 n] 3 (0, 0)) := by
    rw [hw1]
    have := heap_alloc_new (((w.alloc (.cells #[.pointer (some ⟨L, 0, none⟩)] 24)).alloc (.cells #[.int .i64 a] 3)).alloc (.cells #[.int .i64 o] 3)) (.cells #[.int .i64 n] 3)
    rwa [World.size_alloc, World.size_alloc, World.size_alloc] at this
  have h1 := h.keep k1 (by simp)
  have hne : ∀ i, w.heap.size ≤ i → i ∉ L :: p :: r.toList := fun i hi hm => by have := hlt i hm; omega
  have HD := Lib.hid (drop26 L p r ps at_ #[.pointer (some ⟨w.heap.size + 1, 0, none⟩), .pointer (some ⟨w.heap.size + 2, 0, none⟩), .pointer (some ⟨w.heap.size + 3, 0, none⟩)] (kpS a o n) w1 h1 hat (by omega)
    (fun W q' hW => clos26 _ _ _ a o n q' W (hW.heap b1 (hne _ (by omega))) (hW.heap b2 (hne _ (by omega))) (hW.heap b3 (hne _ (by omega)))))
  have c0 : w1.cell? ⟨w.heap.size, 0, none⟩ = some (.pointer (some ⟨L, 0, none⟩)) := by rw [blk_cell b0]; rfl
  rw [hw1] at c0
  have HW1 := Lib.hid hw1
  have Hlt := Lib.hid hlt
  have HKW := Lib.hid k1
  have Hb0 := Lib.hid b0
  have Hb1 := Lib.hid b1
  have Hb2 := Lib.hid b2
  have Hb3 := Lib.hid b3
  have Hne := Lib.hid hne
  clear hw1 h1 hlt k1 h b0 b1 b2 b3 hne
  refine (callsIn_wide (n := 7)).1 ?_
  refine callsIn_of_wp_marks Try.func15 rfl trivial ?_ rfl
  simp only [Try.ntmps15, List.size_toArray, List.length_cons, List.length_nil, Nat.reduceAdd, Nat.reduceSub, Array.replicate_succ, Array.replicate_zero, List.push_toArray, List.append_toArray, List.nil_append, List.cons_append]
  gi_wp2_with fail
  rw [← HW1.out]
  refine (callsIn_wide.2 HD.out).mono ?_
  rintro e w2 ⟨rfl, hj2, k2⟩
  clear c0
  obtain ⟨fs, hfs⟩ : ∃ fs, fs = ps.filter (kpS a o n) := ⟨_, rfl⟩
  obtain ⟨at2, hat2⟩ : ∃ at2, at2 = ((ps.take at_).filter (kpS a o n)).length := ⟨_, rfl⟩
  rw [← hfs, ← hat2] at hj2
  have hfl : fs.length ≤ 1000 := by have := List.length_filter_le (kpS a o n) ps; rw [← hfs] at this; omega
  have e0 := k2.heap Hb0.out (Hne.out _ (by omega))
  have e1 := k2.heap Hb1.out (Hne.out _ (by omega))
  have e2 := k2.heap Hb2.out (Hne.out _ (by omega))
  have e3 := k2.heap Hb3.out (Hne.out _ (by omega))
  generalize hN : fs.length = N at *
  have c0 : w2.cell? ⟨w.heap.size, 0, none⟩ = some (.pointer (some ⟨L, 0, none⟩)) := by rw [blk_cell e0]; rfl
  have d0 : w2.cell? ⟨L, 0, none⟩ = some (.pointer (some ⟨p, 0, none⟩)) := by rw [blk_cell hj2.box]; rfl
  have hv2 := hj2.vec
  rw [hN] at hv2
  have HV2 := Lib.hid hv2
  have Hj2 := Lib.hid hj2
  have HK2 := Lib.hid k2
  have He0 := Lib.hid e0
  have He1 := Lib.hid e1
  have He2 := Lib.hid e2
  have He3 := Lib.hid e3
  have HN := Lib.hid hN
  have Hfs := Lib.hid hfs
  have Hat2 := Lib.hid hat2
  clear e0 e1 e2 e3 hv2 hj2 k2 hN hfs hat2
  gi_wp2_with fail
  refine (callsIn_wide.2 (all35 p r N _ w2 HV2.out (by omega))).mono ?_
  rintro e w3 ⟨B, ab, cb, rfl, hB, hob, k3, hBl, habl⟩
  have e0 := k3.heap He0.out (by simp)
  have e1 := k3.heap He1.out (by simp)
  have e2 := k3.heap He2.out (by simp)
  have e3 := k3.heap He3.out (by simp)
  have hj3 := Hj2.out.keep k3 (by simp)
  have Hj3 := Lib.hid hj3
  clear c0 d0 hj3
  gi_wp2_with fail
  refine wpIn_rangeFunc_AU rfl (by decide) (gf := 41) (lb := #[.pointer (some ⟨B, 0, none⟩)]) rfl trivial (enters_of Try.func41 (by kernel_rfl) rfl)
    (bs := B :: (ab.map (·.block)).toList) (N := N) (all1_35'' 6 (by decide) B ab cb fs N HN.out _ w3 (by omega) hB hob (by simp) (fun g hg => by simp [hg])) (fun _ => rfl)
    (fun k W => Keep (L :: p :: r.toList) w3 W ∧ JL W L p r (asK a o n fs k) at2) (fun _ _ _ => False)
    (OwnFrom.and (ownFrom_keep (fun _ : Nat => L :: p :: r.toList) w3 (Nat.le_refl _)) (jl_own _ L p (fun _ : Nat => r) (fun k => asK a o n fs k) (fun k => (at2 : Int))))
    (fun _ _ _ _ _ hs _ _ => hs) ⟨Keep.refl _ _, by simpa [asK] using Hj3.out⟩
    (fun k b t => (((t.setIfInBounds 18 (.int .i64 (k : Int))).setIfInBounds 19 (posAgg (fs[k]?.getD (0, 0)))).setIfInBounds 8 (.int .i64 (k : Int))).setIfInBounds 9 (.pointer (some ⟨b, 0, none⟩))) (fun k => .cells #[.int .i64 (fs[k]?.getD (0, 0)).1, .int .i64 (fs[k]?.getD (0, 0)).2] 29) (fun _ => rfl) ?assign ?body ?done ?stop
  case assign =>
    intro l k W K hK
    unfold posAgg at hK ⊢
    gi_wp2
    exact hK
  case body =>
    rintro l k W b ⟨hkW, hj⟩ hlt hb hbo
    obtain ⟨q, hq⟩ : ∃ q, fs[k]? = some q := ⟨fs[k]'(by rw [HN.out]; exact hlt), List.getElem?_eq_getElem _⟩
    simp only [hq, Option.getD_some] at hbo ⊢
    have hne3 : ∀ i, w.heap.size ≤ i → i ∉ L :: p :: r.toList := Hne.out
    have f0 := hkW.heap e0 (hne3 _ (by omega))
    have f1 := hkW.heap e1 (hne3 _ (by omega))
    have f2 := hkW.heap e2 (hne3 _ (by omega))
    have f3 := hkW.heap e3 (hne3 _ (by omega))
    obtain ⟨q1, q2⟩ := q
    have x1 : W.cell? ⟨w.heap.size + 1, 0, none⟩ = some (.int .i64 a) := by rw [blk_cell f1]; rfl
    have x2 : W.cell? ⟨w.heap.size + 2, 0, none⟩ = some (.int .i64 o) := by rw [blk_cell f2]; rfl
    have x3 : W.cell? ⟨w.heap.size + 3, 0, none⟩ = some (.int .i64 n) := by rw [blk_cell f3]; rfl
    have y0 : W.cell? ⟨b, 0, none⟩ = some (.int .i64 q1) := by rw [blk_cell hbo]; rfl
    have hcl := shift27 q1 a o n W
    have hmv : mvS a o n (q1, q2) = ((shiftS q1 a o n).1, q2) := rfl
    generalize shiftS q1 a o n = s at hcl hmv
    obtain ⟨s1, s2⟩ := s
    have HCl := Lib.hid (CallsIn.inRound l (callsIn_wide.2 hcl : CallsIn Fence.wide 4 _ _ _ _ _))
    have Hmv := Lib.hid hmv
    clear hcl hmv
    have Hq := Lib.hid hq
    have Hj := Lib.hid hj
    have HkW := Lib.hid hkW
    have Hbo := Lib.hid hbo
    have Hf0 := Lib.hid f0
    clear hj hbo f0 f1 f2 f3 hkW hq
    simp only [posAgg]
    gi_wp2_with fail
    refine HCl.out.mono ?_
    rintro e W1 ⟨rfl, kc⟩
    have hb1 := kc.heap Hbo.out (by simp)
    have hbL : b ≠ L ∧ b ≠ p ∧ b ∉ r.toList := by
      have h1 := Hlt.out
      have hz1 := HKW.out.size
      have hz2 := HK2.out.size
      have hz3 := k3.size
      refine ⟨fun e => ?_, fun e => ?_, fun e => ?_⟩
      · have := h1 L (by simp); omega
      · have := h1 p (by simp); omega
      · have := h1 b (by simp at e; simp [e]); omega
    have y1 : W1.frozen? ⟨b, 0, none⟩ = false := blk_frozen hb1 0
    have y2 : W1.cell? ⟨b, 0, none⟩ = some (.int .i64 q1) := by rw [blk_cell hb1]; rfl
    have kS : Keep [b] W1 (W1.setCell ⟨b, 0, none⟩ (.int .i64 s1)) := Keep.setCell W1 _ _ (by simp)
    have hb2 := setCell_heap hb1 0 (.int .i64 s1)
    have hb2 : (W1.setCell ⟨b, 0, none⟩ (.int .i64 s1)).heap[b]? = some (.cells #[.int .i64 s1, .int .i64 q2] 29 (0, 0)) := by simpa using hb2
    have kd : Keep [b] W1 (W1.setCell ⟨b, 0, none⟩ (.int .i64 s1)).drew := kS.trans (Keep.drew _ _)
    have hjd := (Hj.out.keep kc (by simp)).keep kd (fun i hi hm => by
      simp at hm
      subst hm
      simp at hi
      rcases hi with hi | hi | hi
      · exact hbL.1 hi
      · exact hbL.2.1 hi
      · exact hbL.2.2 (by simp [hi]))
    have fbd := kd.heap (kc.heap Hf0.out (by simp)) (by simp; intro e; subst e; rw [kc.heap Hf0.out (by simp)] at hb1; cases hb1)
    have hbd := (Keep.drew [] (W1.setCell ⟨b, 0, none⟩ (.int .i64 s1))).heap hb2 (by simp)
    have z0 : (W1.setCell ⟨b, 0, none⟩ (.int .i64 s1)).drew.cell? ⟨w.heap.size, 0, none⟩ = some (.pointer (some ⟨L, 0, none⟩)) := by rw [blk_cell fbd]; rfl
    have z1' : (W1.setCell ⟨b, 0, none⟩ (.int .i64 s1)).drew.cell? ⟨L, 0, none⟩ = some (.pointer (some ⟨p, 0, none⟩)) := by rw [blk_cell hjd.box]; rfl
    have z2 : (W1.setCell ⟨b, 0, none⟩ (.int .i64 s1)).drew.cell? ⟨b, 0, none⟩ = some (.int .i64 s1) := by rw [blk_cell hbd]; rfl
    have z3 : (W1.setCell ⟨b, 0, none⟩ (.int .i64 s1)).drew.cell? ⟨b, 1, none⟩ = some (.int .i64 q2) := by rw [blk_cell hbd]; rfl
    obtain ⟨M, hM⟩ : ∃ M, M = (asK a o n fs k).length := ⟨_, rfl⟩
    have hMN : M = N := by rw [hM, asK_len, HN.out]
    have hset := set35 p r (asK a o n fs k) k (s1, q2) (W1.setCell ⟨b, 0, none⟩ (.int .i64 s1)).drew hjd.vec (by rw [asK_len, HN.out]; exact hlt)
    rw [← Hmv.out, asK_set a o n fs k (q1, q2) Hq.out, Hmv.out] at hset
    have hEnd : Hid (∀ (W' : World), Vec 65 29 2 W' p r (asK a o n fs k).length (posV (asK a o n fs (k + 1))) → Keep r.toList (W1.setCell ⟨b, 0, none⟩ (.int .i64 s1)).drew W' → KeepsFrom w3.heap.size W W' ∧ KeepC (B :: (ab.map (·.block)).toList) W W' ∧ Keep (L :: p :: r.toList) w3 W' ∧ JL W' L p r (asK a o n fs (k + 1)) at2) := fun W' hv' k4 => by
      have hz1 := HKW.out.size
      have hz2 := HK2.out.size
      have hz3 := k3.size
      have hrl : ∀ i, i ∈ r.toList → i < w.heap.size := fun i hi => Hlt.out i (List.mem_cons_of_mem _ (List.mem_cons_of_mem _ hi))
      have kW : Keep (b :: r.toList) W W' := ((kc.mono (T := b :: r.toList) (by simp)).trans (kd.mono (by simp))).trans (k4.mono (fun i hi => List.mem_cons_of_mem _ hi))
      refine ⟨kW.from (fun i hi => ?_), KeepC.of_keep kW (fun i hi hm => ?_), HkW.out.trans' kW (fun i hi => ?_), ?_⟩
      · rcases List.mem_cons.1 hi with rfl | hi
        · exact .inr ⟨_, _, _, Hbo.out⟩
        · have := hrl i hi; exact .inl (by omega)
      · have hBl2 := blk_lt hB
        rcases List.mem_cons.1 hi with e1 | hi
        · rcases List.mem_cons.1 hm with e2 | hm
          · omega
          · have := hrl i hm; omega
        · have h5 := own_lt hob i (by simpa using hi)
          have h6 := habl i (by simpa using hi)
          rcases List.mem_cons.1 hm with e2 | hm
          · omega
          · have := hrl i hm; omega
      · rcases List.mem_cons.1 hi with rfl | hi
        · exact .inr hb
        · exact .inl (List.mem_cons_of_mem _ (List.mem_cons_of_mem _ hi))
      · refine ⟨k4.heap hjd.box (fun hh => hjd.nr (by simpa using hh)), ?_, hjd.ne, hjd.nr⟩
        rw [asK_len, ← asK_len a o n fs (k + 1)] at hv'
        exact hv'
    have HSet := Lib.hid (CallsIn.inRound l (callsIn_wide.2 hset : CallsIn Fence.wide 4 _ _ _ _ _))
    have Hkc := Lib.hid kc
    have Hkd := Lib.hid kd
    have Hjd := Lib.hid hjd
    clear hset hjd kS hb2 fbd hbd kd hb1 kc
    clear x1 x2 x3 y0
    simp only [posAgg] at HSet
    gi_wp2_with fail
    gi_region_with (gi_at_call 28; refine HSet.out.mono ?_; rintro e w4 ⟨rfl, hv4, k4⟩)
    all_goals exact hEnd.out _ hv4 k4
  case done =>
    rintro D W hD ⟨hkW, hj⟩ hK
    have hfin : asK a o n fs N = adjL ps a o n := by
      unfold asK adjL
      rw [← Hfs.out, ← HN.out, List.take_length, List.drop_length, List.append_nil]
    rw [hfin, Hat2.out] at hj
    have HJ := Lib.hid hj
    have HkW := Lib.hid hkW
    clear hj hkW
    gi_wp2
    refine ⟨by simp, .inl ⟨_, _, rfl, run_takeDeferred hK, ?_⟩⟩
    have kp2 : Keep [D] W (W.putObj D (.deferred none)) := Keep.of_grown (grownBy_putObj' W D (.deferred none))
    have hz1 := HKW.out.size
    have hz2 := HK2.out.size
    have hz3 := k3.size
    have hDn : ∀ i, i ∈ L :: p :: r.toList → i ∉ [D] := fun i hi hm => by
      have := Hlt.out i hi
      simp at hm
      omega
    refine ⟨.tuple #[], ?_, rfl, HJ.out.keep kp2 hDn, ?_⟩
    · simp [results, Try.f15, go_sem]
    · exact ((((HKW.out.mono (by simp)).trans HK2.out).trans (k3.mono (by simp))).trans HkW.out).trans' kp2 (fun i hi => .inr (by simp at hi; omega))
  case stop =>
    intro D c k W hD hk0 hkN hs
    exact hs.elim
end Go.Proofs.Ytglbhabpenkpdaa
