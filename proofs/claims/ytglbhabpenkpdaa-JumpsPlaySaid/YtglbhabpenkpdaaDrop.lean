/-
  jumps.List's drop. Conditions: stated at each theorem.
-/
import Derived.Test.YtglbhabpenkpdaaJList
set_option linter.unusedSimpArgs false
set_option linter.unusedVariables false
namespace Go.Proofs.Ytglbhabpenkpdaa
open Go.RowKit Go.Shelf
attribute [local go_sem] Oper.semAt_some
attribute [local go_sem] wide_fn

theorem jl_own {β : Type} (B L p : Nat) (r : β → Option Nat) (ps : β → List Pos) (at_ : β → Int) : OwnFrom B (fun (s : β) W => JL W L p (r s) (ps s) (at_ s)) := by
  rintro s A C row ⟨h1, h2, h3, h4⟩ hg hr
  exact ⟨ownFrom_cells B (fun _ : Unit => L) (fun _ => #[.pointer (some ⟨p, 0, none⟩), .int .i64 (at_ s)]) (fun _ => 51) () A C row h1 hg hr, vec_own B 65 29 2 (fun _ : Unit => p) (fun _ => r s) (fun _ => (ps s).length) (fun _ => posV (ps s)) () A C row h2 hg hr, h3, h4⟩

theorem back1_35' (n : Nat) (hn : 1 ≤ n) (B : Nat) (a : Option Addr) (c : Nat) (zs : List Pos) (N : Nat) (hN : zs.length = N) (bs : List Nat) (w : World) (hlen : N ≤ 4611686018427387904)
    (hB : w.heap[B]? = some (.cells #[.slice a N c] 35 (0, 0))) (ho : w.ownsRow 0 29 2 (.slice a N c) N (posV zs)) (hbB : B ∈ bs) (hbg : ∀ g, a.map (·.block) = some g → g ∈ bs) :
    SeqE Fence.wide n Try.prog 42 #[.pointer (some ⟨B, 0, none⟩)] (fun k => #[.int .i64 ((N - 1 - k : Nat) : Int), posAgg (zs[N - 1 - k]?.getD (0, 0))]) bs N w := by
  subst hN
  exact back1_35 n hn B a c zs bs w hlen hB ho hbB hbg

set_option maxRecDepth 100000 in
set_option maxHeartbeats 4000000 in
theorem drop20 (L p : Nat) (r : Option Nat) (ps : List Pos) (at_ : Nat) (cap : Array Value) (kp : Pos → Bool) (w : World) (h : JL w L p r ps at_) (hat : at_ ≤ ps.length) (hlen : ps.length ≤ 1000)
    (hK : ∀ (W : World) (q : Pos), Keep (L :: p :: r.toList) w W → Calls Try.prog 20 (#[posAgg q] ++ cap) W fun e W' => e = .returned (.bool (kp q)) ∧ Keep [] W W') :
    Calls Try.prog 19 #[.pointer (some ⟨L, 0, none⟩), .func (.func 20) #[] cap] w fun e w' => e = .returned (.tuple #[]) ∧ JL w' L p r (ps.filter kp) (((ps.take at_).filter kp).length : Nat) ∧ Keep (L :: p :: r.toList) w w' := by
  generalize hN : ps.length = N at *
  have HN := Lib.hid hN
  have hlt := h.lt
  have HK := Lib.hid hK
  have k1 : Keep [] w ((w.alloc (.cells #[.pointer (some ⟨L, 0, none⟩)] 24)).alloc (.cells #[.func (.func 20) #[] cap] 53)) := (Keep.alloc [] w _).trans (Keep.alloc [] _ _)
  obtain ⟨w1, hw1⟩ : ∃ w1, w1 = (w.alloc (.cells #[.pointer (some ⟨L, 0, none⟩)] 24)).alloc (.cells #[.func (.func 20) #[] cap] 53) := ⟨_, rfl⟩
  have b0 : w1.heap[w.heap.size]? = some (.cells #[.pointer (some ⟨L, 0, none⟩)] 24 (0, 0)) := by rw [hw1, heap_alloc_old _ _ (by simp)]; exact heap_alloc_new w _
  have b1 : w1.heap[w.heap.size + 1]? = some (.cells #[.func (.func 20) #[] cap] 53 (0, 0)) := by
    have := heap_alloc_new (w.alloc (.cells #[.pointer (some ⟨L, 0, none⟩)] 24)) (.cells #[.func (.func 20) #[] cap] 53)
    rw [World.size_alloc] at this
    rw [hw1]; exact this
  have z1 : w1.heap.size = w.heap.size + 2 := by rw [hw1]; simp
  rw [← hw1] at k1
  have h1 := h.keep k1 (by simp)
  have c0 : w1.cell? ⟨L, 0, none⟩ = some (.pointer (some ⟨p, 0, none⟩)) := by rw [blk_cell h1.box]; rfl
  have x0 : w1.cell? ⟨w.heap.size, 0, none⟩ = some (.pointer (some ⟨L, 0, none⟩)) := by rw [blk_cell b0]; rfl
  rw [hw1] at c0 x0
  have HW1 := Lib.hid hw1
  have H1 := Lib.hid h1
  have Hlt := Lib.hid hlt
  have HKW := Lib.hid k1
  have Hb0 := Lib.hid b0
  have Hb1 := Lib.hid b1
  have hv1 := h1.vec
  rw [hN] at hv1
  have HV1 := Lib.hid hv1
  clear hw1 h1 hlt k1 h hK b0 b1 hN hv1
  refine (callsIn_wide (n := 7)).1 ?_
  refine callsIn_of_wp_marks Try.func19 rfl trivial ?_ rfl
  simp only [Try.ntmps19, List.size_toArray, List.length_cons, List.length_nil, Nat.reduceAdd, Nat.reduceSub, Array.replicate_succ, Array.replicate_zero, List.push_toArray, List.append_toArray, List.nil_append, List.cons_append]
  gi_wp2_with fail
  rw [← HW1.out]
  refine (callsIn_wide.2 (back35 p r N _ w1 HV1.out (by omega))).mono ?_
  rintro e w2 ⟨B, ab, cb, rfl, hB, hob, k2, hBl, habl⟩
  gi_wp2_with fail
  clear c0 x0
  refine wpIn_rangeFunc_AU rfl (by decide) (gf := 42) (lb := #[.pointer (some ⟨B, 0, none⟩)]) rfl trivial (enters_of Try.func42 (by kernel_rfl) rfl)
    (bs := B :: (ab.map (·.block)).toList) (N := N) (back1_35' 6 (by decide) B ab cb ps N HN.out _ w2 (by omega) hB hob (by simp) (fun g hg => by simp [hg])) (fun _ => rfl)
    (fun k W => Keep (L :: p :: r.toList) w2 W ∧ JL W L p r (lsK ps kp (N - k)) (atK ps kp at_ (N - k))) (fun _ _ _ => False)
    (OwnFrom.and (ownFrom_keep (fun _ : Nat => L :: p :: r.toList) w2 (Nat.le_refl _)) (jl_own _ L p (fun _ : Nat => r) (fun k => lsK ps kp (N - k)) (fun k => atK ps kp at_ (N - k))))
    (fun _ _ _ _ _ hs _ _ => hs) ⟨Keep.refl _ _, by rw [Nat.sub_zero, ← HN.out, lsK_all, atK_all _ _ _ (by rw [HN.out]; exact hat)]; exact H1.out.keep k2 (by simp)⟩
    (fun k b t => (((t.setIfInBounds 11 (.int .i64 ((N - 1 - k : Nat) : Int))).setIfInBounds 12 (posAgg (ps[N - 1 - k]?.getD (0, 0)))).setIfInBounds 4 (.int .i64 ((N - 1 - k : Nat) : Int))).setIfInBounds 5 (.pointer (some ⟨b, 0, none⟩))) (fun k => .cells #[.int .i64 (ps[N - 1 - k]?.getD (0, 0)).1, .int .i64 (ps[N - 1 - k]?.getD (0, 0)).2] 29) (fun _ => rfl) ?assign ?body ?done ?stop
  case assign =>
    intro l k W K hK
    unfold posAgg at hK ⊢
    gi_wp2
    exact hK
  case body =>
    rintro l k W b ⟨hkW, hj⟩ hlt hb hbo
    obtain ⟨j, hj1⟩ : ∃ j, N - k = j + 1 := ⟨N - k - 1, by omega⟩
    have hj2 : N - 1 - k = j := by omega
    have hj3 : N - (k + 1) = j := by omega
    simp only [hj2] at hbo ⊢
    rw [hj1] at hj
    have hjN : j < N := by omega
    obtain ⟨q, hq⟩ : ∃ q, ps[j]? = some q := ⟨ps[j]'(by rw [HN.out]; exact hjN), List.getElem?_eq_getElem _⟩
    simp only [hq, Option.getD_some] at hbo ⊢
    have kw : Keep (L :: p :: r.toList) w W := (HKW.out.mono (by simp)).trans ((k2.mono (by simp)).trans hkW)
    have hne : ∀ i, w.heap.size ≤ i → i ∉ L :: p :: r.toList := fun i hi hm => by have := Hlt.out i hm; omega
    have e0 := hkW.heap (k2.heap Hb0.out (by simp)) (hne _ (by omega))
    have e1 := hkW.heap (k2.heap Hb1.out (by simp)) (hne _ (by omega))
    have x0 : W.cell? ⟨w.heap.size, 0, none⟩ = some (.pointer (some ⟨L, 0, none⟩)) := by rw [blk_cell e0]; rfl
    have x1 : W.cell? ⟨w.heap.size + 1, 0, none⟩ = some (.func (.func 20) #[] cap) := by rw [blk_cell e1]; rfl
    have y0 : W.cell? ⟨b, 0, none⟩ = some (.int .i64 q.1) := by rw [blk_cell hbo]; rfl
    have y1 : W.cell? ⟨b, 1, none⟩ = some (.int .i64 q.2) := by rw [blk_cell hbo]; rfl
    have HCl := Lib.hid (CallsIn.inRound l (callsIn_wide.2 (HK.out W q kw) : CallsIn Fence.wide 4 _ _ _ _ _))
    have HJ := Lib.hid hj
    have Hne := Lib.hid hne
    have He0 := Lib.hid e0
    clear hj hbo e0 e1 hne
    obtain ⟨q1, q2⟩ := q
    simp only [posAgg] at HCl ⊢
    have hEnd : Hid (∀ (W' : World), Keep (L :: p :: r.toList) W W' → JL W' L p r (lsK ps kp j) (atK ps kp at_ j) → KeepsFrom w2.heap.size W W' ∧ KeepC (B :: (ab.map (·.block)).toList) W W' ∧ Keep (L :: p :: r.toList) w2 W' ∧ JL W' L p r (lsK ps kp (N - (k + 1))) (atK ps kp at_ (N - (k + 1)))) := fun W' hW' hJ' => by
      rw [hj3]
      refine ⟨hW'.from (fun i hi => .inl (by have := Hlt.out i hi; have := k2.size; omega)), KeepC.of_keep hW' (fun i hi hm => ?_), hkW.trans hW', hJ'⟩
      have := Hlt.out i hm
      simp at hi
      rcases hi with rfl | hi
      · omega
      · have := habl i (by simpa using hi); omega
    gi_wp2_with fail
    refine HCl.out.mono ?_
    rintro e W1 ⟨rfl, kc⟩
    have HJ1 := Lib.hid (HJ.out.keep kc (by simp))
    have Hkc := Lib.hid kc
    have e0 := kc.heap He0.out (by simp)
    have x0' : W1.cell? ⟨w.heap.size, 0, none⟩ = some (.pointer (some ⟨L, 0, none⟩)) := by rw [blk_cell e0]; rfl
    have c0 : W1.cell? ⟨L, 0, none⟩ = some (.pointer (some ⟨p, 0, none⟩)) := by rw [blk_cell HJ1.out.box]; rfl
    have He1 := Lib.hid e0
    have Hq := Lib.hid hq
    clear x0 x1 y0 y1 HCl kc e0 hq
    cases hkq : kp (q1, q2) with
    | true =>
      gi_wp2_with fail
      exact hEnd.out W1 (Hkc.out.mono (by simp)) (by rw [lsK_keep ps kp j _ Hq.out hkq, atK_keep ps kp at_ j _ Hq.out hkq]; exact HJ1.out)
    | false =>
      gi_wp2_with fail
      obtain ⟨M, hM⟩ : ∃ M, (lsK ps kp (j + 1)).length = M := ⟨_, rfl⟩
      have hMj : j < M := by rw [← hM]; exact (List.getElem?_eq_some_iff.1 (lsK_at ps kp j _ Hq.out)).1
      have hMb : M ≤ 1000 := by
        rw [← hM, lsK_len ps kp (j + 1) (by rw [HN.out]; omega)]
        have := List.length_filter_le kp (ps.drop (j + 1))
        rw [List.length_drop, HN.out] at this
        omega
      have hv := HJ1.out.vec
      rw [hM] at hv
      refine (CallsIn.inRound l (callsIn_wide.2 (delete35 p r M _ j 1 1 W1 hv (by omega) (by omega) (by omega) (by omega)))).mono ?_
      rintro e W2 ⟨ad, cd, rfl, had, hfd, r', hv2, k3, rfl⟩
      rw [← posV_take, ← posV_drop, ← posV_app, ← lsK_drop ps kp j _ Hq.out hkq] at hv2
      have hl2 : M - 1 = (lsK ps kp j).length := by
        rw [← hM, lsK_len ps kp (j + 1) (by rw [HN.out]; omega), lsK_len ps kp j (by rw [HN.out]; omega)]
        have := drop_cons ps j (by rw [HN.out]; exact hjN)
        have he : ps[j]'(by rw [HN.out]; exact hjN) = (q1, q2) := (List.getElem?_eq_some_iff.1 Hq.out).2
        rw [this, List.filter_cons, he, hkq]
        simp
      rw [hl2] at hv2
      have hne0 : w.heap.size ∉ p :: r'.toList := fun hm => Hne.out _ (Nat.le_refl _) (List.mem_cons_of_mem _ hm)
      have hLn : L ∉ p :: r'.toList := by
        simp
        exact ⟨HJ1.out.ne, fun hh => HJ1.out.nr hh⟩
      have e2 := k3.heap He1.out hne0
      have hbx := k3.heap HJ1.out.box hLn
      have x2 : W2.cell? ⟨w.heap.size, 0, none⟩ = some (.pointer (some ⟨L, 0, none⟩)) := by rw [blk_cell e2]; rfl
      have c1 : W2.cell? ⟨L, 1, none⟩ = some (.int .i64 (atK ps kp at_ (j + 1))) := by rw [blk_cell hbx]; rfl
      have f1 := blk_frozen hbx 1
      have kA : Keep (L :: p :: r'.toList) W W2 := (Hkc.out.mono (by simp)).trans (k3.mono (fun i hi => List.mem_cons_of_mem _ hi))
      have hab : atK ps kp at_ (j + 1) ≤ 2000 := by
        have h1 : (((ps.take at_).drop (j + 1)).filter kp).length ≤ ((ps.take at_).drop (j + 1)).length := List.length_filter_le _ _
        have h2 : ((ps.take at_).drop (j + 1)).length ≤ ps.length := by simp; omega
        rw [HN.out] at h2
        unfold atK
        omega
      have HJ2 := Lib.hid hv2
      have HkA := Lib.hid kA
      have Hbx := Lib.hid hbx
      have HLn := Lib.hid hLn
      clear hv2 kA hbx e2 hv had hfd k3 hne0 hl2 hLn c0 x0' hM
      by_cases hja : j < at_
      · have hlt2 : (j : Int) < (atK ps kp at_ (j + 1) : Int) := by have := (atK_lt ps kp at_ j).2 hja; omega
        have hdec := atK_drop ps kp at_ j _ Hq.out hkq hja
        obtain ⟨A, hA⟩ : ∃ A, atK ps kp at_ (j + 1) = A := ⟨_, rfl⟩
        have hA' : atK ps kp at_ j + 1 = A := by rw [← hA]; exact hdec
        have Hdec := Lib.hid hA'
        rw [hA] at c1 Hbx hlt2 hab
        clear hdec hA hA'
        gi_wp2_with fail
        have hset := setCell_heap Hbx.out 1 (.int .i64 ((A : Int) - 1))
        have kS : Keep [L] W2 (W2.setCell ⟨L, 1, none⟩ (.int .i64 ((A : Int) - 1))) := Keep.setCell W2 _ _ (by simp)
        refine hEnd.out _ (HkA.out.trans (kS.mono (by simp))) ⟨?_, HJ2.out.keep kS (by simp; exact fun hh => HJ1.out.ne hh.symm) (fun g hg => by simp; intro hh; subst hh; exact HJ1.out.nr hg), HJ1.out.ne, HJ1.out.nr⟩
        rw [hset]
        have : ((A : Int) - 1) = ((atK ps kp at_ j : Nat) : Int) := by have := Hdec.out; omega
        rw [this]
        simp
      · have hge := atK_ge ps kp at_ j (by omega)
        obtain ⟨A, hA⟩ : ∃ A, atK ps kp at_ (j + 1) = A := ⟨_, rfl⟩
        have hjA : ¬ j < A := by rw [← hA]; exact fun hh => hja ((atK_lt ps kp at_ j).1 hh)
        rw [hA] at c1 Hbx hab hge
        have Hge := Lib.hid hge
        clear hge hA
        have hlt2 : decide ((j : Int) < (A : Int)) = false := by simp; omega
        gi_wp2_with fail
        exact hEnd.out _ HkA.out ⟨by rw [Hge.out]; exact Hbx.out, HJ2.out, HJ1.out.ne, HJ1.out.nr⟩
  case done =>
    rintro D W hD ⟨hkW, hj⟩ hK
    rw [Nat.sub_self, lsK_zero, atK_zero] at hj
    have HJ := Lib.hid hj
    have HkW := Lib.hid hkW
    clear hj hkW
    gi_wp2
    refine ⟨by simp, .inl ⟨_, _, rfl, run_takeDeferred hK, ?_⟩⟩
    have kp2 : Keep [D] W (W.putObj D (.deferred none)) := Keep.of_grown (grownBy_putObj' W D (.deferred none))
    have hDn : ∀ i, i ∈ L :: p :: r.toList → i ∉ [D] := fun i hi hm => by
      have := Hlt.out i hi
      have := k2.size
      simp at hm
      omega
    have hz2 := k2.size
    refine ⟨.tuple #[], ?_, rfl, HJ.out.keep kp2 hDn, ?_⟩
    · simp [results, Try.f19, go_sem]
    · exact ((HKW.out.mono (by simp)).trans ((k2.mono (by simp)).trans HkW.out)).trans' kp2 (fun i hi => .inr (by simp at hi; omega))
  case stop =>
    rintro D c k W _ _ _ h _
    exact h.elim
set_option maxRecDepth 100000 in
set_option maxHeartbeats 4000000 in
theorem drop26 (L p : Nat) (r : Option Nat) (ps : List Pos) (at_ : Nat) (cap : Array Value) (kp : Pos → Bool) (w : World) (h : JL w L p r ps at_) (hat : at_ ≤ ps.length) (hlen : ps.length ≤ 1000)
    (hK : ∀ (W : World) (q : Pos), Keep (L :: p :: r.toList) w W → Calls Try.prog 26 (#[posAgg q] ++ cap) W fun e W' => e = .returned (.bool (kp q)) ∧ Keep [] W W') :
    Calls Try.prog 19 #[.pointer (some ⟨L, 0, none⟩), .func (.func 26) #[] cap] w fun e w' => e = .returned (.tuple #[]) ∧ JL w' L p r (ps.filter kp) (((ps.take at_).filter kp).length : Nat) ∧ Keep (L :: p :: r.toList) w w' := by
  generalize hN : ps.length = N at *
  have HN := Lib.hid hN
  have hlt := h.lt
  have HK := Lib.hid hK
  have k1 : Keep [] w ((w.alloc (.cells #[.pointer (some ⟨L, 0, none⟩)] 24)).alloc (.cells #[.func (.func 26) #[] cap] 53)) := (Keep.alloc [] w _).trans (Keep.alloc [] _ _)
  obtain ⟨w1, hw1⟩ : ∃ w1, w1 = (w.alloc (.cells #[.pointer (some ⟨L, 0, none⟩)] 24)).alloc (.cells #[.func (.func 26) #[] cap] 53) := ⟨_, rfl⟩
  have b0 : w1.heap[w.heap.size]? = some (.cells #[.pointer (some ⟨L, 0, none⟩)] 24 (0, 0)) := by rw [hw1, heap_alloc_old _ _ (by simp)]; exact heap_alloc_new w _
  have b1 : w1.heap[w.heap.size + 1]? = some (.cells #[.func (.func 26) #[] cap] 53 (0, 0)) := by
    have := heap_alloc_new (w.alloc (.cells #[.pointer (some ⟨L, 0, none⟩)] 24)) (.cells #[.func (.func 26) #[] cap] 53)
    rw [World.size_alloc] at this
    rw [hw1]; exact this
  have z1 : w1.heap.size = w.heap.size + 2 := by rw [hw1]; simp
  rw [← hw1] at k1
  have h1 := h.keep k1 (by simp)
  have c0 : w1.cell? ⟨L, 0, none⟩ = some (.pointer (some ⟨p, 0, none⟩)) := by rw [blk_cell h1.box]; rfl
  have x0 : w1.cell? ⟨w.heap.size, 0, none⟩ = some (.pointer (some ⟨L, 0, none⟩)) := by rw [blk_cell b0]; rfl
  rw [hw1] at c0 x0
  have HW1 := Lib.hid hw1
  have H1 := Lib.hid h1
  have Hlt := Lib.hid hlt
  have HKW := Lib.hid k1
  have Hb0 := Lib.hid b0
  have Hb1 := Lib.hid b1
  have hv1 := h1.vec
  rw [hN] at hv1
  have HV1 := Lib.hid hv1
  clear hw1 h1 hlt k1 h hK b0 b1 hN hv1
  refine (callsIn_wide (n := 7)).1 ?_
  refine callsIn_of_wp_marks Try.func19 rfl trivial ?_ rfl
  simp only [Try.ntmps19, List.size_toArray, List.length_cons, List.length_nil, Nat.reduceAdd, Nat.reduceSub, Array.replicate_succ, Array.replicate_zero, List.push_toArray, List.append_toArray, List.nil_append, List.cons_append]
  gi_wp2_with fail
  rw [← HW1.out]
  refine (callsIn_wide.2 (back35 p r N _ w1 HV1.out (by omega))).mono ?_
  rintro e w2 ⟨B, ab, cb, rfl, hB, hob, k2, hBl, habl⟩
  gi_wp2_with fail
  clear c0 x0
  refine wpIn_rangeFunc_AU rfl (by decide) (gf := 42) (lb := #[.pointer (some ⟨B, 0, none⟩)]) rfl trivial (enters_of Try.func42 (by kernel_rfl) rfl)
    (bs := B :: (ab.map (·.block)).toList) (N := N) (back1_35' 6 (by decide) B ab cb ps N HN.out _ w2 (by omega) hB hob (by simp) (fun g hg => by simp [hg])) (fun _ => rfl)
    (fun k W => Keep (L :: p :: r.toList) w2 W ∧ JL W L p r (lsK ps kp (N - k)) (atK ps kp at_ (N - k))) (fun _ _ _ => False)
    (OwnFrom.and (ownFrom_keep (fun _ : Nat => L :: p :: r.toList) w2 (Nat.le_refl _)) (jl_own _ L p (fun _ : Nat => r) (fun k => lsK ps kp (N - k)) (fun k => atK ps kp at_ (N - k))))
    (fun _ _ _ _ _ hs _ _ => hs) ⟨Keep.refl _ _, by rw [Nat.sub_zero, ← HN.out, lsK_all, atK_all _ _ _ (by rw [HN.out]; exact hat)]; exact H1.out.keep k2 (by simp)⟩
    (fun k b t => (((t.setIfInBounds 11 (.int .i64 ((N - 1 - k : Nat) : Int))).setIfInBounds 12 (posAgg (ps[N - 1 - k]?.getD (0, 0)))).setIfInBounds 4 (.int .i64 ((N - 1 - k : Nat) : Int))).setIfInBounds 5 (.pointer (some ⟨b, 0, none⟩))) (fun k => .cells #[.int .i64 (ps[N - 1 - k]?.getD (0, 0)).1, .int .i64 (ps[N - 1 - k]?.getD (0, 0)).2] 29) (fun _ => rfl) ?assign ?body ?done ?stop
  case assign =>
    intro l k W K hK
    unfold posAgg at hK ⊢
    gi_wp2
    exact hK
  case body =>
    rintro l k W b ⟨hkW, hj⟩ hlt hb hbo
    obtain ⟨j, hj1⟩ : ∃ j, N - k = j + 1 := ⟨N - k - 1, by omega⟩
    have hj2 : N - 1 - k = j := by omega
    have hj3 : N - (k + 1) = j := by omega
    simp only [hj2] at hbo ⊢
    rw [hj1] at hj
    have hjN : j < N := by omega
    obtain ⟨q, hq⟩ : ∃ q, ps[j]? = some q := ⟨ps[j]'(by rw [HN.out]; exact hjN), List.getElem?_eq_getElem _⟩
    simp only [hq, Option.getD_some] at hbo ⊢
    have kw : Keep (L :: p :: r.toList) w W := (HKW.out.mono (by simp)).trans ((k2.mono (by simp)).trans hkW)
    have hne : ∀ i, w.heap.size ≤ i → i ∉ L :: p :: r.toList := fun i hi hm => by have := Hlt.out i hm; omega
    have e0 := hkW.heap (k2.heap Hb0.out (by simp)) (hne _ (by omega))
    have e1 := hkW.heap (k2.heap Hb1.out (by simp)) (hne _ (by omega))
    have x0 : W.cell? ⟨w.heap.size, 0, none⟩ = some (.pointer (some ⟨L, 0, none⟩)) := by rw [blk_cell e0]; rfl
    have x1 : W.cell? ⟨w.heap.size + 1, 0, none⟩ = some (.func (.func 26) #[] cap) := by rw [blk_cell e1]; rfl
    have y0 : W.cell? ⟨b, 0, none⟩ = some (.int .i64 q.1) := by rw [blk_cell hbo]; rfl
    have y1 : W.cell? ⟨b, 1, none⟩ = some (.int .i64 q.2) := by rw [blk_cell hbo]; rfl
    have HCl := Lib.hid (CallsIn.inRound l (callsIn_wide.2 (HK.out W q kw) : CallsIn Fence.wide 4 _ _ _ _ _))
    have HJ := Lib.hid hj
    have Hne := Lib.hid hne
    have He0 := Lib.hid e0
    clear hj hbo e0 e1 hne
    obtain ⟨q1, q2⟩ := q
    simp only [posAgg] at HCl ⊢
    have hEnd : Hid (∀ (W' : World), Keep (L :: p :: r.toList) W W' → JL W' L p r (lsK ps kp j) (atK ps kp at_ j) → KeepsFrom w2.heap.size W W' ∧ KeepC (B :: (ab.map (·.block)).toList) W W' ∧ Keep (L :: p :: r.toList) w2 W' ∧ JL W' L p r (lsK ps kp (N - (k + 1))) (atK ps kp at_ (N - (k + 1)))) := fun W' hW' hJ' => by
      rw [hj3]
      refine ⟨hW'.from (fun i hi => .inl (by have := Hlt.out i hi; have := k2.size; omega)), KeepC.of_keep hW' (fun i hi hm => ?_), hkW.trans hW', hJ'⟩
      have := Hlt.out i hm
      simp at hi
      rcases hi with rfl | hi
      · omega
      · have := habl i (by simpa using hi); omega
    gi_wp2_with fail
    refine HCl.out.mono ?_
    rintro e W1 ⟨rfl, kc⟩
    have HJ1 := Lib.hid (HJ.out.keep kc (by simp))
    have Hkc := Lib.hid kc
    have e0 := kc.heap He0.out (by simp)
    have x0' : W1.cell? ⟨w.heap.size, 0, none⟩ = some (.pointer (some ⟨L, 0, none⟩)) := by rw [blk_cell e0]; rfl
    have c0 : W1.cell? ⟨L, 0, none⟩ = some (.pointer (some ⟨p, 0, none⟩)) := by rw [blk_cell HJ1.out.box]; rfl
    have He1 := Lib.hid e0
    have Hq := Lib.hid hq
    clear x0 x1 y0 y1 HCl kc e0 hq
    cases hkq : kp (q1, q2) with
    | true =>
      gi_wp2_with fail
      exact hEnd.out W1 (Hkc.out.mono (by simp)) (by rw [lsK_keep ps kp j _ Hq.out hkq, atK_keep ps kp at_ j _ Hq.out hkq]; exact HJ1.out)
    | false =>
      gi_wp2_with fail
      obtain ⟨M, hM⟩ : ∃ M, (lsK ps kp (j + 1)).length = M := ⟨_, rfl⟩
      have hMj : j < M := by rw [← hM]; exact (List.getElem?_eq_some_iff.1 (lsK_at ps kp j _ Hq.out)).1
      have hMb : M ≤ 1000 := by
        rw [← hM, lsK_len ps kp (j + 1) (by rw [HN.out]; omega)]
        have := List.length_filter_le kp (ps.drop (j + 1))
        rw [List.length_drop, HN.out] at this
        omega
      have hv := HJ1.out.vec
      rw [hM] at hv
      refine (CallsIn.inRound l (callsIn_wide.2 (delete35 p r M _ j 1 1 W1 hv (by omega) (by omega) (by omega) (by omega)))).mono ?_
      rintro e W2 ⟨ad, cd, rfl, had, hfd, r', hv2, k3, rfl⟩
      rw [← posV_take, ← posV_drop, ← posV_app, ← lsK_drop ps kp j _ Hq.out hkq] at hv2
      have hl2 : M - 1 = (lsK ps kp j).length := by
        rw [← hM, lsK_len ps kp (j + 1) (by rw [HN.out]; omega), lsK_len ps kp j (by rw [HN.out]; omega)]
        have := drop_cons ps j (by rw [HN.out]; exact hjN)
        have he : ps[j]'(by rw [HN.out]; exact hjN) = (q1, q2) := (List.getElem?_eq_some_iff.1 Hq.out).2
        rw [this, List.filter_cons, he, hkq]
        simp
      rw [hl2] at hv2
      have hne0 : w.heap.size ∉ p :: r'.toList := fun hm => Hne.out _ (Nat.le_refl _) (List.mem_cons_of_mem _ hm)
      have hLn : L ∉ p :: r'.toList := by
        simp
        exact ⟨HJ1.out.ne, fun hh => HJ1.out.nr hh⟩
      have e2 := k3.heap He1.out hne0
      have hbx := k3.heap HJ1.out.box hLn
      have x2 : W2.cell? ⟨w.heap.size, 0, none⟩ = some (.pointer (some ⟨L, 0, none⟩)) := by rw [blk_cell e2]; rfl
      have c1 : W2.cell? ⟨L, 1, none⟩ = some (.int .i64 (atK ps kp at_ (j + 1))) := by rw [blk_cell hbx]; rfl
      have f1 := blk_frozen hbx 1
      have kA : Keep (L :: p :: r'.toList) W W2 := (Hkc.out.mono (by simp)).trans (k3.mono (fun i hi => List.mem_cons_of_mem _ hi))
      have hab : atK ps kp at_ (j + 1) ≤ 2000 := by
        have h1 : (((ps.take at_).drop (j + 1)).filter kp).length ≤ ((ps.take at_).drop (j + 1)).length := List.length_filter_le _ _
        have h2 : ((ps.take at_).drop (j + 1)).length ≤ ps.length := by simp; omega
        rw [HN.out] at h2
        unfold atK
        omega
      have HJ2 := Lib.hid hv2
      have HkA := Lib.hid kA
      have Hbx := Lib.hid hbx
      have HLn := Lib.hid hLn
      clear hv2 kA hbx e2 hv had hfd k3 hne0 hl2 hLn c0 x0' hM
      by_cases hja : j < at_
      · have hlt2 : (j : Int) < (atK ps kp at_ (j + 1) : Int) := by have := (atK_lt ps kp at_ j).2 hja; omega
        have hdec := atK_drop ps kp at_ j _ Hq.out hkq hja
        obtain ⟨A, hA⟩ : ∃ A, atK ps kp at_ (j + 1) = A := ⟨_, rfl⟩
        have hA' : atK ps kp at_ j + 1 = A := by rw [← hA]; exact hdec
        have Hdec := Lib.hid hA'
        rw [hA] at c1 Hbx hlt2 hab
        clear hdec hA hA'
        gi_wp2_with fail
        have hset := setCell_heap Hbx.out 1 (.int .i64 ((A : Int) - 1))
        have kS : Keep [L] W2 (W2.setCell ⟨L, 1, none⟩ (.int .i64 ((A : Int) - 1))) := Keep.setCell W2 _ _ (by simp)
        refine hEnd.out _ (HkA.out.trans (kS.mono (by simp))) ⟨?_, HJ2.out.keep kS (by simp; exact fun hh => HJ1.out.ne hh.symm) (fun g hg => by simp; intro hh; subst hh; exact HJ1.out.nr hg), HJ1.out.ne, HJ1.out.nr⟩
        rw [hset]
        have : ((A : Int) - 1) = ((atK ps kp at_ j : Nat) : Int) := by have := Hdec.out; omega
        rw [this]
        simp
      · have hge := atK_ge ps kp at_ j (by omega)
        obtain ⟨A, hA⟩ : ∃ A, atK ps kp at_ (j + 1) = A := ⟨_, rfl⟩
        have hjA : ¬ j < A := by rw [← hA]; exact fun hh => hja ((atK_lt ps kp at_ j).1 hh)
        rw [hA] at c1 Hbx hab hge
        have Hge := Lib.hid hge
        clear hge hA
        have hlt2 : decide ((j : Int) < (A : Int)) = false := by simp; omega
        gi_wp2_with fail
        exact hEnd.out _ HkA.out ⟨by rw [Hge.out]; exact Hbx.out, HJ2.out, HJ1.out.ne, HJ1.out.nr⟩
  case done =>
    rintro D W hD ⟨hkW, hj⟩ hK
    rw [Nat.sub_self, lsK_zero, atK_zero] at hj
    have HJ := Lib.hid hj
    have HkW := Lib.hid hkW
    clear hj hkW
    gi_wp2
    refine ⟨by simp, .inl ⟨_, _, rfl, run_takeDeferred hK, ?_⟩⟩
    have kp2 : Keep [D] W (W.putObj D (.deferred none)) := Keep.of_grown (grownBy_putObj' W D (.deferred none))
    have hDn : ∀ i, i ∈ L :: p :: r.toList → i ∉ [D] := fun i hi hm => by
      have := Hlt.out i hi
      have := k2.size
      simp at hm
      omega
    have hz2 := k2.size
    refine ⟨.tuple #[], ?_, rfl, HJ.out.keep kp2 hDn, ?_⟩
    · simp [results, Try.f19, go_sem]
    · exact ((HKW.out.mono (by simp)).trans ((k2.mono (by simp)).trans HkW.out)).trans' kp2 (fun i hi => .inr (by simp at hi; omega))
  case stop =>
    rintro D c k W _ _ _ h _
    exact h.elim
end Go.Proofs.Ytglbhabpenkpdaa
