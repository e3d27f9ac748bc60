/-
  The walk of VecBreaks: at every input it answers true and leaves what lay there alone. Conditions: stated at each theorem.
-/
import Derived.Test.YtnfkoegbinkfgaaKnown
import Derived.Test.YtnfkoegbinkfgaaAll
set_option linter.unusedSimpArgs false
set_option linter.unusedVariables false
namespace Go.Proofs.Ytnfkoegbinkfgaa
open Go.RowKit Go.Shelf
attribute [local go_sem] Oper.semAt_some
attribute [local go_sem] wide_fn

theorem Keep.toBelow {w w' : World} (h : Keep [] w w') : Below w.heap.size w w' := h.below (Nat.le_refl _) (by simp)

set_option maxHeartbeats 4000000 in
set_option maxRecDepth 100000 in
theorem breaks_long (a1 : Option Addr) (n1 c1 : Nat) (m : Int) (w : World) (h : 60 < n1) :
    Calls Try.prog 5 #[.slice a1 n1 c1, .int .u8 m] w fun e w' => e = .returned (.bool true) ∧ Below w.heap.size w w' := by
  have HK := Lib.hid (known8 w)
  go_enter Try.func5, Try.ntmps5
  go_wp2_with (go_at_call 8; refine HK.out.mono ?_; rintro e w1 ⟨rfl, k1⟩)
  go_ret
  exact ⟨rfl, k1.below (Nat.le_refl _) (by simp)⟩

section
variable {F : Fence} {n : Nat} {P : Program}
/-- The loop that may break off at one block's end. -/
theorem wpIn_rangeFunc_B {g : Operand} {ps : Array Tmp} {assign body : Code} {Q : Exit → Act → World → Prop} {a : Act} {w : World} {id : Nat}
    (hro : F.round = none) (h1 : 1 ≤ n) {gf : Nat} {lb : Array Value} (hg : a.eval g = .func (.func gf) #[] lb) (hFg : F.fn gf) (eg : ∀ args w, (callFunc gf args).run P w = .ok (.enter gf args) w)
    {encs : Nat → Array Value} {bs : List Nat} {N : Nat} (hseq : SeqE F (n - 1) P gf lb encs bs N w) (hps : ∀ k, (encs k).size = ps.size)
    (I X : Nat → World → Prop) (hI : OwnFrom w.heap.size I) (hX : OwnFrom w.heap.size X) (h0 : I 0 w) (upd : Nat → Array Value → Array Value)
    (hassign : ∀ (l : Nat) (k : Nat) (W : World) (K : Act → World → Prop), K { tmps := upd k a.tmps, defers := [] } W →
      assign.wpIn (F.inRound l) (n - 1 - 1) P (Exit.then K (fun _ _ _ => False)) { tmps := (ps.zip (encs k)).foldl (fun t (p, v) => t.setIfInBounds p v) a.tmps, defers := [] } W)
    (hbody : ∀ (l : Nat) (k : Nat) (W : World), I k W → k < N → body.wpIn (F.inRound l) (n - 1 - 1) P (ownPostE w.heap.size bs I (fun c k W => c = .exit id ∧ X k W) (k + 1) W) { tmps := upd k a.tmps, defers := [] } W)
    (hQ : ∀ a W, Q .normal a W → Q (.exit id) a W)
    (hafter : ∀ (D : Nat) (W : World), w.heap.size ≤ D → (I N W ∨ ∃ k, 0 < k ∧ k ≤ N ∧ X k W) → W.heap[D]? = some (.deferred (some [])) → Q .normal { a with defers := { target := .collected D, args := #[] } :: a.defers } W) :
    (Code.rangeFunc g ps assign body).wpIn F n P Q a w :=
  wpIn_rangeFunc_U hro h1 hg hFg eg hseq hps I (fun c k W => c = .exit id ∧ X k W) hI
    (fun c k A C row h hg hr => ⟨h.1, hX k A C row h.2 hg hr⟩) h0 upd hassign hbody (fun D W hD hI hk => hafter D W hD (.inl hI) hk)
    (fun D c k W hD h0 hN hx hk => by
      obtain ⟨rfl, hx⟩ := hx
      exact wpIn_exit (hQ _ _ (hafter D W hD (.inr ⟨k, h0, hN, hx⟩) hk)))
end

set_option maxHeartbeats 8000000 in
set_option maxRecDepth 100000 in
theorem breaks_short (a1 : Option Addr) (c1 : Nat) (zs : List Int) (m : Nat) (w : World)
    (h1 : zs.length ≤ 60) (hm : m < 256) (hA1 : Arg w 1 (.slice a1 zs.length c1) zs.length (ints zs) none) :
    Calls Try.prog 5 #[.slice a1 zs.length c1, .int .u8 m] w fun e w' => e = .returned (.bool true) ∧ Below w.heap.size w w' := by
  have HA := Lib.hid hA1
  generalize hN : zs.length = N at *
  have HN := Lib.hid hN
  clear hN hA1
  have HK := Lib.hid ((callsIn_wide (n := 6)).2 (known8 w))
  have hd1 : decide ((60 : Int) < (N : Int)) = false := by simp; omega
  have hq1 := eqlF36
  have hq2 := eqlF37
  refine (callsIn_wide (n := 7)).1 ?_
  refine callsIn_of_wp_marks Try.func5 rfl trivial ?_ rfl
  simp only [Try.ntmps5, List.size_toArray, List.length_cons, List.length_nil, Nat.reduceAdd, Nat.reduceSub, Array.replicate_succ, Array.replicate_zero, List.push_toArray, List.append_toArray, List.nil_append, List.cons_append]
  gi_wp2_with fail
  refine HK.out.mono ?_
  rintro e w1 ⟨rfl, k1⟩
  gi_wp2_with fail
  refine (callsIn_wide.2 (new31 _ N (ints zs) none w1 (HA.out.keep (by decide) k1 (fun c _ => ⟨by simp, by simp⟩)) (by omega))).mono ?_
  rintro e w2 ⟨p, r, rfl, hv2, k2, hp2, hr2⟩
  gi_wp2_with fail
  refine (callsIn_wide.2 (all31 p r N _ w2 hv2 (by omega))).mono ?_
  rintro e w3 ⟨Bf, af, cf, rfl, hBf, hof, k3, hlf, hgf⟩
  gi_wp2_with fail
  refine (callsIn_wide.2 (back31 p r N _ w3 (hv2.keep k3 (by simp) (by simp)) (by omega))).mono ?_
  rintro e w4 ⟨Bb, ab, cb, rfl, hBb, hob, k4, hlb, hgb⟩
  gi_wp2_with fail
  obtain ⟨M, hM, hM1, hM2⟩ : ∃ M : Nat, (m : Int) % 20 + 1 = (M : Int) ∧ 1 ≤ M ∧ M ≤ 20 := ⟨m % 20 + 1, by push_cast; rfl, by omega, by omega⟩
  rw [hM]
  have z1 := k1.size
  have z2 := k2.size
  have z3 := k3.size
  have z4 := k4.size
  obtain ⟨W5, hW5⟩ : ∃ W5, W5 = (w4.alloc (.cells #[.int .i64 (M : Int)] 3)).alloc (.cells #[.int .i64 0] 3) := ⟨_, rfl⟩
  have b8 : W5.heap[w4.heap.size]? = some (.cells #[.int .i64 (M : Int)] 3 (0, 0)) := by rw [hW5, heap_alloc_old _ _ (by simp)]; exact heap_alloc_new w4 _
  have b9 : W5.heap[w4.heap.size + 1]? = some (.cells #[.int .i64 0] 3 (0, 0)) := by
    have := heap_alloc_new (w4.alloc (.cells #[.int .i64 (M : Int)] 3)) (.cells #[.int .i64 0] 3)
    rw [World.size_alloc] at this
    rw [hW5]; exact this
  have k5 : Keep [] w4 W5 := by rw [hW5]; exact (Keep.alloc [] w4 _).trans (Keep.alloc [] _ _)
  have z5 : W5.heap.size = w4.heap.size + 2 := by rw [hW5]; simp
  rw [← hW5]
  clear hW5 hM hm
  have HV := Lib.hid (hv2.keep ((k3.trans k4).trans k5) (by simp) (by simp))
  have kw : Keep [] w W5 := (((k1.trans k2).trans k3).trans k4).trans k5
  have Bf5 := (k4.trans k5).heap hBf (by simp)
  have of5 := (k4.trans k5).row hof (by simp)
  have Bb5 := k5.heap hBb (by simp)
  have ob5 := k5.row hob (by simp)
  have lBf := blk_lt hBf
  have lBb := blk_lt hBb
  have lof := own_lt hof
  have lob := own_lt hob
  have lv := hv2.lt
  clear hBf hof hBb hob hv2 k1 k2 k3 k4 k5 HK hr2 hgf hgb
  refine wpIn_rangeFunc_B (id := 0) rfl (by decide) (gf := 36) (lb := #[.pointer (some ⟨Bf, 0, none⟩)]) rfl trivial (enters_of Try.func36 (by kernel_rfl) rfl)
    (bs := Bf :: (af.map (·.block)).toList) (N := N) (all1_31' 6 (by decide) Bf af cf zs N HN.out _ W5 (by omega) Bf5 of5 (by simp) (fun g hg => by simp [hg])) (fun _ => rfl)
    (fun k W => (Keep [w4.heap.size + 1] W5 W ∧ W.heap[w4.heap.size + 1]? = some (.cells #[.int .i64 (k : Int)] 3 (0, 0))) ∧ k < M)
    (fun k W => (Keep [w4.heap.size + 1] W5 W ∧ W.heap[w4.heap.size + 1]? = some (.cells #[.int .i64 (k : Int)] 3 (0, 0))) ∧ k = M)
    (OwnFrom.and (OwnFrom.and (ownFrom_keep (fun _ : Nat => [w4.heap.size + 1]) W5 (Nat.le_refl _)) (ownFrom_cells _ (fun _ : Nat => w4.heap.size + 1) (fun k : Nat => #[.int .i64 (k : Int)]) (fun _ => 3))) (fun _ _ _ _ h _ _ => h))
    (OwnFrom.and (OwnFrom.and (ownFrom_keep (fun _ : Nat => [w4.heap.size + 1]) W5 (Nat.le_refl _)) (ownFrom_cells _ (fun _ : Nat => w4.heap.size + 1) (fun k : Nat => #[.int .i64 (k : Int)]) (fun _ => 3))) (fun _ _ _ _ h _ _ => h))
    ⟨⟨Keep.refl _ _, b9⟩, by omega⟩
    (fun k t => ((t.setIfInBounds 33 (.int .i64 (k : Int))).setIfInBounds 34 (.int .i64 (zs[k]?.getD 0)))) ?assign ?body (fun _ _ h => h) ?after
  case assign =>
    intro l k W K hK
    gi_wp2
    exact hK
  case body =>
    rintro l k W ⟨⟨hkW, hbn⟩, hkM⟩ hlt
    have c9 : W.cell? ⟨w4.heap.size + 1, 0, none⟩ = some (.int .i64 (k : Int)) := by rw [blk_cell hbn]; rfl
    have f9 : W.frozen? ⟨w4.heap.size + 1, 0, none⟩ = false := blk_frozen hbn 0
    have c8 : W.cell? ⟨w4.heap.size, 0, none⟩ = some (.int .i64 (M : Int)) := by rw [blk_cell (hkW.heap b8 (by simp))]; rfl
    have ks : Keep [w4.heap.size + 1] W (W.setCell ⟨w4.heap.size + 1, 0, none⟩ (.int .i64 ((k : Int) + 1))) := Keep.setCell W _ _ (by simp)
    have hbs : (W.setCell ⟨w4.heap.size + 1, 0, none⟩ (.int .i64 ((k : Int) + 1))).heap[w4.heap.size + 1]? = some (.cells #[.int .i64 ((k + 1 : Nat) : Int)] 3 (0, 0)) := by rw [setCell_heap hbn]; simp
    have hkf : KeepsFrom W5.heap.size W (W.setCell ⟨w4.heap.size + 1, 0, none⟩ (.int .i64 ((k : Int) + 1))) := ks.from (fun i hi => by simp at hi; subst hi; exact .inl (by omega))
    have hkc : KeepC (Bf :: (af.map (·.block)).toList) W (W.setCell ⟨w4.heap.size + 1, 0, none⟩ (.int .i64 ((k : Int) + 1))) := KeepC.of_keep ks (fun i hi => by
      simp at hi ⊢
      rcases hi with rfl | hi
      · omega
      · have := lof i (by simpa using hi); omega)
    have q8 : (W.setCell ⟨w4.heap.size + 1, 0, none⟩ (.int .i64 ((k : Int) + 1))).cell? ⟨w4.heap.size, 0, none⟩ = some (.int .i64 (M : Int)) := by rw [World.cell?_setCell_other _ _ _ _ (by intro hh; injection hh; omega)]; exact c8
    have q9 : (W.setCell ⟨w4.heap.size + 1, 0, none⟩ (.int .i64 ((k : Int) + 1))).cell? ⟨w4.heap.size + 1, 0, none⟩ = some (.int .i64 ((k : Int) + 1)) := World.cell?_setCell_same _ _ _ c9
    have HE := Lib.hid (And.intro (And.intro ks hbs) (And.intro hkf hkc))
    have HkW := Lib.hid hkW
    clear b8 b9 kw Bf5 of5 Bb5 ob5 lBf lBb lof lob lv hq1 hq2 hkW hbn ks hbs hkf hkc
    gi_wp2
    · exact ⟨HE.out.2.1, rfl, ⟨HkW.out.trans HE.out.1.1, HE.out.1.2⟩, by omega⟩
    · exact ⟨HE.out.2.1, HE.out.2.2, ⟨HkW.out.trans HE.out.1.1, HE.out.1.2⟩, by omega⟩
  case after =>
    rintro D W hD hI hK
    obtain ⟨G, ⟨hkW, hbn⟩, hG⟩ : ∃ G : Nat, (Keep [w4.heap.size + 1] W5 W ∧ W.heap[w4.heap.size + 1]? = some (.cells #[.int .i64 (G : Int)] 3 (0, 0))) ∧ (G : Int) = min (M : Int) (N : Int) := by
      rcases hI with ⟨h, hlt⟩ | ⟨k, h0, hkN, h, rfl⟩
      · exact ⟨N, h, by omega⟩
      · exact ⟨k, h, by omega⟩
    clear hI
    have HG := Lib.hid hG
    clear hG
    have hzW := hkW.size
    obtain ⟨W6, hW6⟩ : ∃ W6, W6 = W.alloc (.cells #[.int .i64 0] 3) := ⟨_, rfl⟩
    have d8 := hkW.heap b8 (by simp)
    have k6 : Keep [] W W6 := by rw [hW6]; exact Keep.alloc [] W _
    have b10 : W6.heap[W.heap.size]? = some (.cells #[.int .i64 0] 3 (0, 0)) := by rw [hW6]; exact heap_alloc_new W _
    have z6 : W6.heap.size = W.heap.size + 1 := by rw [hW6]; simp
    have e8 := k6.heap d8 (by simp)
    have e9 := k6.heap hbn (by simp)
    have eD := k6.heap hK (by simp)
    have lD := blk_lt hK
    have Bb6 := k6.heap (hkW.heap Bb5 (by simp; omega)) (by simp)
    have ob6 := k6.row (hkW.row ob5 (fun g hg hm => by rw [own_block] at hg; have := lob g hg; simp at hm; omega)) (by simp)
    have kW6 : Keep [w4.heap.size + 1] w W6 := ((kw.mono (by simp)).trans hkW).trans (k6.mono (by simp))
    have HV6 := Lib.hid ((HV.out.keep hkW (by simp; omega) (fun g hg hm => by have := lv.2 g hg; simp at hm; omega)).keep k6 (by simp) (by simp))
    have HkW6 := Lib.hid kW6
    have HeD := Lib.hid eD
    have HBb := Lib.hid Bb6
    have HOb := Lib.hid ob6
    have He8 := Lib.hid e8
    have He9 := Lib.hid e9
    have Hb10 := Lib.hid b10
    have Hlob := Lib.hid lob
    have Hlv := Lib.hid lv
    clear hkW hbn hK d8 k6 b10 e8 e9 eD Bb6 ob6 kW6 b8 b9 kw Bf5 of5 Bb5 ob5 lof lob HV lv
    gi_wp2
    rw [← hW6]
    clear hW6
    refine wpIn_rangeFunc_B (id := 2) rfl (by decide) (gf := 37) (lb := #[.pointer (some ⟨Bb, 0, none⟩)]) rfl trivial (enters_of Try.func37 (by kernel_rfl) rfl)
      (bs := Bb :: (ab.map (·.block)).toList) (N := N) (back1_31' 6 (by decide) Bb ab cb zs N HN.out _ W6 (by omega) HBb.out HOb.out (by simp) (fun g hg => by simp [hg])) (fun _ => rfl)
      (fun k V => (Keep [W.heap.size] W6 V ∧ V.heap[W.heap.size]? = some (.cells #[.int .i64 (k : Int)] 3 (0, 0))) ∧ k < M)
      (fun k V => (Keep [W.heap.size] W6 V ∧ V.heap[W.heap.size]? = some (.cells #[.int .i64 (k : Int)] 3 (0, 0))) ∧ k = M)
      (OwnFrom.and (OwnFrom.and (ownFrom_keep (fun _ : Nat => [W.heap.size]) W6 (Nat.le_refl _)) (ownFrom_cells _ (fun _ : Nat => W.heap.size) (fun k : Nat => #[.int .i64 (k : Int)]) (fun _ => 3))) (fun _ _ _ _ h _ _ => h))
      (OwnFrom.and (OwnFrom.and (ownFrom_keep (fun _ : Nat => [W.heap.size]) W6 (Nat.le_refl _)) (ownFrom_cells _ (fun _ : Nat => W.heap.size) (fun k : Nat => #[.int .i64 (k : Int)]) (fun _ => 3))) (fun _ _ _ _ h _ _ => h))
      ⟨⟨Keep.refl _ _, Hb10.out⟩, by omega⟩
      (fun k t => ((t.setIfInBounds 41 (.int .i64 ((N - 1 - k : Nat) : Int))).setIfInBounds 42 (.int .i64 (zs[N - 1 - k]?.getD 0)))) ?assign2 ?body2 (fun _ _ h => h) ?after2
    case assign2 =>
      intro l k V K hK
      gi_wp2
      exact hK
    case body2 =>
      rintro l k V ⟨⟨hkV, hbn⟩, hkM⟩ hlt
      have c10 : V.cell? ⟨W.heap.size, 0, none⟩ = some (.int .i64 (k : Int)) := by rw [blk_cell hbn]; rfl
      have f10 : V.frozen? ⟨W.heap.size, 0, none⟩ = false := blk_frozen hbn 0
      have c8 : V.cell? ⟨w4.heap.size, 0, none⟩ = some (.int .i64 (M : Int)) := by rw [blk_cell (hkV.heap He8.out (by simp; omega))]; rfl
      have ks : Keep [W.heap.size] V (V.setCell ⟨W.heap.size, 0, none⟩ (.int .i64 ((k : Int) + 1))) := Keep.setCell V _ _ (by simp)
      have hbs : (V.setCell ⟨W.heap.size, 0, none⟩ (.int .i64 ((k : Int) + 1))).heap[W.heap.size]? = some (.cells #[.int .i64 ((k + 1 : Nat) : Int)] 3 (0, 0)) := by rw [setCell_heap hbn]; simp
      have hkf : KeepsFrom W6.heap.size V (V.setCell ⟨W.heap.size, 0, none⟩ (.int .i64 ((k : Int) + 1))) := ks.from (fun i hi => by simp at hi; subst hi; exact .inl (by omega))
      have hkc : KeepC (Bb :: (ab.map (·.block)).toList) V (V.setCell ⟨W.heap.size, 0, none⟩ (.int .i64 ((k : Int) + 1))) := KeepC.of_keep ks (fun i hi => by
        simp at hi ⊢
        rcases hi with rfl | hi
        · omega
        · have := Hlob.out i (by simpa using hi); omega)
      have q8 : (V.setCell ⟨W.heap.size, 0, none⟩ (.int .i64 ((k : Int) + 1))).cell? ⟨w4.heap.size, 0, none⟩ = some (.int .i64 (M : Int)) := by rw [World.cell?_setCell_other _ _ _ _ (by intro hh; injection hh; omega)]; exact c8
      have q10 : (V.setCell ⟨W.heap.size, 0, none⟩ (.int .i64 ((k : Int) + 1))).cell? ⟨W.heap.size, 0, none⟩ = some (.int .i64 ((k : Int) + 1)) := World.cell?_setCell_same _ _ _ c10
      have HE := Lib.hid (And.intro (And.intro ks hbs) (And.intro hkf hkc))
      have HkV := Lib.hid hkV
      clear hq1 hq2 hkV hbn ks hbs hkf hkc
      gi_wp2
      · exact ⟨HE.out.2.1, rfl, ⟨HkV.out.trans HE.out.1.1, HE.out.1.2⟩, by omega⟩
      · exact ⟨HE.out.2.1, HE.out.2.2, ⟨HkV.out.trans HE.out.1.1, HE.out.1.2⟩, by omega⟩
    case after2 =>
      rintro D2 V hD2 hI2 hK2
      have hG := HG.out
      obtain ⟨hkV, hbn⟩ : Keep [W.heap.size] W6 V ∧ V.heap[W.heap.size]? = some (.cells #[.int .i64 (G : Int)] 3 (0, 0)) := by
        rcases hI2 with ⟨h, hlt⟩ | ⟨k, h0, hkN, h, rfl⟩
        · obtain rfl : G = N := by omega
          exact h
        · obtain rfl : k = G := by omega
          exact h
      have c10 : V.cell? ⟨W.heap.size, 0, none⟩ = some (.int .i64 (G : Int)) := by rw [blk_cell hbn]; rfl
      have c8 : V.cell? ⟨w4.heap.size, 0, none⟩ = some (.int .i64 (M : Int)) := by rw [blk_cell (hkV.heap He8.out (by simp; omega))]; rfl
      have c9 : V.cell? ⟨w4.heap.size + 1, 0, none⟩ = some (.int .i64 (G : Int)) := by rw [blk_cell (hkV.heap He9.out (by simp; omega))]; rfl
      have hDV := hkV.heap HeD.out (by simp; omega)
      have HVV := Lib.hid (HV6.out.keep hkV (by have := Hlv.out.1; simp; omega) (fun g hg hm => by have := Hlv.out.2 g hg; simp at hm; omega))
      have KV : Hid (Keep [] w V) := Keep.fresh (S := [w4.heap.size + 1, W.heap.size]) ((HkW6.out.mono (by simp)).trans (hkV.mono (by simp))) (by simp; omega)
      have HD := Lib.hid (And.intro hK2 hDV)
      clear hI2 hK2 hDV hkV hbn hG
      have HC1 : Hid (∀ U, Keep [] V U → CallsIn Fence.wide 6 Try.prog 19 #[.pointer (some ⟨p, 0, none⟩), .slice a1 N c1] U fun e w' => e = .returned (.bool true) ∧ Keep [] U w') := fun U hU => by
        have hl := HN.out
        subst hl
        exact callsIn_wide.2 (allF p r zs a1 c1 U (HVV.out.keep hU (by simp) (by simp)) (HA.out.keep (by decide) (KV.out.trans hU) (fun c _ => ⟨by simp, by simp⟩)) (by omega))
      by_cases hNM : N < M
      · obtain rfl : G = N := by have := HG.out; omega
        gi_wp2_with fail
        refine (HC1.out V (Keep.refl _ _)).mono ?_
        rintro e V1 ⟨rfl, kv1⟩
        gi_wp2_with fail
        refine (HC1.out V1 kv1).mono ?_
        rintro e V2 ⟨rfl, kv2⟩
        gi_wp2
        obtain ⟨fK2, fK⟩ := HD.out
        have fK2' := (kv1.trans kv2).heap fK2 (by simp)
        have fK' := (kv1.trans kv2).heap fK (by simp)
        refine ⟨by simp, .inl ⟨_, _, rfl, run_takeDeferred fK2', ?_⟩⟩
        have kp : Keep [D2] V2 (V2.putObj D2 (.deferred none)) := Keep.of_grown (grownBy_putObj' V2 D2 (.deferred none))
        refine ⟨by simp, .inl ⟨_, _, rfl, run_takeDeferred (kp.heap fK' (by simp; omega)), ?_⟩⟩
        have kp2 : Keep [D] (V2.putObj D2 (.deferred none)) ((V2.putObj D2 (.deferred none)).putObj D (.deferred none)) := Keep.of_grown (grownBy_putObj' (V2.putObj D2 (.deferred none)) D (.deferred none))
        refine ⟨.bool true, ?_, rfl, (Keep.fresh (S := [D2, D]) ?_ (by simp; omega)).toBelow⟩
        · simp [results, Try.f5, go_sem]
        · exact ((((KV.out.trans kv1).trans kv2).mono (by simp)).trans (kp.mono (by simp))).trans (kp2.mono (by simp))
      · obtain rfl : G = M := by have := HG.out; omega
        gi_wp2_with fail
        refine (HC1.out V (Keep.refl _ _)).mono ?_
        rintro e V1 ⟨rfl, kv1⟩
        gi_wp2_with fail
        refine (HC1.out V1 kv1).mono ?_
        rintro e V2 ⟨rfl, kv2⟩
        gi_wp2
        obtain ⟨fK2, fK⟩ := HD.out
        have fK2' := (kv1.trans kv2).heap fK2 (by simp)
        have fK' := (kv1.trans kv2).heap fK (by simp)
        refine ⟨by simp, .inl ⟨_, _, rfl, run_takeDeferred fK2', ?_⟩⟩
        have kp : Keep [D2] V2 (V2.putObj D2 (.deferred none)) := Keep.of_grown (grownBy_putObj' V2 D2 (.deferred none))
        refine ⟨by simp, .inl ⟨_, _, rfl, run_takeDeferred (kp.heap fK' (by simp; omega)), ?_⟩⟩
        have kp2 : Keep [D] (V2.putObj D2 (.deferred none)) ((V2.putObj D2 (.deferred none)).putObj D (.deferred none)) := Keep.of_grown (grownBy_putObj' (V2.putObj D2 (.deferred none)) D (.deferred none))
        refine ⟨.bool true, ?_, rfl, (Keep.fresh (S := [D2, D]) ?_ (by simp; omega)).toBelow⟩
        · simp [results, Try.f5, go_sem]
        · exact ((((KV.out.trans kv1).trans kv2).mono (by simp)).trans (kp.mono (by simp))).trans (kp2.mono (by simp))

theorem breaks_walk (a1 : Option Addr) (n1 c1 : Nat) (zs : List Int) (m : Int) (w : World) (hm : 0 ≤ m ∧ m ≤ 255)
    (hA1 : Arg w 1 (.slice a1 n1 c1) n1 (ints zs) none) :
    Calls Try.prog 5 #[.slice a1 n1 c1, .int .u8 m] w fun e w' => e = .returned (.bool true) ∧ Below w.heap.size w w' := by
  by_cases h1 : 60 < n1
  · exact breaks_long a1 n1 c1 m w h1
  · obtain ⟨m, rfl⟩ := Int.eq_ofNat_of_zero_le hm.1
    have hl : zs.length = n1 := by have := hA1.1; simpa [ints] using this
    subst hl
    exact breaks_short a1 c1 zs m w (by omega) (by omega) hA1
end Go.Proofs.Ytnfkoegbinkfgaa
