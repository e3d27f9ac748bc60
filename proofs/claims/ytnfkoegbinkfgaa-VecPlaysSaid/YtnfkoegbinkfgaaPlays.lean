/-
  The walk of VecPlays: at every input it answers true and leaves what lay there alone. Conditions: stated at each theorem.
-/
import Derived.Test.YtnfkoegbinkfgaaActs
import Derived.Test.YtnfkoegbinkfgaaAll
import Derived.Test.YtnfkoegbinkfgaaJoin
import Derived.Deep.RegionHeld3
set_option linter.unusedSimpArgs false
set_option linter.unusedVariables false
namespace Go.Proofs.Ytnfkoegbinkfgaa
open Go.RowKit Go.Lib

theorem ActAt.keep {W W' : World} {b o : Nat} {what I N : Int} {aX : Option Addr} {nX cX : Nat} {zs : List Int} (h : ActAt W b o what I N aX nX cX zs) (k : Keep [] W W') : ActAt W' b o what I N aX nX cX zs :=
  ⟨k.cell h.1 (by simp), k.cell h.2.1 (by simp), k.cell h.2.2.1 (by simp), k.cell h.2.2.2.1 (by simp), h.2.2.2.2.1.keep (by decide) k (fun c _ => ⟨by simp, by simp⟩), h.2.2.2.2.2.1, h.2.2.2.2.2.2.1, h.2.2.2.2.2.2.2.1, by have := h.2.2.2.2.2.2.2.2; have := k.size; omega⟩

set_option maxHeartbeats 4000000 in
set_option maxRecDepth 100000 in
theorem plays_long (a1 : Option Addr) (n1 c1 : Nat) (a2 : Option Addr) (n2 c2 : Nat) (w : World) (h : 50 < n1 ∨ 40 < n2) :
    Calls Try.prog 4 #[.slice a1 n1 c1, .slice a2 n2 c2] w fun e w' => e = .returned (.bool true) ∧ Below w.heap.size w w' := by
  have HK := Lib.hid (known8 w)
  by_cases h1 : 50 < n1
  · go_enter Try.func4, Try.ntmps4
    go_wp2_with (go_at_call 8; refine HK.out.mono ?_; rintro e w1 ⟨rfl, k1⟩)
    go_ret
    exact ⟨rfl, k1.below (Nat.le_refl _) (by simp)⟩
  · have hd : decide ((50 : Int) < (n1 : Int)) = false := by simp; omega
    have h2 : 40 < n2 := by omega
    go_enter Try.func4, Try.ntmps4
    go_wp2_with (go_at_call 8; refine HK.out.mono ?_; rintro e w1 ⟨rfl, k1⟩)
    go_ret
    exact ⟨rfl, k1.below (Nat.le_refl _) (by simp)⟩

/-- What stands between two rounds. -/
structure PInv (w : World) (p : Nat) (k : Nat) (wr : World) (a : Option Addr) (N c : Nat) (us : List Int) (r : Option Nat) : Prop where
  len : us.length = N
  le : N ≤ 50 + 20 * k
  own : wr.ownsRow 0 3 1 (.slice a N c) N (ints us)
  vec : Vec 58 3 1 wr p r N (ints us)
  sep : ∀ g, a.map (·.block) = some g → g ≠ p ∧ r ≠ some g
  fp : w.heap.size ≤ p
  fr : ∀ g, r = some g → w.heap.size ≤ g
  fa : ∀ g, a.map (·.block) = some g → w.heap.size ≤ g
  bel : Keep [] w wr

/-- A step that leaves the list, the row alone. -/
theorem PInv.keep {w : World} {p k : Nat} {wr wr' : World} {a : Option Addr} {N c : Nat} {us : List Int} {r : Option Nat} (h : PInv w p k wr a N c us r) (hk : Keep [] wr wr') {k' : Nat} (hkk : k ≤ k') : PInv w p k' wr' a N c us r :=
  ⟨h.len, by have := h.le; omega, hk.row h.own (by simp), h.vec.keep hk (by simp) (by simp), h.sep, h.fp, h.fr, h.fa, h.bel.trans hk⟩

theorem PInv.arg {w : World} {p k : Nat} {wr : World} {a : Option Addr} {N c : Nat} {us : List Int} {r : Option Nat} (h : PInv w p k wr a N c us r) : Arg wr 1 (.slice a N c) N (ints us) none :=
  arg_of_own h.own (ints_one _) (fun h0 hh => by obtain ⟨g, rfl⟩ := own_addr h.own h0; cases hh)

theorem PInv.all {w : World} {p k : Nat} {wr : World} {a : Option Addr} {N c : Nat} {us : List Int} {r : Option Nat} (h : PInv w p k wr a N c us r) (hk : k ≤ 40) :
    Calls Try.prog 19 #[.pointer (some ⟨p, 0, none⟩), .slice a N c] wr fun e w' => e = .returned (.bool true) ∧ Keep [] wr w' := by
  have hl := h.len
  have hle := h.le
  have hv := h.vec
  have ha := h.arg
  subst hl
  exact allF p r us a c wr hv ha (by omega)

set_option maxHeartbeats 8000000 in
set_option maxRecDepth 100000 in
theorem plays_short (a1 : Option Addr) (n1 c1 : Nat) (zs : List Int) (a2 : Option Addr) (n2 c2 : Nat) (w : World)
    (h1 : n1 ≤ 50) (h2 : n2 ≤ 40) (hA1 : Arg w 1 (.slice a1 n1 c1) n1 (ints zs) none)
    (hA2 : ∀ k, k < n2 → ∃ b o, a2 = some ⟨b, o, none⟩ ∧ ∃ what I N aX nX cX zs, ActAt w b (o + 4 * k) what I N aX nX cX zs) :
    Calls Try.prog 4 #[.slice a1 n1 c1, .slice a2 n2 c2] w fun e w' => e = .returned (.bool true) ∧ Below w.heap.size w w' := by
  have HK := Lib.hid (known8 w)
  have hd1 : decide ((50 : Int) < (n1 : Int)) = false := by simp; omega
  have hd2 : decide ((40 : Int) < (n2 : Int)) = false := by simp; omega
  have HA1 := Lib.hid hA1
  have HA2 := Lib.hid hA2
  clear hA1 hA2
  go_enter Try.func4, Try.ntmps4
  go_wp2_with (go_at_call 8; refine HK.out.mono ?_; rintro e w1 ⟨rfl, k1⟩)
  refine (new31 _ n1 (ints zs) none w1 (HA1.out.keep (by decide) k1 (fun c _ => ⟨by simp, by simp⟩)) (by omega)).mono ?_
  rintro e w2 ⟨p, r, rfl, hv2, k2, hp2, hr2⟩
  have HA1' := Lib.hid ((HA1.out.keep (r' := none) (by decide) k1 (fun c _ => ⟨by simp, by simp⟩)).keep (r' := none) (by decide) k2 (fun c _ => ⟨by simp, by simp⟩))
  go_wp2_with (at_builtin; refine wpList_app_nil elt31 _ rfl _ _ rfl rfl _ rfl n1 (ints zs) none HA1'.out (by omega) ?_; intro ag cg w3 ho3 k3 hg3)
  have hlt := hv2.lt
  have z1 := k1.size
  have z2 := k2.size
  have hl : zs.length = n1 := by have := HA1.out.1; simpa [ints] using this
  have P0 : PInv w p 0 w3 ag n1 cg zs r := ⟨hl, by omega, ho3, hv2.keep k3 (by simp) (by simp), fun g hg => ⟨by have := hg3 g hg; omega, fun hh => by have := hlt.2 g hh; have := hg3 g hg; omega⟩,
    by omega, fun g hg => by have := hr2 g hg; omega, fun g hg => by have := hg3 g hg; omega, (k1.trans k2).trans k3⟩
  have HP0 := Lib.hid P0
  clear hv2 k1 k2 k3 ho3 hg3 hlt hl P0 HK HA1' hp2 hr2 z1 z2
  go_wp2_with fail
  go_loopw [6, 7] (fun v6 v7 wr => ∃ k : Nat, k ≤ n2 ∧ v7 = .int .i64 k ∧ ∃ a N c us r, v6 = .slice a N c ∧ PInv w p k wr a N c us r) (fun v6 v7 _ => n2 - (intOf v7).toNat)
  case atStart => exact ⟨0, Nat.zero_le _, rfl, ag, n1, cg, zs, r, rfl, HP0.out⟩
  case round =>
    obtain ⟨k, hk, rfl, a, N, c, us, r, rfl, hP⟩ := hrel
    have HP := Lib.hid hP
    clear hP
    by_cases hlt : k < n2
    · obtain ⟨b, o, rfl, what, I, NN, aX, nX, cX, xs, hact⟩ := HA2.out k hlt
      obtain ⟨g0, g1, g2, g3, _, hw8, hI, hN, _⟩ := hact.keep HP.out.bel
      have hX := hact.2.2.2.2.1
      clear hact
      rw [Nat.mul_comm 4 k] at g0 g1 g2 g3
      have HX := Lib.hid hX
      clear hX
      by_cases hnX : 20 < nX
      · have HB := Lib.hid ((HP.out.bel.trans (Keep.alloc [] wr (.cells #[.int .u8 what, .int .i64 I, .int .i64 NN, .slice aX nX cX] 36))).below (Nat.le_refl _) (by simp))
        go_wp2_with fail
        go_ret
        exact ⟨rfl, HB.out⟩
      · have hd3 : decide ((20 : Int) < (nX : Int)) = false := by simp; omega
        obtain ⟨wr1, hwr1⟩ : ∃ wr1, wr1 = wr.alloc (.cells #[.int .u8 what, .int .i64 I, .int .i64 NN, .slice aX nX cX] 36) := ⟨_, rfl⟩
        have hA : wr1.heap[wr.heap.size]? = some (.cells #[.int .u8 what, .int .i64 I, .int .i64 NN, .slice aX nX cX] 36 (0, 0)) := by rw [hwr1]; exact heap_alloc_new wr _
        have ka : Keep [] wr wr1 := by rw [hwr1]; exact Keep.alloc [] wr _
        have HP1 := Lib.hid (HP.out.keep ka (Nat.le_refl _))
        have x1 : wr1.cell? ⟨wr.heap.size, 1, none⟩ = some (.int .i64 I) := by rw [blk_cell hA]; rfl
        have x2 : wr1.cell? ⟨wr.heap.size, 2, none⟩ = some (.int .i64 NN) := by rw [blk_cell hA]; rfl
        have x3 : wr1.cell? ⟨wr.heap.size, 3, none⟩ = some (.slice aX nX cX) := by rw [blk_cell hA]; rfl
        have hle := HP1.out.le
        have HHA := Lib.hid hA
        have HWR := Lib.hid hwr1
        have HAs : Hid (∀ j, j ∈ p :: r.toList → j < wr.heap.size ∧ w.heap.size ≤ j) := fun j hj => by
          have hv := HP.out.vec.lt
          simp at hj
          rcases hj with rfl | hj
          · exact ⟨hv.1, HP.out.fp⟩
          · exact ⟨hv.2 j hj, HP.out.fr j hj⟩
        have HSa : Hid (∀ g, a.map (·.block) = some g → g ∉ p :: r.toList) := fun g hg hm => by
          have := HP.out.sep g hg
          simp at hm
          rcases hm with rfl | hm
          · exact this.1 rfl
          · exact this.2 hm
        clear hA ka hwr1
        have hm3 : what % 3 = 0 ∨ what % 3 = 1 ∨ what % 3 = 2 := by omega
        rcases hm3 with hm | hm | hm
        · by_cases hin : 0 ≤ I ∧ I ≤ N
          · as_aux_lemma =>
              obtain ⟨i, rfl⟩ := Int.eq_ofNat_of_zero_le hin.1
              have hiN : i ≤ N := by omega
              have hdI : decide ((0 : Int) ≤ (i : Int)) = true := by simp
              have hdI2 : decide ((i : Int) ≤ (N : Int)) = true := by simp; omega
              have HX1 := Lib.hid (HX.out.keep (r' := r) (by decide) HP1.out.bel (fun c hc => ⟨by simp, fun h => by have := HP1.out.fr c h.symm; omega⟩))
              go_wp2_with fail
              rw [← HWR.out]
              refine (insert31 p r N _ i _ nX (ints xs) wr1 HP1.out.vec HX1.out (by omega) (by omega) (by omega)).mono ?_
              rintro e w6 ⟨rfl, r6, hv6, k6, hf6⟩
              have zA : wr.heap.size < wr1.heap.size := blk_lt HHA.out
              have hA6 := k6.heap HHA.out (fun hm => by have := (HAs.out _ hm).1; omega)
              have ho6 := k6.row HP1.out.own (fun g hg => by rw [own_block] at hg; exact HSa.out g hg)
              have kb : Keep [] w w6 := HP1.out.bel.trans' k6 (fun j hj => .inr (HAs.out j hj).2)
              have kd : Keep [] w6 w6.drew := Keep.drew [] w6
              have hod := kd.row ho6 (by simp)
              have HAw : Arg w6.drew 1 (.slice a N c) N (ints us) none := arg_of_own hod (ints_one _) (fun h0 hh => by obtain ⟨g, rfl⟩ := own_addr hod h0; cases hh)
              have hcat : i ≤ c := by have := own_cap ho6; omega
              have HXm := HX.out.keep (r' := none) (by decide) (kb.trans kd) (fun c hc => ⟨by simp, by simp⟩)
              have HP2 := HAw.part i N hiN (Nat.le_refl _) (if c = i then a else Option.map (fun x => x.add i) a) (c - i) (fun h => by rw [if_neg (by have := own_cap ho6; omega), Nat.mul_one]) (fun h => by
                split at h
                · omega
                · have := HAw.nil (by simpa using h); omega)
              obtain ⟨j1, d1, y1, j2, d2, y2, j3, d3, y3, q1, q2, q3, oj, kj1, kj2, kj, gj⟩ := join3_mem' elt31 w6.drew _ _ _ i nX (N - i) _ _ _ (HAw.left i hiN) HXm HP2 (by omega)
              have hlen := HP1.out.len
              obtain ⟨M, hM⟩ : ∃ M, i + nX + (N - i) = M := ⟨_, rfl⟩
              have hM' : N + nX = M := by omega
              rw [hM] at q3 oj
              rw [hM'] at hv6
              obtain ⟨vs, hvs⟩ : ∃ vs, vs = us.take i ++ xs ++ us.drop i := ⟨_, rfl⟩
              have e1 : List.take ((i : Int).toNat * 1) (ints us) ++ ints xs ++ List.drop ((i : Int).toNat * 1) (ints us) = ints vs := by rw [hvs]; simp [ints]
              have e2 : List.take (i * 1) (ints us) ++ ints xs ++ List.take ((N - i) * 1) (List.drop (i * 1) (ints us)) = ints vs := by
                rw [hvs, List.take_of_length_le (l := List.drop (i * 1) (ints us)) (by rw [List.length_drop]; simp only [ints, List.length_map]; omega)]
                simp [ints]
              rw [e1] at hv6
              rw [e2] at oj
              have hvl := hv6.lt
              have hpf := HP1.out.fp
              have PQ : PInv w p (k + 1) y3 j3 M d3 vs r6 := ⟨by have := oj.1; simpa [ints] using this, by omega, oj, (hv6.keep kd (by simp) (by simp)).keep kj (by simp) (by simp),
                fun g hg => ⟨by have := gj g hg; simp at this; omega, fun hh => by have := hvl.2 g hh; have := gj g hg; simp at this; omega⟩, hpf,
                fun g hg => by
                  rcases hf6 with hf6 | ⟨k', hf6, hle6⟩
                  · exact HP1.out.fr g (by rw [← hf6]; exact hg)
                  · rw [hg] at hf6; injection hf6 with hf6; subst hf6; have := HP1.out.bel.size; omega,
                fun g hg => by have := gj g hg; have := kb.size; simp at *; omega, (kb.trans kd).trans kj⟩
              have z1 : w6.drew.cell? ⟨wr.heap.size, 1, none⟩ = some (.int .i64 i) := by rw [blk_cell (kd.heap hA6 (by simp))]; rfl
              have z2 : y1.cell? ⟨wr.heap.size, 1, none⟩ = some (.int .i64 i) := by rw [blk_cell (kj1.heap (kd.heap hA6 (by simp)) (by simp))]; rfl
              have z3 : y2.cell? ⟨wr.heap.size, 1, none⟩ = some (.int .i64 i) := by rw [blk_cell (kj2.heap (kd.heap hA6 (by simp)) (by simp))]; rfl
              have z4 : y3.cell? ⟨wr.heap.size, 1, none⟩ = some (.int .i64 i) := by rw [blk_cell (kj.heap (kd.heap hA6 (by simp)) (by simp))]; rfl
              have t1 : w6.drew.cell? ⟨wr.heap.size, 3, none⟩ = some (.slice aX nX cX) := by rw [blk_cell (kd.heap hA6 (by simp))]; rfl
              have t2 : y1.cell? ⟨wr.heap.size, 3, none⟩ = some (.slice aX nX cX) := by rw [blk_cell (kj1.heap (kd.heap hA6 (by simp)) (by simp))]; rfl
              have t3 : y2.cell? ⟨wr.heap.size, 3, none⟩ = some (.slice aX nX cX) := by rw [blk_cell (kj2.heap (kd.heap hA6 (by simp)) (by simp))]; rfl
              have t4 : y3.cell? ⟨wr.heap.size, 3, none⟩ = some (.slice aX nX cX) := by rw [blk_cell (kj.heap (kd.heap hA6 (by simp)) (by simp))]; rfl
              have HPQ := Lib.hid PQ
              have Q1 := Lib.hid q1
              have Q2 := Lib.hid q2
              have Q3 := Lib.hid q3
              have HMM : M ≤ 1000 := by omega
              clear q1 q2 q3 oj kj kj1 kj2 gj PQ hv6 hvl hpf e1 e2 hvs k6 hf6 hA6 ho6 kb kd hod HAw HXm HP2 zA hlen hM hM'
              go_wp2_with fail
              go_region_held3 (fun W => W.cell? ⟨wr.heap.size, 1, none⟩ = some (.int .i64 i) ∧ W.cell? ⟨wr.heap.size, 3, none⟩ = some (.slice aX nX cX)) (first | exact ⟨z1, t1⟩ | exact ⟨z2, t2⟩ | exact ⟨z3, t3⟩ | exact ⟨z4, t4⟩) ((first | (refine step_append_known rfl _ _ 31 31 rfl (.slice none 0 0) (.slice a i c) (by simp [Act.eval, Act.put]) (by simp [Act.eval, Act.put]) (Q1.out 31) ?_) | (refine step_append_known rfl _ _ 31 31 rfl (.slice j1 i d1) (.slice aX nX cX) (by simp [Act.eval, Act.put]) (by simp [Act.eval, Act.put]) (Q2.out 31) ?_) | (refine step_append_known rfl _ _ 31 31 rfl (.slice j2 (i + nX) d2) (.slice (if c = i then a else Option.map (fun x => x.add i) a) (N - i) (c - i)) (by simp [Act.eval, Act.put]) (by simp [Act.eval, Act.put]) (Q3.out 31) ?_)))
              generalize (if c = i then a else Option.map (fun x => x.add i) a) = ap
              by_cases hiM : i < M
              · have hdI3 : decide ((i : Int) < (M : Int)) = true := by simp; omega
                have hul := HPQ.out.len
                obtain ⟨y, hy⟩ : ∃ y, vs[i]? = some y := ⟨vs[i]'(by omega), List.getElem?_eq_getElem _⟩
                have hyv : (ints vs)[i]? = some (.int .i64 y) := by rw [ints, List.getElem?_map, hy]; rfl
                have HAt := Lib.hid (at31 p r6 M _ i y y3 HPQ.out.vec hyv)
                obtain ⟨gq, hgq⟩ := own_addr HPQ.out.own (by omega)
                subst hgq
                have hcy := own_cell HPQ.out.own hyv
                have HAll := Lib.hid (HPQ.out.all (by omega))
                clear hyv hy
                go_wp2_with fail
                refine HAt.out.mono ?_
                rintro e w7 ⟨rfl, rfl⟩
                go_wp2_with fail
                refine HAll.out.mono ?_
                rintro e w8 ⟨rfl, k8⟩
                go_wp2_with fail
                go_roundw
                case rel => exact ⟨k + 1, by omega, by go_num, _, M, d3, vs, r6, rfl, HPQ.out.keep k8 (by omega)⟩
                case measure => simp [intOf]; omega
              · have hdI3 : decide ((i : Int) < (M : Int)) = false := by simp; omega
                have HAt := Lib.hid (at31_no p r6 M _ (i : Int) y3 HPQ.out.vec (by omega))
                have HAll := Lib.hid (HPQ.out.all (by omega))
                go_wp2_with fail
                refine HAt.out.mono ?_
                rintro e w7 ⟨rfl, rfl⟩
                go_wp2_with fail
                refine HAll.out.mono ?_
                rintro e w8 ⟨rfl, k8⟩
                go_wp2_with fail
                go_roundw
                case rel => exact ⟨k + 1, by omega, by go_num, j3, M, d3, vs, r6, rfl, HPQ.out.keep k8 (by omega)⟩
                case measure => simp [intOf]; omega
          · by_cases hI0 : I < 0
            · have hdI : decide (0 ≤ I) = false := by simp; omega
              have HIn := Lib.hid (insert31_no p r N _ I (.slice aX nX cX) wr1 HP1.out.vec (by omega))
              go_wp2_with fail
              rw [← HWR.out]
              refine HIn.out.mono ?_
              rintro e w6 ⟨rfl, rfl⟩
              have HAt := Lib.hid (at31_no p r N _ I wr1 HP1.out.vec (by omega))
              have HAll := Lib.hid (HP1.out.all (by omega))
              go_wp2_with fail
              refine HAt.out.mono ?_
              rintro e w7 ⟨rfl, rfl⟩
              go_wp2_with fail
              refine HAll.out.mono ?_
              rintro e w8 ⟨rfl, k8⟩
              go_wp2_with fail
              go_roundw
              case rel => exact ⟨k + 1, by omega, by go_num, a, N, c, us, r, rfl, HP1.out.keep k8 (by omega)⟩
              case measure => simp [intOf]; omega
            · have hdI : decide (0 ≤ I) = true := by simp; omega
              have hdI2 : decide (I ≤ (N : Int)) = false := by simp; omega
              have hdI3 : decide (I < (N : Int)) = false := by simp; omega
              have HIn := Lib.hid (insert31_no p r N _ I (.slice aX nX cX) wr1 HP1.out.vec (by omega))
              go_wp2_with fail
              rw [← HWR.out]
              refine HIn.out.mono ?_
              rintro e w6 ⟨rfl, rfl⟩
              have HAt := Lib.hid (at31_no p r N _ I wr1 HP1.out.vec (by omega))
              have HAll := Lib.hid (HP1.out.all (by omega))
              go_wp2_with fail
              refine HAt.out.mono ?_
              rintro e w7 ⟨rfl, rfl⟩
              go_wp2_with fail
              refine HAll.out.mono ?_
              rintro e w8 ⟨rfl, k8⟩
              go_wp2_with fail
              go_roundw
              case rel => exact ⟨k + 1, by omega, by go_num, a, N, c, us, r, rfl, HP1.out.keep k8 (by omega)⟩
              case measure => simp [intOf]; omega
        · as_aux_lemma =>
            by_cases hin : 0 ≤ I ∧ I < N
            · obtain ⟨i, rfl⟩ := Int.eq_ofNat_of_zero_le hin.1
              have hiN : i < N := by omega
              have hdI : decide ((0 : Int) ≤ (i : Int)) = true := by simp
              have hdI3 : decide ((i : Int) < (N : Int)) = true := by simp; omega
              by_cases hk1 : NN < 1
              · have HDl := Lib.hid (delete31_no p r N _ i NN wr1 HP1.out.vec (.inr (.inr hk1)))
                by_cases hk2 : NN < 0
                · go_wp2_with fail
                  rw [← HWR.out]
                  refine HDl.out.mono ?_
                  rintro e w6 ⟨rfl, rfl⟩
                  go_wp2_with fail
                  go_roundw
                  case rel => exact ⟨k + 1, by omega, by go_num, a, N, c, us, r, rfl, HP1.out.keep (Keep.refl _ _) (by omega)⟩
                  case measure => simp [intOf]; omega
                · obtain rfl : NN = 0 := by omega
                  go_wp2_with fail
                  rw [← HWR.out]
                  refine HDl.out.mono ?_
                  rintro e w6 ⟨rfl, rfl⟩
                  go_wp2_with fail
                  go_roundw
                  case rel => exact ⟨k + 1, by omega, by go_num, a, N, c, us, r, rfl, HP1.out.keep (Keep.refl _ _) (by omega)⟩
                  case measure => simp [intOf]; omega
              · by_cases hk2 : (N : Int) - (i : Int) < NN
                · have hmx : ¬ NN < 0 := by omega
                  obtain ⟨kk, hkk⟩ : ∃ kk : Nat, (N : Int) - (i : Int) = (kk : Int) := ⟨N - i, by omega⟩
                  have HKK := Lib.hid hkk
                  clear hkk
                  go_wp2_with fail
                  have hkk := HKK.out
                  rw [← HWR.out]
                  rw [hkk]
                  refine (del_ints p r N us i kk NN wr1 HP1.out.vec (by omega) (by omega) (by omega)).mono ?_
                  rintro e w6 ⟨ad, cd, rfl, had, hfd, hv6, k6⟩
                  have zA : wr.heap.size < wr1.heap.size := blk_lt HHA.out
                  have hA6 := k6.heap HHA.out (fun hm => by have := (HAs.out _ hm).1; omega)
                  have ho6 := k6.row HP1.out.own (fun g hg => by rw [own_block] at hg; exact HSa.out g hg)
                  have kb : Keep [] w w6 := HP1.out.bel.trans' k6 (fun j hj => .inr (HAs.out j hj).2)
                  have HAw := Lib.hid (arg_of_own (r := none) ho6 (ints_one _) (fun h0 hh => by obtain ⟨g, rfl⟩ := own_addr ho6 h0; cases hh))
                  have HAd := Lib.hid had
                  have HA6 := Lib.hid hA6
                  have HO6 := Lib.hid ho6
                  have HV6 := Lib.hid hv6
                  have HKB := Lib.hid kb
                  have hcat : N ≤ c := own_cap ho6
                  have hk0 : decide ((kk : Int) = 0) = false := by simp; omega
                  have hkN : i + kk ≤ N := by omega
                  have y1 : w6.cell? ⟨wr.heap.size, 1, none⟩ = some (.int .i64 i) := by rw [blk_cell hA6]; rfl
                  clear had hfd hv6 k6 hA6 ho6 kb
                  have HPs : Arg w6 1 (.slice (Option.map (fun x => x.add i) a) kk (c - i)) kk (ints ((us.drop i).take kk)) none := by
                    have := HAw.out.part i (i + kk) (by omega) (by omega) (Option.map (fun x => x.add i) a) (c - i) (fun _ => by rw [Nat.mul_one]) (fun h => by have := HAw.out.nil (by simpa using h); omega)
                    simp only [Nat.add_sub_cancel_left, Nat.mul_one, ← ints_drop, ← ints_take] at this
                    exact this
                  have HSm := Lib.hid (same16 ad _ kk cd (c - i) _ none none w6 HAd.out HPs (by omega))
                  clear HPs
                  go_wp2_with fail
                  refine HSm.out.mono ?_
                  rintro e w7 ⟨rfl, k7⟩
                  have hA7 := k7.heap HA6.out (by simp)
                  have kd : Keep [] w7 w7.drew := Keep.drew [] w7
                  have hod := kd.row (k7.row HO6.out (by simp)) (by simp)
                  have HAd7 : Arg w7.drew 1 (.slice a N c) N (ints us) none := arg_of_own hod (ints_one _) (fun h0 hh => by obtain ⟨g, rfl⟩ := own_addr hod h0; cases hh)
                  have HP2 := HAd7.part (i + kk) N hkN (Nat.le_refl _) (if c = i + kk then a else Option.map (fun x => x.add (i + kk)) a) (c - (i + kk)) (fun h => by rw [if_neg (by omega), Nat.mul_one]) (fun h => by
                    split at h
                    · omega
                    · have := HAd7.nil (by simpa using h); omega)
                  obtain ⟨j1, d1, v1, j2, d2, v2, q1, q2, oj, kj1, kj, gj⟩ := join2_mem elt31 w7.drew _ _ i (N - (i + kk)) _ _ (HAd7.left i (by omega)) HP2 (by omega)
                  have hlen := HP1.out.len
                  obtain ⟨M, hM⟩ : ∃ M, i + (N - (i + kk)) = M := ⟨_, rfl⟩
                  have hM' : N - kk = M := by omega
                  rw [hM] at q2 oj
                  have hv6 := HV6.out
                  rw [hM'] at hv6
                  obtain ⟨vs, hvs⟩ : ∃ vs, vs = us.take i ++ us.drop (i + kk) := ⟨_, rfl⟩
                  have e2 : List.take (i * 1) (ints us) ++ List.take ((N - (i + kk)) * 1) (List.drop ((i + kk) * 1) (ints us)) = ints vs := by
                    rw [hvs, List.take_of_length_le (l := List.drop ((i + kk) * 1) (ints us)) (by rw [List.length_drop]; simp only [ints, List.length_map]; omega)]
                    simp [ints]
                  rw [← hvs] at hv6
                  rw [e2] at oj
                  have hvl := hv6.lt
                  have hpf := HP1.out.fp
                  have hz7 := k7.size
                  have hz6 := HKB.out.size
                  have PQ : PInv w p k v2 j2 M d2 vs r := ⟨by have := oj.1; simpa [ints] using this, by omega, oj, ((hv6.keep k7 (by simp) (by simp)).keep kd (by simp) (by simp)).keep kj (by simp) (by simp),
                    fun g hg => ⟨by have := gj g hg; simp at this; omega, fun hh => by have := hvl.2 g hh; have := gj g hg; simp at this; omega⟩, hpf,
                    HP1.out.fr, fun g hg => by have := gj g hg; simp at *; omega, ((HKB.out.trans k7).trans kd).trans kj⟩
                  have z1 : w7.drew.cell? ⟨wr.heap.size, 1, none⟩ = some (.int .i64 i) := by rw [blk_cell (kd.heap hA7 (by simp))]; rfl
                  have z2 : v1.cell? ⟨wr.heap.size, 1, none⟩ = some (.int .i64 i) := by rw [blk_cell (kj1.heap (kd.heap hA7 (by simp)) (by simp))]; rfl
                  have z3 : v2.cell? ⟨wr.heap.size, 1, none⟩ = some (.int .i64 i) := by rw [blk_cell (kj.heap (kd.heap hA7 (by simp)) (by simp))]; rfl
                  have HPQ := Lib.hid PQ
                  have Q1 := Lib.hid q1
                  have Q2 := Lib.hid q2
                  have HMM : M ≤ 1000 := by omega
                  have hci : i ≤ c := by omega
                  have hck : i + kk ≤ c := by omega
                  have hf1 : ((i : Int) + (kk : Int)).toNat = i + kk := by omega
                  have hf2 : (i : Int) + (kk : Int) ≤ (N : Int) := by omega
                  have hf3 : (0 : Int) ≤ (i : Int) + (kk : Int) := by omega
                  have hf4 : IntKind.i64.wrap ((i : Int) + (kk : Int)) = (i : Int) + (kk : Int) := by rw [IntKind.wrap_i64]; omega
                  have hf5 : ¬ (i : Int) + (kk : Int) < 0 := by omega
                  have hf6 : ¬ (N : Int) < (i : Int) + (kk : Int) := by omega
                  have hf7 : (i : Int) + (kk : Int) ≤ (c : Int) := by omega
                  clear q1 q2 oj kj kj1 gj PQ hv6 hvl hpf e2 hvs hA7 kd hod HAd7 HP2 zA hlen hM hM' k7 hz7 hz6 y1
                  go_wp2_with fail
                  go_region_held3 (fun W => W.cell? ⟨wr.heap.size, 1, none⟩ = some (.int .i64 i)) (first | exact z1 | exact z2 | exact z3) ((first | (refine step_append_known rfl _ _ 31 31 rfl (.slice none 0 0) (.slice a i c) (by simp [Act.eval, Act.put]) (by simp [Act.eval, Act.put]) (Q1.out 31) ?_) | (refine step_append_known rfl _ _ 31 31 rfl (.slice j1 i d1) (.slice (if c = i + kk then a else Option.map (fun x => x.add (i + kk)) a) (N - (i + kk)) (c - (i + kk))) (by simp [Act.eval, Act.put]) (by simp [Act.eval, Act.put]) (Q2.out 31) ?_)))
                  generalize (if c = i + kk then a else Option.map (fun x => x.add (i + kk)) a) = ap
                  by_cases hiM : i < M
                  · have hdI5 : decide ((i : Int) < (M : Int)) = true := by simp; omega
                    have hul := HPQ.out.len
                    obtain ⟨y, hy⟩ : ∃ y, vs[i]? = some y := ⟨vs[i]'(by omega), List.getElem?_eq_getElem _⟩
                    have hyv : (ints vs)[i]? = some (.int .i64 y) := by rw [ints, List.getElem?_map, hy]; rfl
                    have HAt := Lib.hid (at31 p r M _ i y v2 HPQ.out.vec hyv)
                    obtain ⟨gq, hgq⟩ := own_addr HPQ.out.own (by omega)
                    subst hgq
                    have hcy := own_cell HPQ.out.own hyv
                    have HAll := Lib.hid (HPQ.out.all (by omega))
                    clear hyv hy
                    go_wp2_with fail
                    refine HAt.out.mono ?_
                    rintro e w7 ⟨rfl, rfl⟩
                    go_wp2_with fail
                    refine HAll.out.mono ?_
                    rintro e w8 ⟨rfl, k8⟩
                    go_wp2_with fail
                    go_roundw
                    case rel => exact ⟨k + 1, by omega, by go_num, _, M, d2, vs, r, rfl, HPQ.out.keep k8 (by omega)⟩
                    case measure => simp [intOf]; omega
                  · have hdI5 : decide ((i : Int) < (M : Int)) = false := by simp; omega
                    have HAt := Lib.hid (at31_no p r M _ (i : Int) v2 HPQ.out.vec (by omega))
                    have HAll := Lib.hid (HPQ.out.all (by omega))
                    go_wp2_with fail
                    refine HAt.out.mono ?_
                    rintro e w7 ⟨rfl, rfl⟩
                    go_wp2_with fail
                    refine HAll.out.mono ?_
                    rintro e w8 ⟨rfl, k8⟩
                    go_wp2_with fail
                    go_roundw
                    case rel => exact ⟨k + 1, by omega, by go_num, j2, M, d2, vs, r, rfl, HPQ.out.keep k8 (by omega)⟩
                    case measure => simp [intOf]; omega
                · have hmx : ¬ NN < 0 := by omega
                  obtain ⟨kk, rfl⟩ := Int.eq_ofNat_of_zero_le (show 0 ≤ NN by omega)
                  go_wp2_with fail
                  rw [← HWR.out]
                  refine (del_ints p r N us i kk kk wr1 HP1.out.vec (by omega) (by omega) (by omega)).mono ?_
                  rintro e w6 ⟨ad, cd, rfl, had, hfd, hv6, k6⟩
                  have zA : wr.heap.size < wr1.heap.size := blk_lt HHA.out
                  have hA6 := k6.heap HHA.out (fun hm => by have := (HAs.out _ hm).1; omega)
                  have ho6 := k6.row HP1.out.own (fun g hg => by rw [own_block] at hg; exact HSa.out g hg)
                  have kb : Keep [] w w6 := HP1.out.bel.trans' k6 (fun j hj => .inr (HAs.out j hj).2)
                  have HAw := Lib.hid (arg_of_own (r := none) ho6 (ints_one _) (fun h0 hh => by obtain ⟨g, rfl⟩ := own_addr ho6 h0; cases hh))
                  have HAd := Lib.hid had
                  have HA6 := Lib.hid hA6
                  have HO6 := Lib.hid ho6
                  have HV6 := Lib.hid hv6
                  have HKB := Lib.hid kb
                  have hcat : N ≤ c := own_cap ho6
                  have hk0 : decide ((kk : Int) = 0) = false := by simp; omega
                  have hkN : i + kk ≤ N := by omega
                  have y1 : w6.cell? ⟨wr.heap.size, 1, none⟩ = some (.int .i64 i) := by rw [blk_cell hA6]; rfl
                  clear had hfd hv6 k6 hA6 ho6 kb
                  have HPs : Arg w6 1 (.slice (Option.map (fun x => x.add i) a) kk (c - i)) kk (ints ((us.drop i).take kk)) none := by
                    have := HAw.out.part i (i + kk) (by omega) (by omega) (Option.map (fun x => x.add i) a) (c - i) (fun _ => by rw [Nat.mul_one]) (fun h => by have := HAw.out.nil (by simpa using h); omega)
                    simp only [Nat.add_sub_cancel_left, Nat.mul_one, ← ints_drop, ← ints_take] at this
                    exact this
                  have HSm := Lib.hid (same16 ad _ kk cd (c - i) _ none none w6 HAd.out HPs (by omega))
                  clear HPs
                  go_wp2_with fail
                  refine HSm.out.mono ?_
                  rintro e w7 ⟨rfl, k7⟩
                  have hA7 := k7.heap HA6.out (by simp)
                  have kd : Keep [] w7 w7.drew := Keep.drew [] w7
                  have hod := kd.row (k7.row HO6.out (by simp)) (by simp)
                  have HAd7 : Arg w7.drew 1 (.slice a N c) N (ints us) none := arg_of_own hod (ints_one _) (fun h0 hh => by obtain ⟨g, rfl⟩ := own_addr hod h0; cases hh)
                  have HP2 := HAd7.part (i + kk) N hkN (Nat.le_refl _) (if c = i + kk then a else Option.map (fun x => x.add (i + kk)) a) (c - (i + kk)) (fun h => by rw [if_neg (by omega), Nat.mul_one]) (fun h => by
                    split at h
                    · omega
                    · have := HAd7.nil (by simpa using h); omega)
                  obtain ⟨j1, d1, v1, j2, d2, v2, q1, q2, oj, kj1, kj, gj⟩ := join2_mem elt31 w7.drew _ _ i (N - (i + kk)) _ _ (HAd7.left i (by omega)) HP2 (by omega)
                  have hlen := HP1.out.len
                  obtain ⟨M, hM⟩ : ∃ M, i + (N - (i + kk)) = M := ⟨_, rfl⟩
                  have hM' : N - kk = M := by omega
                  rw [hM] at q2 oj
                  have hv6 := HV6.out
                  rw [hM'] at hv6
                  obtain ⟨vs, hvs⟩ : ∃ vs, vs = us.take i ++ us.drop (i + kk) := ⟨_, rfl⟩
                  have e2 : List.take (i * 1) (ints us) ++ List.take ((N - (i + kk)) * 1) (List.drop ((i + kk) * 1) (ints us)) = ints vs := by
                    rw [hvs, List.take_of_length_le (l := List.drop ((i + kk) * 1) (ints us)) (by rw [List.length_drop]; simp only [ints, List.length_map]; omega)]
                    simp [ints]
                  rw [← hvs] at hv6
                  rw [e2] at oj
                  have hvl := hv6.lt
                  have hpf := HP1.out.fp
                  have hz7 := k7.size
                  have hz6 := HKB.out.size
                  have PQ : PInv w p k v2 j2 M d2 vs r := ⟨by have := oj.1; simpa [ints] using this, by omega, oj, ((hv6.keep k7 (by simp) (by simp)).keep kd (by simp) (by simp)).keep kj (by simp) (by simp),
                    fun g hg => ⟨by have := gj g hg; simp at this; omega, fun hh => by have := hvl.2 g hh; have := gj g hg; simp at this; omega⟩, hpf,
                    HP1.out.fr, fun g hg => by have := gj g hg; simp at *; omega, ((HKB.out.trans k7).trans kd).trans kj⟩
                  have z1 : w7.drew.cell? ⟨wr.heap.size, 1, none⟩ = some (.int .i64 i) := by rw [blk_cell (kd.heap hA7 (by simp))]; rfl
                  have z2 : v1.cell? ⟨wr.heap.size, 1, none⟩ = some (.int .i64 i) := by rw [blk_cell (kj1.heap (kd.heap hA7 (by simp)) (by simp))]; rfl
                  have z3 : v2.cell? ⟨wr.heap.size, 1, none⟩ = some (.int .i64 i) := by rw [blk_cell (kj.heap (kd.heap hA7 (by simp)) (by simp))]; rfl
                  have HPQ := Lib.hid PQ
                  have Q1 := Lib.hid q1
                  have Q2 := Lib.hid q2
                  have HMM : M ≤ 1000 := by omega
                  have hci : i ≤ c := by omega
                  have hck : i + kk ≤ c := by omega
                  have hf1 : ((i : Int) + (kk : Int)).toNat = i + kk := by omega
                  have hf2 : (i : Int) + (kk : Int) ≤ (N : Int) := by omega
                  have hf3 : (0 : Int) ≤ (i : Int) + (kk : Int) := by omega
                  have hf4 : IntKind.i64.wrap ((i : Int) + (kk : Int)) = (i : Int) + (kk : Int) := by rw [IntKind.wrap_i64]; omega
                  have hf5 : ¬ (i : Int) + (kk : Int) < 0 := by omega
                  have hf6 : ¬ (N : Int) < (i : Int) + (kk : Int) := by omega
                  have hf7 : (i : Int) + (kk : Int) ≤ (c : Int) := by omega
                  clear q1 q2 oj kj kj1 gj PQ hv6 hvl hpf e2 hvs hA7 kd hod HAd7 HP2 zA hlen hM hM' k7 hz7 hz6 y1
                  go_wp2_with fail
                  go_region_held3 (fun W => W.cell? ⟨wr.heap.size, 1, none⟩ = some (.int .i64 i)) (first | exact z1 | exact z2 | exact z3) ((first | (refine step_append_known rfl _ _ 31 31 rfl (.slice none 0 0) (.slice a i c) (by simp [Act.eval, Act.put]) (by simp [Act.eval, Act.put]) (Q1.out 31) ?_) | (refine step_append_known rfl _ _ 31 31 rfl (.slice j1 i d1) (.slice (if c = i + kk then a else Option.map (fun x => x.add (i + kk)) a) (N - (i + kk)) (c - (i + kk))) (by simp [Act.eval, Act.put]) (by simp [Act.eval, Act.put]) (Q2.out 31) ?_)))
                  generalize (if c = i + kk then a else Option.map (fun x => x.add (i + kk)) a) = ap
                  by_cases hiM : i < M
                  · have hdI5 : decide ((i : Int) < (M : Int)) = true := by simp; omega
                    have hul := HPQ.out.len
                    obtain ⟨y, hy⟩ : ∃ y, vs[i]? = some y := ⟨vs[i]'(by omega), List.getElem?_eq_getElem _⟩
                    have hyv : (ints vs)[i]? = some (.int .i64 y) := by rw [ints, List.getElem?_map, hy]; rfl
                    have HAt := Lib.hid (at31 p r M _ i y v2 HPQ.out.vec hyv)
                    obtain ⟨gq, hgq⟩ := own_addr HPQ.out.own (by omega)
                    subst hgq
                    have hcy := own_cell HPQ.out.own hyv
                    have HAll := Lib.hid (HPQ.out.all (by omega))
                    clear hyv hy
                    go_wp2_with fail
                    refine HAt.out.mono ?_
                    rintro e w7 ⟨rfl, rfl⟩
                    go_wp2_with fail
                    refine HAll.out.mono ?_
                    rintro e w8 ⟨rfl, k8⟩
                    go_wp2_with fail
                    go_roundw
                    case rel => exact ⟨k + 1, by omega, by go_num, _, M, d2, vs, r, rfl, HPQ.out.keep k8 (by omega)⟩
                    case measure => simp [intOf]; omega
                  · have hdI5 : decide ((i : Int) < (M : Int)) = false := by simp; omega
                    have HAt := Lib.hid (at31_no p r M _ (i : Int) v2 HPQ.out.vec (by omega))
                    have HAll := Lib.hid (HPQ.out.all (by omega))
                    go_wp2_with fail
                    refine HAt.out.mono ?_
                    rintro e w7 ⟨rfl, rfl⟩
                    go_wp2_with fail
                    refine HAll.out.mono ?_
                    rintro e w8 ⟨rfl, k8⟩
                    go_wp2_with fail
                    go_roundw
                    case rel => exact ⟨k + 1, by omega, by go_num, j2, M, d2, vs, r, rfl, HPQ.out.keep k8 (by omega)⟩
                    case measure => simp [intOf]; omega
            · have hno : I < 0 ∨ (N : Int) ≤ I := by omega
              have HDl := Lib.hid (delete31_no p r N _ I NN wr1 HP1.out.vec (by omega))
              by_cases hI0 : I < 0
              · have hdI : decide (0 ≤ I) = false := by simp; omega
                go_wp2_with fail
                rw [← HWR.out]
                refine HDl.out.mono ?_
                rintro e w6 ⟨rfl, rfl⟩
                go_wp2_with fail
                go_roundw
                case rel => exact ⟨k + 1, by omega, by go_num, a, N, c, us, r, rfl, HP1.out.keep (Keep.refl _ _) (by omega)⟩
                case measure => simp [intOf]; omega
              · have hdI : decide (0 ≤ I) = true := by simp; omega
                have hdI3 : decide (I < (N : Int)) = false := by simp; omega
                go_wp2_with fail
                rw [← HWR.out]
                refine HDl.out.mono ?_
                rintro e w6 ⟨rfl, rfl⟩
                go_wp2_with fail
                go_roundw
                case rel => exact ⟨k + 1, by omega, by go_num, a, N, c, us, r, rfl, HP1.out.keep (Keep.refl _ _) (by omega)⟩
                case measure => simp [intOf]; omega
        · by_cases hin : 0 ≤ I ∧ I < N
          · as_aux_lemma =>
              obtain ⟨i, rfl⟩ := Int.eq_ofNat_of_zero_le hin.1
              have hiN : i < N := by omega
              have hdI : decide ((0 : Int) ≤ (i : Int)) = true := by simp
              have hdI3 : decide ((i : Int) < (N : Int)) = true := by simp; omega
              go_wp2_with fail
              rw [← HWR.out]
              refine (set31 p r N _ i NN wr1 HP1.out.vec hiN).mono ?_
              rintro e w6 ⟨rfl, r6, hv6, k6, hf6⟩
              have zA : wr.heap.size < wr1.heap.size := blk_lt HHA.out
              have hA6 := k6.heap HHA.out (fun hm => by have := (HAs.out _ hm).1; omega)
              have ho6 := k6.row HP1.out.own (fun g hg => by rw [own_block] at hg; exact HSa.out g hg)
              have kb : Keep [] w w6 := HP1.out.bel.trans' k6 (fun j hj => .inr (HAs.out j hj).2)
              have HAw := Lib.hid (arg_of_own (r := none) ho6 (ints_one _) (fun h0 hh => by obtain ⟨g, rfl⟩ := own_addr ho6 h0; cases hh))
              have HA6 := Lib.hid hA6
              have HV6 := Lib.hid hv6
              have HKB := Lib.hid kb
              have hfr : Hid (∀ g, r6 = some g → w.heap.size ≤ g) := fun g hg => by
                  rcases hf6 with hf6 | ⟨k', hf6, hle6⟩
                  · exact HP1.out.fr g (by rw [← hf6]; exact hg)
                  · rw [hg] at hf6; injection hf6 with hf6; subst hf6; have := HP1.out.bel.size; omega
              clear hA6 ho6 kb hv6 k6 hf6
              go_wp2_with (at_builtin; refine wpList_app_nil elt31 _ rfl _ _ rfl rfl _ rfl N (ints us) none HAw.out (by omega) ?_; intro aw cw w7 ho7 k7 hg7; obtain ⟨gw, hgw⟩ := own_addr ho7 (by omega); subst hgw; have x17 : w7.cell? ⟨wr.heap.size, 1, none⟩ = some (.int .i64 i) := (by rw [blk_cell (k7.heap HA6.out (by simp))]; rfl); have x27 : w7.cell? ⟨wr.heap.size, 2, none⟩ = some (.int .i64 NN) := (by rw [blk_cell (k7.heap HA6.out (by simp))]; rfl); have hlen := HP1.out.len; obtain ⟨y0, hy0⟩ : ∃ y, us[i]? = some y := ⟨us[i]'(by omega), List.getElem?_eq_getElem _⟩; have hcy0 := own_cell ho7 (show (ints us)[i]? = some (.int .i64 y0) by simp [ints, hy0]); have hfy0 := own_frozen ho7 i; have x18 : (w7.setCell ⟨gw, i, none⟩ (.int .i64 NN)).cell? ⟨wr.heap.size, 1, none⟩ = some (.int .i64 i) := (by rw [World.cell?_setCell_other _ _ _ _ (by intro hh; injection hh with hh1; have h1 := hg7 gw rfl; have h2 := blk_lt HA6.out; omega)]; exact x17); have HO7 := Lib.hid ho7; have HK7 := Lib.hid k7; have HG7 := Lib.hid hg7; clear ho7 k7 hg7 hy0 hlen)
              have hos := own_set1 (i := i) HO7.out (.int .i64 NN)
              have ks : Keep [gw] w7 (w7.setCell ⟨gw, i, none⟩ (.int .i64 NN)) := Keep.setCell w7 _ _ (by simp)
              have hgw7 := HG7.out gw rfl
              have hvl := HV6.out.lt
              have z6 := HK7.out.size
              have ea : (ints us).set i (.int .i64 NN) = ints (us.set i NN) := by simp [ints, List.map_set]
              rw [ea] at hos
              have hv6 := HV6.out
              rw [ea] at hv6
              obtain ⟨w8, hw8⟩ : ∃ w8, w8 = w7.setCell ⟨gw, i, none⟩ (.int .i64 NN) := ⟨_, rfl⟩
              rw [← hw8] at hos ks ⊢
              clear hw8
              have PQ : PInv w p k w8 (some ⟨gw, 0, none⟩) N cw (us.set i NN) r6 := ⟨by rw [List.length_set]; exact HP1.out.len, hle, hos,
                (hv6.keep HK7.out (by simp) (by simp)).keep ks (by simp; omega) (fun g hg => by simp; have := hvl.2 g hg; omega),
                fun g hg => by
                  simp at hg
                  subst hg
                  exact ⟨by omega, fun hh => by have := hvl.2 _ hh; omega⟩, HP1.out.fp, hfr.out, fun g hg => by
                  simp at hg
                  subst hg
                  have := HKB.out.size; omega, (HKB.out.trans HK7.out).trans' ks (fun j hj => .inr (by simp at hj; subst hj; have := HKB.out.size; omega))⟩
              have hA8 := ks.heap (HK7.out.heap HA6.out (by simp)) (by simp; have := blk_lt HA6.out; omega)
              have z1 : w8.cell? ⟨wr.heap.size, 1, none⟩ = some (.int .i64 i) := by rw [blk_cell hA8]; rfl
              have z28 : w8.cell? ⟨wr.heap.size, 2, none⟩ = some (.int .i64 NN) := by rw [blk_cell hA8]; rfl
              have HPQ := Lib.hid PQ
              clear PQ hos ks hgw7 hvl z6 ea hv6 hA8 x17 x27 x18 hcy0 hfy0
              have hul := HPQ.out.len
              obtain ⟨y, hy0, hy⟩ : ∃ y, y = NN ∧ (us.set i NN)[i]? = some y := ⟨NN, rfl, List.getElem?_set_self (by have := HP1.out.len; omega)⟩
              have hyv : (ints (us.set i NN))[i]? = some (.int .i64 y) := by rw [ints, List.getElem?_map, hy]; rfl
              have HAt := Lib.hid (at31 p r6 N _ i y w8 HPQ.out.vec hyv)
              have hcy := own_cell HPQ.out.own hyv
              have HAll := Lib.hid (HPQ.out.all (by omega))
              clear hyv hy
              refine HAt.out.mono ?_
              rintro e w7 ⟨rfl, rfl⟩
              go_wp2_with fail
              refine HAll.out.mono ?_
              rintro e w8 ⟨rfl, k8⟩
              go_wp2_with fail
              go_roundw
              case rel => exact ⟨k + 1, by omega, by go_num, _, N, cw, (us.set i NN), r6, rfl, HPQ.out.keep k8 (by omega)⟩
              case measure => simp [intOf]; omega
          · by_cases hI0 : I < 0
            · have hdI : decide (0 ≤ I) = false := by simp; omega
              have HIn := Lib.hid (set31_no p r N _ I (.int .i64 NN) wr1 HP1.out.vec (by omega))
              go_wp2_with fail
              rw [← HWR.out]
              refine HIn.out.mono ?_
              rintro e w6 ⟨rfl, rfl⟩
              have HAt := Lib.hid (at31_no p r N _ I wr1 HP1.out.vec (by omega))
              have HAll := Lib.hid (HP1.out.all (by omega))
              go_wp2_with fail
              refine HAt.out.mono ?_
              rintro e w7 ⟨rfl, rfl⟩
              go_wp2_with fail
              refine HAll.out.mono ?_
              rintro e w8 ⟨rfl, k8⟩
              go_wp2_with fail
              go_roundw
              case rel => exact ⟨k + 1, by omega, by go_num, a, N, c, us, r, rfl, HP1.out.keep k8 (by omega)⟩
              case measure => simp [intOf]; omega
            · have hdI : decide (0 ≤ I) = true := by simp; omega
              have hdI3 : decide (I < (N : Int)) = false := by simp; omega
              have HIn := Lib.hid (set31_no p r N _ I (.int .i64 NN) wr1 HP1.out.vec (by omega))
              go_wp2_with fail
              rw [← HWR.out]
              refine HIn.out.mono ?_
              rintro e w6 ⟨rfl, rfl⟩
              have HAt := Lib.hid (at31_no p r N _ I wr1 HP1.out.vec (by omega))
              have HAll := Lib.hid (HP1.out.all (by omega))
              go_wp2_with fail
              refine HAt.out.mono ?_
              rintro e w7 ⟨rfl, rfl⟩
              go_wp2_with fail
              refine HAll.out.mono ?_
              rintro e w8 ⟨rfl, k8⟩
              go_wp2_with fail
              go_roundw
              case rel => exact ⟨k + 1, by omega, by go_num, a, N, c, us, r, rfl, HP1.out.keep k8 (by omega)⟩
              case measure => simp [intOf]; omega
    · obtain rfl : n2 = k := by omega
      have HL := Lib.hid (HP.out.all h2)
      have HB := Lib.hid HP.out.bel
      go_wp2_with fail
      refine HL.out.mono ?_
      rintro e w9 ⟨rfl, k9⟩
      go_wp2_with fail
      go_ret
      exact ⟨rfl, (HB.out.trans k9).below (Nat.le_refl _) (by simp)⟩
theorem plays_walk (a1 : Option Addr) (n1 c1 : Nat) (zs : List Int) (a2 : Option Addr) (n2 c2 : Nat) (w : World) (hA1 : Arg w 1 (.slice a1 n1 c1) n1 (ints zs) none)
    (hA2 : ∀ k, k < n2 → ∃ b o, a2 = some ⟨b, o, none⟩ ∧ ∃ what I N aX nX cX zs, ActAt w b (o + 4 * k) what I N aX nX cX zs) :
    Calls Try.prog 4 #[.slice a1 n1 c1, .slice a2 n2 c2] w fun e w' => e = .returned (.bool true) ∧ Below w.heap.size w w' := by
  by_cases h1 : 50 < n1 ∨ 40 < n2
  · exact plays_long a1 n1 c1 a2 n2 c2 w h1
  · exact plays_short a1 n1 c1 zs a2 n2 c2 w (by omega) (by omega) hA1 hA2
end Go.Proofs.Ytnfkoegbinkfgaa
