/-
  The walk of VecJoins: at every input it answers true and leaves what lay there alone. Conditions: stated at each theorem.
-/
import Derived.Test.YtnfkoegbinkfgaaSame
import Derived.Test.YtnfkoegbinkfgaaAll
set_option linter.unusedSimpArgs false
set_option linter.unusedVariables false
namespace Go.Proofs.Ytnfkoegbinkfgaa
open Go.RowKit Go.Lib

set_option maxHeartbeats 4000000 in
set_option maxRecDepth 100000 in
theorem joins_long (a1 : Option Addr) (n1 c1 : Nat) (a2 : Option Addr) (n2 c2 : Nat) (at_ : Int) (w : World) (h : 40 < n1 ∨ 40 < n2) :
    Calls Try.prog 6 #[.slice a1 n1 c1, .int .u8 at_, .slice a2 n2 c2] w fun e w' => e = .returned (.bool true) ∧ Below w.heap.size w w' := by
  have HK := Lib.hid (known8 w)
  rcases h with h | h
  · go_enter Try.func6, Try.ntmps6
    go_wp2_with (go_at_call 8; refine HK.out.mono ?_; rintro e w1 ⟨rfl, k1⟩)
    go_ret
    exact ⟨rfl, k1.below (Nat.le_refl _) (by simp)⟩
  · by_cases h1 : 40 < n1
    · go_enter Try.func6, Try.ntmps6
      go_wp2_with (go_at_call 8; refine HK.out.mono ?_; rintro e w1 ⟨rfl, k1⟩)
      go_ret
      exact ⟨rfl, k1.below (Nat.le_refl _) (by simp)⟩
    · have hd : decide ((40 : Int) < (n1 : Int)) = false := by simp; omega
      go_enter Try.func6, Try.ntmps6
      go_wp2_with (go_at_call 8; refine HK.out.mono ?_; rintro e w1 ⟨rfl, k1⟩)
      go_ret
      exact ⟨rfl, k1.below (Nat.le_refl _) (by simp)⟩

theorem join_step (ls ms : List Int) (i k : Nat) (m : Int) (hi : i ≤ ls.length) (hk : ms[k]? = some m) :
    (ints (ls.take i ++ ms.take k ++ ls.drop i)).take (i + k) ++ [.int .i64 m] ++ (ints (ls.take i ++ ms.take k ++ ls.drop i)).drop (i + k) = ints (ls.take i ++ ms.take (k + 1) ++ ls.drop i) := by
  have hlt : k < ms.length := by
    rcases Nat.lt_or_ge k ms.length with h | h
    · exact h
    · rw [List.getElem?_eq_none h] at hk; cases hk
  have hl : (ls.take i ++ ms.take k).length = i + k := by simp; omega
  rw [← ints_take, ← ints_drop, List.take_append_of_le_length (by omega), List.take_of_length_le (by omega), List.drop_append_of_le_length (by omega), List.drop_of_length_le (l := ls.take i ++ ms.take k) (by omega)]
  have : ms.take (k + 1) = ms.take k ++ [m] := by rw [List.take_add_one, hk]; rfl
  rw [this]
  simp [ints]

set_option maxHeartbeats 8000000 in
set_option maxRecDepth 100000 in
theorem joins_short (a1 : Option Addr) (n1 c1 : Nat) (ls : List Int) (a2 : Option Addr) (n2 c2 : Nat) (ms : List Int) (at_ : Nat) (w : World)
    (hc1 : n1 ≤ c1) (h1 : n1 ≤ 40) (h2 : n2 ≤ 40) (hat : at_ < 256) (hA1 : Arg w 1 (.slice a1 n1 c1) n1 (ints ls) none) (hA2 : Arg w 1 (.slice a2 n2 c2) n2 (ints ms) none) :
    Calls Try.prog 6 #[.slice a1 n1 c1, .int .u8 at_, .slice a2 n2 c2] w fun e w' => e = .returned (.bool true) ∧ Below w.heap.size w w' := by
  have HK := Lib.hid (known8 w)
  have hd1 : decide ((40 : Int) < (n1 : Int)) = false := by simp; omega
  have hd2 : decide ((40 : Int) < (n2 : Int)) = false := by simp; omega
  have HA1 := Lib.hid hA1
  have HA2 := Lib.hid hA2
  have hls : Hid (ls.length = n1) := Lib.hid (by have := hA1.1; simpa [ints] using this)
  have hms : Hid (ms.length = n2) := Lib.hid (by have := hA2.1; simpa [ints] using this)
  clear hA1 hA2
  go_enter Try.func6, Try.ntmps6
  go_wp2_with (go_at_call 8; refine HK.out.mono ?_; rintro e w1 ⟨rfl, k1⟩)
  refine (new31 _ n1 (ints ls) none w1 (HA1.out.keep (by decide) k1 (fun c _ => ⟨by simp, by simp⟩)) (by omega)).mono ?_
  rintro e w2 ⟨p, r, rfl, hv2, k2, hp2, hr2⟩
  have HA1' := Lib.hid ((HA1.out.keep (r' := none) (by decide) k1 (fun c _ => ⟨by simp, by simp⟩)).keep (r' := none) (by decide) k2 (fun c _ => ⟨by simp, by simp⟩))
  go_wp2_with fail
  refine (new31 _ n1 (ints ls) none w2 HA1'.out (by omega)).mono ?_
  rintro e w3 ⟨q, s0, rfl, hv3, k3, hq3, hs3⟩
  go_wp2_with fail
  obtain ⟨i, hi, hin⟩ : ∃ i : Nat, (at_ : Int) % ((n1 : Int) + 1) = (i : Int) ∧ i ≤ n1 := ⟨at_ % (n1 + 1), by push_cast; rfl, by have := Nat.mod_lt at_ (show 0 < n1 + 1 by omega); omega⟩
  rw [hi]
  have z1 := k1.size
  have z2 := k2.size
  have z3 := k3.size
  have hpl := hv2.lt
  have hql := hv3.lt
  have B3 : Below w.heap.size w w3 := ((k1.trans k2).trans k3).below (Nat.le_refl _) (by simp)
  have hva := hv2.keep k3 (by simp) (by simp)
  have HA2' := Lib.hid (HA2.out.keep (r' := r) (by decide) ((k1.trans k2).trans k3) (fun c hc => ⟨by simp, fun h => by have := hr2 c h.symm; omega⟩))
  refine (insert31 p r n1 _ i _ n2 (ints ms) w3 hva HA2'.out (by omega) (by omega) (by omega)).mono ?_
  rintro e w4 ⟨rfl, r2, hv4, k4, hf4⟩
  have z4 := k4.size
  have B4 : Below w.heap.size w w4 := B3.trans (k4.below B3.size (fun j hj => by
    simp at hj
    rcases hj with rfl | hj
    · omega
    · have := hr2 j hj; omega))
  have hpq : p < q := by omega
  have hps : ∀ g, s0 = some g → p ≠ g := fun g hg => by have := hs3 g hg; omega
  have hrq : ∀ g, r2 = some g → g ≠ q ∧ ∀ g', s0 = some g' → g ≠ g' := fun g hg => by
    rcases hf4 with hf4 | ⟨k', hf4, hle⟩
    · have := hpl.2 g (by rw [← hf4]; exact hg)
      exact ⟨by omega, fun g' hg' => by have := hs3 g' hg'; omega⟩
    · rw [hg] at hf4
      injection hf4 with hf4
      subst hf4
      exact ⟨by omega, fun g' hg' => by have := hql.2 g' hg'; omega⟩
  have hvb := hv3.keep k4 (by simp; exact ⟨by omega, fun hh => by have := hpl.2 _ hh; omega⟩) (fun g hg hm => by
    simp at hm
    have := hs3 g hg
    rcases hm with rfl | hm
    · omega
    · have := hpl.2 _ hm; omega)
  have HVA := Lib.hid hv4
  have HVB := Lib.hid hvb
  have HB4 := Lib.hid B4
  have HD := Lib.hid (And.intro (And.intro hpq hps) hrq)
  have HF : Hid (w.heap.size ≤ q ∧ ∀ g, s0 = some g → w.heap.size ≤ g) := ⟨by omega, fun g hg => by have := hs3 g hg; omega⟩
  have HFp : Hid (w.heap.size ≤ p ∧ ∀ g, r2 = some g → w.heap.size ≤ g) := ⟨by omega, fun g hg => by
    rcases hf4 with hf4 | ⟨k', hf4, hle⟩
    · have := hr2 g (by rw [← hf4]; exact hg); omega
    · rw [hg] at hf4
      injection hf4 with hf4
      subst hf4
      have hb3 := B3.size
      omega⟩
  have hat63 : (i : Int) ≤ 40 := by omega
  clear hva hv2 hv3 hv4 hvb k1 k2 k3 k4 B3 B4 hpq hps hrq hf4 hs3 hql hpl z1 z2 hi HK HA1' HA2' hp2 hr2 hq3 z4 z3 hat
  go_wp2_with fail
  go_loopw [10] (fun v wr => ∃ k : Nat, k ≤ n2 ∧ v = .int .i64 k ∧ ∃ s, Vec 58 3 1 wr q s (n1 + k) (ints (ls.take i ++ ms.take k ++ ls.drop i)) ∧ Keep (q :: s0.toList) w4 wr ∧ ∀ g, s = some g → s0 = some g ∨ w4.heap.size ≤ g) (fun v _ => n2 - (intOf v).toNat)
  case atStart => exact ⟨0, Nat.zero_le _, rfl, s0, by simpa using HVB.out, Keep.refl _ _, fun g hg => .inl hg⟩
  case round =>
    obtain ⟨k, hk, rfl, s, hvs, hks, hss⟩ := hrel
    have HVS := Lib.hid hvs
    have HKS := Lib.hid hks
    have HSS := Lib.hid hss
    have hBr : Below w.heap.size w wr := HB4.out.trans (hks.below HB4.out.size (fun j hj => by
      simp at hj
      rcases hj with rfl | hj
      · exact HF.out.1
      · exact HF.out.2 j hj))
    by_cases hlt : k < n2
    · obtain ⟨b2, o2, rfl, c2', l2⟩ := arg_cell (HA2.out.keep (r' := none) (by decide) (Keep.of_below (hBr.mono (Nat.le_refl _)) []) (fun c _ => ⟨by simp, by simp⟩)) hlt
      have hm : ms[k]? = some (ms[k]?.getD 0) := by
        rw [List.getElem?_eq_getElem (by rw [hms.out]; exact hlt)]; rfl
      have HIn := Lib.hid (insert31 q s (n1 + k) _ ((i : Int) + (k : Int)) _ 1 [.int .i64 (ms[k]?.getD 0)] _ (HVS.out.keep (Keep.alloc [] wr (.cells #[.int .i64 (ms[k]?.getD 0)] 3)) (by simp) (by simp)) (arg_lit wr 3 [.int .i64 (ms[k]?.getD 0)] s (by simp [Value.oneCell']) HVS.out.lt.2 (by simp)) (by omega) (by omega) (by omega))
      have hst := join_step ls ms i k _ (by rw [hls.out]; exact hin) hm
      have HST := Lib.hid hst
      clear hvs hks hss hBr hm hst l2
      go_wp2_with (go_at_call 14; refine HIn.out.mono ?_; rintro e w7 ⟨rfl, s', hv7, k7, hf7⟩)
      go_roundw
      case rel =>
        refine ⟨k + 1, by omega, by go_num, s', ?_, ?_, ?_⟩
        · have e1 : ((i : Int) + (k : Int)).toNat * 1 = i + k := by omega
          rw [e1, HST.out] at hv7
          exact hv7
        · refine (HKS.out.trans (Keep.alloc _ wr _)).trans' k7 (fun j hj => ?_)
          simp at hj ⊢
          rcases hj with rfl | hj
          · exact .inl (.inl rfl)
          · rcases HSS.out j hj with h | h
            · exact .inl (.inr h)
            · exact .inr h
        · intro g hg
          rcases hf7 with hf7 | ⟨k', hf7, hle⟩
          · exact HSS.out g (by rw [← hf7]; exact hg)
          · rw [hg] at hf7
            injection hf7 with hf7
            subst hf7
            have := HKS.out.size
            simp at hle
            exact .inr (by omega)
      case measure => simp [intOf]; omega
    · obtain rfl : n2 = k := by omega
      have hB6 : Below w.heap.size w wr.drew := hBr.drew
      have HAw := Lib.hid (HA1.out.keep (r' := none) (by decide) (Keep.of_below (hB6.mono (Nat.le_refl _)) []) (fun c _ => ⟨by simp, by simp⟩))
      have HAm := Lib.hid (HA2.out.keep (r' := none) (by decide) (Keep.of_below (hB6.mono (Nat.le_refl _)) []) (fun c _ => ⟨by simp, by simp⟩))
      have HP2 := Lib.hid (HAw.out.part i n1 hin (Nat.le_refl _) (if c1 = i then a1 else Option.map (fun x => x.add i) a1) (c1 - i) (fun h => by rw [if_neg (by omega), Nat.mul_one]) (fun h => by
        split at h
        · omega
        · have := HAw.out.nil (by simpa using h); omega))
      obtain ⟨j1, d1, x1, j2, d2, x2, j3, d3, x3, q1, q2, q3, oj, kj, gj⟩ := join3_mem elt31 wr.drew _ _ _ i n2 (n1 - i) _ _ _ (HAw.out.left i hin) HAm.out HP2.out (by omega)
      obtain ⟨N, hN⟩ : ∃ N, i + n2 + (n1 - i) = N := ⟨_, rfl⟩
      have hN' : n1 + n2 = N := by omega
      have hNb : N ≤ 80 := by omega
      rw [hN] at q3 oj
      have hva := HVA.out
      have hvb := HVS.out
      rw [hN'] at hva hvb
      obtain ⟨us, hus⟩ : ∃ us, us = ls.take i ++ ms ++ ls.drop i := ⟨_, rfl⟩
      have e0 : ls.take i ++ ms.take n2 ++ ls.drop i = us := by rw [hus, List.take_of_length_le (l := ms) (by rw [hms.out]; exact Nat.le_refl _)]
      have e1 : List.take ((i : Int).toNat * 1) (ints ls) ++ ints ms ++ List.drop ((i : Int).toNat * 1) (ints ls) = ints us := by rw [hus]; simp [ints]
      have e2 : List.take (i * 1) (ints ls) ++ ints ms ++ List.take ((n1 - i) * 1) (List.drop (i * 1) (ints ls)) = ints us := by
        rw [hus, List.take_of_length_le (l := List.drop (i * 1) (ints ls)) (by rw [List.length_drop]; simp only [ints, List.length_map, hls.out]; omega)]
        simp [ints]
      rw [e1] at hva
      rw [e0] at hvb
      rw [e2] at oj
      have HU : us.length = N := by have := oj.1; simpa [ints] using this
      have hg1 : (us.drop i).take n2 = ms := by
        have ht : (ls.take i).length = i := by simp; rw [hls.out]; omega
        have ht3 := hms.out
        rw [hus, List.append_assoc, List.drop_append_of_le_length (by omega), List.drop_of_length_le (by omega), List.nil_append, List.take_append_of_le_length (by omega), List.take_of_length_le (by omega)]
      have hg2 : us.take i ++ us.drop (i + n2) = ls := by
        have ht : (ls.take i).length = i := by simp; rw [hls.out]; omega
        have ht2 : (ls.take i ++ ms).length = i + n2 := by rw [List.length_append, ht, hms.out]
        have ha : us.take i = ls.take i := by rw [hus, List.append_assoc, List.take_append_of_le_length (by omega), List.take_of_length_le (by omega)]
        have hb : us.drop (i + n2) = ls.drop i := by rw [hus, List.drop_append_of_le_length (by omega), List.drop_of_length_le (by omega), List.nil_append]
        rw [ha, hb, List.take_append_drop]
      have hpk : p ∉ q :: s0.toList := by
        simp
        exact ⟨by have := HD.out.1.1; omega, fun hh => HD.out.1.2 _ hh rfl⟩
      have hrk : ∀ g, r2 = some g → g ∉ q :: s0.toList := fun g hg hm => by
        simp at hm
        rcases hm with rfl | hm
        · exact (HD.out.2 _ hg).1 rfl
        · exact (HD.out.2 _ hg).2 _ hm rfl
      have hva' := (hva.keep hks hpk hrk).keep ((Keep.drew [] wr).trans kj) (by simp) (by simp)
      have hvb' := hvb.keep ((Keep.drew [] wr).trans kj) (by simp) (by simp)
      have Q1 := Lib.hid q1
      have Q2 := Lib.hid q2
      have Q3 := Lib.hid q3
      have HOt := Lib.hid (arg_of_own (r := none) oj (ints_one us) (fun h0 hh => by obtain ⟨g, rfl⟩ := own_addr oj h0; cases hh))
      have HBt := Lib.hid (hB6.trans (kj.below hB6.size (by simp)))
      have HVa := Lib.hid hva'
      have HVb := Lib.hid hvb'
      have Hg1 := Lib.hid hg1
      have Hg2 := Lib.hid hg2
      have HUl := Lib.hid HU
      have HN := Lib.hid hN
      have HN' := Lib.hid hN'
      clear q1 q2 q3 oj kj gj hva hvb hva' hvb' hvs hks hss hBr hB6 e0 e1 e2 hus hN hN' hg1 hg2 hpk hrk HU
      have hcat : i ≤ c1 := by omega
      go_wp2
      go_region_law (first | (refine step_append_known rfl _ _ 31 31 rfl (.slice none 0 0) (.slice a1 i c1) (by simp [Act.eval, Act.put]) (by simp [Act.eval, Act.put]) (Q1.out 31) ?_) | (refine step_append_known rfl _ _ 31 31 rfl (.slice j1 i d1) (.slice a2 n2 c2) (by simp [Act.eval, Act.put]) (by simp [Act.eval, Act.put]) (Q2.out 31) ?_) | (refine step_append_known rfl _ _ 31 31 rfl (.slice j2 (i + n2) d2) (.slice (if c1 = i then a1 else Option.map (fun x => x.add i) a1) (n1 - i) (c1 - i)) (by simp [Act.eval, Act.put]) (by simp [Act.eval, Act.put]) (Q3.out 31) ?_))
      generalize (if c1 = i then a1 else Option.map (fun x => x.add i) a1) = ap
      have HF1 := Lib.hid (HVa.out)
      have hNl : us.length ≤ 1000000 := by rw [HUl.out]; omega
      have HC1 : Hid (∀ W, Keep [] x3 W → Calls Try.prog 19 #[.pointer (some ⟨p, 0, none⟩), .slice j3 N d3] W fun e w' => e = .returned (.bool true) ∧ Keep [] W w') := fun W hW => by
        have := HUl.out
        subst this
        exact allF p r2 us j3 d3 W (HVa.out.keep hW (by simp) (by simp)) (HOt.out.keep (by decide) hW (fun c _ => ⟨by simp, by simp⟩)) hNl
      have HC2 : Hid (∀ W s, Keep [] x3 W → Vec 58 3 1 x3 q s us.length (ints us) → Calls Try.prog 19 #[.pointer (some ⟨q, 0, none⟩), .slice j3 N d3] W fun e w' => e = .returned (.bool true) ∧ Keep [] W w') := fun W s hW hv => by
        have := HUl.out
        subst this
        exact allF q s us j3 d3 W (hv.keep hW (by simp) (by simp)) (HOt.out.keep (by decide) hW (fun c _ => ⟨by simp, by simp⟩)) hNl
      clear hNl
      have HVb' : Hid (Vec 58 3 1 x3 q s us.length (ints us)) := by rw [HUl.out]; exact HVb.out
      go_wp2_with fail
      refine (HC1.out x3 (Keep.refl _ _)).mono ?_
      rintro e w9 ⟨rfl, k9⟩
      go_wp2_with fail
      refine (HC2.out w9 s k9 HVb'.out).mono ?_
      rintro e w10 ⟨rfl, k10⟩
      go_wp2_with fail
      have hvd := HVa.out.keep (k9.trans k10) (by simp) (by simp)
      refine (del_ints p r2 N us i n2 n2 w10 hvd (by have := HN.out; omega) (by have := HN.out; omega) (by have := HN.out; omega)).mono ?_
      rintro e w11 ⟨ad, cd, rfl, had, hdf, hvd2, k11⟩
      rw [Hg1.out] at had
      rw [Hg2.out, show N - n2 = n1 by have := HN'.out; omega] at hvd2
      have hBd : Below w.heap.size w w11 := (HBt.out.trans ((k9.trans k10).below HBt.out.size (by simp))).trans (k11.below (HBt.out.trans ((k9.trans k10).below HBt.out.size (by simp))).size (fun j hj => by
        simp at hj
        rcases hj with rfl | hj
        · exact HFp.out.1
        · exact HFp.out.2 j hj))
      have HHv := Lib.hid hvd2
      have HHa := Lib.hid had
      have HHb := Lib.hid hBd
      clear hvd hvd2 had hBd hdf k11
      go_wp2_with fail
      refine (same16 ad a2 n2 cd c2 ms none none w11 HHa.out (HA2.out.keep (by decide) (Keep.of_below (HHb.out.mono (Nat.le_refl _)) []) (fun c _ => ⟨by simp, by simp⟩)) (by omega)).mono ?_
      rintro e w12 ⟨rfl, k12⟩
      go_wp2_with fail
      have hBe := HHb.out.trans (k12.below HHb.out.size (by simp))
      have HC3 : Hid (Calls Try.prog 19 #[.pointer (some ⟨p, 0, none⟩), .slice a1 n1 c1] w12 fun e w' => e = .returned (.bool true) ∧ Keep [] w12 w') := by
        have hl := hls.out
        subst hl
        exact allF p r2 ls a1 c1 w12 (HHv.out.keep k12 (by simp) (by simp)) (HA1.out.keep (by decide) (Keep.of_below (hBe.mono (Nat.le_refl _)) []) (fun c _ => ⟨by simp, by simp⟩)) (by omega)
      refine HC3.out.mono ?_
      rintro e w13 ⟨rfl, k13⟩
      have HBf := Lib.hid (hBe.trans (k13.below hBe.size (by simp)))
      clear hBe
      go_wp2_with fail
      go_ret
      exact ⟨rfl, HBf.out⟩

theorem joins_walk (a1 : Option Addr) (n1 c1 : Nat) (ls : List Int) (a2 : Option Addr) (n2 c2 : Nat) (ms : List Int) (at_ : Int) (w : World)
    (hc1 : n1 ≤ c1) (hat : 0 ≤ at_ ∧ at_ ≤ 255) (hA1 : Arg w 1 (.slice a1 n1 c1) n1 (ints ls) none) (hA2 : Arg w 1 (.slice a2 n2 c2) n2 (ints ms) none) :
    Calls Try.prog 6 #[.slice a1 n1 c1, .int .u8 at_, .slice a2 n2 c2] w fun e w' => e = .returned (.bool true) ∧ Below w.heap.size w w' := by
  by_cases h1 : 40 < n1 ∨ 40 < n2
  · exact joins_long a1 n1 c1 a2 n2 c2 at_ w h1
  · obtain ⟨at_, rfl⟩ := Int.eq_ofNat_of_zero_le hat.1
    exact joins_short a1 n1 c1 ls a2 n2 c2 ms at_ w hc1 (by omega) (by omega) (by omega) hA1 hA2
end Go.Proofs.Ytnfkoegbinkfgaa
