/-
  The walk of VecTexts: at every input it answers true and leaves what lay there alone. Conditions: stated at each theorem.
-/
import Derived.Test.YtnfkoegbinkfgaaKnown
import Derived.Test.YtnfkoegbinkfgaaAtStr
import Derived.Test.YtnfkoegbinkfgaaRow
set_option linter.unusedSimpArgs false
set_option linter.unusedVariables false
namespace Go.Proofs.Ytnfkoegbinkfgaa
open Go.RowKit Go.Lib

set_option maxHeartbeats 4000000 in
set_option maxRecDepth 100000 in
theorem texts_long (a1 : Option Addr) (n1 c1 : Nat) (a2 : Option Addr) (n2 c2 : Nat) (at_ : Int) (w : World) (h : 50 < n1 ∨ 50 < n2) :
    Calls Try.prog 3 #[.slice a1 n1 c1, .int .i64 at_, .slice a2 n2 c2] w fun e w' => e = .returned (.bool true) ∧ Below w.heap.size w w' := by
  have HK := Lib.hid (known8 w)
  rcases h with h | h
  · go_enter Try.func3, Try.ntmps3
    go_wp2_with (go_at_call 8; refine HK.out.mono ?_; rintro e w1 ⟨rfl, k1⟩)
    go_ret
    exact ⟨rfl, k1.below (Nat.le_refl _) (by simp)⟩
  · by_cases h1 : 50 < n1
    · go_enter Try.func3, Try.ntmps3
      go_wp2_with (go_at_call 8; refine HK.out.mono ?_; rintro e w1 ⟨rfl, k1⟩)
      go_ret
      exact ⟨rfl, k1.below (Nat.le_refl _) (by simp)⟩
    · have hd : decide ((50 : Int) < (n1 : Int)) = false := by simp; omega
      go_enter Try.func3, Try.ntmps3
      go_wp2_with (go_at_call 8; refine HK.out.mono ?_; rintro e w1 ⟨rfl, k1⟩)
      go_ret
      exact ⟨rfl, k1.below (Nat.le_refl _) (by simp)⟩

set_option maxHeartbeats 8000000 in
set_option maxRecDepth 100000 in
theorem texts_no (a1 : Option Addr) (n1 c1 : Nat) (ss : List ByteArray) (a2 : Option Addr) (n2 c2 : Nat) (at_ : Int) (w : World)
    (h1 : n1 ≤ 50) (h2 : n2 ≤ 50) (hA1 : Arg w 1 (.slice a1 n1 c1) n1 (strV ss) none) (hat : at_ < 0 ∨ (n1 : Int) < at_) :
    Calls Try.prog 3 #[.slice a1 n1 c1, .int .i64 at_, .slice a2 n2 c2] w fun e w' => e = .returned (.bool true) ∧ Below w.heap.size w w' := by
  have HK := Lib.hid (known8 w)
  have hd1 : decide ((50 : Int) < (n1 : Int)) = false := by simp; omega
  have hd2 : decide ((50 : Int) < (n2 : Int)) = false := by simp; omega
  have hss : ss.length = n1 := by have := hA1.1; simpa [strV] using this
  go_enter Try.func3, Try.ntmps3
  go_wp2_with (first | (go_at_call 8; refine HK.out.mono ?_; rintro e w1 ⟨rfl, k1⟩) | (at_builtin; refine wpList_app_nil elt22 _ rfl _ _ rfl rfl _ rfl n1 (strV ss) none (hA1.keep (by decide) k1 (fun c _ => ⟨by simp, by simp⟩)) (by omega) ?_; intro ag cg w2 ho2 k2 hg2))
  refine (new22 _ n1 (strV ss) none w2 (arg_of_own ho2 (strV_one ss) ?hne) (by omega)).mono ?_
  case hne =>
    intro hn hh
    obtain ⟨g, rfl⟩ := own_addr ho2 hn
    cases hh
  rintro e w3 ⟨p, r, rfl, hv3, k3, hp3, hr3⟩
  have ho3 := k3.row ho2 (by simp)
  have hB : Below w.heap.size w w3 := ((k1.trans k2).trans k3).below (Nat.le_refl _) (by simp)
  have hs1 := k1.size
  have hs2 := k2.size
  have hgl := own_lt ho2
  have hdis : ∀ g, ag.map (·.block) = some g → g ≠ p ∧ r ≠ some g := fun g hg => ⟨by have := hgl g hg; omega, fun hr => by have := hr3 g hr; have := hgl g hg; omega⟩
  have hgn : ∀ g, ag.map (·.block) = some g → w.heap.size ≤ g := fun g hg => by have := hg2 g hg; omega
  have HO := Lib.hid ho3
  have HV := Lib.hid hv3
  have HD := Lib.hid hdis
  have HG := Lib.hid hgn
  have HR := Lib.hid hr3
  have HA := Lib.hid hA1
  have HS := Lib.hid hss
  clear ho2 ho3 hv3 hdis hgn hg2 hgl hr3 k1 k2 k3 HK hA1 hss
  go_wp2_with fail
  go_loopw [9] (fun i wr => ∃ k : Nat, k ≤ n1 ∧ i = .int .i64 k ∧ (∃ zs, wr.ownsRow 0 9 1 (.slice ag n1 cg) n1 zs) ∧ Keep (ag.map (·.block)).toList w3 wr) (fun i _ => n1 - (intOf i).toNat)
  case atStart => exact ⟨0, Nat.zero_le _, rfl, ⟨_, HO.out⟩, Keep.refl _ _⟩
  case round =>
    obtain ⟨k, hk, rfl, ⟨zs, hoz⟩, hkk⟩ := hrel
    by_cases hlt : k < n1
    · obtain ⟨g, hag⟩ := own_addr hoz (by omega)
      subst hag
      have hzl : zs.length = n1 := by have := hoz.1; omega
      obtain ⟨z, hz⟩ : ∃ z, zs[k]? = some z := ⟨zs[k]'(by omega), List.getElem?_eq_getElem (by omega)⟩
      have hc := own_cell hoz hz
      have hf := own_frozen hoz k
      have HZ := Lib.hid (own_set1 (i := k) hoz (.string ⟨#[120]⟩))
      clear hoz hzl hz
      go_wp2
      go_roundw
      case rel => exact ⟨k + 1, by omega, by go_num, ⟨_, HZ.out⟩, hkk.trans (Keep.setCell _ _ _ (by simp))⟩
      case measure => simp [intOf]; omega
    · obtain rfl : n1 = k := by omega
      have hv4 := HV.out.keep hkk (fun hm => (HD.out p (by simpa using hm)).1 rfl) (fun g hg hm => (HD.out g (by simpa using hm)).2 hg)
      have hB4 : Below w.heap.size w wr := hB.trans (hkk.below (by have := hB.size; omega) (fun i hi => HG.out i (by simpa using hi)))
      have HA4 := Lib.hid (HA.out.keep (r' := none) (by decide) (Keep.of_below (hB4.mono (Nat.le_refl _)) []) (fun c _ => ⟨by simp, by simp⟩))
      have H10 := Lib.hid (insert22_no p r n1 _ at_ (.slice a2 n2 c2) wr hv4 hat)
      have HV4 := Lib.hid hv4
      clear hv4 hoz hkk hB hs1 hs2
      rcases hat with hat | hat
      · go_wp2_with (first | (go_at_call 10; refine H10.out.mono ?_; rintro e w5 ⟨rfl, rfl⟩) | (at_builtin; refine wpList_app_nil elt22 _ rfl _ _ rfl rfl _ rfl n1 (strV ss) none HA4.out (by omega) ?_; intro aw cw w6 ho6 k6 hg6; have HL := Lib.hid (len22 p r n1 _ w6 (HV4.out.keep k6 (by simp) (by simp)))) | (go_at_call 11; refine HL.out.mono ?_; rintro e w7 ⟨rfl, rfl⟩))
        have HVt := Lib.hid (HV4.out.keep k6 (by simp) (by simp))
        have HOt := Lib.hid ho6
        have HBt := Lib.hid (hB4.trans (k6.below (by have := hB4.size; omega) (by simp)))
        have HAt := Lib.hid (at22_no p r n1 _ (n1 : Int) w6 HVt.out (.inr (Int.le_refl _)))
        clear ho6 k6 hg6 hB4
        go_loop [12] (fun i => ∃ k : Nat, k ≤ n1 ∧ i = .int .i64 k) (fun i => n1 - (intOf i).toNat)
        case atStart => exact ⟨0, Nat.zero_le _, rfl⟩
        case round =>
          obtain ⟨k, hk, rfl⟩ := hrel
          by_cases hlt : k < n1
          · obtain ⟨x, hx⟩ : ∃ x, ss[k]? = some x := ⟨ss[k]'(by rw [HS.out]; exact hlt), List.getElem?_eq_getElem _⟩
            have hxv : (strV ss)[k]? = some (.string x) := by simp [strV, hx]
            have HAx := Lib.hid (at22 p r n1 _ k x w6 HVt.out hxv)
            obtain ⟨g, hag⟩ := own_addr HOt.out (by omega)
            subst hag
            have hc := own_cell HOt.out hxv
            clear hx hxv
            go_wp2_with (go_at_call 12; refine HAx.out.mono ?_; rintro e w7 ⟨rfl, rfl⟩)
            go_round
            case rel => exact ⟨k + 1, by omega, by go_num⟩
            case measure => simp [intOf]; omega
          · obtain rfl : n1 = k := by omega
            go_wp2_with (go_at_call 12; refine HAt.out.mono ?_; rintro e w7 ⟨rfl, rfl⟩)
            go_ret
            exact ⟨rfl, HBt.out⟩
      · have hd3 : decide (at_ ≤ (n1 : Int)) = false := by simp; omega
        have h0 : (0 : Int) ≤ at_ := by omega
        go_wp2_with (first | (go_at_call 10; refine H10.out.mono ?_; rintro e w5 ⟨rfl, rfl⟩) | (at_builtin; refine wpList_app_nil elt22 _ rfl _ _ rfl rfl _ rfl n1 (strV ss) none HA4.out (by omega) ?_; intro aw cw w6 ho6 k6 hg6; have HL := Lib.hid (len22 p r n1 _ w6 (HV4.out.keep k6 (by simp) (by simp)))) | (go_at_call 11; refine HL.out.mono ?_; rintro e w7 ⟨rfl, rfl⟩))
        have HVt := Lib.hid (HV4.out.keep k6 (by simp) (by simp))
        have HOt := Lib.hid ho6
        have HBt := Lib.hid (hB4.trans (k6.below (by have := hB4.size; omega) (by simp)))
        have HAt := Lib.hid (at22_no p r n1 _ (n1 : Int) w6 HVt.out (.inr (Int.le_refl _)))
        clear ho6 k6 hg6 hB4
        go_loop [12] (fun i => ∃ k : Nat, k ≤ n1 ∧ i = .int .i64 k) (fun i => n1 - (intOf i).toNat)
        case atStart => exact ⟨0, Nat.zero_le _, rfl⟩
        case round =>
          obtain ⟨k, hk, rfl⟩ := hrel
          by_cases hlt : k < n1
          · obtain ⟨x, hx⟩ : ∃ x, ss[k]? = some x := ⟨ss[k]'(by rw [HS.out]; exact hlt), List.getElem?_eq_getElem _⟩
            have hxv : (strV ss)[k]? = some (.string x) := by simp [strV, hx]
            have HAx := Lib.hid (at22 p r n1 _ k x w6 HVt.out hxv)
            obtain ⟨g, hag⟩ := own_addr HOt.out (by omega)
            subst hag
            have hc := own_cell HOt.out hxv
            clear hx hxv
            go_wp2_with (go_at_call 12; refine HAx.out.mono ?_; rintro e w7 ⟨rfl, rfl⟩)
            go_round
            case rel => exact ⟨k + 1, by omega, by go_num⟩
            case measure => simp [intOf]; omega
          · obtain rfl : n1 = k := by omega
            go_wp2_with (go_at_call 12; refine HAt.out.mono ?_; rintro e w7 ⟨rfl, rfl⟩)
            go_ret
            exact ⟨rfl, HBt.out⟩
set_option maxHeartbeats 8000000 in
set_option maxRecDepth 100000 in
theorem texts_yes (a1 : Option Addr) (n1 c1 : Nat) (ss : List ByteArray) (a2 : Option Addr) (n2 c2 : Nat) (ts : List ByteArray) (at_ : Nat) (w : World)
    (hc1 : n1 ≤ c1) (h1 : n1 ≤ 50) (h2 : n2 ≤ 50) (hA1 : Arg w 1 (.slice a1 n1 c1) n1 (strV ss) none) (hA2 : Arg w 1 (.slice a2 n2 c2) n2 (strV ts) none) (hat : at_ ≤ n1) :
    Calls Try.prog 3 #[.slice a1 n1 c1, .int .i64 at_, .slice a2 n2 c2] w fun e w' => e = .returned (.bool true) ∧ Below w.heap.size w w' := by
  have HK := Lib.hid (known8 w)
  have hd1 : decide ((50 : Int) < (n1 : Int)) = false := by simp; omega
  have hd2 : decide ((50 : Int) < (n2 : Int)) = false := by simp; omega
  have hss : ss.length = n1 := by have := hA1.1; simpa [strV] using this
  go_enter Try.func3, Try.ntmps3
  go_wp2_with (first | (go_at_call 8; refine HK.out.mono ?_; rintro e w1 ⟨rfl, k1⟩) | (at_builtin; refine wpList_app_nil elt22 _ rfl _ _ rfl rfl _ rfl n1 (strV ss) none (hA1.keep (by decide) k1 (fun c _ => ⟨by simp, by simp⟩)) (by omega) ?_; intro ag cg w2 ho2 k2 hg2))
  refine (new22 _ n1 (strV ss) none w2 (arg_of_own ho2 (strV_one ss) ?hne) (by omega)).mono ?_
  case hne =>
    intro hn hh
    obtain ⟨g, rfl⟩ := own_addr ho2 hn
    cases hh
  rintro e w3 ⟨p, r, rfl, hv3, k3, hp3, hr3⟩
  have ho3 := k3.row ho2 (by simp)
  have hB : Below w.heap.size w w3 := ((k1.trans k2).trans k3).below (Nat.le_refl _) (by simp)
  have hs1 := k1.size
  have hs2 := k2.size
  have hgl := own_lt ho2
  have hdis : ∀ g, ag.map (·.block) = some g → g ≠ p ∧ r ≠ some g := fun g hg => ⟨by have := hgl g hg; omega, fun hr => by have := hr3 g hr; have := hgl g hg; omega⟩
  have hgn : ∀ g, ag.map (·.block) = some g → w.heap.size ≤ g := fun g hg => by have := hg2 g hg; omega
  have HO := Lib.hid ho3
  have HV := Lib.hid hv3
  have HD := Lib.hid hdis
  have HG := Lib.hid hgn
  have HR := Lib.hid hr3
  have HA := Lib.hid hA1
  have HA2 := Lib.hid hA2
  have HS := Lib.hid hss
  clear ho2 ho3 hv3 hdis hgn hg2 hgl hr3 k1 k2 k3 HK hA1 hA2 hss
  go_wp2_with fail
  go_loopw [9] (fun i wr => ∃ k : Nat, k ≤ n1 ∧ i = .int .i64 k ∧ (∃ zs, wr.ownsRow 0 9 1 (.slice ag n1 cg) n1 zs) ∧ Keep (ag.map (·.block)).toList w3 wr) (fun i _ => n1 - (intOf i).toNat)
  case atStart => exact ⟨0, Nat.zero_le _, rfl, ⟨_, HO.out⟩, Keep.refl _ _⟩
  case round =>
    obtain ⟨k, hk, rfl, ⟨zs, hoz⟩, hkk⟩ := hrel
    by_cases hlt : k < n1
    · obtain ⟨g, hag⟩ := own_addr hoz (by omega)
      subst hag
      have hzl : zs.length = n1 := by have := hoz.1; omega
      obtain ⟨z, hz⟩ : ∃ z, zs[k]? = some z := ⟨zs[k]'(by omega), List.getElem?_eq_getElem (by omega)⟩
      have hc := own_cell hoz hz
      have hf := own_frozen hoz k
      have HZ := Lib.hid (own_set1 (i := k) hoz (.string ⟨#[120]⟩))
      clear hoz hzl hz
      go_wp2
      go_roundw
      case rel => exact ⟨k + 1, by omega, by go_num, ⟨_, HZ.out⟩, hkk.trans (Keep.setCell _ _ _ (by simp))⟩
      case measure => simp [intOf]; omega
    · obtain rfl : n1 = k := by omega
      have hv4 := HV.out.keep hkk (fun hm => (HD.out p (by simpa using hm)).1 rfl) (fun g hg hm => (HD.out g (by simpa using hm)).2 hg)
      have hB4 : Below w.heap.size w wr := hB.trans (hkk.below (by have := hB.size; omega) (fun i hi => HG.out i (by simpa using hi)))
      have HA4 := Lib.hid (HA.out.keep (r' := none) (by decide) (Keep.of_below (hB4.mono (Nat.le_refl _)) []) (fun c _ => ⟨by simp, by simp⟩))
      have HA5 := Lib.hid (HA2.out.keep (r' := r) (by decide) (Keep.of_below (hB4.mono (Nat.le_refl _)) []) (fun c hc => ⟨by simp, fun h => by have := HR.out c h.symm; omega⟩))
      have H10 := Lib.hid (insert22 p r n1 _ at_ _ n2 (strV ts) wr hv4 HA5.out (by omega) (by omega) (by omega))
      have HB5 : Hid (∀ w5, Keep (p :: r.toList) wr w5 → Below w.heap.size w w5) := fun w5 k5 => hB4.trans (k5.below hB4.size (fun i hi => by
        simp at hi
        rcases hi with rfl | hi
        · omega
        · have := HR.out i hi; omega))
      have hcat : at_ ≤ c1 := by omega
      clear hv4 hoz hkk
      go_wp2_with (first | (go_at_call 10; refine H10.out.mono ?_; rintro e w5 ⟨rfl, r5, hv5, k5, hf5⟩; have hB5 := HB5.out w5 k5) | (at_builtin; refine wpList_app_nil elt22 _ rfl _ _ rfl rfl _ rfl n1 (strV ss) none (HA.out.keep (by decide) (Keep.of_below (hB5.mono (Nat.le_refl _)) []) (fun c _ => ⟨by simp, by simp⟩)) (by omega) ?_; intro aw cw w6 ho6 k6 hg6))

      have hB6 : Below w.heap.size w w6.drew := (hB5.trans (k6.below hB5.size (by simp))).drew
      have HAw := Lib.hid (HA.out.keep (r' := none) (by decide) (Keep.of_below (hB6.mono (Nat.le_refl _)) []) (fun c _ => ⟨by simp, by simp⟩))
      have HAm := Lib.hid (HA2.out.keep (r' := none) (by decide) (Keep.of_below (hB6.mono (Nat.le_refl _)) []) (fun c _ => ⟨by simp, by simp⟩))
      have HP2 := Lib.hid (HAw.out.part at_ n1 hat (Nat.le_refl _) (if c1 = at_ then a1 else Option.map (fun x => x.add at_) a1) (c1 - at_) (fun h => by rw [if_neg (by omega), Nat.mul_one]) (fun h => by
        split at h
        · omega
        · have := HAw.out.nil (by simpa using h); omega))
      obtain ⟨j1, d1, x1, j2, d2, x2, j3, d3, x3, q1, q2, q3, oj, kj, gj⟩ := join3_mem elt22 w6.drew _ _ _ at_ n2 (n1 - at_) _ _ _ (HAw.out.left at_ hat) HAm.out HP2.out (by omega)
      obtain ⟨N, hN⟩ : ∃ N, at_ + n2 + (n1 - at_) = N := ⟨_, rfl⟩
      have hN' : n1 + n2 = N := by omega
      have hNb : N ≤ 100 := by omega
      rw [hN] at q3 oj
      rw [hN'] at hv5
      obtain ⟨us, hus⟩ : ∃ us, us = ss.take at_ ++ ts ++ ss.drop at_ := ⟨_, rfl⟩
      have e1 : List.take ((at_ : Int).toNat * 1) (strV ss) ++ strV ts ++ List.drop ((at_ : Int).toNat * 1) (strV ss) = strV us := by rw [hus]; simp [strV]
      have e2 : List.take (at_ * 1) (strV ss) ++ strV ts ++ List.take ((n1 - at_) * 1) (List.drop (at_ * 1) (strV ss)) = strV us := by
        rw [hus, List.take_of_length_le (l := List.drop (at_ * 1) (strV ss)) (by rw [List.length_drop]; simp only [strV, List.length_map, HS.out]; omega)]
        simp [strV]
      rw [e1] at hv5
      rw [e2] at oj
      have HU : Hid (us.length = N) := (show us.length = N by have := oj.1; simpa [strV] using this)
      have Q1 := Lib.hid q1
      have Q2 := Lib.hid q2
      have Q3 := Lib.hid q3
      have HOt := Lib.hid oj
      have HVt := Lib.hid ((hv5.keep (k6.trans (Keep.drew [] w6)) (by simp) (by simp)).keep kj (by simp) (by simp))
      have HBt := Lib.hid (hB6.trans (kj.below hB6.size (by simp)))
      clear q1 q2 q3 oj kj gj hv5 k5 hf5 ho6 k6 hg6 hB5 hB6 hB4 e1 e2 hus hN hN'
      go_region_law (first | (refine step_append_known rfl _ _ 22 22 rfl (.slice none 0 0) (.slice a1 at_ c1) (by simp [Act.eval, Act.put]) (by simp [Act.eval, Act.put]) (Q1.out 22) ?_) | (refine step_append_known rfl _ _ 22 22 rfl (.slice j1 at_ d1) (.slice a2 n2 c2) (by simp [Act.eval, Act.put]) (by simp [Act.eval, Act.put]) (Q2.out 22) ?_) | (refine step_append_known rfl _ _ 22 22 rfl (.slice j2 (at_ + n2) d2) (.slice (if c1 = at_ then a1 else Option.map (fun x => x.add at_) a1) (n1 - at_) (c1 - at_)) (by simp [Act.eval, Act.put]) (by simp [Act.eval, Act.put]) (Q3.out 22) ?_))
      generalize (if c1 = at_ then a1 else Option.map (fun x => x.add at_) a1) = ap
      have HL5 := Lib.hid (len22 p r5 N _ x3 HVt.out)
      go_wp2_with (go_at_call 11; refine HL5.out.mono ?_; rintro e w7 ⟨rfl, rfl⟩)
      have HAt := Lib.hid (at22_no p r5 N _ (N : Int) x3 HVt.out (.inr (Int.le_refl _)))
      go_loop [12] (fun i => ∃ k : Nat, k ≤ N ∧ i = .int .i64 k) (fun i => N - (intOf i).toNat)
      case atStart => exact ⟨0, Nat.zero_le _, rfl⟩
      case round =>
        obtain ⟨k, hk, rfl⟩ := hrel
        by_cases hlt : k < N
        · obtain ⟨x, hx⟩ : ∃ x, us[k]? = some x := ⟨us[k]'(by rw [HU.out]; exact hlt), List.getElem?_eq_getElem _⟩
          have hxv : (strV us)[k]? = some (.string x) := by simp [strV, hx]
          have HAx := Lib.hid (at22 p r5 N _ k x x3 HVt.out hxv)
          obtain ⟨g, hag⟩ := own_addr HOt.out (by omega)
          subst hag
          have hc := own_cell HOt.out hxv
          clear hx hxv
          go_wp2_with (go_at_call 12; refine HAx.out.mono ?_; rintro e w7 ⟨rfl, rfl⟩)
          go_round
          case rel => exact ⟨k + 1, by omega, by go_num⟩
          case measure => simp [intOf]; omega
        · obtain rfl : N = k := by omega
          go_wp2_with (go_at_call 12; refine HAt.out.mono ?_; rintro e w7 ⟨rfl, rfl⟩)
          go_ret
          exact ⟨rfl, HBt.out⟩

theorem texts_walk (a1 : Option Addr) (n1 c1 : Nat) (ss : List ByteArray) (a2 : Option Addr) (n2 c2 : Nat) (ts : List ByteArray) (at_ : Int) (w : World)
    (hc1 : n1 ≤ c1) (hA1 : Arg w 1 (.slice a1 n1 c1) n1 (strV ss) none) (hA2 : Arg w 1 (.slice a2 n2 c2) n2 (strV ts) none) :
    Calls Try.prog 3 #[.slice a1 n1 c1, .int .i64 at_, .slice a2 n2 c2] w fun e w' => e = .returned (.bool true) ∧ Below w.heap.size w w' := by
  by_cases h1 : 50 < n1 ∨ 50 < n2
  · exact texts_long a1 n1 c1 a2 n2 c2 at_ w h1
  · by_cases h2 : at_ < 0 ∨ (n1 : Int) < at_
    · exact texts_no a1 n1 c1 ss a2 n2 c2 at_ w (by omega) (by omega) hA1 h2
    · obtain ⟨at_, rfl⟩ := Int.eq_ofNat_of_zero_le (show 0 ≤ at_ by omega)
      exact texts_yes a1 n1 c1 ss a2 n2 c2 ts at_ w hc1 (by omega) (by omega) hA1 hA2 (by omega)
end Go.Proofs.Ytnfkoegbinkfgaa
