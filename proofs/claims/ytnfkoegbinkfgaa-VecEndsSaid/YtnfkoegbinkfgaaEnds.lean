/-
  The walk of VecEnds: at every input it answers true and leaves what lay there alone. Conditions: stated at each theorem.
-/
import Derived.Test.YtnfkoegbinkfgaaKnown
import Derived.Test.YtnfkoegbinkfgaaAll
set_option linter.unusedSimpArgs false
set_option linter.unusedVariables false
namespace Go.Proofs.Ytnfkoegbinkfgaa
open Go.RowKit Go.Lib

set_option maxHeartbeats 4000000 in
set_option maxRecDepth 100000 in
theorem ends_long (a1 : Option Addr) (n1 c1 : Nat) (far : Int) (w : World) (h : 40 < n1) :
    Calls Try.prog 7 #[.slice a1 n1 c1, .int .i64 far] w fun e w' => e = .returned (.bool true) ∧ Below w.heap.size w w' := by
  have HK := Lib.hid (known8 w)
  go_enter Try.func7, Try.ntmps7
  go_wp2_with (go_at_call 8; refine HK.out.mono ?_; rintro e w1 ⟨rfl, k1⟩)
  go_ret
  exact ⟨rfl, k1.below (Nat.le_refl _) (by simp)⟩

set_option maxHeartbeats 8000000 in
set_option maxRecDepth 100000 in
theorem ends_short (a1 : Option Addr) (n1 c1 : Nat) (zs : List Int) (far : Int) (w : World)
    (h1 : n1 ≤ 40) (hA1 : Arg w 1 (.slice a1 n1 c1) n1 (ints zs) none) (hfar : -9223372036854775808 ≤ far ∧ far ≤ 9223372036854775807) :
    Calls Try.prog 7 #[.slice a1 n1 c1, .int .i64 far] w fun e w' => e = .returned (.bool true) ∧ Below w.heap.size w w' := by
  have HK := Lib.hid (known8 w)
  have hd1 : decide ((40 : Int) < (n1 : Int)) = false := by simp; omega
  have HA := Lib.hid hA1
  go_enter Try.func7, Try.ntmps7
  go_wp2_with (go_at_call 8; refine HK.out.mono ?_; rintro e w1 ⟨rfl, k1⟩)
  refine (new31 _ n1 (ints zs) none w1 (HA.out.keep (by decide) k1 (fun c _ => ⟨by simp, by simp⟩)) (by omega)).mono ?_
  rintro e w2 ⟨p, r, rfl, hv2, k2, hp2, hr2⟩
  have k12 := k1
  have HV2 := Lib.hid hv2
  have HB2 := Lib.hid (k1.trans k2)
  clear hv2
  go_wp2_with fail
  obtain ⟨w3, hw3⟩ : ∃ w3, w3 = w2.alloc (.cells #[.int .i64 (-1), .int .i64 n1, .int .i64 ((n1 : Int) + 1), .int .i64 far] 3) := ⟨_, rfl⟩
  have hb3 : w3.heap[w2.heap.size]? = some (.cells #[.int .i64 (-1), .int .i64 n1, .int .i64 ((n1 : Int) + 1), .int .i64 far] 3 (0, 0)) := by rw [hw3]; exact heap_alloc_new w2 _
  have k3 : Keep [] w2 w3 := by rw [hw3]; exact Keep.alloc [] w2 _
  have HV3 := Lib.hid (HV2.out.keep k3 (by simp) (by simp))
  have HB3 := Lib.hid (HB2.out.trans k3)
  have Hb3 := Lib.hid hb3
  rw [← hw3]
  clear hw3 k3 hb3 k1 k2 HK hA1
  go_loopw [25] (fun i wr => ∃ k : Nat, k ≤ 4 ∧ i = .int .i64 k ∧ Keep [] w3 wr) (fun i _ => 4 - (intOf i).toNat)
  case atStart => exact ⟨0, Nat.zero_le _, rfl, Keep.refl _ _⟩
  case round =>
    obtain ⟨k, hk, rfl, hkk⟩ := hrel
    have HKK := Lib.hid hkk
    have hv4 := HV3.out.keep hkk (by simp) (by simp)
    have HV4 := Lib.hid hv4
    by_cases hlt : k < 4
    · obtain ⟨z, hz⟩ : ∃ z, wr.cell? ⟨w2.heap.size, k, none⟩ = some (.int .i64 z) := by
        have := hkk.heap Hb3.out (by simp)
        have hk4 : k = 0 ∨ k = 1 ∨ k = 2 ∨ k = 3 := by omega
        rcases hk4 with rfl | rfl | rfl | rfl <;> exact ⟨_, blk_cell this _⟩
      clear hkk hv4
      by_cases hz0 : z < 0
      · have hd2 : decide ((0 : Int) ≤ z) = false := by simp; omega
        have HAt := Lib.hid (at31_no p r n1 _ z wr HV4.out (.inl hz0))
        have HSt := Lib.hid (set31_no p r n1 _ z (.int .i64 5) wr HV4.out (.inl hz0))
        have HDl := Lib.hid (delete31_no p r n1 _ z 3 wr HV4.out (.inl hz0))
        have HIn := Lib.hid (insert31_no p r n1 _ z (.slice (some ⟨wr.heap.size, 0, none⟩) 1 1) _ (HV4.out.keep (Keep.alloc [] wr (.cells #[.int .i64 7] 3)) (by simp) (by simp)) (.inl hz0))
        have HKn := Lib.hid (HKK.out.trans (Keep.alloc [] wr (.cells #[.int .i64 7] 3)))
        have hne : decide (z = (n1 : Int)) = false := by simp; omega
        go_wp2_with (first | (go_at_call 18; refine HAt.out.mono ?_; rintro e w7 ⟨rfl, rfl⟩) | (go_at_call 17; refine HSt.out.mono ?_; rintro e w7 ⟨rfl, rfl⟩) | (go_at_call 15; refine HDl.out.mono ?_; rintro e w7 ⟨rfl, rfl⟩) | (go_at_call 14; refine HIn.out.mono ?_; rintro e w7 ⟨rfl, rfl⟩))
        go_roundw
        case rel => exact ⟨k + 1, by omega, by go_num, HKn.out⟩
        case measure => simp [intOf]; omega
      · have hd2 : decide ((0 : Int) ≤ z) = true := by simp; omega
        by_cases hzn : z < n1
        · have hd3 : decide (z < (n1 : Int)) = true := by simp; omega
          go_wp2_with fail
          go_roundw
          case rel => exact ⟨k + 1, by omega, by go_num, HKK.out⟩
          case measure => simp [intOf]; omega
        · have hd3 : decide (z < (n1 : Int)) = false := by simp; omega
          have HAt := Lib.hid (at31_no p r n1 _ z wr HV4.out (.inr (by omega)))
          have HSt := Lib.hid (set31_no p r n1 _ z (.int .i64 5) wr HV4.out (.inr (by omega)))
          have HDl := Lib.hid (delete31_no p r n1 _ z 3 wr HV4.out (.inr (.inl (by omega))))
          by_cases hze : z = (n1 : Int)
          · subst hze
            go_wp2_with (first | (go_at_call 18; refine HAt.out.mono ?_; rintro e w7 ⟨rfl, rfl⟩) | (go_at_call 17; refine HSt.out.mono ?_; rintro e w7 ⟨rfl, rfl⟩) | (go_at_call 15; refine HDl.out.mono ?_; rintro e w7 ⟨rfl, rfl⟩))
            go_roundw
            case rel => exact ⟨k + 1, by omega, by go_num, HKK.out⟩
            case measure => simp [intOf]; omega
          · have hne : decide (z = (n1 : Int)) = false := by simp; omega
            have HIn := Lib.hid (insert31_no p r n1 _ z (.slice (some ⟨wr.heap.size, 0, none⟩) 1 1) _ (HV4.out.keep (Keep.alloc [] wr (.cells #[.int .i64 7] 3)) (by simp) (by simp)) (.inr (by omega)))
            have HKn := Lib.hid (HKK.out.trans (Keep.alloc [] wr (.cells #[.int .i64 7] 3)))
            go_wp2_with (first | (go_at_call 18; refine HAt.out.mono ?_; rintro e w7 ⟨rfl, rfl⟩) | (go_at_call 17; refine HSt.out.mono ?_; rintro e w7 ⟨rfl, rfl⟩) | (go_at_call 15; refine HDl.out.mono ?_; rintro e w7 ⟨rfl, rfl⟩) | (go_at_call 14; refine HIn.out.mono ?_; rintro e w7 ⟨rfl, rfl⟩))
            go_roundw
            case rel => exact ⟨k + 1, by omega, by go_num, HKn.out⟩
            case measure => simp [intOf]; omega
    · obtain rfl : k = 4 := by omega
      have kr : Keep [] w wr := HB3.out.trans HKK.out
      have hzl : (zs.length = n1) := by have := HA.out.1; simpa [ints] using this
      subst hzl
      have HF := Lib.hid (allF p r zs a1 c1 wr HV4.out (HA.out.keep (by decide) kr (fun c _ => ⟨by simp, by simp⟩)) (by omega))
      have hs2 := k12.size
      have hgp : Hid (∀ i, i ∈ p :: r.toList → w.heap.size ≤ i) := fun i hi => by
        simp at hi
        rcases hi with rfl | hi
        · omega
        · have := hr2 i hi; omega
      clear hkk hv4
      go_wp2_with (first | (go_at_call 19; refine HF.out.mono ?_; rintro e w9 ⟨rfl, k9⟩) | (go_at_call 14; refine (insert31 p r zs.length _ zs.length _ 1 [.int .i64 9] _ ((HV4.out.keep k9 (by simp) (by simp)).keep (Keep.alloc [] w9 _) (by simp) (by simp)) (arg_lit w9 3 [.int .i64 9] r (by simp [Value.oneCell']) (HV4.out.keep k9 (by simp) (by simp)).lt.2 (by decide)) (by omega) (by omega) (by omega)).mono ?_; rintro e w10 ⟨rfl, r10, hv10, k10, hf10⟩; have HL := Lib.hid (len31 p r10 _ _ w10 hv10)) | (go_at_call 22; refine HL.out.mono ?_; rintro e w11 ⟨rfl, rfl⟩))
      go_ret
      exact ⟨rfl, ((kr.trans (k9.trans (Keep.alloc [] w9 _))).trans' k10 (fun i hi => .inr (hgp.out i hi))).below (Nat.le_refl _) (by simp)⟩

theorem ends_walk (a1 : Option Addr) (n1 c1 : Nat) (zs : List Int) (far : Int) (w : World)
    (hA1 : Arg w 1 (.slice a1 n1 c1) n1 (ints zs) none) (hfar : -9223372036854775808 ≤ far ∧ far ≤ 9223372036854775807) :
    Calls Try.prog 7 #[.slice a1 n1 c1, .int .i64 far] w fun e w' => e = .returned (.bool true) ∧ Below w.heap.size w w' := by
  by_cases h1 : 40 < n1
  · exact ends_long a1 n1 c1 far w h1
  · exact ends_short a1 n1 c1 zs far w (by omega) hA1 hfar
end Go.Proofs.Ytnfkoegbinkfgaa
