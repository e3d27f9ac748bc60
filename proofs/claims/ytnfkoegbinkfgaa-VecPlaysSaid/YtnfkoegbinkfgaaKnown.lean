/-
  The chapter's example, 'known': it answers true and leaves what lay there alone.
-/
import Derived.Test.YtnfkoegbinkfgaaAtInt
namespace Go.Proofs.Ytnfkoegbinkfgaa
open Go.RowKit Go.Lib

set_option maxHeartbeats 4000000 in
set_option maxRecDepth 100000 in
theorem known8 (w : World) : Calls Try.prog 8 #[] w fun e w' => e = .returned (.bool true) ∧ Keep [] w w' := by
  have H0 := Lib.hid (new31 _ 2 [.int .i64 1, .int .i64 2] none _ (arg_lit w 3 [.int .i64 1, .int .i64 2] none (by simp [Value.oneCell']) (by simp) (by decide)) (by decide))
  go_enter Try.func8, Try.ntmps8
  go_wp2_with fail
  refine H0.out.mono ?_
  rintro e w1 ⟨p, r, rfl, hv, hk, hp, hr⟩
  have k1 : Keep [] w w1 := (Keep.alloc [] w _).trans hk
  have hp0 : w.heap.size ≤ p := by simp at hp; omega
  have hr0 : ∀ g, r = some g → w.heap.size ≤ g := fun g hg => by have := hr g hg; simp at this; omega
  clear hk hp hr H0
  go_wp2_with fail
  refine (insert31 p r 2 _ 1 _ 1 [.int .i64 9] _ (hv.keep (Keep.alloc [] w1 _) (by simp) (by simp)) (arg_lit w1 3 [.int .i64 9] r (by simp [Value.oneCell']) hv.lt.2 (by decide)) (by decide) (by decide) (by decide)).mono ?_
  rintro e w2 ⟨rfl, r2, hv2, hk2, hf2⟩
  have k2 : Keep [] w w2 := (k1.trans (Keep.alloc [] w1 _)).trans' hk2 (fun i hi => by
    simp at hi
    rcases hi with rfl | hi
    · exact .inr hp0
    · exact .inr (hr0 _ hi))
  have hr2 : ∀ g, r2 = some g → w.heap.size ≤ g := fun g hg => by
    rcases hf2 with hf2 | ⟨k, hf2, hle⟩
    · exact hr0 g (by rw [← hf2]; exact hg)
    · rw [hg] at hf2; injection hf2 with hf2; have := k1.size; simp at hle; omega
  simp only [Int.toNat_one, List.take, List.drop, List.cons_append, List.nil_append, Nat.mul_one] at hv2
  clear hk2 hf2 hv hr0
  go_wp2_with fail
  refine (insert31_no p r2 3 _ 9 _ _ (hv2.keep (Keep.alloc [] w2 _) (by simp) (by simp)) (by omega)).mono ?_
  rintro e w3 ⟨rfl, rfl⟩
  have hv3 := hv2.keep (Keep.alloc [] w2 (.cells #[.int .i64 1] 3)) (by simp) (by simp)
  have k3 := k2.trans (Keep.alloc [] w2 (.cells #[.int .i64 1] 3))
  obtain ⟨w4, hw4⟩ : ∃ w4, w4 = w2.alloc (.cells #[.int .i64 1] 3) := ⟨_, rfl⟩
  rw [← hw4] at hv3 k3 ⊢
  clear hw4 hv2 k2
  go_wp2_with fail
  refine (at31 p r2 3 _ 1 9 w4 hv3 rfl).mono ?_
  rintro e w5 ⟨rfl, rfl⟩
  go_wp2_with fail
  refine (delete31 p r2 3 _ 0 1 1 w4 hv3 (by decide) (by decide) (by decide) (by decide)).mono ?_
  rintro e w5 ⟨a, c, rfl, hod, hfd, r3, hv5, hk5, hre⟩
  obtain ⟨g, rfl⟩ : ∃ g, a = some ⟨g, 0, none⟩ := by
    obtain ⟨a', c', he, hh⟩ := own_form hod
    injection he with he
    subst he
    rcases hh with rfl | hh
    · rcases hod.2 with ⟨h, h0⟩ | ⟨g', cap, cur, h, _⟩
      · omega
      · injection h with h; cases h
    · exact hh
  have hcd : w5.cell? ⟨g, 0, none⟩ = some (.int .i64 1) := by
    have := hod.cells (g := g) rfl 0 (.int .i64 1) rfl
    rwa [Addr.add_lit] at this
  have k5 : Keep [] w w5 := k3.trans' hk5 (fun i hi => by
    simp at hi
    rcases hi with rfl | hi
    · exact .inr hp0
    · exact .inr (hr2 _ hi))
  subst hre
  have hp5 : Hid (∀ i, i ∈ p :: r3.toList → w.heap.size ≤ i) := fun i hi => by
    simp at hi
    rcases hi with rfl | hi
    · exact hp0
    · exact hr2 _ hi
  have HL := Lib.hid (len31 p r3 2 _ w5 hv5)
  have HS := Lib.hid (set31 p r3 2 _ 0 7 w5 hv5 (by decide))
  clear hod hfd hk5 hv3 k3 hv5 hp0 hr2
  go_wp2_with (first | (go_at_call 22; refine HL.out.mono ?_; rintro e w6 ⟨rfl, rfl⟩) | (go_at_call 17; refine HS.out.mono ?_; rintro e w6 ⟨rfl, r6, hv6, hk6, hf6⟩))
  go_ret
  exact ⟨rfl, k5.trans' hk6 (fun i hi => .inr (hp5 i hi))⟩
end Go.Proofs.Ytnfkoegbinkfgaa
