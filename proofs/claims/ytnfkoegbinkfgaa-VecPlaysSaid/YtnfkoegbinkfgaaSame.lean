/-
  'same' answers true at two rows of the same integers. Conditions: stated at each theorem.
-/
import Derived.Test.YtnfkoegbinkfgaaKnown
import Derived.Test.YtnfkoegbinkfgaaIter
import Derived.Deep.QuietTactic
import Derived.BigQuiet
set_option linter.unusedSimpArgs false
set_option linter.unusedVariables false
namespace Go.Proofs.Ytnfkoegbinkfgaa
open Go.RowKit Go.Lib

theorem arg_cell {w : World} {a : Option Addr} {n c : Nat} {zs : List Int} {r : Option Nat} (h : Arg w 1 (.slice a n c) n (ints zs) r) {k : Nat} (hk : k < n) :
    ∃ b off, a = some ⟨b, off, none⟩ ∧ w.cell? ⟨b, off + k, none⟩ = some (.int .i64 (zs[k]?.getD 0)) ∧ b < w.heap.size := by
  have hl : zs.length = n := by have := h.1; simpa [ints] using this
  rcases h.2.2 with ⟨h0, _⟩ | ⟨_, b, off, c, he, hc, _⟩
  · omega
  · injection he with he1
    have := hc k _ (ints_at zs (by omega))
    refine ⟨b, off, he1, this, ?_⟩
    have := World.block_lt_of_cell? _ _ this
    simpa using this

set_option maxHeartbeats 4000000 in
set_option maxRecDepth 100000 in
theorem same16 (a b : Option Addr) (n c d : Nat) (zs : List Int) (r s : Option Nat) (w : World) (h1 : Arg w 1 (.slice a n c) n (ints zs) r) (h2 : Arg w 1 (.slice b n d) n (ints zs) s) (hbig : n ≤ 4611686018427387904) :
    Calls Try.prog 16 #[.slice a n c, .slice b n d] w fun e w' => e = .returned (.bool true) ∧ Keep [] w w' := by
  have H1 := Lib.hid h1
  have H2 := Lib.hid h2
  clear h1 h2
  go_enter Try.func16, Try.ntmps16
  go_wp2_with fail
  go_loopw [5] (fun i wr => ∃ k : Nat, k ≤ n ∧ i = .int .i64 k ∧ Keep [] w wr) (fun i _ => n - (intOf i).toNat)
  case atStart => exact ⟨0, Nat.zero_le _, rfl, Keep.refl _ _⟩
  case round =>
    obtain ⟨k, hk, rfl, hkk⟩ := hrel
    by_cases hlt : k < n
    · obtain ⟨b1, o1, rfl, c1, l1⟩ := arg_cell H1.out hlt
      obtain ⟨b2, o2, rfl, c2, l2⟩ := arg_cell H2.out hlt
      have c1 := hkk.cell c1 (by simp)
      have c2 := hkk.cell c2 (by simp)
      have HK := Lib.hid hkk
      have c1' : ∀ m, (wr.drewN m).cell? ⟨b1, o1 + k, none⟩ = some (.int .i64 (zs[k]?.getD 0)) := fun m => c1
      have c2' : ∀ m, (wr.drewN m).cell? ⟨b2, o2 + k, none⟩ = some (.int .i64 (zs[k]?.getD 0)) := fun m => c2
      clear hkk l1 l2
      go_wp2
      go_quiet (fail)
      go_wp2
      go_roundw
      case rel => exact ⟨k + 1, by omega, by go_num, HK.out.trans ⟨rfl, rfl, rfl, Nat.le_refl _, fun _ _ _ => rfl⟩⟩
      case measure => simp [intOf]; omega
    · obtain rfl : n = k := by omega
      go_wp2
      go_ret
      exact ⟨rfl, hkk⟩

theorem ints_app (a b : List Int) : ints (a ++ b) = ints a ++ ints b := by simp [ints]
theorem ints_take (a : List Int) (k : Nat) : ints (a.take k) = (ints a).take k := by simp [ints]
theorem ints_drop (a : List Int) (k : Nat) : ints (a.drop k) = (ints a).drop k := by simp [ints]

theorem del_ints (p : Nat) (r : Option Nat) (n : Nat) (zs : List Int) (i k : Nat) (K : Int) (w : World) (h : Vec 58 3 1 w p r n (ints zs)) (hi : i ≤ n) (hk : (k : Int) = min (max K 0) ((n : Int) - i)) (hbig : n * 8 ≤ 140737488355328) :
    Calls Try.prog 15 #[.pointer (some ⟨p, 0, none⟩), .int .i64 i, .int .i64 K] w fun e w' => ∃ a c, e = .returned (.slice a k c) ∧ Arg w' 1 (.slice a k c) k (ints ((zs.drop i).take k)) none ∧
      (∀ g, a.map (·.block) = some g → w.heap.size ≤ g) ∧ Vec 58 3 1 w' p r (n - k) (ints (zs.take i ++ zs.drop (i + k))) ∧ Keep (p :: r.toList) w w' := by
  by_cases h0 : k = 0
  · subst h0
    refine (delete31_no p r n _ i K w h (by omega)).mono ?_
    rintro e w' ⟨rfl, rfl⟩
    refine ⟨none, 0, rfl, ⟨by simp [ints], by simp [ints], .inl ⟨rfl, none, 0, rfl, fun _ => rfl⟩⟩, by simp, ?_, Keep.refl _ _⟩
    have : zs.take i ++ zs.drop (i + 0) = zs := by simp
    rw [this]
    exact h
  · refine (delete31 p r n _ i k K w h (by omega) (by omega) (by omega) hbig).mono ?_
    rintro e w' ⟨a, c, rfl, ho, hf, r', hv, hk', rfl⟩
    simp only [Nat.mul_one, ← ints_drop, ← ints_take, ← ints_app] at ho hv
    refine ⟨a, c, rfl, arg_of_own ho (ints_one _) ?_, hf, hv, hk'⟩
    intro hp hh
    obtain ⟨g, rfl⟩ := own_addr ho hp
    cases hh
end Go.Proofs.Ytnfkoegbinkfgaa
