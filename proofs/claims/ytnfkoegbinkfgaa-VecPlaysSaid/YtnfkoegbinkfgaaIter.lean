/-
  The iterators of vec.Vec[int], All and Back: their closures round by round. Conditions: stated at each theorem.
-/
import Derived.Test.YtnfkoegbinkfgaaRange
import Derived.Test.YtnfkoegbinkfgaaAtInt
set_option linter.unusedSimpArgs false
set_option linter.unusedVariables false
namespace Go.Proofs.Ytnfkoegbinkfgaa
open Go.RowKit Go.Shelf
attribute [local go_sem] Oper.semAt_some
set_option linter.unusedVariables false

def ints (zs : List Int) : List Value := zs.map (.int .i64)
theorem ints_one (zs : List Int) : ∀ y ∈ ints zs, y.oneCell' = true := by
  intro y hy
  obtain ⟨s, _, rfl⟩ := List.mem_map.1 hy
  rfl
theorem ints_at (zs : List Int) {k : Nat} (h : k < zs.length) : (ints zs)[k]? = some (.int .i64 (zs[k]?.getD 0)) := by simp [ints, h]

set_option maxRecDepth 100000 in
set_option maxHeartbeats 2000000 in
/-- The closure of slices.All. -/
theorem all1_31 (n : Nat) (hn : 1 ≤ n) (B : Nat) (a : Option Addr) (c : Nat) (zs : List Int) (bs : List Nat) (w : World) (hlen : zs.length ≤ 4611686018427387904)
    (hB : w.heap[B]? = some (.cells #[.slice a zs.length c] 31 (0, 0))) (ho : w.ownsRow 0 3 1 (.slice a zs.length c) zs.length (ints zs)) (hbB : B ∈ bs) (hbg : ∀ g, a.map (·.block) = some g → g ∈ bs) :
    SeqE Fence.wide n Try.prog 36 #[.pointer (some ⟨B, 0, none⟩)] (fun k => #[.int .i64 (k : Int), .int .i64 (zs[k]?.getD 0)]) bs zs.length w := by
  intro l J Jx W hW hY h0
  have hBW := hW B hbB _ _ _ hB
  have hc0 : W.cell? ⟨B, 0, none⟩ = some (.slice a zs.length c) := by rw [blk_cell hBW]; rfl
  have hcell : ∀ W', KeepC bs w W' → ∀ k, k < zs.length → ∃ g, a = some ⟨g, 0, none⟩ ∧ W'.cell? ⟨g, k, none⟩ = some (.int .i64 (zs[k]?.getD 0)) := by
    intro W' hW' k hk
    obtain ⟨g, hag⟩ := own_addr ho (by omega)
    subst hag
    refine ⟨g, rfl, ?_⟩
    rcases ho.2 with ⟨_, h1⟩ | ⟨g', cap, cur, hv, _, hg, hnc, hcm, hcs, htk⟩
    · omega
    injection hv with hv1 hv2 hv3
    injection hv1 with hv1
    injection hv1 with hv1
    subst hv1
    have := hW' g (hbg g rfl) _ _ _ hg
    rw [blk_cell this]
    have hx := ints_at zs hk
    rw [← htk, List.getElem?_take] at hx
    split at hx
    · simpa using hx
    · cases hx
  have HC := Lib.hid hcell
  have HW := Lib.hid hW
  have HY := Lib.hid hY
  clear hcell hY hBW hW ho hB hbB hbg
  generalize hN : zs.length = N at *
  have HN := Lib.hid hN
  clear hN
  refine callsIn_of_wp Try.func36 rfl trivial ?_ rfl
  simp only [Try.ntmps36, List.size_toArray, List.length_cons, List.length_nil, Nat.reduceAdd, Nat.reduceSub, Array.replicate_succ, Array.replicate_zero, List.push_toArray, List.append_toArray, List.nil_append, List.cons_append]
  gi_wp2
  gi_loopw [7] (fun i wr => ∃ k : Nat, k ≤ N ∧ i = .int .i64 k ∧ J k wr ∧ KeepC bs W wr) (fun i _ => N - (intOf i).toNat)
  case atStart => exact ⟨0, Nat.zero_le _, rfl, h0, KeepC.refl _ _⟩
  case round =>
    obtain ⟨k, hk, rfl, hJs, hnx⟩ := hrel
    by_cases hlt : k < N
    · obtain ⟨g, hag, hcx⟩ := HC.out wr (HW.out.trans hnx) k hlt
      subst hag
      obtain ⟨fn, tmps, assign, body, hy, hR⟩ := HY.out k wr hJs hlt
      gi_wp2
      refine hR.mono ?_
      rintro e W3 (⟨rfl, hJ3, hk3⟩ | ⟨rfl, hJx3⟩)
      · gi_wp2
        go_roundw
        case rel => exact ⟨k + 1, by omega, by go_num, hJ3, hnx.trans hk3⟩
        case measure => simp [intOf]; omega
      · gi_wp2
        refine bodyPost_ret (results_none rfl _ _ _) rfl ?_
        exact ⟨⟨_, rfl⟩, .inr ⟨k + 1, by omega, by omega, hJx3⟩⟩
    · obtain rfl : k = N := by omega
      gi_wp2
      go_end0
      exact ⟨⟨_, rfl⟩, .inl hJs⟩
set_option maxRecDepth 100000 in
set_option maxHeartbeats 2000000 in
/-- The closure of slices.Backward. -/
theorem back1_31 (n : Nat) (hn : 1 ≤ n) (B : Nat) (a : Option Addr) (c : Nat) (zs : List Int) (bs : List Nat) (w : World) (hlen : zs.length ≤ 4611686018427387904)
    (hB : w.heap[B]? = some (.cells #[.slice a zs.length c] 31 (0, 0))) (ho : w.ownsRow 0 3 1 (.slice a zs.length c) zs.length (ints zs)) (hbB : B ∈ bs) (hbg : ∀ g, a.map (·.block) = some g → g ∈ bs) :
    SeqE Fence.wide n Try.prog 37 #[.pointer (some ⟨B, 0, none⟩)] (fun k => #[.int .i64 ((zs.length - 1 - k : Nat) : Int), .int .i64 (zs[zs.length - 1 - k]?.getD 0)]) bs zs.length w := by
  intro l J Jx W hW hY h0
  have hBW := hW B hbB _ _ _ hB
  have hc0 : W.cell? ⟨B, 0, none⟩ = some (.slice a zs.length c) := by rw [blk_cell hBW]; rfl
  have hcell : ∀ W', KeepC bs w W' → ∀ k, k < zs.length → ∃ g, a = some ⟨g, 0, none⟩ ∧ W'.cell? ⟨g, k, none⟩ = some (.int .i64 (zs[k]?.getD 0)) := by
    intro W' hW' k hk
    obtain ⟨g, hag⟩ := own_addr ho (by omega)
    subst hag
    refine ⟨g, rfl, ?_⟩
    rcases ho.2 with ⟨_, h1⟩ | ⟨g', cap, cur, hv, _, hg, hnc, hcm, hcs, htk⟩
    · omega
    injection hv with hv1 hv2 hv3
    injection hv1 with hv1
    injection hv1 with hv1
    subst hv1
    have := hW' g (hbg g rfl) _ _ _ hg
    rw [blk_cell this]
    have hx := ints_at zs hk
    rw [← htk, List.getElem?_take] at hx
    split at hx
    · simpa using hx
    · cases hx
  have hbox : ∀ W', KeepC bs w W' → W'.cell? ⟨B, 0, none⟩ = some (.slice a zs.length c) := fun W' hW' => by rw [blk_cell (hW' B hbB _ _ _ hB)]; rfl
  have HX := Lib.hid hbox
  clear hbox
  have HC := Lib.hid hcell
  have HW := Lib.hid hW
  have HY := Lib.hid hY
  clear hcell hY hBW hW ho hB hbB hbg
  generalize hN : zs.length = N at *
  have HN := Lib.hid hN
  clear hN
  refine callsIn_of_wp Try.func37 rfl trivial ?_ rfl
  simp only [Try.ntmps37, List.size_toArray, List.length_cons, List.length_nil, Nat.reduceAdd, Nat.reduceSub, Array.replicate_succ, Array.replicate_zero, List.push_toArray, List.append_toArray, List.nil_append, List.cons_append]
  gi_wp2
  gi_loopw [3] (fun i wr => ∃ j : Nat, j ≤ N ∧ i = .int .i64 ((j : Int) - 1) ∧ J (N - j) wr ∧ KeepC bs W wr) (fun i _ => (intOf i + 1).toNat)
  case atStart => exact ⟨N, Nat.le_refl _, rfl, by rw [Nat.sub_self]; exact h0, KeepC.refl _ _⟩
  case round =>
    obtain ⟨j, hj, rfl, hJs, hnx⟩ := hrel
    by_cases hlt : 0 < j
    · obtain ⟨j, rfl⟩ : ∃ q, j = q + 1 := ⟨j - 1, by omega⟩
      obtain ⟨g, hag, hcx⟩ := HC.out wr (HW.out.trans hnx) j (by omega)
      have hbx := HX.out wr (HW.out.trans hnx)
      subst hag
      obtain ⟨fn, tmps, assign, body, hy, hR⟩ := HY.out (N - (j + 1)) wr hJs (by omega)
      rw [show N - 1 - (N - (j + 1)) = j by omega] at hy
      rw [show N - (j + 1) + 1 = N - j by omega] at hR
      rw [show (((j + 1 : Nat) : Int) - 1) = (j : Int) by omega]
      gi_wp2
      refine hR.mono ?_
      rintro e W3 (⟨rfl, hJ3, hk3⟩ | ⟨rfl, hJx3⟩)
      · gi_wp2
        go_roundw
        case rel => exact ⟨j, by omega, by go_num, hJ3, hnx.trans hk3⟩
        case measure => simp [intOf]
      · gi_wp2
        refine bodyPost_ret (results_none rfl _ _ _) rfl ?_
        exact ⟨⟨_, rfl⟩, .inr ⟨N - j, by omega, by omega, hJx3⟩⟩
    · obtain rfl : j = 0 := by omega
      gi_wp2
      go_end0
      exact ⟨⟨_, rfl⟩, .inl hJs⟩

/-- What All and Back hand back: the closure over a box that holds a clone of the list. -/
def IterOf (fn : Nat) (w : World) (n : Nat) (xs : List Value) (en : Ending) (w' : World) : Prop :=
  ∃ B a c, en = .returned (.func (.func fn) #[] #[.pointer (some ⟨B, 0, none⟩)]) ∧ w'.heap[B]? = some (.cells #[.slice a n c] 31 (0, 0)) ∧ w'.ownsRow 0 3 1 (.slice a n c) n xs ∧ Keep [] w w' ∧ w.heap.size ≤ B ∧ (∀ g, a.map (·.block) = some g → w.heap.size ≤ g)

set_option maxHeartbeats 1000000 in
theorem salls31 (a : Option Addr) (n c : Nat) (w : World) :
    Calls Try.prog 30 #[.slice a n c] w fun e w' => e = .returned (.func (.func 36) #[] #[.pointer (some ⟨w.heap.size, 0, none⟩)]) ∧ w' = w.alloc (.cells #[.slice a n c] 31) := by
  go_enter Try.func30, Try.ntmps30
  go_wp2
  go_ret
  exact ⟨rfl, rfl⟩

set_option maxHeartbeats 1000000 in
theorem sback31 (a : Option Addr) (n c : Nat) (w : World) :
    Calls Try.prog 31 #[.slice a n c] w fun e w' => e = .returned (.func (.func 37) #[] #[.pointer (some ⟨w.heap.size, 0, none⟩)]) ∧ w' = w.alloc (.cells #[.slice a n c] 31) := by
  go_enter Try.func31, Try.ntmps31
  go_wp2
  go_ret
  exact ⟨rfl, rfl⟩

theorem iterof31 {fn : Nat} {w w1 : World} {a : Option Addr} {n c : Nat} {xs : List Value} (ho : w1.ownsRow 0 3 1 (.slice a n c) n xs) (hk : Keep (none : Option Nat).toList w w1) (hf : a.map (·.block) = none ∨ ∃ k, a.map (·.block) = some k ∧ w.heap.size ≤ k) :
    IterOf fn w n xs (.returned (.func (.func fn) #[] #[.pointer (some ⟨w1.heap.size, 0, none⟩)])) (w1.alloc (.cells #[.slice a n c] 31)) := by
  refine ⟨w1.heap.size, a, c, rfl, heap_alloc_new w1 _, (Keep.alloc [] w1 _).row ho (by simp), (hk.mono (by simp)).trans (Keep.alloc [] w1 _), hk.size, fun g hg => ?_⟩
  rcases hf with hf | ⟨k, hf, hle⟩
  · rw [hg] at hf; cases hf
  · rw [hg] at hf; injection hf with hf; omega

set_option maxHeartbeats 1000000 in
theorem all31 (p : Nat) (r : Option Nat) (n : Nat) (xs : List Value) (w : World) (h : Vec 58 3 1 w p r n xs) (hbig : n * 8 ≤ 140737488355328) :
    Calls Try.prog 20 #[.pointer (some ⟨p, 0, none⟩)] w (IterOf 36 w n xs) := by
  obtain ⟨a, c, hp, ho, hr⟩ := h.ex
  have hc : w.cell? ⟨p, 0, none⟩ = some (.slice a n c) := by rw [blk_cell hp]; rfl
  have HC := Lib.hid (clone31 (.slice a n c) n xs none w (arg_of_own ho h.one (fun hn hh => by obtain ⟨g, hg⟩ := own_addr ho hn; subst hg; cases hh)) hbig)
  clear h hp ho hr
  go_enter Try.func20, Try.ntmps20
  go_wp2_with (first | (go_at_call 26; refine HC.out.mono ?_; rintro e w1 ⟨a1, c1, rfl, ho1, hk1, hf1⟩) | (go_at_call 30; refine (salls31 _ _ _ _).mono ?_; rintro e w2 ⟨rfl, rfl⟩))
  go_ret
  exact iterof31 ho1 hk1 hf1

set_option maxHeartbeats 1000000 in
theorem back31 (p : Nat) (r : Option Nat) (n : Nat) (xs : List Value) (w : World) (h : Vec 58 3 1 w p r n xs) (hbig : n * 8 ≤ 140737488355328) :
    Calls Try.prog 21 #[.pointer (some ⟨p, 0, none⟩)] w (IterOf 37 w n xs) := by
  obtain ⟨a, c, hp, ho, hr⟩ := h.ex
  have hc : w.cell? ⟨p, 0, none⟩ = some (.slice a n c) := by rw [blk_cell hp]; rfl
  have HC := Lib.hid (clone31 (.slice a n c) n xs none w (arg_of_own ho h.one (fun hn hh => by obtain ⟨g, hg⟩ := own_addr ho hn; subst hg; cases hh)) hbig)
  clear h hp ho hr
  go_enter Try.func21, Try.ntmps21
  go_wp2_with (first | (go_at_call 26; refine HC.out.mono ?_; rintro e w1 ⟨a1, c1, rfl, ho1, hk1, hf1⟩) | (go_at_call 31; refine (sback31 _ _ _ _).mono ?_; rintro e w2 ⟨rfl, rfl⟩))
  go_ret
  exact iterof31 ho1 hk1 hf1
end Go.Proofs.Ytnfkoegbinkfgaa
