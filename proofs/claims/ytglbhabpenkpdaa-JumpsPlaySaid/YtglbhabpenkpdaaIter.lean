/-
  The iterators of vec.Vec[Pos], All and Back: their closures round by round. Conditions: stated at each theorem.
-/
import Derived.Test.YtglbhabpenkpdaaRange
import Derived.Test.YtglbhabpenkpdaaPos
set_option linter.unusedSimpArgs false
set_option linter.unusedVariables false
namespace Go.Proofs.Ytglbhabpenkpdaa
open Go.RowKit Go.Shelf
attribute [local go_sem] Oper.semAt_some
set_option linter.unusedVariables false

theorem own_keepC {bs : List Nat} {w W : World} {e : TypeId} {sz : Nat} {a : Option Addr} {n c : Nat} {xs : List Value} (ho : w.ownsRow 0 e sz (.slice a n c) n xs) (h : KeepC bs w W) (hb : ∀ g, a.map (·.block) = some g → g ∈ bs) : W.ownsRow 0 e sz (.slice a n c) n xs := by
  refine ⟨ho.1, ?_⟩
  rcases ho.2 with h1 | ⟨g, cap, cur, hv, h0, hg, hr⟩
  · exact .inl h1
  · have he : a.map (·.block) = some g := by injection hv with hv1; rw [hv1]; rfl
    exact .inr ⟨g, cap, cur, hv, h0, h g (hb g he) _ _ _ hg, hr⟩

set_option maxRecDepth 100000 in
set_option maxHeartbeats 2000000 in
/-- The closure of slices.All. -/
theorem all1_35 (n : Nat) (hn : 1 ≤ n) (B : Nat) (a : Option Addr) (c : Nat) (zs : List Pos) (bs : List Nat) (w : World) (hlen : zs.length ≤ 4611686018427387904)
    (hB : w.heap[B]? = some (.cells #[.slice a zs.length c] 35 (0, 0))) (ho : w.ownsRow 0 29 2 (.slice a zs.length c) zs.length (posV zs)) (hbB : B ∈ bs) (hbg : ∀ g, a.map (·.block) = some g → g ∈ bs) :
    SeqE Fence.wide n Try.prog 41 #[.pointer (some ⟨B, 0, none⟩)] (fun k => #[.int .i64 (k : Int), posAgg (zs[k]?.getD (0, 0))]) bs zs.length w := by
  intro l J Jx W hW hst hY h0
  have HS := Lib.hid hst
  clear hst
  have hBW := hW B hbB _ _ _ hB
  have hc0 : W.cell? ⟨B, 0, none⟩ = some (.slice a zs.length c) := by rw [blk_cell hBW]; rfl
  have hcell : ∀ W', KeepC bs w W' → ∀ k, k < zs.length → ∃ g, a = some ⟨g, 0, none⟩ ∧ W'.cell? ⟨g, k * 2, none⟩ = some (.int .i64 (zs[k]?.getD (0, 0)).1) ∧ W'.cell? ⟨g, k * 2 + 1, none⟩ = some (.int .i64 (zs[k]?.getD (0, 0)).2) := by
    intro W' hW' k hk
    obtain ⟨g, hag⟩ := own_addr ho (by omega)
    subst hag
    have ho' := own_keepC ho hW' hbg
    have hz : zs[k]? = some (zs[k]?.getD (0, 0)) := by rw [List.getElem?_eq_getElem hk]; rfl
    exact ⟨g, rfl, own_cell ho' (by rw [posV_get0, hz]; rfl), own_cell ho' (by rw [posV_get1, hz]; rfl)⟩
  have HC := Lib.hid hcell
  have HW := Lib.hid hW
  have HY := Lib.hid hY
  clear hcell hY hBW hW ho hB hbB hbg
  generalize hN : zs.length = N at *
  have HN := Lib.hid hN
  clear hN
  refine callsIn_of_wp Try.func41 rfl trivial ?_ rfl
  simp only [Try.ntmps41, List.size_toArray, List.length_cons, List.length_nil, Nat.reduceAdd, Nat.reduceSub, Array.replicate_succ, Array.replicate_zero, List.push_toArray, List.append_toArray, List.nil_append, List.cons_append]
  gi_wp2
  gi_loopw [7] (fun i wr => ∃ k : Nat, k ≤ N ∧ i = .int .i64 k ∧ J k wr ∧ KeepC bs W wr) (fun i _ => N - (intOf i).toNat)
  case atStart => exact ⟨0, Nat.zero_le _, rfl, h0, KeepC.refl _ _⟩
  case round =>
    obtain ⟨k, hk, rfl, hJs, hnx⟩ := hrel
    by_cases hlt : k < N
    · obtain ⟨g, hag, hcx, hcy⟩ := HC.out wr (HW.out.trans hnx) k hlt
      subst hag
      obtain ⟨fn, tmps, assign, body, hy, hR⟩ := HY.out k _ (HS.out k wr (.cells #[.int .i64 (zs[k]?.getD (0, 0)).1, .int .i64 (zs[k]?.getD (0, 0)).2] 29) hJs) hlt
      have hka : KeepC bs wr (wr.alloc (.cells #[.int .i64 (zs[k]?.getD (0, 0)).1, .int .i64 (zs[k]?.getD (0, 0)).2] 29)) := KeepC.of_keep (Keep.alloc [] wr _) (by simp)
      unfold posAgg at hy
      gi_wp2
      refine hR.mono ?_
      rintro e W3 (⟨rfl, hJ3, hk3⟩ | ⟨rfl, hJx3⟩)
      · gi_wp2
        go_roundw
        case rel => exact ⟨k + 1, by omega, by go_num, hJ3, (hnx.trans hka).trans hk3⟩
        case measure => simp [intOf]; omega
      · gi_wp2
        refine bodyPost_ret (results_none rfl _ _ _) rfl ?_
        exact ⟨⟨_, rfl⟩, .inr ⟨k + 1, by omega, by omega, hJx3⟩⟩
    · obtain rfl : k = N := by omega
      gi_wp2
      go_end0
      exact ⟨⟨_, rfl⟩, .inl hJs⟩
set_option maxRecDepth 100000 in
set_option maxHeartbeats 2000000 in
/-- The closure of slices.Backward. -/
theorem back1_35 (n : Nat) (hn : 1 ≤ n) (B : Nat) (a : Option Addr) (c : Nat) (zs : List Pos) (bs : List Nat) (w : World) (hlen : zs.length ≤ 4611686018427387904)
    (hB : w.heap[B]? = some (.cells #[.slice a zs.length c] 35 (0, 0))) (ho : w.ownsRow 0 29 2 (.slice a zs.length c) zs.length (posV zs)) (hbB : B ∈ bs) (hbg : ∀ g, a.map (·.block) = some g → g ∈ bs) :
    SeqE Fence.wide n Try.prog 42 #[.pointer (some ⟨B, 0, none⟩)] (fun k => #[.int .i64 ((zs.length - 1 - k : Nat) : Int), posAgg (zs[zs.length - 1 - k]?.getD (0, 0))]) bs zs.length w := by
  intro l J Jx W hW hst hY h0
  have HS := Lib.hid hst
  clear hst
  have hBW := hW B hbB _ _ _ hB
  have hc0 : W.cell? ⟨B, 0, none⟩ = some (.slice a zs.length c) := by rw [blk_cell hBW]; rfl
  have hcell : ∀ W', KeepC bs w W' → ∀ k, k < zs.length → ∃ g, a = some ⟨g, 0, none⟩ ∧ W'.cell? ⟨g, k * 2, none⟩ = some (.int .i64 (zs[k]?.getD (0, 0)).1) ∧ W'.cell? ⟨g, k * 2 + 1, none⟩ = some (.int .i64 (zs[k]?.getD (0, 0)).2) := by
    intro W' hW' k hk
    obtain ⟨g, hag⟩ := own_addr ho (by omega)
    subst hag
    have ho' := own_keepC ho hW' hbg
    have hz : zs[k]? = some (zs[k]?.getD (0, 0)) := by rw [List.getElem?_eq_getElem hk]; rfl
    exact ⟨g, rfl, own_cell ho' (by rw [posV_get0, hz]; rfl), own_cell ho' (by rw [posV_get1, hz]; rfl)⟩
  have hbox : ∀ W', KeepC bs w W' → W'.cell? ⟨B, 0, none⟩ = some (.slice a zs.length c) := fun W' hW' => by rw [blk_cell (hW' B hbB _ _ _ hB)]; rfl
  have HX := Lib.hid hbox
  clear hbox
  have HC := Lib.hid hcell
  have HW := Lib.hid hW
  have HY := Lib.hid hY
  clear hcell hY hBW hW ho hB hbB hbg
  generalize hN : zs.length = N at *
  have HN := Lib.hid hN
  clear hN
  refine callsIn_of_wp Try.func42 rfl trivial ?_ rfl
  simp only [Try.ntmps42, List.size_toArray, List.length_cons, List.length_nil, Nat.reduceAdd, Nat.reduceSub, Array.replicate_succ, Array.replicate_zero, List.push_toArray, List.append_toArray, List.nil_append, List.cons_append]
  gi_wp2
  gi_loopw [3] (fun i wr => ∃ j : Nat, j ≤ N ∧ i = .int .i64 ((j : Int) - 1) ∧ J (N - j) wr ∧ KeepC bs W wr) (fun i _ => (intOf i + 1).toNat)
  case atStart => exact ⟨N, Nat.le_refl _, rfl, by rw [Nat.sub_self]; exact h0, KeepC.refl _ _⟩
  case round =>
    obtain ⟨j, hj, rfl, hJs, hnx⟩ := hrel
    by_cases hlt : 0 < j
    · obtain ⟨j, rfl⟩ : ∃ q, j = q + 1 := ⟨j - 1, by omega⟩
      obtain ⟨g, hag, hcx, hcy⟩ := HC.out wr (HW.out.trans hnx) j (by omega)
      have hbx := HX.out wr (HW.out.trans hnx)
      subst hag
      obtain ⟨fn, tmps, assign, body, hy, hR⟩ := HY.out (N - (j + 1)) wr hJs (by omega)
      rw [show N - 1 - (N - (j + 1)) = j by omega] at hy
      rw [show N - (j + 1) + 1 = N - j by omega] at hR
      rw [show (((j + 1 : Nat) : Int) - 1) = (j : Int) by omega]
      unfold posAgg at hy
      gi_wp2
      refine hR.mono ?_
      rintro e W3 (⟨rfl, hJ3, hk3⟩ | ⟨rfl, hJx3⟩)
      · gi_wp2
        go_roundw
        case rel => exact ⟨j, by omega, by go_num, hJ3, hnx.trans hk3⟩
        case measure => simp [intOf]
      · gi_wp2
        refine bodyPost_ret (results_none rfl _ _ _) rfl ?_
        exact ⟨⟨_, rfl⟩, .inr ⟨N - j, by omega, by omega, hJx3⟩⟩
    · obtain rfl : j = 0 := by omega
      gi_wp2
      go_end0
      exact ⟨⟨_, rfl⟩, .inl hJs⟩

/-- What All and Back hand back: the closure over a box that holds a clone of the list. -/
def IterOf (fn : Nat) (w : World) (n : Nat) (xs : List Value) (en : Ending) (w' : World) : Prop :=
  ∃ B a c, en = .returned (.func (.func fn) #[] #[.pointer (some ⟨B, 0, none⟩)]) ∧ w'.heap[B]? = some (.cells #[.slice a n c] 35 (0, 0)) ∧ w'.ownsRow 0 29 2 (.slice a n c) n xs ∧ Keep [] w w' ∧ w.heap.size ≤ B ∧ (∀ g, a.map (·.block) = some g → w.heap.size ≤ g)

set_option maxHeartbeats 1000000 in
theorem salls35 (a : Option Addr) (n c : Nat) (w : World) :
    Calls Try.prog 35 #[.slice a n c] w fun e w' => e = .returned (.func (.func 41) #[] #[.pointer (some ⟨w.heap.size, 0, none⟩)]) ∧ w' = w.alloc (.cells #[.slice a n c] 35) := by
  go_enter Try.func35, Try.ntmps35
  go_wp2
  go_ret
  exact ⟨rfl, rfl⟩

set_option maxHeartbeats 1000000 in
theorem sback35 (a : Option Addr) (n c : Nat) (w : World) :
    Calls Try.prog 38 #[.slice a n c] w fun e w' => e = .returned (.func (.func 42) #[] #[.pointer (some ⟨w.heap.size, 0, none⟩)]) ∧ w' = w.alloc (.cells #[.slice a n c] 35) := by
  go_enter Try.func38, Try.ntmps38
  go_wp2
  go_ret
  exact ⟨rfl, rfl⟩

theorem iterof35 {fn : Nat} {w w1 : World} {a : Option Addr} {n c : Nat} {xs : List Value} (ho : w1.ownsRow 0 29 2 (.slice a n c) n xs) (hk : Keep (none : Option Nat).toList w w1) (hf : a.map (·.block) = none ∨ ∃ k, a.map (·.block) = some k ∧ w.heap.size ≤ k) :
    IterOf fn w n xs (.returned (.func (.func fn) #[] #[.pointer (some ⟨w1.heap.size, 0, none⟩)])) (w1.alloc (.cells #[.slice a n c] 35)) := by
  refine ⟨w1.heap.size, a, c, rfl, heap_alloc_new w1 _, (Keep.alloc [] w1 _).row ho (by simp), (hk.mono (by simp)).trans (Keep.alloc [] w1 _), hk.size, fun g hg => ?_⟩
  rcases hf with hf | ⟨k, hf, hle⟩
  · rw [hg] at hf; cases hf
  · rw [hg] at hf; injection hf with hf; omega

set_option maxHeartbeats 1000000 in
theorem all35 (p : Nat) (r : Option Nat) (n : Nat) (xs : List Value) (w : World) (h : Vec 65 29 2 w p r n xs) (hbig : n * 16 ≤ 140737488355328) :
    Calls Try.prog 25 #[.pointer (some ⟨p, 0, none⟩)] w (IterOf 41 w n xs) := by
  obtain ⟨a, c, hp, ho, hr⟩ := h.ex
  have hc : w.cell? ⟨p, 0, none⟩ = some (.slice a n c) := by rw [blk_cell hp]; rfl
  have HC := Lib.hid (clone35 (.slice a n c) n xs none w (arg_of_own ho h.one (fun hn hh => by obtain ⟨g, hg⟩ := own_addr ho hn; subst hg; cases hh)) hbig)
  clear h hp ho hr
  go_enter Try.func25, Try.ntmps25
  go_wp2_with (first | (go_at_call 30; refine HC.out.mono ?_; rintro e w1 ⟨a1, c1, rfl, ho1, hk1, hf1⟩) | (go_at_call 35; refine (salls35 _ _ _ _).mono ?_; rintro e w2 ⟨rfl, rfl⟩))
  go_ret
  exact iterof35 ho1 hk1 hf1

set_option maxHeartbeats 1000000 in
theorem back35 (p : Nat) (r : Option Nat) (n : Nat) (xs : List Value) (w : World) (h : Vec 65 29 2 w p r n xs) (hbig : n * 16 ≤ 140737488355328) :
    Calls Try.prog 31 #[.pointer (some ⟨p, 0, none⟩)] w (IterOf 42 w n xs) := by
  obtain ⟨a, c, hp, ho, hr⟩ := h.ex
  have hc : w.cell? ⟨p, 0, none⟩ = some (.slice a n c) := by rw [blk_cell hp]; rfl
  have HC := Lib.hid (clone35 (.slice a n c) n xs none w (arg_of_own ho h.one (fun hn hh => by obtain ⟨g, hg⟩ := own_addr ho hn; subst hg; cases hh)) hbig)
  clear h hp ho hr
  go_enter Try.func31, Try.ntmps31
  go_wp2_with (first | (go_at_call 30; refine HC.out.mono ?_; rintro e w1 ⟨a1, c1, rfl, ho1, hk1, hf1⟩) | (go_at_call 38; refine (sback35 _ _ _ _).mono ?_; rintro e w2 ⟨rfl, rfl⟩))
  go_ret
  exact iterof35 ho1 hk1 hf1
end Go.Proofs.Ytglbhabpenkpdaa
