/-
  vec.Vec[Pos]: what New, Insert, Delete, Set, At, Len, All, Back do, over the package slices' own text. Conditions: stated at each theorem.
-/
import Derived.Test.YtglbhabpenkpdaaProg
import Derived.Test.YtglbhabpenkpdaaBase
namespace Go.Proofs.Ytglbhabpenkpdaa
open Go.RowKit Go.Lib

theorem info29 : (Try.prog.info? 29).map (fun i => (i.zero, i.size, i.bytes)) = some (some (.agg #[.int .i64 0, .int .i64 0]), 2, 16) := by kernel_rfl
theorem elt35 : Elt Try.prog 35 29 2 16 (.agg #[.int .i64 0, .int .i64 0]) := ⟨Try.underlying35, info29, rfl, by simp [Value.cells, Value.oneCell'], by decide, by decide⟩
theorem ovl35 (w : World) (x y : Value) {b : Bool} (h : ∀ tR, (Extern.SlicesOverlaps.overlaps #[35, 35] #[tR] #[x, y]).run Try.prog w = .ok (.bool b) w) : (callFunc 39 #[x, y]).run Try.prog w = .ok (.value (.bool b)) w := by
  rw [run_callFunc_extern Try.func39 (by kernel_rfl) (by kernel_rfl) (by kernel_rfl) (e := Extern.SlicesOverlaps.overlaps #[35, 35] #[4]) (by kernel_rfl), h]
  rfl

set_option maxHeartbeats 1000000 in
set_option maxRecDepth 100000 in
theorem sins35_none (a : Option Addr) (n c i : Nat) (ua : Option Addr) (uc : Nat) (w : World) (hi : i ≤ n) :
    Calls Try.prog 32 #[.slice a n c, .int .i64 i, .slice ua 0 uc] w fun e w' => e = .returned (.slice a n c) ∧ w = w' := by
  go_enter Try.func32, Try.ntmps32
  go_wp2
  all_goals (go_ret; exact ⟨rfl, rfl⟩)

set_option maxHeartbeats 1000000 in
set_option maxRecDepth 100000 in
theorem sins35_end (a : Option Addr) (n c : Nat) (ua : Option Addr) (m uc : Nat) (w : World) (hm : 0 < m) (v' : Value) (w' : World)
    (hr : ∀ ty, (Builtin.append_ #[35, 35] ty #[.slice a n c, .slice ua m uc]).run Try.prog w = .ok v' w') :
    Calls Try.prog 32 #[.slice a n c, .int .i64 n, .slice ua m uc] w fun e w1 => e = .returned v' ∧ w' = w1 := by
  have hz1 : ¬ ((m : Int) = 0) := by omega
  by_cases hc : c = n
  · subst hc
    go_enter Try.func32, Try.ntmps32
    go_wp2_with (at_builtin; refine wpList_append_known _ rfl _ _ _ _ rfl _ _ rfl rfl (hr _) ?_)
    go_ret
    exact ⟨rfl, rfl⟩
  · go_enter Try.func32, Try.ntmps32
    go_wp2_with (at_builtin; refine wpList_append_known _ rfl _ _ _ _ rfl _ _ rfl rfl (hr _) ?_)
    go_ret
    exact ⟨rfl, rfl⟩

set_option maxHeartbeats 2000000 in
set_option maxRecDepth 100000 in
theorem sins35_shift (g n c i vb voff m vc : Nat) (w w1 w2 : World) (hi : i < n) (hm : 0 < m) (hroom : n + m ≤ c) (hc63 : c ≤ maxLen)
    (hov : ∀ lb cb, (callFunc 39 #[.slice (some ⟨vb, voff, none⟩) m vc, .slice (some ⟨g, (i + m) * 2, none⟩) lb cb]).run Try.prog w = .ok (.value (.bool false)) w)
    (hcp1 : ∀ ty dc sc, (Builtin.copy_ #[35, 35] ty #[.slice (some ⟨g, (i + m) * 2, none⟩) (n + m - (i + m)) dc, .slice (some ⟨g, i * 2, none⟩) (n + m - i) sc]).run Try.prog w.drew = .ok (goInt (n - i : Nat)) w1)
    (hcp2 : ∀ ty dc, (Builtin.copy_ #[35, 35] ty #[.slice (some ⟨g, i * 2, none⟩) (n + m - i) dc, .slice (some ⟨vb, voff, none⟩) m vc]).run Try.prog w1 = .ok (goInt m) w2) :
    Calls Try.prog 32 #[.slice (some ⟨g, 0, none⟩) n c, .int .i64 i, .slice (some ⟨vb, voff, none⟩) m vc] w fun e w' => e = .returned (.slice (some ⟨g, 0, none⟩) (n + m) c) ∧ w2 = w' := by
  unfold maxLen at hc63
  have hz1 : ¬ ((m : Int) = 0) := by omega
  have hz2 : ¬ ((i : Int) = (n : Int)) := by omega
  have hw1 : IntKind.i64.wrap ((i : Int) + (m : Int)) = (i : Int) + (m : Int) := by rw [IntKind.wrap_i64]; omega
  have hb1 : (0 : Int) ≤ (i : Int) + (m : Int) := by omega
  have hin : i ≤ n := by omega
  have htn : ((i : Int) + (m : Int)).toNat = i + m := by omega
  have hb2 : ¬ (c = i + m) := by omega
  have hb3 : (i : Int) ≤ (n : Int) + (m : Int) := by omega
  have hb4 : ¬ (c = i) := by omega
  have H1 := Lib.hid hcp1
  have H2 := Lib.hid hcp2
  clear hcp1 hcp2
  go_enter Try.func32, Try.ntmps32
  go_wp2_with (simp only [hov])
  go_region_law (refine step_copy_known rfl _ _ 35 35 rfl (.slice (some ⟨g, (i + m) * 2, none⟩) (n + m - (i + m)) (c - (i + m))) (.slice (some ⟨g, i * 2, none⟩) (n + m - i) (c - i)) (by simp [Act.eval, Act.put]) (by simp [Act.eval, Act.put]) (H1.out 3 (c - (i + m)) (c - i)) ?_)
  go_wp2_with (refine wpList_copy_known _ rfl _ _ 35 35 rfl _ _ rfl rfl (H2.out _ _) ?_)
  go_ret
  exact ⟨rfl, rfl⟩

set_option maxHeartbeats 2000000 in
set_option maxRecDepth 100000 in
theorem sins35_grow (g n c i vb voff m vc h G : Nat) (w wA wB wC : World) (hi : i < n) (hm : 0 < m) (hnc : n ≤ c) (hroom : c < n + m) (hG : n + m ≤ G) (hG63 : G ≤ maxLen)
    (hrz : ∀ ty, (Builtin.append_ #[35, 3] ty #[.slice (some ⟨g, 0, none⟩) i c, .int .i64 ((n : Int) + (m : Int) - (i : Int))]).run Try.prog w = .ok (.slice (some ⟨h, 0, none⟩) (n + m) G) wA)
    (hcp1 : ∀ ty dc, (Builtin.copy_ #[35, 35] ty #[.slice (some ⟨h, i * 2, none⟩) (n + m - i) dc, .slice (some ⟨vb, voff, none⟩) m vc]).run Try.prog wA = .ok (goInt m) wB)
    (hcp2 : ∀ ty dc sc, (Builtin.copy_ #[35, 35] ty #[.slice (some ⟨h, (i + m) * 2, none⟩) (n + m - (i + m)) dc, .slice (some ⟨g, i * 2, none⟩) (n - i) sc]).run Try.prog wB.drew = .ok (goInt (n - i : Nat)) wC) :
    Calls Try.prog 32 #[.slice (some ⟨g, 0, none⟩) n c, .int .i64 i, .slice (some ⟨vb, voff, none⟩) m vc] w fun e w' => e = .returned (.slice (some ⟨h, 0, none⟩) (n + m) G) ∧ wC = w' := by
  unfold maxLen at hG63
  have hz1 : ¬ ((m : Int) = 0) := by omega
  have hz2 : ¬ ((i : Int) = (n : Int)) := by omega
  have hz3 : (c : Int) < (n : Int) + (m : Int) := by omega
  have hw1 : IntKind.i64.wrap ((i : Int) + (m : Int)) = (i : Int) + (m : Int) := by rw [IntKind.wrap_i64]; omega
  have hb1 : (0 : Int) ≤ (i : Int) + (m : Int) := by omega
  have hin : i ≤ n := by omega
  have htn : ((i : Int) + (m : Int)).toNat = i + m := by omega
  have hb3 : (i : Int) ≤ (n : Int) := by omega
  have hb4 : ¬ (c = i) := by omega
  have hGi : ¬ (G = i) := by omega
  have hGim : ¬ (G = i + m) := by omega
  have H0 := Lib.hid hrz
  have H1 := Lib.hid hcp1
  have H2 := Lib.hid hcp2
  clear hcp1 hcp2 hrz
  go_enter Try.func32, Try.ntmps32
  go_wp2_with (first | (at_builtin; refine wpList_append_known _ rfl _ _ _ _ rfl _ _ rfl rfl (H0.out _) ?_) | (refine wpList_copy_known _ rfl _ _ 35 35 rfl _ _ rfl rfl (H1.out _ _) ?_))
  go_region_law (refine step_copy_known rfl _ _ 35 35 rfl (.slice (some ⟨h, (i + m) * 2, none⟩) (n + m - (i + m)) (G - (i + m))) (.slice (some ⟨g, i * 2, none⟩) (n - i) (c - i)) (by simp [Act.eval, Act.put]) (by simp [Act.eval, Act.put]) (H2.out 3 (G - (i + m)) (c - i)) ?_)
  go_wp2
  go_ret
  exact ⟨rfl, rfl⟩

/-- slices.Insert on a row of the call's own, the values in another block. -/
theorem sins35 (a : Option Addr) (n c i m : Nat) (u : Value) (xs ys : List Value) (w : World) (ho : w.ownsRow 0 29 2 (.slice a n c) n xs) (h1 : ∀ x ∈ xs, x.oneCell' = true) (hu : Arg w 2 u m ys (a.map (·.block))) (hi : i ≤ n) (hbig : (n + m) * 16 ≤ 140737488355328) :
    Calls Try.prog 32 #[.slice a n c, .int .i64 i, u] w (RowPost 29 2 w (a.map (·.block)) (n + m) (xs.take (i * 2) ++ ys ++ xs.drop (i * 2))) := by
  have hxl := ho.1
  obtain ⟨hyl, hy1, hu⟩ := hu
  rcases hu with ⟨rfl, ua, uc, rfl, _⟩ | ⟨hm, vb, voff, uc, rfl, hcell, hne⟩
  · have hy0 : ys = [] := List.eq_nil_of_length_eq_zero (by simp [hyl])
    subst hy0
    refine (sins35_none a n c i ua uc w hi).mono ?_
    rintro e w' ⟨rfl, rfl⟩
    exact ⟨a, c, rfl, by simpa using ho, Keep.refl _ _, .inl rfl⟩
  · by_cases hin : i = n
    · subst hin
      obtain ⟨a', c', w', hr, h2, h3, h4⟩ := app_mem elt35 w a i c xs ho _ m ys _ ⟨hyl, hy1, .inr ⟨hm, vb, voff, uc, rfl, hcell, hne⟩⟩ hbig
      refine (sins35_end a i c _ m uc w hm _ w' hr).mono ?_
      rintro e w1 ⟨rfl, rfl⟩
      refine ⟨a', c', rfl, ?_, h3, ?_⟩
      · rw [List.take_of_length_le (by omega), List.drop_of_length_le (by omega), List.append_nil]; exact h2
      · rcases h4 with h4 | h4
        · exact .inl h4
        · exact .inr ⟨_, h4, Nat.le_refl _⟩
    · have hin' : i < n := by omega
      rcases ho.2 with ⟨_, h0⟩ | ⟨g, cap, cur, hv, _, hg, hnc, hcm, hcs, htk⟩
      · omega
      injection hv with hv1 hv2 hv3
      subst hv1 hv3
      have hvg : vb ≠ g := fun hh => hne (by simp [hh])
      by_cases hroom : n + m ≤ c
      · obtain ⟨hov, w1, w2, hc1, hc2, hw2, hgr⟩ := ins_shift_mem elt35 w g n c cur xs hg hcs htk h1 hcm i m vb voff uc ys hyl hy1 hcell hvg hin' hm hroom
        refine (sins35_shift g n c i vb voff m uc w w1 w2 hin' hm hroom hcm (fun lb cb => ovl35 w _ _ (fun tR => hov tR lb cb)) hc1 hc2).mono ?_
        rintro e w' ⟨rfl, rfl⟩
        exact ⟨_, _, rfl, hw2, Keep.of_grown hgr, .inl rfl⟩
      · obtain ⟨G, wA, wB, wC, hG, hG63, hrz, hc1, hc2, hwC, hgr⟩ := ins_grow_mem elt35 3 Try.underlying3 w g n c cur xs hg hcs htk h1 i m vb voff uc ys hyl hy1 hcell hin' hm hnc (by omega) hbig
        refine (sins35_grow g n c i vb voff m uc w.heap.size G w wA wB wC hin' hm hnc (by omega) hG hG63 hrz hc1 hc2).mono ?_
        rintro e w' ⟨rfl, rfl⟩
        exact ⟨_, _, rfl, hwC, (Keep.of_grown hgr).mono (by simp), .inr ⟨_, rfl, Nat.le_refl _⟩⟩

set_option maxHeartbeats 2000000 in
set_option maxRecDepth 100000 in
theorem sdel35_at (g n c i k : Nat) (w w1 w2 : World) (hk : 0 < k) (hj : i + k ≤ n) (hnc : n ≤ c) (hc63 : c ≤ maxLen)
    (hap : ∀ ty a cc, (c ≠ i + k → a = some ⟨g, (i + k) * 2, none⟩) → (Builtin.append_ #[35, 35] ty #[.slice (some ⟨g, 0, none⟩) i c, .slice a (n - (i + k)) cc]).run Try.prog w.drew = .ok (.slice (some ⟨g, 0, none⟩) (n - k) c) w1)
    (hcl : ∀ ty cc, (Builtin.clear_ #[35] ty #[.slice (some ⟨g, (n - k) * 2, none⟩) (n - (n - k)) cc]).run Try.prog w1 = .ok (.tuple #[]) w2) :
    Calls Try.prog 34 #[.slice (some ⟨g, 0, none⟩) n c, .int .i64 i, .int .i64 ((i : Int) + (k : Int))] w fun e w' => e = .returned (.slice (some ⟨g, 0, none⟩) (n - k) c) ∧ w2 = w' := by
  unfold maxLen at hc63
  have hz1 : ¬ ((i : Int) = (i : Int) + (k : Int)) := by omega
  have hb1 : (0 : Int) ≤ (i : Int) + (k : Int) := by omega
  have htn : ((i : Int) + (k : Int)).toNat = i + k := by omega
  have hb3 : (i : Int) + (k : Int) ≤ (n : Int) := by omega
  have hb5 : (n : Int) ≤ (c : Int) := by omega
  have hb6 : (i : Int) + (k : Int) ≤ (c : Int) := by omega
  have hb4 : ¬ (c = n - k) := by omega
  have hb8 : (n - k) ≤ n := by omega
  have hb7 : ¬ (c = i) := by omega
  have hb9 : i ≤ c := by omega
  have hb10 : (i : Int) ≤ (i : Int) + (k : Int) := by omega
  have H1 := Lib.hid hap
  have H2 := Lib.hid hcl
  clear hap hcl
  by_cases hcj : c = i + k
  · subst hcj
    obtain rfl : n = i + k := by omega
    have e1 : i + k - (i + k) = 0 := by omega
    have e2 : i + k - k = i := by omega
    have e3 : i + k - i = k := by omega
    have H1' := H1.out
    have H2' := H2.out
    rw [e1, e2] at H1'
    rw [e2, e3] at H2'
    rw [e2]
    have H1 := Lib.hid H1'
    have H2 := Lib.hid H2'
    clear H1' H2' e1 e2 e3 hb8
    go_enter Try.func34, Try.ntmps34
    go_wp2
    go_region_law (refine step_append_known rfl _ _ 35 35 rfl (.slice (some ⟨g, 0, none⟩) i (i + k)) (.slice (some ⟨g, 0, none⟩) 0 0) (by simp [Act.eval, Act.put]) (by simp [Act.eval, Act.put]) (H1.out 35 _ 0 (fun h => absurd rfl h)) ?_)
    go_wp2_with (refine wpList_clear_known _ rfl _ 35 rfl _ rfl (H2.out _ _) ?_)
    go_ret
    exact ⟨rfl, rfl⟩
  · go_enter Try.func34, Try.ntmps34
    go_wp2
    go_region_law (refine step_append_known rfl _ _ 35 35 rfl (.slice (some ⟨g, 0, none⟩) i c) (.slice (some ⟨g, (i + k) * 2, none⟩) (n - (i + k)) (c - (i + k))) (by simp [Act.eval, Act.put]) (by simp [Act.eval, Act.put]) (H1.out 35 _ (c - (i + k)) (fun _ => rfl)) ?_)
    go_wp2_with (refine wpList_clear_known _ rfl _ 35 rfl _ rfl (H2.out _ _) ?_)
    go_ret
    exact ⟨rfl, rfl⟩

/-- slices.Delete on a row of the call's own. -/
theorem sdel35 (a : Option Addr) (n c i k : Nat) (xs : List Value) (w : World) (ho : w.ownsRow 0 29 2 (.slice a n c) n xs) (h1 : ∀ x ∈ xs, x.oneCell' = true) (hk : 0 < k) (hj : i + k ≤ n) :
    Calls Try.prog 34 #[.slice a n c, .int .i64 i, .int .i64 ((i : Int) + (k : Int))] w (RowIn 29 2 w (a.map (·.block)) (n - k) (xs.take (i * 2) ++ xs.drop ((i + k) * 2))) := by
  rcases ho.2 with ⟨_, h0⟩ | ⟨g, cap, cur, hv, _, hg, hnc, hcm, hcs, htk⟩
  · omega
  injection hv with hv1 hv2 hv3
  subst hv1 hv3
  obtain ⟨w1, w2, hap, hcl, hw2, hgr⟩ := del_mem elt35 w g n c cur xs hg hcs htk h1 hcm i k hk hj hnc
  refine (sdel35_at g n c i k w w1 w2 hk hj hnc hcm hap hcl).mono ?_
  rintro e w' ⟨rfl, rfl⟩
  exact ⟨_, _, rfl, hw2, Keep.of_grown hgr, rfl⟩

set_option maxHeartbeats 1000000 in
theorem clone35_nil (w : World) : Calls Try.prog 30 #[.slice none 0 0] w fun e w' => e = .returned (.slice none 0 0) ∧ w = w' := by
  have hq := fun w => Lib.run_eql_slice_nil (P := Try.prog) w 35 29 none 0 0 0 0 Try.underlying35
  go_enter Try.func30, Try.ntmps30
  go_wp2
  go_ret
  exact ⟨rfl, rfl⟩

set_option maxHeartbeats 1000000 in
theorem clone35_some (ad : Addr) (n c : Nat) (w : World) (v' : Value) (w' : World) (hr : ∀ ty, (Builtin.append_ #[35, 35] ty #[.slice (some ⟨w.heap.size, 0, none⟩) 0 0, .slice (some ad) n c]).run Try.prog (w.alloc (.cells #[] 29)) = .ok v' w') :
    Calls Try.prog 30 #[.slice (some ad) n c] w fun e w1 => e = .returned v' ∧ w' = w1 := by
  have hq := fun w => Lib.run_eql_slice_nil (P := Try.prog) w 35 29 (some ad) n c 0 0 Try.underlying35
  have H0 := Lib.hid hr
  clear hr
  go_enter Try.func30, Try.ntmps30
  go_wp2_with (at_builtin; refine wpList_append_known _ rfl _ _ _ _ rfl _ _ rfl rfl (H0.out _) ?_)
  go_ret
  exact ⟨rfl, rfl⟩

/-- slices.Clone: a row of its own. -/
theorem clone35 (u : Value) (n : Nat) (ys : List Value) (r : Option Nat) (w : World) (hu : Arg w 2 u n ys r) (hbig : n * 16 ≤ 140737488355328) :
    Calls Try.prog 30 #[u] w (RowPost 29 2 w none n ys) := by
  have hform : u = .slice none 0 0 ∧ n = 0 ∧ ys = [] ∨ ∃ ad c, u = .slice (some ad) n c := by
    obtain ⟨hyl, _, hu⟩ := hu
    rcases hu with ⟨rfl, ua, uc, rfl, hn⟩ | ⟨hm, vb, voff, uc, rfl, _⟩
    · cases ua with
      | none => left; exact ⟨by rw [hn rfl], rfl, List.eq_nil_of_length_eq_zero (by simp [hyl])⟩
      | some ad => exact .inr ⟨ad, uc, rfl⟩
    · exact .inr ⟨_, uc, rfl⟩
  rcases hform with ⟨rfl, rfl, rfl⟩ | ⟨ad, c, rfl⟩
  · refine (clone35_nil w).mono ?_
    rintro e w' ⟨rfl, rfl⟩
    exact ⟨none, 0, rfl, World.ownsRow_nil _ _ _ _, Keep.refl _ _, .inl rfl⟩
  · obtain ⟨a', c', w', hr, h1, h2, k, hk, hle⟩ := clone_mem elt35 w _ n ys r hu hbig
    refine (clone35_some ad n c w _ w' hr).mono ?_
    rintro e w1 ⟨rfl, rfl⟩
    exact ⟨a', c', rfl, h1, h2.mono (by simp), .inr ⟨k, hk, hle⟩⟩

/-! ### The methods -/
set_option maxHeartbeats 1000000 in
/-- vec.New. -/
theorem new35 (u : Value) (n : Nat) (ys : List Value) (r : Option Nat) (w : World) (hu : Arg w 2 u n ys r) (hbig : n * 16 ≤ 140737488355328) :
    Calls Try.prog 18 #[u] w fun e w' => ∃ p r', e = .returned (.pointer (some ⟨p, 0, none⟩)) ∧ Vec 65 29 2 w' p r' n ys ∧ Keep [] w w' ∧ w.heap.size ≤ p ∧ (∀ g, r' = some g → w.heap.size ≤ g) := by
  have hy1 := hu.2.1
  have hc := Lib.hid (clone35 u n ys r w hu hbig)
  clear hu hbig
  go_enter Try.func18, Try.ntmps18
  go_wp2_with (go_at_call 30; refine hc.out.mono ?_; rintro e w1 ⟨a, c, rfl, ho, hk, hfr⟩)
  go_ret
  refine ⟨w1.heap.size, _, rfl, ⟨⟨a, c, heap_alloc_new w1 _, (Keep.alloc [] w1 _).row ho (by simp), rfl⟩, hy1, ?_⟩, hk.trans (Keep.alloc _ _ _), hk.size, ?_⟩
  · intro hh
    rcases ho.2 with ⟨h, _⟩ | ⟨g', cap, cur, h, _, hh', _⟩
    · injection h with h; subst h; cases hh
    · injection h with h; subst h; simp at hh; subst hh; exact absurd (blk_lt hh') (by omega)
  · intro g hg
    rcases hfr with hfr | ⟨k, hk', hle⟩
    · rw [hg] at hfr; cases hfr
    · rw [hg] at hk'; injection hk' with hk'; omega

set_option maxHeartbeats 1000000 in
theorem len35 (p : Nat) (r : Option Nat) (n : Nat) (xs : List Value) (w : World) (h : Vec 65 29 2 w p r n xs) :
    Calls Try.prog 22 #[.pointer (some ⟨p, 0, none⟩)] w fun e w' => e = .returned (.int .i64 n) ∧ w = w' := by
  obtain ⟨⟨a, c, hp, ho, rfl⟩, h1, hne⟩ := h
  have hc : w.cell? ⟨p, 0, none⟩ = some (.slice a n c) := by rw [blk_cell hp]; rfl
  clear ho h1 hne hp
  go_enter Try.func22, Try.ntmps22
  go_wp2
  go_ret
  exact ⟨rfl, rfl⟩

set_option maxHeartbeats 1000000 in
theorem has35_yes (p : Nat) (r : Option Nat) (n : Nat) (xs : List Value) (i : Int) (w : World) (h : Vec 65 29 2 w p r n xs) (h0 : 0 ≤ i) (hn : i < n) :
    Calls Try.prog 33 #[.pointer (some ⟨p, 0, none⟩), .int .i64 i] w fun e w' => e = .returned (.bool true) ∧ w = w' := by
  obtain ⟨⟨a, c, hp, ho, rfl⟩, h1, hne⟩ := h
  have hc : w.cell? ⟨p, 0, none⟩ = some (.slice a n c) := by rw [blk_cell hp]; rfl
  clear ho h1 hne hp
  go_enter Try.func33, Try.ntmps33
  go_wp2
  go_ret
  exact ⟨rfl, rfl⟩

set_option maxHeartbeats 1000000 in
theorem has35_no (p : Nat) (r : Option Nat) (n : Nat) (xs : List Value) (i : Int) (w : World) (h : Vec 65 29 2 w p r n xs) (hn : i < 0 ∨ (n : Int) ≤ i) :
    Calls Try.prog 33 #[.pointer (some ⟨p, 0, none⟩), .int .i64 i] w fun e w' => e = .returned (.bool false) ∧ w = w' := by
  obtain ⟨⟨a, c, hp, ho, rfl⟩, h1, hne⟩ := h
  have hc : w.cell? ⟨p, 0, none⟩ = some (.slice a n c) := by rw [blk_cell hp]; rfl
  clear ho h1 hne hp
  rcases hn with hn | hn
  · go_enter Try.func33, Try.ntmps33
    go_wp2
    go_ret
    exact ⟨rfl, rfl⟩
  · have h0 : (0 : Int) ≤ i := by omega
    have hd : decide (i < (n : Int)) = false := by simp; omega
    go_enter Try.func33, Try.ntmps33
    go_wp2
    go_ret
    exact ⟨rfl, rfl⟩

set_option maxHeartbeats 1000000 in
theorem insert35_no (p : Nat) (r : Option Nat) (n : Nat) (xs : List Value) (i : Int) (u : Value) (w : World) (h : Vec 65 29 2 w p r n xs) (hn : i < 0 ∨ (n : Int) < i) :
    Calls Try.prog 21 #[.pointer (some ⟨p, 0, none⟩), .int .i64 i, u] w fun e w' => e = .returned (.bool false) ∧ w = w' := by
  obtain ⟨⟨a, c, hp, ho, rfl⟩, h1, hne⟩ := h
  have hc : w.cell? ⟨p, 0, none⟩ = some (.slice a n c) := by rw [blk_cell hp]; rfl
  clear ho h1 hne hp
  rcases hn with hn | hn
  · go_enter Try.func21, Try.ntmps21
    go_wp2
    go_ret
    exact ⟨rfl, rfl⟩
  · have h0 : (0 : Int) ≤ i := by omega
    go_enter Try.func21, Try.ntmps21
    go_wp2
    go_ret
    exact ⟨rfl, rfl⟩

/-- How an operation that changes a list leaves it. -/
def VecPost35 (w : World) (p : Nat) (r : Option Nat) (n : Nat) (xs : List Value) (w' : World) : Prop :=
  ∃ r', Vec 65 29 2 w' p r' n xs ∧ Keep (p :: r.toList) w w' ∧ (r' = r ∨ ∃ k, r' = some k ∧ w.heap.size ≤ k)

theorem vecpost35 {w w1 : World} {p n m c : Nat} {a a' : Option Addr} {c' : Nat} {zs : List Value} (hp : w.heap[p]? = some (.cells #[.slice a n c] 65 (0, 0))) (hne : a.map (·.block) ≠ some p) (h1 : ∀ x ∈ zs, x.oneCell' = true)
    (ho : w1.ownsRow 0 29 2 (.slice a' m c') m zs) (hk : Keep (a.map (·.block)).toList w w1) (hf : a'.map (·.block) = a.map (·.block) ∨ ∃ k, a'.map (·.block) = some k ∧ w.heap.size ≤ k) :
    VecPost35 w p (a.map (·.block)) m zs (w1.setCell ⟨p, 0, none⟩ (.slice a' m c')) := by
  have hpl := blk_lt hp
  have hp1 := hk.heap hp (by intro hm; exact hne (by simpa using hm))
  have hne' : a'.map (·.block) ≠ some p := by
    rcases hf with hf | ⟨k, hf, hle⟩
    · rw [hf]; exact hne
    · rw [hf]; intro hh; injection hh; omega
  refine ⟨a'.map (·.block), ⟨⟨a', c', ?_, ?_, rfl⟩, h1, hne'⟩, ?_, hf⟩
  · exact setCell_heap hp1 0 _
  · exact (Keep.setCell (S := [p]) w1 ⟨p, 0, none⟩ _ (by simp)).row ho (fun g hg hm => by rw [own_block] at hg; simp at hm; subst hm; exact hne' hg)
  · exact (hk.mono (T := p :: (a.map (·.block)).toList) (fun i hi => List.mem_cons_of_mem _ hi)).trans (Keep.setCell w1 ⟨p, 0, none⟩ _ (by simp))

set_option maxHeartbeats 1000000 in
theorem insert35 (p : Nat) (r : Option Nat) (n : Nat) (xs : List Value) (i : Int) (u : Value) (m : Nat) (ys : List Value) (w : World) (h : Vec 65 29 2 w p r n xs) (hu : Arg w 2 u m ys r) (hi0 : 0 ≤ i) (hin : i ≤ n) (hbig : (n + m) * 16 ≤ 140737488355328) :
    Calls Try.prog 21 #[.pointer (some ⟨p, 0, none⟩), .int .i64 i, u] w fun e w' => e = .returned (.bool true) ∧ VecPost35 w p r (n + m) (xs.take (i.toNat * 2) ++ ys ++ xs.drop (i.toNat * 2)) w' := by
  obtain ⟨⟨a, c, hp, ho, rfl⟩, h1, hne⟩ := h
  obtain ⟨i, rfl⟩ := Int.eq_ofNat_of_zero_le hi0
  rw [Int.toNat_natCast]
  have hc : w.cell? ⟨p, 0, none⟩ = some (.slice a n c) := by rw [blk_cell hp]; rfl
  have hI := Lib.hid (sins35 a n c i m u xs ys w ho h1 hu (by omega) hbig)
  have hone : Hid (∀ x ∈ xs.take (i * 2) ++ ys ++ xs.drop (i * 2), x.oneCell' = true) := by
    intro x hx
    rw [List.mem_append, List.mem_append] at hx
    rcases hx with (hx | hx) | hx
    · exact h1 x (List.mem_of_mem_take hx)
    · exact hu.2.1 x hx
    · exact h1 x (List.mem_of_mem_drop hx)
  have HP := Lib.hid hp
  have HN := Lib.hid hne
  clear ho h1 hu hne hp
  go_enter Try.func21, Try.ntmps21
  go_wp2_with (go_at_call 32; refine hI.out.mono ?_; rintro e w1 ⟨a', c', rfl, ho, hk, hf⟩; have hc1 : w1.cell? ⟨p, 0, none⟩ = some (.slice a n c) := hk.cell hc (fun hm => HN.out (by simpa using hm)); have hf1 : w1.frozen? ⟨p, 0, none⟩ = false := blk_frozen (hk.heap HP.out (fun hm => HN.out (by simpa using hm))) 0)
  go_ret
  exact ⟨rfl, vecpost35 HP.out HN.out hone.out ho hk hf⟩

set_option maxHeartbeats 1000000 in
theorem delete35_no (p : Nat) (r : Option Nat) (n : Nat) (xs : List Value) (i k : Int) (w : World) (h : Vec 65 29 2 w p r n xs) (hn : i < 0 ∨ (n : Int) ≤ i ∨ k < 1) :
    Calls Try.prog 23 #[.pointer (some ⟨p, 0, none⟩), .int .i64 i, .int .i64 k] w fun e w' => e = .returned (.slice none 0 0) ∧ w = w' := by
  by_cases hi : i < 0 ∨ (n : Int) ≤ i
  · have hH := Lib.hid (has35_no p r n xs i w h hi)
    clear h hn hi
    go_enter Try.func23, Try.ntmps23
    go_wp2_with (go_at_call 33; refine hH.out.mono ?_; rintro e w1 ⟨rfl, rfl⟩)
    go_ret
    exact ⟨rfl, rfl⟩
  · have hH := Lib.hid (has35_yes p r n xs i w h (by omega) (by omega))
    have hk : k < 1 := by omega
    clear h hn hi
    go_enter Try.func23, Try.ntmps23
    go_wp2_with (go_at_call 33; refine hH.out.mono ?_; rintro e w1 ⟨rfl, rfl⟩)
    go_ret
    exact ⟨rfl, rfl⟩

/-- What Delete leaves: the cut list, and the slice of what was taken, in a row of its own. -/
def DelPost35 (w : World) (p : Nat) (r : Option Nat) (n : Nat) (xs : List Value) (i k : Nat) (en : Ending) (w' : World) : Prop :=
  ∃ a c, en = .returned (.slice a k c) ∧ w'.ownsRow 0 29 2 (.slice a k c) k ((xs.drop (i * 2)).take (k * 2)) ∧ (∀ g, a.map (·.block) = some g → w.heap.size ≤ g) ∧
    ∃ r', Vec 65 29 2 w' p r' (n - k) (xs.take (i * 2) ++ xs.drop ((i + k) * 2)) ∧ Keep (p :: r.toList) w w' ∧ r' = r

theorem delend35 {w w1 w2 : World} {p n c i k : Nat} {a a1 a2 : Option Addr} {c1 c2 : Nat} {xs : List Value} (hp : w.heap[p]? = some (.cells #[.slice a n c] 65 (0, 0))) (hne : a.map (·.block) ≠ some p)
    (h1 : ∀ x ∈ xs.take (i * 2) ++ xs.drop ((i + k) * 2), x.oneCell' = true)
    (ho1 : w1.ownsRow 0 29 2 (.slice a1 k c1) k ((xs.drop (i * 2)).take (k * 2))) (hk1 : Keep (none : Option Nat).toList w w1) (hf1 : a1.map (·.block) = none ∨ ∃ q, a1.map (·.block) = some q ∧ w.heap.size ≤ q)
    (ho2 : w2.ownsRow 0 29 2 (.slice a2 (n - k) c2) (n - k) (xs.take (i * 2) ++ xs.drop ((i + k) * 2))) (hk2 : Keep (a.map (·.block)).toList w1 w2) (hf2 : a2.map (·.block) = a.map (·.block)) (hal : ∀ g, a.map (·.block) = some g → g < w.heap.size) :
    DelPost35 w p (a.map (·.block)) n xs i k (.returned (.slice a1 k c1)) (w2.setCell ⟨p, 0, none⟩ (.slice a2 (n - k) c2)) := by
  have hpl := blk_lt hp
  have hnew : ∀ g, a1.map (·.block) = some g → w.heap.size ≤ g := fun g hg => by
    rcases hf1 with hf1 | ⟨q, hq, hle⟩
    · rw [hg] at hf1; cases hf1
    · rw [hg] at hq; injection hq with hq; omega
  obtain ⟨r', hv, hk, hr⟩ := vecpost35 (hk1.heap hp (by simp)) hne h1 ho2 hk2 (.inl hf2)
  refine ⟨a1, c1, rfl, ?_, hnew, r', hv, (hk1.mono (by simp)).trans hk, ?_⟩
  · refine (Keep.setCell (S := [p]) w2 ⟨p, 0, none⟩ _ (by simp)).row (hk2.row ho1 ?_) ?_
    · intro g hg hm
      rw [own_block] at hg
      have := hnew g hg
      have := hal g (by simpa using hm)
      omega
    · intro g hg hm
      rw [own_block] at hg
      have := hnew g hg
      simp at hm
      omega
  · rcases hr with hr | ⟨q, hq, hle⟩
    · exact hr
    · obtain ⟨⟨a', c', hh, _, rfl⟩, _⟩ := hv
      have hh2 := setCell_heap (hk2.heap (hk1.heap hp (by simp)) (by intro hm; exact hne (by simpa using hm))) 0 (.slice a2 (n - k) c2)
      rw [hh2] at hh
      injection hh with hh
      injection hh with hh
      have := congrArg (fun x : Array Value => x[0]?) hh
      simp at this
      rw [← this.1, hf2]

set_option maxHeartbeats 2000000 in
theorem delete35 (p : Nat) (r : Option Nat) (n : Nat) (xs : List Value) (i k : Nat) (K : Int) (w : World) (h : Vec 65 29 2 w p r n xs) (hi : i < n) (hk1 : 1 ≤ K) (hk : (k : Int) = min K ((n : Int) - i)) (hbig : n * 16 ≤ 140737488355328) :
    Calls Try.prog 23 #[.pointer (some ⟨p, 0, none⟩), .int .i64 i, .int .i64 K] w (DelPost35 w p r n xs i k) := by
  have hk0 : 0 < k := by omega
  have hik : i + k ≤ n := by omega
  have hH := Lib.hid (has35_yes p r n xs i w h (by omega) (by omega))
  obtain ⟨⟨a, c, hp, ho, rfl⟩, h1, hne⟩ := h
  rcases ho.2 with ⟨_, h0⟩ | ⟨g, cap, cur, hv, _, hg, hnc, hcm, hcs, htk⟩
  · omega
  injection hv with hv1 hv2 hv3
  subst hv1 hv3
  have hpg : p ≠ g := fun hh => hne (by simp [hh])
  have hc : w.cell? ⟨p, 0, none⟩ = some (.slice (some ⟨g, 0, none⟩) n c) := by rw [blk_cell hp]; rfl
  have hxl := ho.1
  have hNK : (i + k) * 2 ≤ n * 2 := Nat.mul_le_mul_right _ hik
  have harg : ∀ ac, Arg w 2 (.slice (some ⟨g, i * 2, none⟩) k ac) k ((xs.drop (i * 2)).take (k * 2)) none := fun ac => by
    refine ⟨by rw [List.length_take, List.length_drop, hxl]; omega, fun x hx => h1 x (List.mem_of_mem_drop (List.mem_of_mem_take hx)), .inr ⟨hk0, g, i * 2, ac, rfl, fun j v hj => ?_, by simp⟩⟩
    rw [blk_cell hg]
    rw [List.getElem?_take] at hj
    split at hj
    · rw [List.getElem?_drop, ← htk, List.getElem?_take] at hj
      split at hj
      · simpa using hj
      · cases hj
    · cases hj
  have hC := Lib.hid (fun ac => clone35 (.slice (some ⟨g, i * 2, none⟩) k ac) k _ none w (harg ac) (Nat.le_trans (Nat.mul_le_mul_right _ (show k ≤ n by omega)) hbig))
  have hD := Lib.hid (fun (w1 : World) (ho1 : w1.ownsRow 0 29 2 (.slice (some ⟨g, 0, none⟩) n c) n xs) => sdel35 (some ⟨g, 0, none⟩) n c i k xs w1 ho1 h1 hk0 hik)
  have hone : Hid (∀ x ∈ xs.take (i * 2) ++ xs.drop ((i + k) * 2), x.oneCell' = true) := by
    intro x hx
    rw [List.mem_append] at hx
    rcases hx with hx | hx
    · exact h1 x (List.mem_of_mem_take hx)
    · exact h1 x (List.mem_of_mem_drop hx)
  have HP := Lib.hid hp
  have HN := Lib.hid hne
  have HO := Lib.hid ho
  have HK := Lib.hid hk
  unfold maxLen at hcm
  have hK1 : ¬ K < 1 := by omega
  have hsub : IntKind.i64.wrap ((n : Int) - (i : Int)) = (n : Int) - (i : Int) := by rw [IntKind.wrap_i64]; omega
  have hb1 : (0 : Int) ≤ (i : Int) + (k : Int) := by omega
  have hb2 : (i : Int) ≤ (i : Int) + (k : Int) := by omega
  have hb3 : (i : Int) + (k : Int) ≤ (c : Int) := by omega
  have hb4 : ¬ c = i := by omega
  have htn : ((i : Int) + (k : Int)).toNat = i + k := by omega
  have hsb : i + k - i = k := by omega
  have hgl := blk_lt hg
  by_cases hKn : K ≤ (n : Int) - (i : Int)
  · obtain rfl : K = (k : Int) := by omega
    clear hp hne ho hk hNK harg h1 hg hcs htk HK
    go_enter Try.func23, Try.ntmps23
    go_wp2_with (first | (go_at_call 33; refine hH.out.mono ?_; rintro e w1 ⟨rfl, rfl⟩) | (go_at_call 30; refine (hC.out _).mono ?_; rintro e w1 ⟨a1, c1, rfl, ho1, hk1', hf1⟩; have hc1 : w1.cell? ⟨p, 0, none⟩ = some (.slice (some ⟨g, 0, none⟩) n c) := hk1'.cell hc (by simp)) | (go_at_call 34; refine (hD.out _ (hk1'.row HO.out (by simp))).mono ?_; rintro e w2 ⟨a2, c2, rfl, ho2, hk2, hf2⟩; have HF2 := Lib.hid hf2; clear hf2; have hc2 : w2.cell? ⟨p, 0, none⟩ = some (.slice (some ⟨g, 0, none⟩) n c) := hk2.cell hc1 (by simpa using hpg); have hf3 : w2.frozen? ⟨p, 0, none⟩ = false := blk_frozen (hk2.heap (hk1'.heap HP.out (by simp)) (by simpa using hpg)) 0))
    go_ret
    exact delend35 HP.out HN.out hone.out ho1 hk1' hf1 ho2 hk2 HF2.out (fun g' hg' => by simp at hg'; subst hg'; exact hgl)
  · have hnk : (n : Int) - (i : Int) = (k : Int) := by omega
    have hlt : (k : Int) < K := by omega
    clear hp hne ho hk hNK harg h1 hg hcs htk HK hKn
    go_enter Try.func23, Try.ntmps23
    go_wp2_with (first | (go_at_call 33; refine hH.out.mono ?_; rintro e w1 ⟨rfl, rfl⟩) | (go_at_call 30; refine (hC.out _).mono ?_; rintro e w1 ⟨a1, c1, rfl, ho1, hk1', hf1⟩; have hc1 : w1.cell? ⟨p, 0, none⟩ = some (.slice (some ⟨g, 0, none⟩) n c) := hk1'.cell hc (by simp)) | (go_at_call 34; refine (hD.out _ (hk1'.row HO.out (by simp))).mono ?_; rintro e w2 ⟨a2, c2, rfl, ho2, hk2, hf2⟩; have HF2 := Lib.hid hf2; clear hf2; have hc2 : w2.cell? ⟨p, 0, none⟩ = some (.slice (some ⟨g, 0, none⟩) n c) := hk2.cell hc1 (by simpa using hpg); have hf3 : w2.frozen? ⟨p, 0, none⟩ = false := blk_frozen (hk2.heap (hk1'.heap HP.out (by simp)) (by simpa using hpg)) 0))
    go_ret
    exact delend35 HP.out HN.out hone.out ho1 hk1' hf1 ho2 hk2 HF2.out (fun g' hg' => by simp at hg'; subst hg'; exact hgl)
end Go.Proofs.Ytglbhabpenkpdaa
