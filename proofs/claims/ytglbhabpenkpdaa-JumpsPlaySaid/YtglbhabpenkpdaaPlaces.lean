/-
  Places: whether two rows of places are alike. Conditions: stated at each theorem.
-/
import Derived.Test.YtglbhabpenkpdaaPlT
import Derived.Test.YtglbhabpenkpdaaManyW
set_option linter.all false
namespace Go.Proofs.Ytglbhabpenkpdaa.Sx
open Go.RowKit Go.Proofs.Ytglbhabpenkpdaa

abbrev plS (i : Nat) : St := ⟨26, [(5, .c (.one (.v (.int .i64 (i : Nat))))), (4, .c (.one (.v (.bool false)))), (0, .c (.one (.row 0))), (1, .c (.one (.row 1)))], [], gh0⟩

theorem pl_ev1 (a1 : Option Addr) (c1 : Nat) (ps : List (Int × Int)) (a2 : Option Addr) (c2 : Nat) (qs : List (Int × Int)) : ev tbP (rowsP a1 c1 ps a2 c2 qs) 400 [.c 17 [], .f 17 1 [] (some 0)] .normal ⟨26, argTmps 0 [.c (.one (.row 0)), .c (.one (.row 1))], [], gh0⟩ =
  cond ((↑ps.length : Int) != (↑qs.length : Int))
    (.leaf [] .normal ⟨1, [(0, .c (.one (.v (.bool false))))], [], ⟨[], 0, [], 0, ⟨0, ([]), []⟩⟩⟩)
    (.leaf [.c 17 [0, 1, 0, 1, 1], .b 0, .c 17 [1, 1, 1], .f 17 1 [] (some 0)] .normal (plS 0)) := by kernel_rfl

theorem pl_ev2 (a1 : Option Addr) (c1 : Nat) (ps : List (Int × Int)) (a2 : Option Addr) (c2 : Nat) (qs : List (Int × Int)) (i : Nat) : ev tbP (rowsP a1 c1 ps a2 c2 qs) 400 [.c 17 [0, 0, 1, 0, 1, 1], .j 0, .b 0, .c 17 [1, 1, 1], .f 17 1 [] (some 0)] .normal (plS i) =
  cond (decide ((↑i : Int) < (↑ps.length : Int)))
    (cond (decide (0 ≤ (↑i : Int) ∧ (↑i : Int) < (↑ps.length : Int)))
      (cond (decide (0 ≤ (↑i : Int) ∧ (↑i : Int) < (↑qs.length : Int)))
        (cond (!((ps.getD (↑i : Int).toNat (0, 0)).fst == (qs.getD (↑i : Int).toNat (0, 0)).fst &&     ((ps.getD (↑i : Int).toNat (0, 0)).snd == (qs.getD (↑i : Int).toNat (0, 0)).snd && true)))
          (.leaf [] .normal ⟨1, [(0, .c (.one (.v (.bool false))))], [], ⟨[], 0, [], 0, ⟨0, ([]), []⟩⟩⟩)
          (.leaf [.j 0, .b 0, .c 17 [1, 1, 1], .f 17 1 [] (some 0)] .normal ⟨26, [(5, .c (.one (.v (.int .i64 (IntKind.i64.wrap ((↑i : Int) + 1)))))), (16, .c (.one (.v (.int .i64 (IntKind.i64.wrap ((↑i : Int) + 1)))))), (15, .c (.one (.v (.int .i64 ((↑i : Int)))))), (4, .c (.one (.v (.bool false)))), (0, .c (.one (.row 0))), (1, .c (.one (.row 1)))], [], ⟨[], 0, [], 0, ⟨0, ([]), []⟩⟩⟩))
        (.leaf [.d 17 [0, 0, 0, 1, 0, 0, 1, 0, 1, 1] 3 [true, true, true, true, true, true, false, false, false] [], .c 17 [1, 0, 0, 1, 0, 0, 1, 0, 1, 1], .b 1, .c 17 [1, 1, 0, 0, 1, 0, 1, 1], .j 0, .b 0, .c 17 [1, 1, 1], .f 17 1 [] (some 0)] .normal ⟨26, [(22, .c (.one (.v (.int .i64 ((↑i : Int)))))), (21, .c (.one (.row 1))), (20, .c (.agg [.v (.int .i64 ((ps.getD (↑i : Int).toNat (0, 0)).fst)), .v (.int .i64 ((ps.getD (↑i : Int).toNat (0, 0)).snd))])), (19, .c (.one (.ep 0 ((↑i : Int).toNat) 0))), (18, .c (.one (.v (.int .i64 ((↑i : Int)))))), (17, .c (.one (.row 0))), (5, .c (.one (.v (.int .i64 ((↑i : Int)))))), (4, .c (.one (.v (.bool false)))), (0, .c (.one (.row 0))), (1, .c (.one (.row 1)))], [], ⟨[], 0, [], 0, ⟨0, ([]), []⟩⟩⟩))
      (.leaf [.d 17 [0, 0, 0, 1, 0, 0, 1, 0, 1, 1] 7 [true, true, false, false, false, false, false, false, false] [], .c 17 [1, 0, 0, 1, 0, 0, 1, 0, 1, 1], .b 1, .c 17 [1, 1, 0, 0, 1, 0, 1, 1], .j 0, .b 0, .c 17 [1, 1, 1], .f 17 1 [] (some 0)] .normal ⟨26, [(18, .c (.one (.v (.int .i64 ((↑i : Int)))))), (17, .c (.one (.row 0))), (5, .c (.one (.v (.int .i64 ((↑i : Int)))))), (4, .c (.one (.v (.bool false)))), (0, .c (.one (.row 0))), (1, .c (.one (.row 1)))], [], ⟨[], 0, [], 0, ⟨0, ([]), []⟩⟩⟩))
    (.leaf [] .normal ⟨1, [(0, .c (.one (.v (.bool true))))], [], ⟨[], 0, [], 0, ⟨0, ([]), []⟩⟩⟩) := by kernel_rfl


theorem rowP_ok {w : World} {a : Option Addr} {c : Nat} {ps : List Pos} (h : Arg w 2 (.slice a ps.length c) ps.length (posV ps) none) (hc : ps.length ≤ c) : RowOK w [] (rowP a c ps) := by
  refine ⟨fun hn => ?_, fun k hk => rfl, hc⟩
  rcases h.2.2 with ⟨h0, _⟩ | ⟨_, b, off, c', hu, hcell, _⟩
  · have : 0 < ps.length := hn
    omega
  · injection hu with h1 h2 h3
    subst h1
    have hc0 : ∀ k, k < ps.length → w.cell? ⟨b, off + k * 2, none⟩ = some (.int .i64 (ps.getD k (0, 0)).1) := fun k hk => hcell (k * 2) _ (by rw [posV_get0]; simp [List.getElem?_eq_getElem hk, List.getD_eq_getElem?_getD])
    have hc1 : ∀ k, k < ps.length → w.cell? ⟨b, off + (k * 2 + 1), none⟩ = some (.int .i64 (ps.getD k (0, 0)).2) := fun k hk => hcell (k * 2 + 1) _ (by rw [posV_get1]; simp [List.getElem?_eq_getElem hk, List.getD_eq_getElem?_getD])
    refine ⟨b, off, rfl, ?_, by simp, fun k hk j hj => ?_⟩
    · have := hc0 0 hn
      unfold World.cell? at this
      cases hb : w.heap[b]? with
      | none => simp [hb] at this
      | some o => exact (Array.getElem?_eq_some_iff.1 hb).1
    · have hj : j < 2 := hj
      have hj : j = 0 ∨ j = 1 := by omega
      rcases hj with rfl | rfl
      · exact (hc0 k hk).trans rfl
      · exact (hc1 k hk).trans rfl

theorem places17 (a1 : Option Addr) (c1 : Nat) (ps : List Pos) (a2 : Option Addr) (c2 : Nat) (qs : List Pos) (w : World) (h1 : RowOK w [] (rowP a1 c1 ps)) (h2 : RowOK w [] (rowP a2 c2 qs)) (hsm : ps.length ≤ 1000000) :
    Calls Try.prog 17 #[.slice a1 ps.length c1, .slice a2 qs.length c2] w fun e w' => e = .returned (.bool (decide (ps = qs))) ∧ Keep [] w w' := by
  have key : Calls Try.prog 17 (([.c (.one (.row 0)), .c (.one (.row 1))] : List SV).map (SV.den (rowsP a1 c1 ps a2 c2 qs) (fun i => ([] : List Nat).getD i 0))).toArray w (fun e w' => e = .returned (.bool (decide (ps = qs))) ∧ Keep [] w w') := by
    refine calls_of_ev (Jt := fun _ _ _ => False) (X := famJ noY) (gh := gh0) (w0 := ⟨w, []⟩) (tbP_ok (L0 := [])) (f := 17) (fn := Try.f17) rfl (mem := []) ⟨_, ⟨Ext.nil, rfl, rfl⟩, fun i hi => (by cases hi), fun b hb => (by cases hb), mok_start rfl (by simp) (fun b hb => by cases hb) (fun b hb => by cases hb) (fun r => by
      match r with
      | 0 => exact h1
      | r + 1 => exact h2) ⟨trivial, trivial⟩ (fun b hb => by cases hb) (fun i b hi => by simp at hi) (fun i b hi => by simp at hi)⟩ (Nat.le_refl 0) (show 2 ≤ 26 by omega) (fun v hv => by simp at hv; rcases hv with rfl | rfl <;> exact (fun _ _ _ hh => by cases hh)) (n := 400) ?_
    rw [show Try.f17.ntmps = 26 from rfl, pl_ev1]
    have fin : ∀ (Jt : Nat → Act → World → Prop) (b : Bool) (mem : List (Option Blk)) (gh : Gh), b = decide (ps = qs) → OutOK Try.prog tbP (rowsP a1 c1 ps a2 c2 qs) (famJ noY) Jt (EndQ fun e w' => e = .returned (.bool (decide (ps = qs))) ∧ Keep [] w w') [] ⟨w, []⟩ (.leaf [] .normal ⟨1, [(0, .c (.one (.v (.bool b))))], mem, gh⟩) := fun Jt b mem gh hb =>
      leaf_end fun σ w' hm => by
        obtain ⟨x, hm⟩ := hm
        subst hb
        exact ⟨rfl, hm.mok.keep⟩
    refine OutOK_cond.2 ⟨fun hne => fin _ _ _ _ ?_, fun heq => ?_⟩
    · symm
      apply decide_eq_false
      rintro rfl
      simp at hne
    have hl : ps.length = qs.length := by have := heq; simp at this; omega
    refine at_loop (by kernel_rfl) 0 (by kernel_rfl) (by kernel_rfl) (α := { i : Nat // i ≤ ps.length ∧ ps.take i = qs.take i }) (fun i => plS i.1) (fun _ => famJ noY) (fun _ => tbP) (fun _ => rfl) (fun i => ps.length - i.1) ?_ ⟨0, Nat.zero_le _, rfl⟩
    rintro ⟨i, hi, htk⟩ J hJ
    refine ev_sound tbP_ok endQ_panic 400 _ _ _ ?_
    show OutOK _ _ _ _ _ _ _ _ (ev tbP (rowsP a1 c1 ps a2 c2 qs) 400 [.c 17 [0, 0, 1, 0, 1, 1], .j 0, .b 0, .c 17 [1, 1, 1], .f 17 1 [] (some 0)] .normal (plS i))
    rw [pl_ev2]
    refine OutOK_cond.2 ⟨fun hlt => ?_, fun hge => ?_⟩
    · have hlt : i < ps.length := by have := of_decide_eq_true hlt; omega
      have e1 : IntKind.i64.wrap ((i : Int) + 1) = ((i + 1 : Nat) : Int) := by rw [wrap_small (by omega) (by omega)]; omega
      refine ok_t (decide_eq_true (by omega)) (ok_t (decide_eq_true (by omega)) ?_)
      rw [e1]
      simp only [Int.toNat_natCast]
      have hlt2 : i < qs.length := by omega
      have g1 : ps.getD i (0, 0) = ps[i] := by simp [List.getD_eq_getElem?_getD, List.getElem?_eq_getElem hlt]
      have g2 : qs.getD i (0, 0) = qs[i] := by simp [List.getD_eq_getElem?_getD, List.getElem?_eq_getElem hlt2]
      rw [g1, g2]
      refine OutOK_cond.2 ⟨fun hne => fin _ _ _ _ ?_, fun heq => ?_⟩
      · symm
        apply decide_eq_false
        rintro rfl
        simp at hne
      · have he : ps[i] = qs[i] := by
          simp at heq
          exact Prod.ext heq.1 heq.2
        refine safe_jj fun σ a w1 hc => hJ ⟨i + 1, hlt, by rw [List.take_succ_eq_append_getElem hlt, List.take_succ_eq_append_getElem hlt2, htk, he]⟩ (by show ps.length - (i + 1) < ps.length - i; omega) σ a w1 ?_
        exact hc.less (tmps := (plS (i + 1)).tmps) (fun q hq => by simp only [plS, List.mem_cons, List.not_mem_nil, or_false] at hq ⊢; rcases hq with h | h | h | h <;> simp [h])
    · have hi' : i = ps.length := by have := of_decide_eq_false hge; omega
      refine fin _ _ _ _ ?_
      symm
      apply decide_eq_true
      rw [List.take_of_length_le (by omega), List.take_of_length_le (by omega)] at htk
      exact htk
  exact key
end Go.Proofs.Ytglbhabpenkpdaa.Sx
