/-
  JumpsPlay answers true. Conditions: stated at each theorem.
-/
import Derived.Test.YtglbhabpenkpdaaPlayE
set_option linter.all false
namespace Go.Proofs.Ytglbhabpenkpdaa.Sx
open Go.RowKit Go.Proofs.Ytglbhabpenkpdaa
set_option maxHeartbeats 4000000
set_option maxRecDepth 100000

abbrev pyS (qs : List Pos) (bt i : Nat) : St := ⟨157, [(0, .c (.one (.row 0))), (2, .c (.one (.v (.bool false)))), (3, .c (.one (.ptr 0 0))), (4, .c (.one (.ptr 1 0))), (5, .c (.one (.v (.int .i64 (i : Nat)))))], [none, some ⟨[.os 2, .v (.int .i64 (bt : Nat))], 42⟩, none, none, none, none], ⟨[0, 2, 3, 4, 5], 1, qs, bt, ⟨0, [], [⟨2, false, .poss 35 29 qs⟩]⟩⟩⟩

theorem play5 (ad : Option Addr) (c n : Nat) (f : Nat → Act7) (w : World) (hrow : RowOK w [] (rowY ad c n f 0)) :
    Calls Try.prog 5 #[.slice ad n c] w fun e w' => e = .returned (.bool true) ∧ Keep [] w w' := by
  have key : Calls Try.prog 5 (([.c (.one (.row 0))] : List SV).map (SV.den (rowY ad c n f) (fun i => ([] : List Nat).getD i 0))).toArray w (fun e w' => e = .returned (.bool true) ∧ Keep [] w w') := by
    refine calls_of_ev (Jt := fun _ _ _ => False) (X := famJ slotY) (gh := gh0) (w0 := ⟨w, []⟩) (tbY_ok (L0 := [])) (f := 5) (fn := Try.f5) rfl (mem := []) ⟨_, ⟨_, rfl, rfl, fun q hq => (by cases hq), List.Pairwise.nil⟩, fun i hi => (by cases hi), fun b hb => (by cases hb), mok_start rfl (by simp) (fun b hb => by cases hb) (fun b hb => by cases hb) (fun r => hrow) ⟨trivial, fun q hq => by cases hq⟩ (fun b hb => by cases hb) (fun i b hi => by simp at hi) (fun i b hi => by simp at hi)⟩ (Nat.le_refl 0) (show 1 ≤ 157 by omega) (fun v hv => by simp at hv; subst hv; exact (fun _ _ _ hh => by cases hh)) (n := 400) ?_
    rw [show Try.f5.ntmps = 157 from rfl, py_ev1 ad c n f]
    have fin : ∀ (Jt : Nat → Act → World → Prop) (mem : List (Option Blk)) (gh : Gh), OutOK Try.prog tbY (rowY ad c n f) (famJ slotY) Jt (EndQ fun e w' => e = .returned (.bool true) ∧ Keep [] w w') [] ⟨w, []⟩ (.leaf [] .normal ⟨1, [(0, .c (.one (.v (.bool true))))], mem, gh⟩) := fun Jt mem gh =>
      leaf_end fun σ w' hm => by
        obtain ⟨x, hm⟩ := hm
        exact ⟨rfl, hm.mok.keep⟩
    refine OutOK_cond.2 ⟨fun _ => fin _ _ _, fun hlen => ?_⟩
    have hlen : n ≤ 60 := by have := of_decide_eq_false hlen; omega
    refine safe_ren [some 0, some 1, none, none, none, none] (pyS [] 0 0) (by kernel_rfl) ⟨rfl, ⟨by kernel_rfl, by kernel_rfl⟩, ⟨by kernel_rfl, by kernel_rfl, by kernel_rfl⟩, ⟨by kernel_rfl, by kernel_rfl, by kernel_rfl⟩, ⟨rfl, rfl, rfl⟩, ⟨rfl, by kernel_rfl⟩, ⟨rfl, by kernel_rfl, by kernel_rfl⟩, by kernel_rfl, by kernel_rfl⟩ (fun q hq => by simp at hq; subst hq; exact posT' _) ?_
    refine at_loop (by kernel_rfl) 0 (by kernel_rfl) (by kernel_rfl) (α := { k : Nat × List Pos × Nat // k.1 ≤ n ∧ k.2.2 ≤ k.2.1.length ∧ k.2.1.length ≤ 16 }) (fun k => pyS k.1.2.1 k.1.2.2 k.1.1) (fun _ => famJ slotY) (fun _ => tbY) (fun _ => rfl) (fun k => n - k.1.1) ?_ ⟨(0, [], 0), Nat.zero_le _, Nat.le_refl _, by simp⟩
    rintro ⟨⟨i, qs, bt⟩, hi, hb, hq⟩ J hJ
    refine ev_sound tbY_ok endQ_panic 400 _ _ _ ?_
    show OutOK _ _ _ _ _ _ _ _ (ev tbY (rowY ad c n f) 400 [.c 5 [0, 0, 1, 0, 1, 1, 1, 1], .j 0, .b 0, .c 5 [1, 1, 1, 1, 1], .f 5 1 [] (some 0)] .normal (pyS qs bt i))
    rw [py_ev2]
    simp only at hi hb hq
    refine OutOK_cond.2 ⟨fun hlt => ?_, fun hge => fin _ _ _⟩
    have hlt : i < n := by have := of_decide_eq_true hlt; omega
    have e1 : IntKind.i64.wrap ((i : Int) + 1) = ((i + 1 : Nat) : Int) := by rw [wrap_small (by omega) (by omega)]; omega
    refine ok_t (decide_eq_true (by omega)) ?_
    have t0 : decide (qs.length ≤ 16 ∧ 0 ≤ (bt : Int) ∧ (bt : Int) ≤ (qs.length : Int)) = true := decide_eq_true (by omega)
    have no : ∀ l : List Pos, l.length ≤ 16 → decide ((l.length : Int) > 16) = false := fun l h => decide_eq_false (by omega)
    have cl : ∀ (j : Nat) (qs' : List Pos) (bt' : Nat), bt' ≤ qs'.length → qs'.length ≤ 16 → ∀ st, StRen [] [some 0, some 1, some j, some (j + 1), some (j + 2), some (j + 3)] st (pyS qs' bt' (i + 1)) → Safe Try.prog tbY (rowY ad c n f) (famJ slotY) (updJ (fun _ _ _ => False) 0 J) (EndQ fun e w' => e = .returned (.bool true) ∧ Keep [] w w') [] ⟨w, []⟩ [.j 0, .b 0, .c 5 [1, 1, 1, 1, 1], .f 5 1 [] (some 0)] .normal st := fun j qs' bt' h1 h2 st hst =>
      safe_jj fun σ a w1 hc => hJ ⟨(i + 1, qs', bt'), hlt, h1, h2⟩ (by show n - (i + 1) < n - i; omega) _ a w1 (conc_ren hc hst (fun q hq => by simp at hq; subst hq; exact posT' _))
    simp only [Int.toNat_natCast, t0, cond_true, e1, decide_true, Bool.not_true, cond_false, bne_self_eq_false, beq_self_eq_true, Bool.and_self, Bool.and_true]
    have hpu : ∀ q, (pushL qs q).length ≤ (pushL qs q).length ∧ (pushL qs q).length ≤ 16 := fun q => ⟨Nat.le_refl _, (pushL_len qs q hq).2⟩
    have hol := fun q k => olderS_ok qs bt q k hb hq
    have hnw : ∀ k, (newerS qs bt k).2.2 ≤ qs.length := fun k => newerS_ok qs bt k hb
    have had : ∀ a o k, adjAt qs bt a o k ≤ (adjL qs a o k).length ∧ (adjL qs a o k).length ≤ 16 := fun a o k => ⟨adjAt_le qs bt a o k, Nat.le_trans (adjL_len qs a o k) hq⟩
    simp only [no _ (hpu _).2, no _ (hol _ _).2, no _ hq, no _ (had _ _ _).2, cond_false]
    refine OutOK_cond.2 ⟨fun _ => ?_, fun _ => ?_⟩ <;> refine OutOK_cond.2 ⟨fun _ => ?_, fun _ => OutOK_cond.2 ⟨fun _ => ?_, fun _ => OutOK_cond.2 ⟨fun _ => ?_, fun _ => OutOK_cond.2 ⟨fun _ => ?_, fun _ => ?_⟩⟩⟩⟩
    all_goals first
      | exact cl 8 _ _ (hpu _).1 (hpu _).2 _ ⟨rfl, ⟨by kernel_rfl, by kernel_rfl⟩, ⟨by kernel_rfl, by kernel_rfl, by kernel_rfl⟩, ⟨by kernel_rfl, by kernel_rfl, by kernel_rfl⟩, ⟨rfl, rfl, rfl⟩, ⟨rfl, by kernel_rfl⟩, ⟨rfl, by kernel_rfl, by kernel_rfl⟩, by kernel_rfl, by kernel_rfl⟩
      | exact cl 9 _ _ (hol _ _).1 (hol _ _).2 _ ⟨rfl, ⟨by kernel_rfl, by kernel_rfl⟩, ⟨by kernel_rfl, by kernel_rfl, by kernel_rfl⟩, ⟨by kernel_rfl, by kernel_rfl, by kernel_rfl⟩, ⟨rfl, rfl, rfl⟩, ⟨rfl, by kernel_rfl⟩, ⟨rfl, by kernel_rfl, by kernel_rfl⟩, by kernel_rfl, by kernel_rfl⟩
      | exact cl 9 _ _ (hnw _) hq _ ⟨rfl, ⟨by kernel_rfl, by kernel_rfl⟩, ⟨by kernel_rfl, by kernel_rfl, by kernel_rfl⟩, ⟨by kernel_rfl, by kernel_rfl, by kernel_rfl⟩, ⟨rfl, rfl, rfl⟩, ⟨rfl, by kernel_rfl⟩, ⟨rfl, by kernel_rfl, by kernel_rfl⟩, by kernel_rfl, by kernel_rfl⟩
      | exact cl 8 _ _ (had _ _ _).1 (had _ _ _).2 _ ⟨rfl, ⟨by kernel_rfl, by kernel_rfl⟩, ⟨by kernel_rfl, by kernel_rfl, by kernel_rfl⟩, ⟨by kernel_rfl, by kernel_rfl, by kernel_rfl⟩, ⟨rfl, rfl, rfl⟩, ⟨rfl, by kernel_rfl⟩, ⟨rfl, by kernel_rfl, by kernel_rfl⟩, by kernel_rfl, by kernel_rfl⟩
  exact key
end Go.Proofs.Ytglbhabpenkpdaa.Sx
