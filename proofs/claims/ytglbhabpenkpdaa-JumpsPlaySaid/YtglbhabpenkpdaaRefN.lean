/-
  The reference's Newer. Conditions: stated at each theorem.
-/
import Derived.Test.YtglbhabpenkpdaaRefO
set_option linter.all false
namespace Go.Proofs.Ytglbhabpenkpdaa.Sx
open Go.RowKit Go.Proofs.Ytglbhabpenkpdaa

theorem rn_ev1 (qs : List (Int × Int)) (bt : Nat) (n : Int) : ev { tbR [(14, Try.f14)] with thaw := [(14, [(3, [5]), (4, [5]), (5, [5]), (6, [5])])] } noRows 400 [.c 14 [], .f 14 1 [] (some 0)] .normal ⟨41, argTmps 0 [.c (.one (.ptr 0 0)), iV .i64 n], [some ⟨[.os 1, .v (.int .i64 (bt : Nat))], 42⟩, none, none, none, none], ⟨[1, 2, 3, 4], 0, [], 0, ⟨0, [], [⟨1, false, .poss 35 29 qs⟩]⟩⟩⟩ =
  cond (decide (n < 1))
    (.leaf [] .normal ⟨1, [(0, .tup [.agg [.v (.int .i64 0), .v (.int .i64 0)], .one (.v (.bool false))])], [some ⟨[.os 1, .v (.int .i64 ((↑bt : Int)))], 42⟩, none, none, none, none, some ⟨[.v (.int .i64 0), .v (.int .i64 0)], 29⟩], ⟨[1, 2, 3, 4], 0, [], 0, ⟨0, ([]), [⟨1, false, .poss 35 29 (qs)⟩]⟩⟩⟩)
    (cond (decide (n ≥ IntKind.i64.wrap ((↑qs.length : Int) - (↑bt : Int))))
      (.leaf [] .normal ⟨1, [(0, .tup [.agg [.v (.int .i64 0), .v (.int .i64 0)], .one (.v (.bool false))])], [some ⟨[.os 1, .v (.int .i64 ((↑bt : Int)))], 42⟩, none, none, none, none, some ⟨[.v (.int .i64 0), .v (.int .i64 0)], 29⟩], ⟨[1, 2, 3, 4], 0, [], 0, ⟨0, ([]), [⟨1, false, .poss 35 29 (qs)⟩]⟩⟩⟩)
      (cond (decide (0 ≤ IntKind.i64.wrap ((↑bt : Int) + n) ∧ IntKind.i64.wrap ((↑bt : Int) + n) < (↑qs.length : Int)))
        (cond (decide ((IntKind.i64.wrap ((↑bt : Int) + n)).toNat < qs.length))
          (.leaf [] .normal ⟨1, [(0, .tup [.agg [.v (.int .i64 ((qs.getD (IntKind.i64.wrap ((↑bt : Int) + n)).toNat (0, 0)).fst)), .v (.int .i64 ((qs.getD (IntKind.i64.wrap ((↑bt : Int) + n)).toNat (0, 0)).snd))], .one (.v (.bool true))])], [some ⟨[.os 1, .v (.int .i64 (IntKind.i64.wrap ((↑bt : Int) + n)))], 42⟩, none, none, none, none, some ⟨[.v (.int .i64 ((qs.getD (IntKind.i64.wrap ((↑bt : Int) + n)).toNat (0, 0)).fst)), .v (.int .i64 ((qs.getD (IntKind.i64.wrap ((↑bt : Int) + n)).toNat (0, 0)).snd))], 29⟩], ⟨[1, 2, 3, 4], 0, [], 0, ⟨0, ([]), [⟨1, false, .poss 35 29 (qs)⟩]⟩⟩⟩)
          (.leaf [.d 14 [0, 1, 1, 1] 3 [true, true, true, true, true, true, true, true, true, false, false, false] [0], .c 14 [1, 1, 1, 1], .f 14 1 [] (some 0)] .normal ⟨41, [(39, .c (.one (.oe 1 ((IntKind.i64.wrap ((↑bt : Int) + n)).toNat) 2 0))), (38, .c (.one (.v (.int .i64 (IntKind.i64.wrap ((↑bt : Int) + n)))))), (37, .c (.one (.ptr 0 1))), (36, .c (.one (.ptr 0 0))), (35, .c (.one (.ptr 0 0))), (34, .c (.one (.os 1))), (33, .c (.one (.ptr 0 0))), (32, .c (.one (.ptr 0 0))), (31, .c (.one (.ptr 0 0))), (5, .c (.one (.v (.bool false)))), (4, .c (.one (.ptr 5 0))), (0, .c (.one (.ptr 0 0))), (1, .c (.one (.v (.int .i64 (n)))))], [some ⟨[.os 1, .v (.int .i64 (IntKind.i64.wrap ((↑bt : Int) + n)))], 42⟩, none, none, none, none, some ⟨[.v (.int .i64 0), .v (.int .i64 0)], 29⟩], ⟨[1, 2, 3, 4], 0, [], 0, ⟨0, ([]), [⟨1, false, .poss 35 29 (qs)⟩]⟩⟩⟩))
        (.leaf [.d 14 [0, 1, 1, 1] 4 [true, true, true, true, true, true, true, true, false, false, false, false] [0], .c 14 [1, 1, 1, 1], .f 14 1 [] (some 0)] .normal ⟨41, [(38, .c (.one (.v (.int .i64 (IntKind.i64.wrap ((↑bt : Int) + n)))))), (37, .c (.one (.ptr 0 1))), (36, .c (.one (.ptr 0 0))), (35, .c (.one (.ptr 0 0))), (34, .c (.one (.os 1))), (33, .c (.one (.ptr 0 0))), (32, .c (.one (.ptr 0 0))), (31, .c (.one (.ptr 0 0))), (5, .c (.one (.v (.bool false)))), (4, .c (.one (.ptr 5 0))), (0, .c (.one (.ptr 0 0))), (1, .c (.one (.v (.int .i64 (n)))))], [some ⟨[.os 1, .v (.int .i64 (IntKind.i64.wrap ((↑bt : Int) + n)))], 42⟩, none, none, none, none, some ⟨[.v (.int .i64 0), .v (.int .i64 0)], 29⟩], ⟨[1, 2, 3, 4], 0, [], 0, ⟨0, ([]), [⟨1, false, .poss 35 29 (qs)⟩]⟩⟩⟩))) := by kernel_rfl


def refB (J b : Nat) : List Nat := J :: (if b = 0 then [] else [b - 1])
def RPost (w : World) (J b : Nat) (own : Bool) (qs : List Pos) (bt : Int) (w' : World) : Prop := (∃ b' o' c', RJ w' J b' o' c' own qs bt ∧ (b' ≠ 0 → b' - 1 ∈ refB J b ∨ w.heap.size ≤ b' - 1)) ∧ Keep (refB J b) w w'

theorem refNewer (J b o c : Nat) (qs : List Pos) (bt : Nat) (n : Int) (w : World) (h : RJ w J b o c false qs bt) (hle : bt ≤ qs.length) (hl : qs.length ≤ 16) :
    Calls Try.prog 14 #[.pointer (some ⟨J, 0, none⟩), .int .i64 n] w fun e w' => e = .returned (.tuple #[posAgg (newerS qs bt n).1, .bool (newerS qs bt n).2.1]) ∧ RPost w J b false qs ((newerS qs bt n).2.2 : Nat) w' := by
  have key : Calls Try.prog 14 (([.c (.one (.ptr 0 0)), iV .i64 n] : List SV).map (SV.den noRows (refN J b o c qs.length))).toArray w (fun e w' => e = .returned (.tuple #[posAgg (newerS qs bt n).1, .bool (newerS qs bt n).2.1]) ∧ RPost w J b false qs ((newerS qs bt n).2.2 : Nat) w') := by
    refine calls_of_ev (Jt := fun _ _ _ => False) (X := famJ slotY) (gh := refG false qs) (w0 := ⟨w, refB J b⟩) (((tbR_ok (L0 := [J]) (fs := [(14, Try.f14)]) (List.forall_mem_cons.2 ⟨fn14_ok, fun _ h => by cases h⟩)).thaws [(14, [(3, [5]), (4, [5]), (5, [5]), (6, [5])])])) (f := 14) (fn := Try.f14) rfl (mem := refM bt) (ref_start h _ (by simp [refB]) (fun hb => by simp [refB, hb])) (by simp) (show 2 ≤ 41 by omega) (fun v hv => by simp at hv; rcases hv with rfl | rfl <;> exact (fun _ _ _ hh => by cases hh)) (n := 400) ?_
    rw [show Try.f14.ntmps = 41 from rfl, rn_ev1]
    have fin : ∀ (p : Pos) (f : Bool) (bt' : Nat) (bk : Blk), newerS qs bt n = (p, f, bt') → OutOK Try.prog { tbR [(14, Try.f14)] with thaw := [(14, [(3, [5]), (4, [5]), (5, [5]), (6, [5])])] } noRows (famJ slotY) (fun _ _ _ => False) (EndQ fun e w' => e = .returned (.tuple #[posAgg (newerS qs bt n).1, .bool (newerS qs bt n).2.1]) ∧ RPost w J b false qs ((newerS qs bt n).2.2 : Nat) w') [J] ⟨w, refB J b⟩ (.leaf [] .normal ⟨1, [(0, .tup [.agg [.v (.int .i64 p.1), .v (.int .i64 p.2)], .one (.v (.bool f))])], [some ⟨[.os 1, .v (.int .i64 (bt' : Nat))], 42⟩, none, none, none, none, some bk], refG false qs⟩) := fun p f bt' bk he =>
      leaf_end fun σ w' hm => by
        rw [he]
        obtain ⟨g1, g2⟩ := ref_done hm rfl
        obtain ⟨x, hm⟩ := hm
        exact ⟨rfl, ⟨_, _, _, g1, g2⟩, hm.mok.keep⟩
    have ew : IntKind.i64.wrap ((qs.length : Int) - (bt : Int)) = (qs.length : Int) - bt := wrap_small (by omega) (by omega)
    rw [ew]
    refine OutOK_cond.2 ⟨fun h1 => ?_, fun h1 => OutOK_cond.2 ⟨fun h2 => ?_, fun h2 => ?_⟩⟩
    · have := of_decide_eq_true h1
      exact fin (0, 0) false bt _ (by unfold newerS; rw [if_neg (by omega)])
    · have := of_decide_eq_true h2
      exact fin (0, 0) false bt _ (by unfold newerS; rw [if_neg (by omega)])
    · have h1 := of_decide_eq_false h1
      have h2 := of_decide_eq_false h2
      have e2 : IntKind.i64.wrap ((bt : Int) + n) = ((bt + n.toNat : Nat) : Int) := by rw [wrap_small (by omega) (by omega)]; omega
      rw [e2]
      refine ok_t (decide_eq_true (by omega)) (ok_t (decide_eq_true (by omega)) ?_)
      simp only [Int.toNat_natCast]
      exact fin _ true (bt + n.toNat) _ (by unfold newerS; rw [if_pos (by omega)])
  exact key
end Go.Proofs.Ytglbhabpenkpdaa.Sx
