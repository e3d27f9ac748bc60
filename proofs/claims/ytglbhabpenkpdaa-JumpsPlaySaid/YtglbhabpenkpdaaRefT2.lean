/-
  The reference's methods: words on Push; tables. Conditions: stated at each theorem.
-/
import Derived.Test.YtglbhabpenkpdaaRefS
set_option linter.all false
namespace Go.Proofs.Ytglbhabpenkpdaa.Sx
open Go.RowKit Go.Proofs.Ytglbhabpenkpdaa
def pushF : RefF := fun args qs _ => match args with
  | [.c (.agg [.v (.int .i64 z), .v (.int .i64 y)])] => some (.tup [], pushL qs (z, y), (pushL qs (z, y)).length)
  | _ => none
theorem pushF_ok {L0 : List Nat} (i : Nat) : CallOK Try.prog (famJ slotY) L0 12 (refW i pushF) := by
  refine refW_ok i pushF fn12_ok fun args qs bt r qs' bt' h => ?_
  unfold pushF at h
  split at h
  · rename_i z y
    injection h with h
    injection h with h1 h
    injection h with h2 h3
    subst h1 h2 h3
    refine ⟨fun q k off hh => (by cases hh), fun E σ => ⟨fun _ => rfl, fun J b o c w hr hl _ => ?_⟩⟩
    exact refPush J b o c qs bt (z, y) w hr hl
  · cases h
noncomputable def tbR2 : Tab := { tb with fn := [(13, Try.f13)], op := slotW, call := [(12, refW 0 pushF)], thaw := [(13, [(7, [6])])] }
theorem tbR2_ok {L0 : List Nat} : TabOK Try.prog (famJ slotY) L0 tbR2 :=
  (((tbok.fns [(13, Try.f13)] (List.forall_mem_cons.2 ⟨fn13_ok, fun _ h => by cases h⟩)).ops slotW slotW_ok).calls [(12, refW 0 pushF)] (List.forall_mem_cons.2 ⟨pushF_ok 0, fun _ h => by cases h⟩)).thaws _
def shiftF : List SV → List (Option Blk) → Option SV := fun args _ => match args with
  | [.c (.one (.v (.int .i64 l))), .c (.one (.v (.int .i64 a))), .c (.one (.v (.int .i64 o))), .c (.one (.v (.int .i64 n)))] => some (.tup [.one (.v (.int .i64 (shiftS l a o n).1)), .one (.v (.bool (shiftS l a o n).2))])
  | _ => none
theorem shiftF_ok {L0 : List Nat} {X : Fam} : CallOK Try.prog X L0 29 (pureW shiftF) := by
  refine pureW_ok ⟨_, fn29_ok.1, fn29_ok.2.1, fn29_ok.2.2, fun args mem r hr => ?_⟩
  unfold shiftF at hr
  split at hr
  · rename_i l a o n
    injection hr with hr
    subst hr
    exact ⟨fun q k off hh => (by cases hh), fun E σ w _ _ _ _ _ _ _ _ => shift29 l a o n w⟩
  · cases hr
noncomputable def tbR3 : Tab := { tb with fn := [(16, Try.f16)], op := slotW, call := [(29, pureW shiftF)] }
theorem tbR3_ok {L0 : List Nat} : TabOK Try.prog (famJ slotY) L0 tbR3 :=
  (((tbok.fns [(16, Try.f16)] (List.forall_mem_cons.2 ⟨fn16_ok, fun _ h => by cases h⟩)).ops slotW slotW_ok).calls [(29, pureW shiftF)] (List.forall_mem_cons.2 ⟨shiftF_ok, fun _ h => by cases h⟩))
end Go.Proofs.Ytglbhabpenkpdaa.Sx
