/-
  JumpsMany for the reckoner: its table. Conditions: stated at each theorem.
-/
import Derived.Test.YtglbhabpenkpdaaSlotN
import Derived.Test.YtglbhabpenkpdaaBackT
set_option linter.unusedSimpArgs false
set_option linter.unusedVariables false
namespace Go.Proofs.Ytglbhabpenkpdaa.Sx
open Go.RowKit Go.Proofs.Ytglbhabpenkpdaa

noncomputable def tbM : Tab := { tb with fn := [(4, Try.f4)], call := [(6, pureW knownW), (7, newW), (8, pushW 0), (11, allS 0)], op := slotW }
theorem tbM_ok {L0 : List Nat} : TabOK Try.prog (famJ slotY) L0 tbM :=
  ((tbok.fns [(4, Try.f4)] (List.forall_mem_cons.2 ⟨fn4_ok, fun _ h => by cases h⟩)).calls _ (List.forall_mem_cons.2 ⟨knownW_ok, List.forall_mem_cons.2 ⟨newW_ok, List.forall_mem_cons.2 ⟨pushW_ok 0, List.forall_mem_cons.2 ⟨allS_ok 0, fun _ h => by cases h⟩⟩⟩⟩)).ops slotW slotW_ok
end Go.Proofs.Ytglbhabpenkpdaa.Sx
