/-
  JumpsBack for the reckoner: its table. Conditions: stated at each theorem.
-/
import Derived.Test.YtglbhabpenkpdaaMapK
set_option linter.unusedSimpArgs false
set_option linter.unusedVariables false
namespace Go.Proofs.Ytglbhabpenkpdaa.Sx
open Go.RowKit Go.Proofs.Ytglbhabpenkpdaa

/-- The rows: a row of bytes. -/
def rowB (ad : Option Addr) (c : Nat) (bs : List Int) : Nat → Row := fun _ => ⟨ad, bs.length, c, 1, fun k => [.int .u8 (bs.getD k 0)]⟩

noncomputable def tbB : Tab := { tbL [(3, Try.f3)] 0 with op := mapW }
theorem tbB_ok {L0 : List Nat} : TabOK Try.prog (famJ mapY) L0 tbB := (tbL_ok (List.forall_mem_cons.2 ⟨fn3_ok, fun _ h => by cases h⟩)).ops mapW mapW_ok
end Go.Proofs.Ytglbhabpenkpdaa.Sx
