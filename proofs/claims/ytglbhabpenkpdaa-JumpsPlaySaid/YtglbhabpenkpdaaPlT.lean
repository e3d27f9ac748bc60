/-
  Places for the reckoner: rows of places that are only read. Conditions: stated at each theorem.
-/
import Derived.Test.YtglbhabpenkpdaaManyT
set_option linter.unusedSimpArgs false
set_option linter.unusedVariables false
namespace Go.Proofs.Ytglbhabpenkpdaa.Sx
open Go.RowKit Go.Proofs.Ytglbhabpenkpdaa
def rowP (ad : Option Addr) (c : Nat) (ps : List Pos) : Row := ⟨ad, ps.length, c, 2, fun k => [.int .i64 (ps.getD k (0, 0)).1, .int .i64 (ps.getD k (0, 0)).2]⟩
def rowsP (a1 : Option Addr) (c1 : Nat) (ps : List Pos) (a2 : Option Addr) (c2 : Nat) (qs : List Pos) : Nat → Row := fun r => match r with | 0 => rowP a1 c1 ps | _ => rowP a2 c2 qs
noncomputable def tbP : Tab := { tb with fn := [(17, Try.f17)] }
theorem tbP_ok {X : Fam} {L0 : List Nat} : TabOK Try.prog X L0 tbP := tbok.fns [(17, Try.f17)] (List.forall_mem_cons.2 ⟨fn17_ok, fun _ h => by cases h⟩)
end Go.Proofs.Ytglbhabpenkpdaa.Sx
