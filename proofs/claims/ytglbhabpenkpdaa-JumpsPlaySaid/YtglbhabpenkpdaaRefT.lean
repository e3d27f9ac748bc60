/-
  The reference's methods for the reckoner: their table. Conditions: stated at each theorem.
-/
import Derived.Test.YtglbhabpenkpdaaShift
set_option linter.unusedSimpArgs false
set_option linter.unusedVariables false
namespace Go.Proofs.Ytglbhabpenkpdaa.Sx
open Go.RowKit Go.Proofs.Ytglbhabpenkpdaa
noncomputable def tbR (fs : List (Nat × Func)) : Tab := { tb with fn := fs, op := slotW }
theorem tbR_ok {L0 : List Nat} {fs : List (Nat × Func)} (hf : ∀ q, q ∈ fs → Try.prog.funcs[q.1]? = some q.2 ∧ q.2.body.isSome = true ∧ (q.2.name == "runtime.NumGoroutine") = false) : TabOK Try.prog (famJ slotY) L0 (tbR fs) := (tbok.fns fs hf).ops slotW slotW_ok
end Go.Proofs.Ytglbhabpenkpdaa.Sx
