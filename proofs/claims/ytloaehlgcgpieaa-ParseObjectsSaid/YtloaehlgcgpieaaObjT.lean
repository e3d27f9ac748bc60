/-
  The laws' second table. Conditions: stated at each theorem.
-/
import Derived.Test.YtloaehlgcgpieaaKnown
set_option linter.all false
namespace Go.Proofs.Ytloaehlgcgpieaa.Sx
open Go.RowKit Go.Proofs.Ytloaehlgcgpieaa
noncomputable def fnsO : List (Nat × Func) := [(8, Try.f8), (7, Try.f7), (9, Try.f9)]
theorem fnsO_ok : ∀ q, q ∈ fnsO → Try.prog.funcs[q.1]? = some q.2 ∧ q.2.body.isSome = true ∧ (q.2.name == "runtime.NumGoroutine") = false := List.forall_mem_cons.2 ⟨fn8_ok, List.forall_mem_cons.2 ⟨fn7_ok, List.forall_mem_cons.2 ⟨fn9_ok, fun _ h => by cases h⟩⟩⟩
noncomputable def callsO (ψ : FedFn) : List (Nat × (List SV → List (Option Blk) → Gh → Option CRR)) := [(11, pureW knownW), (24, slF (fedF ψ))]
theorem callsO_ok {L0 : List Nat} : ∀ q, q ∈ callsO fedS → CallOK Try.prog famB L0 q.1 q.2 := List.forall_mem_cons.2 ⟨c11, List.forall_mem_cons.2 ⟨c24 rfl, fun _ h => by cases h⟩⟩
noncomputable def tbO (ψ : FedFn) : Tab := { tb with fn := fnsO, op := slotW, call := callsO ψ }
theorem tbO_ok {L0 : List Nat} : TabOK Try.prog famB L0 (tbO fedS) := ((tbok.fns fnsO fnsO_ok).ops slotW slotW_ok).calls (callsO fedS) callsO_ok
/-- The same, that stops where keys are fed. -/
noncomputable def tbN : Tab := { tb with fn := fnsO, op := slotW, call := [(11, pureW knownW)] }
theorem tbN_ok {L0 : List Nat} : TabOK Try.prog famB L0 tbN := ((tbok.fns fnsO fnsO_ok).ops slotW slotW_ok).calls [(11, pureW knownW)] (List.forall_mem_cons.2 ⟨c11, fun _ h => by cases h⟩)
abbrev obK : List It := [.o 8 [0, 1, 1, 1, 1, 1, 1, 1] [2, 3, 4, 5, 6, 7, 8], .c 8 [1, 1, 1, 1, 1, 1, 1, 1], .f 8 1 [] (some 0)]
abbrev obS (c : Int) (a v : Bool) (o A : Int) (op nm : ByteArray) (ks : List Int) : St := ⟨86, [(0, iV .u8 c), (1, .c (.one (.v (.bool a)))), (2, .c (.one (.v (.bool v)))), (3, iV .u8 o), (8, .c (.one (.v (.bool false)))), (9, .c (.one (.os 0))), (10, .c (.one (.ptr 4 0))), (64, .c (.one (.os 0))), (65, .c (.one (.v (.bool v))))], [none, none, none, none, some ⟨[.v (.int .u8 0), .v (.int .i64 0), .v (.string op), .v (.string nm), .v (.int .u8 A), .v (.string ⟨#[]⟩)], 33⟩], ⟨[0, 1, 2, 3], [⟨0, true, bytesV ks⟩]⟩⟩
end Go.Proofs.Ytloaehlgcgpieaa.Sx
