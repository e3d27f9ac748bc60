/-
  Tables for the parser's methods. Conditions: none.
-/
import Derived.Test.YtloaehlgcgpieaaMethT
set_option linter.all false
namespace Go.Proofs.Ytloaehlgcgpieaa.Sx
open Go.RowKit Go.Proofs.Ytloaehlgcgpieaa
/-- The methods that call no other but the smallest. -/
noncomputable def fnsA : List (Nat × Func) := [(38, Try.f38), (39, Try.f39), (40, Try.f40), (41, Try.f41), (43, Try.f43), (44, Try.f44), (45, Try.f45), (46, Try.f46), (55, Try.f55), (56, Try.f56), (57, Try.f57), (26, Try.f26), (19, Try.f19), (16, Try.f16), (13, Try.f13)]
theorem fnsA_ok : ∀ q, q ∈ fnsA → Try.prog.funcs[q.1]? = some q.2 ∧ q.2.body.isSome = true ∧ (q.2.name == "runtime.NumGoroutine") = false :=
  List.forall_mem_cons.2 ⟨fn38_ok, List.forall_mem_cons.2 ⟨fn39_ok, List.forall_mem_cons.2 ⟨fn40_ok, List.forall_mem_cons.2 ⟨fn41_ok, List.forall_mem_cons.2 ⟨fn43_ok, List.forall_mem_cons.2 ⟨fn44_ok, List.forall_mem_cons.2 ⟨fn45_ok, List.forall_mem_cons.2 ⟨fn46_ok, List.forall_mem_cons.2 ⟨fn55_ok, List.forall_mem_cons.2 ⟨fn56_ok, List.forall_mem_cons.2 ⟨fn57_ok, List.forall_mem_cons.2 ⟨fn26_ok, List.forall_mem_cons.2 ⟨fn19_ok, List.forall_mem_cons.2 ⟨fn16_ok, List.forall_mem_cons.2 ⟨fn13_ok, fun _ h => by cases h⟩⟩⟩⟩⟩⟩⟩⟩⟩⟩⟩⟩⟩⟩⟩
noncomputable def tbA : Tab := { tb with fn := fnsA, call := [(21, pureW motionW)], thaw := [(45, [(13, [0])])] }
theorem tbA_ok {L0 : List Nat} : TabOK Try.prog famN L0 tbA := ((tbok.fns fnsA fnsA_ok).calls _ (List.forall_mem_cons.2 ⟨motionW_ok, fun _ h => by cases h⟩)).thaws _
end Go.Proofs.Ytloaehlgcgpieaa.Sx
