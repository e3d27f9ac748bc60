/-
  The laws' table. Conditions: stated at each theorem.
-/
import Derived.Test.YtloaehlgcgpieaaRen
import Derived.Test.YtloaehlgcgpieaaFeed
set_option linter.all false
namespace Go.Proofs.Ytloaehlgcgpieaa.Sx
open Go.RowKit Go.Proofs.Ytloaehlgcgpieaa
noncomputable def fnsL : List (Nat × Func) := [(11, Try.f11), (13, Try.f13), (16, Try.f16), (24, Try.f24)]
theorem fnsL_ok : ∀ q, q ∈ fnsL → Try.prog.funcs[q.1]? = some q.2 ∧ q.2.body.isSome = true ∧ (q.2.name == "runtime.NumGoroutine") = false :=
  List.forall_mem_cons.2 ⟨fn11_ok, List.forall_mem_cons.2 ⟨fn13_ok, List.forall_mem_cons.2 ⟨fn16_ok, List.forall_mem_cons.2 ⟨fn24_ok, fun _ h => by cases h⟩⟩⟩⟩
/-- What Feed is, as a value that stays folded. -/
abbrev FeedFn := PS → Int → Bool → (Int × Cmd) × PS
noncomputable def feedG (φ : FeedFn) : PsF := fun s args => match args with
  | [.c (.one (.v (.int .u8 c))), .c (.one (.v (.bool v)))] => some (preF s c, .tup [.one (.v (.int .i64 (φ s c v).1.1)), (φ s c v).1.2.cv], (φ s c v).2)
  | _ => none
theorem feedG_eq : feedG feedS = feedF := rfl
noncomputable def tbL (φ : FeedFn) : Tab := { tb with fn := fnsL, op := slotW, call := [(14, psW (feedG φ)), (21, pureW motionW)], thaw := [(24, [(9, [4])])] }
theorem tbL_ok {L0 : List Nat} : TabOK Try.prog famB L0 (tbL feedS) := (((tbok.fns fnsL fnsL_ok).ops slotW slotW_ok).calls [(14, psW (feedG feedS)), (21, pureW motionW)] (List.forall_mem_cons.2 ⟨feedG_eq ▸ c14, List.forall_mem_cons.2 ⟨motionW_ok, fun _ h => by cases h⟩⟩)).thaws _
def Cmd.cl (c : Cmd) : List A := [.v (.int .u8 c.reg), .v (.int .i64 c.count), .v (.string c.opr), .v (.string c.name), .v (.int .u8 c.arg), .v (.string c.text)]
def Cmd.blk (c : Cmd) : Blk := ⟨c.cl, 33⟩
abbrev feS (xs : List Int) (v : Bool) (s : PS) (r : Int × Cmd) (i : Nat) : St := ⟨40, [(0, .c (.one (.os 0))), (1, .c (.one (.v (.bool v)))), (4, .c (.one (.v (.int .i64 0)))), (5, .c (.one (.ptr 4 0))), (6, .c (.one (.ptr 5 0))), (7, .c (.one (.v (.int .i64 r.1)))), (8, .c (.one (.ptr 6 0))), (9, .c (.one (.v (.int .i64 (i : Nat)))))], [none, none, none, none, some cmd0.blk, some s.blk, some r.2.blk], ⟨[0, 1, 2, 3], [⟨0, false, bytesV xs⟩]⟩⟩
abbrev knS (s : PS) (i : Nat) : St := ⟨76, [(0, .c (.one (.v (.bool false)))), (1, .c (.one (.ptr 0 0))), (2, .c (.one (.os 1))), (3, .c (.one (.v (.int .i64 (i : Nat)))))], [some s.blk, none, none, none, none], ⟨[1, 2, 3, 4], [⟨1, false, bytesV [50, 100, 51, 119]⟩]⟩⟩
def kS1 : PS := ⟨0, true, false, true, 0, 0, ⟨#[]⟩, ⟨#[]⟩, 0, ⟨#[]⟩, 2, true, 0, false⟩
def kS2 : PS := ⟨3, true, false, false, 0, 0, ⟨#[100]⟩, ⟨#[]⟩, 0, ⟨#[]⟩, 2, true, 0, false⟩
def kS3 : PS := ⟨3, true, false, false, 0, 0, ⟨#[100]⟩, ⟨#[]⟩, 0, ⟨#[]⟩, 2, true, 3, true⟩
end Go.Proofs.Ytloaehlgcgpieaa.Sx
