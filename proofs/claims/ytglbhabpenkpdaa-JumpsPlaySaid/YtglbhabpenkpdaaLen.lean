/-
  jumps.List for the reckoner: what Len and At say. Conditions: stated at each theorem.
-/
import Derived.Test.YtglbhabpenkpdaaTab
import Derived.Test.YtglbhabpenkpdaaOlder
set_option linter.unusedSimpArgs false
set_option linter.unusedVariables false
namespace Go.Proofs.Ytglbhabpenkpdaa.Sx
open Go.RowKit Go.Proofs.Ytglbhabpenkpdaa

/-- Len of the list at name 1. -/
def lenW (N : Nat) : List SV → List (Option Blk) → Option SV
  | [.c (.one (.ptr 1 0))], _ => some (iV .i64 N)
  | _, _ => none

def pGet (ps : List Pos) (i : Int) : Pos := if 0 ≤ i ∧ i < ps.length then ps.getD i.toNat (0, 0) else (0, 0)
def pIn (ps : List Pos) (i : Int) : Bool := decide (0 ≤ i ∧ i < ps.length)

def atW (ps : List Pos) : List SV → List (Option Blk) → Option SV
  | [.c (.one (.ptr 1 0)), .c (.one (.v (.int .i64 i)))], _ => some (.tup [.agg [.v (.int .i64 (pGet ps i).1), .v (.int .i64 (pGet ps i).2)], .one (.v (.bool (pIn ps i)))])
  | _, _ => none

abbrev vX (p : Nat) (r : Option Nat) (n : Nat) (xs : List Value) : Ext := vecX 65 29 2 p r n xs

theorem lenW_ok {p : Nat} {r : Option Nat} {n : Nat} {xs : List Value} {L0 : List Nat} (hL : L0[1]? = some p) : CallOK Try.prog (Fam.one (vX p r n xs)) L0 22 (pureW (lenW n)) := by
  refine pureW_ok ⟨_, Try.func22, by kernel_rfl, by kernel_rfl, fun args mem v hv => ?_⟩
  unfold lenW at hv
  split at hv
  · injection hv with hv
    subst hv
    refine ⟨fun _ _ _ h => by (cases h), fun E σ w gh ns x _ _ hf hx hi => ?_⟩
    cases hf
    have := len35 p r n xs w hx
    rw [← hi 1 p hL] at this
    exact this.mono fun e w' h => ⟨h.1, by rw [← h.2]; exact Keep.refl _ _⟩
  · cases hv

theorem atW_ok {p : Nat} {r : Option Nat} {ps : List Pos} {L0 : List Nat} (hL : L0[1]? = some p) : CallOK Try.prog (Fam.one (vX p r ps.length (posV ps))) L0 24 (pureW (atW ps)) := by
  refine pureW_ok ⟨_, Try.func24, by kernel_rfl, by kernel_rfl, fun args mem v hv => ?_⟩
  unfold atW at hv
  split at hv
  · rename_i i
    injection hv with hv
    subst hv
    refine ⟨fun _ _ _ h => by (cases h), fun E σ w gh ns x _ _ hf hx hi => ?_⟩
    cases hf
    by_cases hin : 0 ≤ i ∧ i < ps.length
    · have hlt : i.toNat < ps.length := by omega
      have := at35 p r ps i.toNat ps[i.toNat] w hx (List.getElem?_eq_getElem hlt)
      rw [← hi 1 p hL, Int.toNat_of_nonneg hin.1] at this
      refine this.mono fun e w' h => ⟨h.1.trans ?_, h.2⟩
      simp [SV.den, CV.den, A.den, pGet, pIn, hin, posAgg, List.getD, List.getElem?_eq_getElem hlt]
    · have := at35_no p r ps.length (posV ps) i w hx (by omega)
      rw [← hi 1 p hL] at this
      refine this.mono fun e w' h => ⟨h.1.trans ?_, h.2⟩
      simp [SV.den, CV.den, A.den, pGet, pIn, hin, posAgg]
  · cases hv

/-- The table for one function over such a list. -/
noncomputable def tbV (fs : List (Nat × Func)) (ps : List Pos) : Tab := { tb with fn := fs, call := [(22, pureW (lenW ps.length)), (24, pureW (atW ps))] }
theorem tbV_ok {p : Nat} {r : Option Nat} {ps : List Pos} {L0 : List Nat} (hL : L0[1]? = some p) {fs : List (Nat × Func)} (hf : ∀ q, q ∈ fs → Try.prog.funcs[q.1]? = some q.2 ∧ q.2.body.isSome = true ∧ (q.2.name == "runtime.NumGoroutine") = false) : TabOK Try.prog (Fam.one (vX p r ps.length (posV ps))) L0 (tbV fs ps) :=
  (tbok.fns fs hf).calls _ (List.forall_mem_cons.2 ⟨lenW_ok hL, List.forall_mem_cons.2 ⟨atW_ok hL, fun _ h => by cases h⟩⟩)
end Go.Proofs.Ytglbhabpenkpdaa.Sx
