/-
  'known' of the laws of jumps.List answers true. Conditions: stated at each theorem.
-/
import Derived.Test.YtglbhabpenkpdaaJObj
set_option linter.unusedSimpArgs false
set_option linter.unusedVariables false
namespace Go.Proofs.Ytglbhabpenkpdaa.Sx
open Go.RowKit Go.Proofs.Ytglbhabpenkpdaa

theorem known_ev (u : Unit) : ev (tbJ [(6, Try.f6)] 0) noRows 400 [.c 6 [], .f 6 1 [] (some 0)] .normal ⟨64, argTmps 0 [], [], gh0⟩ =
  .ex fun a0 n0 =>
    .leaf [] .normal ⟨1, [(0, .c (.one (.v (.bool true))))], [none, some ⟨[.v (.int .i64 1), .v (.int .i64 0)], 29⟩, some ⟨[.v (.int .i64 5), .v (.int .i64 0)], 29⟩, some ⟨[.v (.int .i64 0), .v (.int .i64 0)], 29⟩], ⟨[0], 1, [(1, 0), (5, 0)], 1, rest0⟩⟩ := by kernel_rfl

def noY : Side := fun _ _ _ x => x = Ext.nil

theorem known6 (w : World) : Calls Try.prog 6 #[] w fun e w' => e = .returned (.bool true) ∧ Keep [] w w' := by
  have key : Calls Try.prog 6 (([] : List SV).map (SV.den noRows (fun i => ([] : List Nat).getD i 0))).toArray w (fun e w' => e = .returned (.bool true) ∧ Keep [] w w') := by
    refine calls_of_ev (Jt := fun _ _ _ => False) (X := famJ noY) (gh := gh0) (w0 := ⟨w, []⟩) (tbJ_ok (L0 := []) (i := 0) (fs := [(6, Try.f6)]) (List.forall_mem_cons.2 ⟨fn6_ok, fun _ h => by cases h⟩)) (f := 6) (fn := Try.f6) rfl (mem := []) ⟨_, ⟨Ext.nil, rfl, rfl⟩, fun i hi => (by cases hi), fun b hb => (by cases hb), mok_start rfl (by simp) (fun b hb => by cases hb) (fun b hb => by cases hb) noRows_ok ⟨trivial, trivial⟩ (fun b hb => by cases hb) (fun i b hi => by simp at hi) (fun i b hi => by simp at hi)⟩ (Nat.le_refl 0) (Nat.zero_le _) (fun v hv => by cases hv) (n := 400) ?_
    rw [show Try.f6.ntmps = 64 from rfl, known_ev ()]
    intro a n
    refine leaf_end fun σ w' hm => ?_
    obtain ⟨x, hm⟩ := hm
    exact ⟨rfl, hm.mok.keep⟩
  exact key

def knownW : List SV → List (Option Blk) → Option SV
  | [], _ => some (bV true)
  | _, _ => none

theorem knownW_ok {X : Fam} {L0 : List Nat} : CallOK Try.prog X L0 6 (pureW knownW) := by
  refine pureW_ok ⟨_, Try.func6, by kernel_rfl, by kernel_rfl, fun args mem v hv => ?_⟩
  unfold knownW at hv
  split at hv
  · injection hv with hv
    subst hv
    exact ⟨fun _ _ _ h => (by cases h), fun E σ w gh ns x _ _ _ _ _ => known6 w⟩
  · cases hv

/-- The table of the laws. -/
noncomputable def tbL (fs : List (Nat × Func)) (i : Nat) : Tab := { tbJ fs i with call := (6, pureW knownW) :: (tbJ fs i).call }
theorem tbL_ok {Y : Side} {L0 : List Nat} {i : Nat} {fs : List (Nat × Func)} (hf : ∀ q, q ∈ fs → Try.prog.funcs[q.1]? = some q.2 ∧ q.2.body.isSome = true ∧ (q.2.name == "runtime.NumGoroutine") = false) : TabOK Try.prog (famJ Y) L0 (tbL fs i) :=
  (tbok.fns fs hf).calls _ (List.forall_mem_cons.2 ⟨knownW_ok, List.forall_mem_cons.2 ⟨newW_ok, List.forall_mem_cons.2 ⟨pushW_ok i, List.forall_mem_cons.2 ⟨olderW_ok i, List.forall_mem_cons.2 ⟨newerW_ok i, List.forall_mem_cons.2 ⟨allW_ok i, fun _ h => by cases h⟩⟩⟩⟩⟩⟩)
end Go.Proofs.Ytglbhabpenkpdaa.Sx
