/-
  The parser's step: its table. Conditions: stated at each theorem.
-/
import Derived.Test.YtloaehlgcgpieaaMeth2
set_option linter.all false
namespace Go.Proofs.Ytloaehlgcgpieaa.Sx
open Go.RowKit Go.Proofs.Ytloaehlgcgpieaa

noncomputable def preO : PS → Int → Bool := fun s c => decide (okS s c ∧ 1 ≤ s.opr.size)
theorem preO_of {s : PS} {c : Int} (h : preO s c = true) : okS s c ∧ 1 ≤ s.opr.size := by
  unfold preO at h
  simpa using h
theorem od_val' (s : PS) (c : Int) (h : preO s c = true) : EndsP (iV .i64 (operandS s c).1) (operandS s c).2 (ev tbB noRows 400 [.c 42 [], .f 42 1 [] (some 0)] .normal ⟨42, argTmps 0 [.c (.one (.ptr 0 0)), iV .u8 c], [some s.blk], gh0⟩) := od_val s c (preO_of h).1 (preO_of h).2
theorem c42 {X : Fam} {L0 : List Nat} : CallOK Try.prog X L0 42 (psW (m1F preO operandS)) :=
  psW_ok fn42_ok (m1F_ok (tb := tbB) (fn := Try.f42) (pre := preO) (g := operandS) (fun _ => tbB_ok) (by kernel_rfl) (N := 42) (by kernel_rfl) (by omega) 400 od_val')
theorem c47 {X : Fam} {L0 : List Nat} : CallOK Try.prog X L0 47 (psW (m1F preT selectedS)) :=
  psW_ok fn47_ok (m1F_ok (tb := tbB) (fn := Try.f47) (pre := preT) (g := selectedS) (fun _ => tbB_ok) (by kernel_rfl) (N := 46) (by kernel_rfl) (by omega) 400 (fun s c _ => sd_val s c))
theorem c48 {X : Fam} {L0 : List Nat} : CallOK Try.prog X L0 48 (psW (m1F preT commandS)) :=
  psW_ok fn48_ok (m1F_ok (tb := tbB) (fn := Try.f48) (pre := preT) (g := commandS) (fun _ => tbB_ok) (by kernel_rfl) (N := 72) (by kernel_rfl) (by omega) 400 (fun s c _ => cd_val s c))
noncomputable def callsC : List (Nat × (List SV → List (Option Blk) → Gh → Option CRR)) := (42, psW (m1F preO operandS)) :: (47, psW (m1F preT selectedS)) :: (48, psW (m1F preT commandS)) :: callsA
theorem callsC_ok {X : Fam} {L0 : List Nat} : ∀ q, q ∈ callsC → CallOK Try.prog X L0 q.1 q.2 :=
  List.forall_mem_cons.2 ⟨c42, List.forall_mem_cons.2 ⟨c47, List.forall_mem_cons.2 ⟨c48, callsA_ok⟩⟩⟩
noncomputable def fnsC : List (Nat × Func) := [(38, Try.f38), (40, Try.f40), (46, Try.f46), (25, Try.f25)]
theorem fnsC_ok : ∀ q, q ∈ fnsC → Try.prog.funcs[q.1]? = some q.2 ∧ q.2.body.isSome = true ∧ (q.2.name == "runtime.NumGoroutine") = false :=
  List.forall_mem_cons.2 ⟨fn38_ok, List.forall_mem_cons.2 ⟨fn40_ok, List.forall_mem_cons.2 ⟨fn46_ok, List.forall_mem_cons.2 ⟨fn25_ok, fun _ h => by cases h⟩⟩⟩⟩
noncomputable def tbC : Tab := { tb with fn := fnsC, call := callsC }
theorem tbC_ok {L0 : List Nat} : TabOK Try.prog famN L0 tbC := (tbok.fns fnsC fnsC_ok).calls _ callsC_ok
end Go.Proofs.Ytloaehlgcgpieaa.Sx
