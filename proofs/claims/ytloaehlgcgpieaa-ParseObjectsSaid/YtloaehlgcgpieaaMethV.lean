/-
  The parser's methods as words, and the tables of the greater methods. Conditions: stated at each theorem.
-/
import Derived.Test.YtloaehlgcgpieaaMeth1
set_option linter.all false
namespace Go.Proofs.Ytloaehlgcgpieaa.Sx
open Go.RowKit Go.Proofs.Ytloaehlgcgpieaa

def m1F (pre : PS → Int → Bool) (g : PS → Int → Int × PS) : PsF := fun s args => match args with
  | [.c (.one (.v (.int .u8 c)))] => some (pre s c, iV .i64 (g s c).1, (g s c).2)
  | _ => none
theorem m1F_ok {f : Nat} {fn : Func} {pre : PS → Int → Bool} {g : PS → Int → Int × PS} {tb : Tab} (tok : ∀ L0, TabOK Try.prog famN L0 tb) (hf : look f tb.fn = some fn) {N : Nat} (hN : fn.ntmps = N) (hn : 2 ≤ N) (n : Nat)
    (h : ∀ s c, pre s c = true → EndsP (iV .i64 (g s c).1) (g s c).2 (ev tb noRows n [.c f [], .f f 1 [] (some 0)]   .normal ⟨N, argTmps 0 [.c (.one (.ptr 0 0)), iV .u8 c], [some s.blk], gh0⟩)) : PsOK f (m1F pre g) := by
  subst hN
  intro s args b r s' hr hb
  unfold m1F at hr
  split at hr
  · rename_i c
    injection hr with hr
    injection hr with h1 hr
    injection hr with h2 h3
    subst h1 h2 h3
    exact ⟨fun q k off hh => (by cases hh), fun E σ J w hat => ps_of_ev tok hf (args := [iV .u8 c]) hn (fun v hv q k off hh => by simp at hv; subst hv; cases hh) (fun _ _ _ _ => rfl) (fun _ _ _ _ => rfl) n (h s c hb) E σ J w hat⟩
  · cases hr
def preT : PS → Int → Bool := fun _ _ => true
def preS : PS → Int → Bool := fun s _ => decide (s.text.size ≤ 64)
theorem preS_of {s : PS} {c : Int} (h : preS s c = true) : s.text.size ≤ 64 := by
  unfold preS at h
  simpa using h
noncomputable def callsA : List (Nat × (List SV → List (Option Blk) → Gh → Option CRR)) := [(39, psW (m1F preT nameS)), (41, psW (m1F preT farS)), (43, psW (m1F preT objectS)), (44, psW (m1F preT argumentS)), (45, psW (m1F preS searchS)), (56, psW (m1F preT motionP))]
theorem se_val' (s : PS) (c : Int) (h : preS s c = true) : EndsP (iV .i64 (searchS s c).1) (searchS s c).2 (ev tbA noRows 400 [.c 45 [], .f 45 1 [] (some 0)] .normal ⟨54, argTmps 0 [.c (.one (.ptr 0 0)), iV .u8 c], [some s.blk], gh0⟩) := se_val s c (preS_of h)
theorem c39 {X : Fam} {L0 : List Nat} : CallOK Try.prog X L0 39 (psW (m1F preT nameS)) :=
  psW_ok fn39_ok (m1F_ok (tb := tbA) (fn := Try.f39) (pre := preT) (g := nameS) (fun _ => tbA_ok) (by kernel_rfl) (N := 37) (by kernel_rfl) (by omega) 400 (fun s c _ => nm_val s c))
theorem c41 {X : Fam} {L0 : List Nat} : CallOK Try.prog X L0 41 (psW (m1F preT farS)) :=
  psW_ok fn41_ok (m1F_ok (tb := tbA) (fn := Try.f41) (pre := preT) (g := farS) (fun _ => tbA_ok) (by kernel_rfl) (N := 16) (by kernel_rfl) (by omega) 400 (fun s c _ => far_val s c))
theorem c43 {X : Fam} {L0 : List Nat} : CallOK Try.prog X L0 43 (psW (m1F preT objectS)) :=
  psW_ok fn43_ok (m1F_ok (tb := tbA) (fn := Try.f43) (pre := preT) (g := objectS) (fun _ => tbA_ok) (by kernel_rfl) (N := 30) (by kernel_rfl) (by omega) 400 (fun s c _ => ob_val s c))
theorem c44 {X : Fam} {L0 : List Nat} : CallOK Try.prog X L0 44 (psW (m1F preT argumentS)) :=
  psW_ok fn44_ok (m1F_ok (tb := tbA) (fn := Try.f44) (pre := preT) (g := argumentS) (fun _ => tbA_ok) (by kernel_rfl) (N := 50) (by kernel_rfl) (by omega) 400 (fun s c _ => ag_val s c))
theorem c45 {X : Fam} {L0 : List Nat} : CallOK Try.prog X L0 45 (psW (m1F preS searchS)) :=
  psW_ok fn45_ok (m1F_ok (tb := tbA) (fn := Try.f45) (pre := preS) (g := searchS) (fun _ => tbA_ok) (by kernel_rfl) (N := 54) (by kernel_rfl) (by omega) 400 se_val')
theorem c56 {X : Fam} {L0 : List Nat} : CallOK Try.prog X L0 56 (psW (m1F preT motionP)) :=
  psW_ok fn56_ok (m1F_ok (tb := tbA) (fn := Try.f56) (pre := preT) (g := motionP) (fun _ => tbA_ok) (by kernel_rfl) (N := 39) (by kernel_rfl) (by omega) 400 (fun s c _ => mt_val s c))
theorem callsA_ok {X : Fam} {L0 : List Nat} : ∀ q, q ∈ callsA → CallOK Try.prog X L0 q.1 q.2 :=
  List.forall_mem_cons.2 ⟨c39, List.forall_mem_cons.2 ⟨c41, List.forall_mem_cons.2 ⟨c43, List.forall_mem_cons.2 ⟨c44, List.forall_mem_cons.2 ⟨c45, List.forall_mem_cons.2 ⟨c56, fun _ h => by cases h⟩⟩⟩⟩⟩⟩

noncomputable def fnsB : List (Nat × Func) := [(38, Try.f38), (40, Try.f40), (46, Try.f46), (55, Try.f55), (57, Try.f57), (42, Try.f42), (47, Try.f47), (48, Try.f48)]
theorem fnsB_ok : ∀ q, q ∈ fnsB → Try.prog.funcs[q.1]? = some q.2 ∧ q.2.body.isSome = true ∧ (q.2.name == "runtime.NumGoroutine") = false :=
  List.forall_mem_cons.2 ⟨fn38_ok, List.forall_mem_cons.2 ⟨fn40_ok, List.forall_mem_cons.2 ⟨fn46_ok, List.forall_mem_cons.2 ⟨fn55_ok, List.forall_mem_cons.2 ⟨fn57_ok, List.forall_mem_cons.2 ⟨fn42_ok, List.forall_mem_cons.2 ⟨fn47_ok, List.forall_mem_cons.2 ⟨fn48_ok, fun _ h => by cases h⟩⟩⟩⟩⟩⟩⟩⟩
noncomputable def tbB : Tab := { tb with fn := fnsB, call := callsA }
theorem tbB_ok {L0 : List Nat} : TabOK Try.prog famN L0 tbB := (tbok.fns fnsB fnsB_ok).calls _ callsA_ok
end Go.Proofs.Ytloaehlgcgpieaa.Sx
