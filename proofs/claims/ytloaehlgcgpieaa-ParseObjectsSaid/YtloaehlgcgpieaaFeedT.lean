/-
  The parser's Feed: its table. Conditions: stated at each theorem.
-/
import Derived.Test.YtloaehlgcgpieaaStep
set_option linter.all false
namespace Go.Proofs.Ytloaehlgcgpieaa.Sx
open Go.RowKit Go.Proofs.Ytloaehlgcgpieaa
set_option maxHeartbeats 4000000
noncomputable def preK : PS → Int → Bool := fun s c => decide (okS s c)
theorem preK_of {s : PS} {c : Int} (h : preK s c = true) : okS s c := by
  unfold preK at h
  simpa using h
theorem st_val' (s : PS) (c : Int) (h : preK s c = true) : EndsP (iV .i64 (stepS s c).1) (stepS s c).2 (ev tbC noRows 400 [.c 25 [], .f 25 1 [] (some 0)] .normal ⟨100, argTmps 0 [.c (.one (.ptr 0 0)), iV .u8 c], [some s.blk], gh0⟩) := st_val s c (preK_of h)
theorem c25 {X : Fam} {L0 : List Nat} : CallOK Try.prog X L0 25 (psW (m1F preK stepS)) :=
  psW_ok fn25_ok (m1F_ok (tb := tbC) (fn := Try.f25) (pre := preK) (g := stepS) (fun _ => tbC_ok) (by kernel_rfl) (N := 100) (by kernel_rfl) (by omega) 400 st_val')

/-- What holds of a parser between bytes. -/
def okB (s : PS) : Prop := s.text.size ≤ 64 ∧ (0 ≤ s.an ∧ s.an ≤ 9999) ∧ (0 ≤ s.bn ∧ s.bn ≤ 9999) ∧ (s.st = 3 → 1 ≤ s.opr.size) ∧ s.opr.size ≤ 1000
theorem okS_of {s : PS} {c : Int} (h : okB s) (hc : 0 ≤ c ∧ c ≤ 255) : okS s c := ⟨h.1, h.2.1, h.2.2.1, h.2.2.2.1, h.2.2.2.2, hc.1, hc.2⟩
theorem okB_of {s : PS} {c : Int} (h : okS s c) : okB s := ⟨h.1, h.2.1, h.2.2.1, h.2.2.2.1, h.2.2.2.2.1⟩
theorem okB_0 : okB ps0 := ⟨by decide, by decide, by decide, by decide, by decide⟩
theorem okB_start {s : PS} (v : Bool) (h : okB s) : okB (start s v) := by
  unfold start
  split
  · exact h
  · exact ⟨okB_0.1, okB_0.2.1, okB_0.2.2.1, fun h => (by cases h), okB_0.2.2.2.2⟩
theorem size2 (b : UInt8) (c : Int) : ((⟨#[b]⟩ : ByteArray) ++ strOfNums [c]).size = 2 := by rw [ByteArray.size_append]; rfl
theorem motionP_ok {s : PS} {c : Int} (h : okB s) : okB (motionP s c).2 := by
  obtain ⟨h1, h2, h3, h4, h5⟩ := h
  unfold motionP okB
  repeat' split
  all_goals (refine ⟨h1, h2, h3, ?_, h5⟩; first | exact h4 | (intro h; cases h))
theorem dgN_ok {a : Bool} {n c : Int} (hn : 0 ≤ n ∧ n ≤ 9999) (h : isDg a c = true) : 0 ≤ dgN n c ∧ dgN n c ≤ 9999 := by
  unfold isDg at h
  have h := of_decide_eq_true h
  unfold dgN
  split <;> omega
theorem operandS_ok {s : PS} {c : Int} (h : okB s) : okB (operandS s c).2 := by
  have hb := h
  obtain ⟨h1, h2, h3, h4, h5⟩ := h
  unfold operandS
  split
  · rename_i hd
    exact ⟨h1, h2, dgN_ok h3 hd, h4, h5⟩
  · split
    · exact ⟨h1, h2, h3, h4, h5⟩
    · split
      · exact ⟨h1, h2, h3, fun h => (by cases h), h5⟩
      · exact motionP_ok hb
theorem selectedS_ok {s : PS} {c : Int} (h : okB s) : okB (selectedS s c).2 := by
  have hb := h
  obtain ⟨h1, h2, h3, h4, h5⟩ := h
  unfold selectedS
  repeat' split
  all_goals first
    | exact motionP_ok hb
    | exact ⟨h1, h2, h3, h4, h5⟩
    | exact ⟨h1, h2, h3, fun h => (by cases h), h5⟩
theorem commandS_ok {s : PS} {c : Int} (h : okB s) : okB (commandS s c).2 := by
  have hb := h
  obtain ⟨h1, h2, h3, h4, h5⟩ := h
  unfold commandS
  repeat' split
  all_goals first
    | exact motionP_ok hb
    | exact ⟨h1, h2, h3, h4, h5⟩
    | exact ⟨h1, h2, h3, fun _ => (by simp only [size1]; omega), (by simp only [size1]; omega)⟩
    | exact ⟨h1, h2, h3, fun h => (by cases h), h5⟩
theorem searchS_ok {s : PS} {c : Int} (h : okB s) : okB (searchS s c).2 := by
  have hb := h
  obtain ⟨h1, h2, h3, h4, h5⟩ := h
  unfold searchS
  repeat' split
  all_goals first
    | exact hb
    | (refine ⟨?_, h2, h3, h4, h5⟩; simp only [ByteArray.size_extract]; omega)
    | (refine ⟨?_, h2, h3, h4, h5⟩; simp only [ByteArray.size_append, size1]; omega)
theorem nameS_ok {s : PS} {c : Int} (h : okB s) : okB (nameS s c).2 := by
  have hb := h
  obtain ⟨h1, h2, h3, h4, h5⟩ := h
  unfold nameS
  repeat' split
  all_goals first
    | exact hb
    | exact ⟨h1, h2, h3, fun h => (by cases h), h5⟩
theorem farS_ok {s : PS} {c : Int} (h : okB s) : okB (farS s c).2 := by
  have hb := h
  obtain ⟨h1, h2, h3, h4, h5⟩ := h
  unfold farS
  repeat' split
  all_goals first
    | exact hb
    | exact ⟨h1, h2, h3, h4, h5⟩
    | exact ⟨h1, h2, h3, fun h => (by cases h), h5⟩
theorem objectS_ok {s : PS} {c : Int} (h : okB s) : okB (objectS s c).2 := by
  have hb := h
  obtain ⟨h1, h2, h3, h4, h5⟩ := h
  unfold objectS
  repeat' split
  all_goals first
    | exact hb
    | exact ⟨h1, h2, h3, h4, h5⟩
    | exact ⟨h1, h2, h3, fun h => (by cases h), h5⟩
theorem argumentS_ok {s : PS} {c : Int} (h : okB s) : okB (argumentS s c).2 := by
  have hb := h
  obtain ⟨h1, h2, h3, h4, h5⟩ := h
  unfold argumentS
  repeat' split
  all_goals first
    | exact hb
    | exact ⟨h1, h2, h3, h4, h5⟩
    | exact ⟨h1, h2, h3, fun h => (by cases h), h5⟩
theorem step_ok {s : PS} {c : Int} (h : okS s c) : okB (stepS s c).2 := by
  have hb := okB_of h
  obtain ⟨h1, h2, h3, h4, h5, hc1, hc2⟩ := h
  unfold stepS
  repeat' split
  all_goals first
    | exact hb
    | exact operandS_ok hb
    | exact selectedS_ok hb
    | exact commandS_ok hb
    | exact searchS_ok hb
    | (rename_i hd; exact ⟨h1, dgN_ok h2 hd, h3, h4, h5⟩)
    | exact nameS_ok hb
    | exact farS_ok hb
    | exact objectS_ok hb
    | exact argumentS_ok hb
    | (refine ⟨h1, h2, h3, fun _ => ?_, ?_⟩ <;> (simp only [size2]; omega))
    | exact ⟨h1, h2, h3, h4, h5⟩
    | exact ⟨h1, h2, h3, fun h => (by cases h), h5⟩

noncomputable instance (s : PS) : Decidable (okB s) := Classical.propDecidable _
/-- The product of the numbers. -/
noncomputable def countF : PsF := fun s args => match args with
  | [] => some (decide (okB s), iV .i64 (countS s), s)
  | _ => none
noncomputable def fnsF : List (Nat × Func) := [(14, Try.f14), (19, Try.f19), (26, Try.f26)]
theorem fnsF_ok : ∀ q, q ∈ fnsF → Try.prog.funcs[q.1]? = some q.2 ∧ q.2.body.isSome = true ∧ (q.2.name == "runtime.NumGoroutine") = false :=
  List.forall_mem_cons.2 ⟨fn14_ok, List.forall_mem_cons.2 ⟨fn19_ok, List.forall_mem_cons.2 ⟨fn26_ok, fun _ h => by cases h⟩⟩⟩
noncomputable def tbF : Tab := { tb with fn := fnsF, call := [(25, psW (m1F preK stepS))], thaw := [(14, [(12, [1])])] }
theorem tbF_ok {L0 : List Nat} : TabOK Try.prog famN L0 tbF := ((tbok.fns fnsF fnsF_ok).calls [(25, psW (m1F preK stepS))] (List.forall_mem_cons.2 ⟨c25, fun _ h => by cases h⟩)).thaws _

theorem ct_ev (s : PS) : ev tbF noRows 400 [.c 26 [], .f 26 1 [] (some 0)] .normal ⟨44, argTmps 0 [.c (.one (.ptr 0 0))], [some s.blk], gh0⟩ =
  cond (s.aa)
    (cond (s.ba)
      (.leaf [] .normal ⟨1, [(0, .c (.one (.v (.int .i64 (if 9999 < IntKind.i64.wrap (s.an * s.bn) then 9999 else IntKind.i64.wrap (s.an * s.bn))))))], [some ⟨[.v (.int .i64 (s.st)), .v (.bool (s.op)), .v (.bool (s.vi)), .v (.bool (s.fi)), .v (.int .u8 (s.reg)), .v (.int .i64 (s.cnt)), .v (.string (s.opr)), .v (.string (s.name)), .v (.int .u8 (s.arg)), .v (.string (s.text)), .v (.int .i64 (s.an)), .v (.bool (s.aa)), .v (.int .i64 (s.bn)), .v (.bool (s.ba))], 54⟩], ⟨[], []⟩⟩)
      (cond (s.aa)
        (.leaf [] .normal ⟨1, [(0, .c (.one (.v (.int .i64 (s.an)))))], [some ⟨[.v (.int .i64 (s.st)), .v (.bool (s.op)), .v (.bool (s.vi)), .v (.bool (s.fi)), .v (.int .u8 (s.reg)), .v (.int .i64 (s.cnt)), .v (.string (s.opr)), .v (.string (s.name)), .v (.int .u8 (s.arg)), .v (.string (s.text)), .v (.int .i64 (s.an)), .v (.bool (s.aa)), .v (.int .i64 (s.bn)), .v (.bool (s.ba))], 54⟩], ⟨[], []⟩⟩)
        (.leaf [] .normal ⟨1, [(0, .c (.one (.v (.int .i64 (s.bn)))))], [some ⟨[.v (.int .i64 (s.st)), .v (.bool (s.op)), .v (.bool (s.vi)), .v (.bool (s.fi)), .v (.int .u8 (s.reg)), .v (.int .i64 (s.cnt)), .v (.string (s.opr)), .v (.string (s.name)), .v (.int .u8 (s.arg)), .v (.string (s.text)), .v (.int .i64 (s.an)), .v (.bool (s.aa)), .v (.int .i64 (s.bn)), .v (.bool (s.ba))], 54⟩], ⟨[], []⟩⟩)))
    (cond (s.aa)
      (.leaf [] .normal ⟨1, [(0, .c (.one (.v (.int .i64 (s.an)))))], [some ⟨[.v (.int .i64 (s.st)), .v (.bool (s.op)), .v (.bool (s.vi)), .v (.bool (s.fi)), .v (.int .u8 (s.reg)), .v (.int .i64 (s.cnt)), .v (.string (s.opr)), .v (.string (s.name)), .v (.int .u8 (s.arg)), .v (.string (s.text)), .v (.int .i64 (s.an)), .v (.bool (s.aa)), .v (.int .i64 (s.bn)), .v (.bool (s.ba))], 54⟩], ⟨[], []⟩⟩)
      (.leaf [] .normal ⟨1, [(0, .c (.one (.v (.int .i64 (s.bn)))))], [some ⟨[.v (.int .i64 (s.st)), .v (.bool (s.op)), .v (.bool (s.vi)), .v (.bool (s.fi)), .v (.int .u8 (s.reg)), .v (.int .i64 (s.cnt)), .v (.string (s.opr)), .v (.string (s.name)), .v (.int .u8 (s.arg)), .v (.string (s.text)), .v (.int .i64 (s.an)), .v (.bool (s.aa)), .v (.int .i64 (s.bn)), .v (.bool (s.ba))], 54⟩], ⟨[], []⟩⟩)) := by kernel_rfl


theorem cs1 {s : PS} (h1 : s.aa = true) (h2 : s.ba = true) : countS s = if 9999 < s.an * s.bn then 9999 else s.an * s.bn := by
  unfold countS; rw [if_pos h1, if_pos h2]
theorem cs2 {s : PS} (h1 : s.aa = true) (h2 : s.ba = false) : countS s = s.an := by
  unfold countS; rw [if_pos h1, if_neg (by rw [h2]; decide)]
theorem cs3 {s : PS} (h1 : s.aa = false) : countS s = s.bn := by
  unfold countS; rw [if_neg (by rw [h1]; decide)]
theorem ct_val (s : PS) (h : okB s) : EndsP (iV .i64 (countS s)) s (ev tbF noRows 400 [.c 26 [], .f 26 1 [] (some 0)] .normal ⟨44, argTmps 0 [.c (.one (.ptr 0 0))], [some s.blk], gh0⟩) := by
  rw [ct_ev]
  obtain ⟨_, ha, hb, _⟩ := h
  have e : IntKind.i64.wrap (s.an * s.bn) = s.an * s.bn := by
    have h1 : 0 ≤ s.an * s.bn := Int.mul_nonneg ha.1 hb.1
    have h2 : s.an * s.bn ≤ 9999 * 9999 := Int.mul_le_mul ha.2 hb.2 hb.1 (by omega)
    exact wrap_sm (by omega) (by omega)
  rw [e]
  refine EndsP_cond (fun h1 => ?_) (fun h1 => ?_)
  · refine EndsP_cond (fun h2 => ?_) (fun h2 => ?_)
    · rw [cs1 h1 h2]; exact ⟨rfl, rfl, rfl, rfl⟩
    · refine EndsP_cond (fun _ => ?_) (fun h3 => ?_)
      · rw [cs2 h1 h2]; exact ⟨rfl, rfl, rfl, rfl⟩
      · rw [h1] at h3; cases h3
  · refine EndsP_cond (fun h3 => ?_) (fun _ => ?_)
    · rw [h1] at h3; cases h3
    · rw [cs3 h1]; exact ⟨rfl, rfl, rfl, rfl⟩
theorem c26 {X : Fam} {L0 : List Nat} : CallOK Try.prog X L0 26 (psW countF) := by
  refine psW_ok fn26_ok ?_
  intro s args b r s' hr hb
  unfold countF at hr
  split at hr
  · injection hr with hr
    injection hr with h1 hr
    injection hr with h2 h3
    subst h1 h2 h3
    have hb : okB s := of_decide_eq_true hb
    exact ⟨fun q k off hh => (by cases hh), fun E σ J w hat => ps_of_ev (tb := tbF) (fn := Try.f26) (fun _ => tbF_ok) (by kernel_rfl) (args := []) (by decide) (fun v hv q k off hh => by cases hv) (fun _ _ _ _ => rfl) (fun _ _ _ _ => rfl) 400 (ct_val s hb) E σ J w hat⟩
  · cases hr
noncomputable def tbG : Tab := { tb with fn := [(14, Try.f14), (19, Try.f19)], call := [(25, psW (m1F preK stepS)), (26, psW countF)], thaw := [(14, [(12, [1])])] }
theorem tbG_ok {L0 : List Nat} : TabOK Try.prog famN L0 tbG := ((tbok.fns [(14, Try.f14), (19, Try.f19)] (List.forall_mem_cons.2 ⟨fn14_ok, List.forall_mem_cons.2 ⟨fn19_ok, fun _ h => by cases h⟩⟩)).calls [(25, psW (m1F preK stepS)), (26, psW countF)] (List.forall_mem_cons.2 ⟨c25, List.forall_mem_cons.2 ⟨c26, fun _ h => by cases h⟩⟩)).thaws _
end Go.Proofs.Ytloaehlgcgpieaa.Sx
