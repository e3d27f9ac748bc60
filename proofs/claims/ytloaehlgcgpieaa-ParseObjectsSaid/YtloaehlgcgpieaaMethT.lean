/-
  Words on strings.Contains, Motion; tables for the parser's methods. Conditions: stated at each theorem.
-/
import Derived.Test.YtloaehlgcgpieaaStr
set_option linter.all false
namespace Go.Proofs.Ytloaehlgcgpieaa.Sx
open Go.RowKit Go.Proofs.Ytloaehlgcgpieaa

theorem aft_pure0 {E : Nat → Row} {X : Fam} {L0 : List Nat} {w0 : WM} {σ : Nat → Nat} {gh : Gh} {mem : List (Option Blk)} {x : Ext} {w : World} (hm : Mx E X L0 w0 σ gh mem x w) {v : SV} (hep : ∀ q k off, v ≠ .c (.one (.ep q k off))) : Aft E X L0 w0 σ mem x w ⟨some v, [], gh, false, none⟩ (v.den E σ) w :=
  ⟨σ, fun v' hv' => by injection hv' with hv'; subst hv'; exact ⟨rfl, fun q k off hh => (hep q k off hh).elim⟩, by rw [CR.mem_nil]; exact ⟨x, hm⟩, fun _ _ => rfl, Keep.refl _ _⟩

def containsS (s b : ByteArray) : Bool := decide (0 ≤ Lib.indexByte s.data.toList (b.data.toList.getD 0 0))
def containsW : List SV → List (Option Blk) → Gh → Option CRR := fun args _ gh => match args with
  | [.c (.one (.v (.string s))), .c (.one (.v (.string b)))] => some (.test (decide (b.size = 1)) ⟨some (bV (containsS s b)), [], gh, false, none⟩)
  | _ => none
theorem containsW_ok {X : Fam} {L0 : List Nat} : CallOK Try.prog X L0 31 containsW := by
  refine ⟨_, Try.func31, by kernel_rfl, by kernel_rfl, fun args mem gh cr hcr hok E σ w0 x w hm hL => ?_⟩
  unfold containsW at hcr
  split at hcr
  · rename_i s b
    injection hcr with hcr
    subst hcr
    have h1 : b.size = 1 := of_decide_eq_true hok
    obtain ⟨c, rfl⟩ : ∃ c, b = ⟨#[c]⟩ := by
      obtain ⟨⟨l⟩⟩ := b
      have hl : l.length = 1 := h1
      match l, hl with
      | [c], _ => exact ⟨c, rfl⟩
    refine Calls.mono (R := _) (contains31 s c w) ?_
    rintro e w' ⟨rfl, rfl⟩
    exact ⟨_, rfl, aft_pure0 hm (v := bV (containsS s ⟨#[c]⟩)) (fun _ _ _ hh => by cases hh)⟩
  · cases hcr
noncomputable def tbMo : Tab := { tb with fn := [(21, Try.f21)], call := [(31, containsW)] }
theorem tbMo_ok {X : Fam} {L0 : List Nat} : TabOK Try.prog X L0 tbMo := (tbok.fns [(21, Try.f21)] (List.forall_mem_cons.2 ⟨fn21_ok, fun _ h => by cases h⟩)).calls _ (List.forall_mem_cons.2 ⟨containsW_ok, fun _ h => by cases h⟩)

/-- Each way of a tree ends in this answer. -/
def EndsV (r : SV) : Out → Prop
  | .leaf K ex st => K = [] ∧ ex = .normal ∧ st.tmps = [(0, r)]
  | .both a b => EndsV r a ∧ EndsV r b
  | .ex f => ∀ a n, EndsV r (f a n)
  | .nil => True
theorem EndsV_cond {r : SV} {b : Bool} {x y : Out} (h1 : b = true → EndsV r x) (h2 : b = false → EndsV r y) : EndsV r (cond b x y) := by
  cases b
  · exact h2 rfl
  · exact h1 rfl
theorem endsV_ok {P : Program} {tb : Tab} {E : Nat → Row} {X : Fam} {Jt : Nat → Act → World → Prop} {Q : Exit → Act → World → Prop} {L0 : List Nat} {w0 : WM} {r : SV} (h : ∀ st, st.tmps = [(0, r)] → Safe P tb E X Jt Q L0 w0 [] .normal st) : ∀ {o : Out}, EndsV r o → OutOK P tb E X Jt Q L0 w0 o
  | .leaf K ex st, ho => by obtain ⟨rfl, rfl, h1⟩ := ho; exact h st h1
  | .both a b, ho => ⟨endsV_ok h ho.1, endsV_ok h ho.2⟩
  | .ex f, ho => fun a n => endsV_ok h (ho a n)
  | .nil, _ => trivial

theorem mok_nil (w : World) : Mo noRows famN [] ⟨w, []⟩ (fun i => ([] : List Nat).getD i 0) gh0 [] w :=
  ⟨Ext.nil, rfl, fun i hi => (by cases hi), fun b hb => (by cases hb), mok_start rfl (by simp) (fun b hb => by cases hb) (fun b hb => by cases hb) noRows_ok trivial (fun b hb => by cases hb) (fun i b hi => by simp at hi) (fun i b hi => by simp at hi)⟩

theorem pure_of_ev {tb : Tab} (tok : ∀ L0, TabOK Try.prog famN L0 tb) {f : Nat} {fn : Func} (hf : look f tb.fn = some fn) {args : List SV} {r : SV} (hn : args.length ≤ fn.ntmps) (hargs : ∀ v, v ∈ args → ∀ q k off, v ≠ .c (.one (.ep q k off)))
    (hcl : ∀ E σ E' σ', args.map (SV.den E σ) = args.map (SV.den E' σ')) (hr : ∀ E σ E' σ', r.den E σ = r.den E' σ') (n : Nat)
    (h : EndsV r (ev tb noRows n [.c f [], .f f 1 [] (some 0)] .normal ⟨fn.ntmps, argTmps 0 args, [], gh0⟩)) (E : Nat → Row) (σ : Nat → Nat) (w : World) :
    Calls Try.prog f (args.map (SV.den E σ)).toArray w fun e w' => e = .returned (r.den E σ) ∧ Keep [] w w' := by
  have key := calls_of_ev (X := famN) (Jt := fun _ _ _ => False) (tok []) hf (vs := args) (R := fun e w' => e = .returned (r.den E σ) ∧ Keep [] w w') (n := n) (mok_nil w) (by simp) hn (fun v hv q k off hh => (hargs v hv q k off hh).elim) (by
    refine endsV_ok (fun st hst => ?_) h
    intro σ' a w' hc
    have ht := hc.ht (0, r) (by rw [hst]; simp)
    show _ ∧ _
    refine ⟨?_, ?_⟩
    · rw [Array.getD_eq_getD_getElem?, ht]
      exact congrArg Ending.returned (hr _ _ _ _)
    · obtain ⟨x, hm⟩ := hc.mo
      exact hm.mok.keep)
  rwa [hcl noRows (fun i => ([] : List Nat).getD i 0) E σ] at key

def simpleB : ByteArray := ⟨#[104, 106, 107, 108, 43, 45, 95, 48, 94, 36, 124, 119, 87, 98, 66, 101, 69, 59, 44, 71, 72, 77, 76, 37, 40, 41, 123, 125, 110, 78, 42, 35]⟩
def motionS (nm : ByteArray) : Bool :=
  nm.toList == (⟨#[103, 103]⟩ : ByteArray).toList || (nm.toList == (⟨#[103, 101]⟩ : ByteArray).toList || (nm.toList == (⟨#[103, 69]⟩ : ByteArray).toList || (nm.toList == (⟨#[102]⟩ : ByteArray).toList || (nm.toList == (⟨#[70]⟩ : ByteArray).toList || (nm.toList == (⟨#[116]⟩ : ByteArray).toList || (nm.toList == (⟨#[84]⟩ : ByteArray).toList || (nm.toList == (⟨#[39]⟩ : ByteArray).toList || (nm.toList == (⟨#[96]⟩ : ByteArray).toList || (nm.toList == (⟨#[47]⟩ : ByteArray).toList || (nm.toList == (⟨#[63]⟩ : ByteArray).toList || (((nm.size : Int) == 1) && containsS simpleB nm)))))))))))

theorem mo_ev (nm : ByteArray) : ev tbMo noRows 400 [.c 21 [], .f 21 1 [] (some 0)] .normal ⟨23, argTmps 0 [sV nm], [], gh0⟩ =
  cond (nm.toList == (⟨#[103, 103]⟩ : ByteArray).toList)
    (.leaf [] .normal ⟨1, [(0, .c (.one (.v (.bool true))))], [], ⟨[], []⟩⟩)
    (cond (nm.toList == (⟨#[103, 101]⟩ : ByteArray).toList)
      (.leaf [] .normal ⟨1, [(0, .c (.one (.v (.bool true))))], [], ⟨[], []⟩⟩)
      (cond (nm.toList == (⟨#[103, 69]⟩ : ByteArray).toList)
        (.leaf [] .normal ⟨1, [(0, .c (.one (.v (.bool true))))], [], ⟨[], []⟩⟩)
        (cond (nm.toList == (⟨#[102]⟩ : ByteArray).toList)
          (.leaf [] .normal ⟨1, [(0, .c (.one (.v (.bool true))))], [], ⟨[], []⟩⟩)
          (cond (nm.toList == (⟨#[70]⟩ : ByteArray).toList)
            (.leaf [] .normal ⟨1, [(0, .c (.one (.v (.bool true))))], [], ⟨[], []⟩⟩)
            (cond (nm.toList == (⟨#[116]⟩ : ByteArray).toList)
              (.leaf [] .normal ⟨1, [(0, .c (.one (.v (.bool true))))], [], ⟨[], []⟩⟩)
              (cond (nm.toList == (⟨#[84]⟩ : ByteArray).toList)
                (.leaf [] .normal ⟨1, [(0, .c (.one (.v (.bool true))))], [], ⟨[], []⟩⟩)
                (cond (nm.toList == (⟨#[39]⟩ : ByteArray).toList)
                  (.leaf [] .normal ⟨1, [(0, .c (.one (.v (.bool true))))], [], ⟨[], []⟩⟩)
                  (cond (nm.toList == (⟨#[96]⟩ : ByteArray).toList)
                    (.leaf [] .normal ⟨1, [(0, .c (.one (.v (.bool true))))], [], ⟨[], []⟩⟩)
                    (cond (nm.toList == (⟨#[47]⟩ : ByteArray).toList)
                      (.leaf [] .normal ⟨1, [(0, .c (.one (.v (.bool true))))], [], ⟨[], []⟩⟩)
                      (cond (nm.toList == (⟨#[63]⟩ : ByteArray).toList)
                        (.leaf [] .normal ⟨1, [(0, .c (.one (.v (.bool true))))], [], ⟨[], []⟩⟩)
                        (cond ((↑nm.size : Int) == 1)
                          (cond (decide (nm.size = 1))
                            (.leaf [] .normal ⟨1, [(0, .c (.one (.v (.bool (containsS   (⟨#[104, 106, 107, 108, 43, 45, 95, 48, 94, 36, 124, 119, 87, 98, 66, 101, 69, 59, 44, 71, 72, 77, 76, 37, 40, 41,         123, 125, 110, 78, 42, 35]⟩ : ByteArray)   nm)))))], [], ⟨[], []⟩⟩)
                            (.leaf [.o 21 [0, 1, 1] [5, 6, 7], .c 21 [1, 1, 1], .f 21 1 [] (some 0)] .normal ⟨23, [(20, .c (.one (.v (.string (nm))))), (19, .c (.one (.v (.bool true)))), (18, .c (.one (.v (.bool ((↑nm.size : Int) == 1))))), (17, .c (.one (.v (.int .i64 ((↑nm.size : Int)))))), (16, .c (.one (.v (.string (nm))))), (4, .c (.one (.v (.bool false)))), (3, .c (.one (.v (.string (nm))))), (2, .c (.one (.v (.bool false)))), (0, .c (.one (.v (.string (nm)))))], [], ⟨[], []⟩⟩))
                          (.leaf [] .normal ⟨1, [(0, .c (.one (.v (.bool false))))], [], ⟨[], []⟩⟩)))))))))))) := by kernel_rfl


theorem motion_val (nm : ByteArray) : EndsV (bV (motionS nm)) (ev tbMo noRows 400 [.c 21 [], .f 21 1 [] (some 0)] .normal ⟨23, argTmps 0 [sV nm], [], gh0⟩) := by
  rw [mo_ev]
  unfold motionS
  repeat' refine EndsV_cond (fun h => ?_) (fun h => ?_)
  all_goals first
    | (simp only [h, *, Bool.true_or, Bool.false_or, Bool.false_and, Bool.true_and]; exact ⟨rfl, rfl, rfl⟩)
    | (exfalso; simp at *; omega)

def motionW : List SV → List (Option Blk) → Option SV := fun args _ => match args with
  | [.c (.one (.v (.string nm)))] => some (bV (motionS nm))
  | _ => none
theorem motionW_ok {X : Fam} {L0 : List Nat} : CallOK Try.prog X L0 21 (pureW motionW) := by
  refine pureW_ok ⟨_, fn21_ok.1, fn21_ok.2.1, fn21_ok.2.2, fun args mem r hr => ?_⟩
  unfold motionW at hr
  split at hr
  · rename_i nm
    injection hr with hr
    subst hr
    exact ⟨fun q k off hh => (by cases hh), fun E σ w _ _ _ _ _ _ _ _ => pure_of_ev (fun _ => tbMo_ok) (f := 21) (fn := Try.f21) rfl (args := [sV nm]) (show 1 ≤ 23 by omega) (fun v hv q k off hh => by simp at hv; subst hv; cases hh) (fun _ _ _ _ => rfl) (fun _ _ _ _ => rfl) 400 (motion_val nm) E σ w⟩
  · cases hr
end Go.Proofs.Ytloaehlgcgpieaa.Sx
