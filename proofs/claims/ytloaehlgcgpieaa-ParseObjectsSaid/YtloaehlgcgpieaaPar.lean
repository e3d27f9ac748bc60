/-
  parse.Parser as one block for the reckoner: what it holds, how its methods become words. Conditions: stated at each theorem.
-/
import Derived.Test.YtloaehlgcgpieaaTab
set_option linter.all false
namespace Go.Proofs.Ytloaehlgcgpieaa.Sx
open Go.RowKit Go.Proofs.Ytloaehlgcgpieaa

/-- What a parser holds. -/
structure PS where
  st : Int
  op : Bool
  vi : Bool
  fi : Bool
  reg : Int
  cnt : Int
  opr : ByteArray
  name : ByteArray
  arg : Int
  text : ByteArray
  an : Int
  aa : Bool
  bn : Int
  ba : Bool
def PS.cells (s : PS) : List A := [.v (.int .i64 s.st), .v (.bool s.op), .v (.bool s.vi), .v (.bool s.fi), .v (.int .u8 s.reg), .v (.int .i64 s.cnt), .v (.string s.opr), .v (.string s.name), .v (.int .u8 s.arg), .v (.string s.text), .v (.int .i64 s.an), .v (.bool s.aa), .v (.int .i64 s.bn), .v (.bool s.ba)]
def PS.blk (s : PS) : Blk := ⟨s.cells, 54⟩
def PS.vals (s : PS) : List Value := [.int .i64 s.st, .bool s.op, .bool s.vi, .bool s.fi, .int .u8 s.reg, .int .i64 s.cnt, .string s.opr, .string s.name, .int .u8 s.arg, .string s.text, .int .i64 s.an, .bool s.aa, .int .i64 s.bn, .bool s.ba]
theorem PS.den (s : PS) (E : Nat → Row) (σ : Nat → Nat) : s.cells.map (A.den E σ) = s.vals := rfl
def ps0 : PS := ⟨0, false, false, false, 0, 0, ⟨#[]⟩, ⟨#[]⟩, 0, ⟨#[]⟩, 0, false, 0, false⟩

def PSAt (w : World) (J : Nat) (s : PS) : Prop := w.heap[J]? = some (.cells s.vals.toArray 54 (0, 0))

def psOf : Option (Option Blk) → Option PS
  | some (some ⟨[.v (.int .i64 st), .v (.bool op), .v (.bool vi), .v (.bool fi), .v (.int .u8 reg), .v (.int .i64 cnt), .v (.string opr), .v (.string name), .v (.int .u8 arg), .v (.string text), .v (.int .i64 an), .v (.bool aa), .v (.int .i64 bn), .v (.bool ba)], t⟩) => if Nat.beq t 54 = true then some ⟨st, op, vi, fi, reg, cnt, opr, name, arg, text, an, aa, bn, ba⟩ else none
  | _ => none
theorem psOf_some {b : Option (Option Blk)} {s : PS} (h : psOf b = some s) : b = some (some s.blk) := by
  unfold psOf at h
  split at h
  · split at h
    · rename_i e
      have e := Nat.eq_of_beq_eq_true e
      injection h with h
      subst h e
      rfl
    · cases h
  · cases h

abbrev PsF := PS → List SV → Option (Bool × SV × PS)
def psW (φ : PsF) : List SV → List (Option Blk) → Gh → Option CRR
  | .c (.one (.ptr i off)) :: args, mem, gh =>
    if Nat.beq off 0 = true then match psOf mem[i]? with
      | some s => match φ s args with
        | some (b, r, s') => some (.test b ⟨some r, [], gh, false, some (i, s'.blk)⟩)
        | none => none
      | none => none
    else none
  | _, _, _ => none

theorem MOK.upd {E : Nat → Row} {L0 : List Nat} {w0 : WM} {σ : Nat → Nat} {x : Ext} {mem : List (Option Blk)} {w w' : World} (h : MOK E x L0 w0 σ mem w) {i : Nat} {b b' : Blk} (hi : mem[i]? = some (some b)) (k : Keep [σ i] w w') (hb : w'.heap[σ i]? = some (.cells (b'.cells.map (A.den E σ)).toArray b'.ty (0, 0))) :
    MOK E x L0 w0 σ (mem.set i (some b')) w' := by
  have hlt := (List.getElem?_eq_some_iff.1 hi).1
  have hx := h.extd i b hi
  have ho := h.own i b hi
  have hnk : ∀ a ba, (mem.set i none)[a]? = some (some ba) → a ≠ i ∧ mem[a]? = some (some ba) := fun a ba ha => by
    by_cases hai : i = a
    · subst hai
      rw [List.getElem?_set_self hlt] at ha
      cases ha
    · rw [List.getElem?_set_ne hai] at ha
      exact ⟨fun e => hai e.symm, ha⟩
  have h1 : MOK E x L0 w0 σ (mem.set i none) w' := by
    refine (h.untold hlt).call k (fun y hy => by simp at hy; subst hy; exact ho.1) (fun a ba ha hm => ?_) (x.st _ _ h.ext (fun b hb' => k.block b (h.extB b hb') (fun hm => by simp at hm; subst hm; exact hx hb')) k.size) (fun b hb' => Nat.lt_of_lt_of_le (h.extB b hb') k.size) (fun a ba ha => ?_)
    · obtain ⟨h1, h2⟩ := hnk a ba ha
      simp at hm
      exact h1 (h.inj a i ba b h2 hi hm)
    · exact h.extd a ba (hnk a ba ha).2
  have h2 := h1.told (i := i) (by simpa using hlt) (b := some b') fun b0 hb0 => by
    injection hb0 with hb0
    subst hb0
    refine ⟨hb, hx, ho.1, fun a ba hai ha he => ?_⟩
    obtain ⟨h1, h2⟩ := hnk a ba ha
    exact h1 (h.inj a i ba b h2 hi he)
  rwa [List.set_set] at h2

/-- A method's contract. -/
def PsOK (f : Nat) (φ : PsF) : Prop :=
  ∀ s args b r s', φ s args = some (b, r, s') → b = true → (∀ q k off, r ≠ .c (.one (.ep q k off))) ∧ ∀ (E : Nat → Row) (σ : Nat → Nat) (J : Nat) (w : World), PSAt w J s →
    Calls Try.prog f (Value.pointer (some ⟨J, 0, none⟩) :: args.map (SV.den E σ)).toArray w fun e w' => e = .returned (r.den E σ) ∧ PSAt w' J s' ∧ Keep [J] w w'

theorem psW_ok {X : Fam} {L0 : List Nat} {f : Nat} {fn : Func} {φ : PsF} (hfn : Try.prog.funcs[f]? = some fn ∧ fn.body.isSome = true ∧ (fn.name == "runtime.NumGoroutine") = false) (h : PsOK f φ) : CallOK Try.prog X L0 f (psW φ) := by
  refine ⟨fn, hfn.1, hfn.2.1, hfn.2.2, fun args mem gh cr hcr hok E σ w0 x w hm hL => ?_⟩
  unfold psW at hcr
  split at hcr
  rotate_left
  · cases hcr
  rename_i i off args
  split at hcr
  rotate_left
  · cases hcr
  rename_i hoff
  have hoff := Nat.eq_of_beq_eq_true hoff
  subst hoff
  split at hcr
  rotate_left
  · cases hcr
  rename_i s hs
  split at hcr
  rotate_left
  · cases hcr
  rename_i b0 r s' hr
  injection hcr with hcr
  subst hcr
  have hi := psOf_some hs
  obtain ⟨hep, hc⟩ := h s args b0 r s' hr hok
  have hat : PSAt w (σ i) s := hm.mok.blk i _ hi
  refine Calls.mono (R := _) (by simpa [SV.den, CV.den, A.den] using hc E σ (σ i) w hat) ?_
  rintro e w' ⟨rfl, ha, hk⟩
  refine ⟨_, rfl, σ, fun v hv => ?_, ⟨x, hm.fam, fun n hn => ?_, hm.owns, ?_⟩, fun _ _ => rfl, by simpa [CR.kept] using hk⟩
  · injection hv with hv
    subst hv
    exact ⟨rfl, fun q k off hh => (hep q k off hh).elim⟩
  · have := hm.nm n hn
    simpa [CR.mem] using this
  · have := hm.mok.upd (b' := s'.blk) hi hk ha
    simpa [CR.mem] using this

/-- What hangs on nothing. -/
def famN : Fam := fun _ _ x => x = Ext.nil

/-- Each way of a tree ends in this answer, with this parser. -/
def EndsP (r : SV) (s : PS) : Out → Prop
  | .leaf K ex st => K = [] ∧ ex = .normal ∧ st.tmps = [(0, r)] ∧ psOf st.mem[0]? = some s
  | .both a b => EndsP r s a ∧ EndsP r s b
  | .ex f => ∀ a n, EndsP r s (f a n)
  | .nil => True
theorem EndsP_cond {r : SV} {s : PS} {b : Bool} {x y : Out} (h1 : b = true → EndsP r s x) (h2 : b = false → EndsP r s y) : EndsP r s (cond b x y) := by
  cases b
  · exact h2 rfl
  · exact h1 rfl
theorem endsP_ok {P : Program} {tb : Tab} {E : Nat → Row} {X : Fam} {Jt : Nat → Act → World → Prop} {Q : Exit → Act → World → Prop} {L0 : List Nat} {w0 : WM} {r : SV} {s : PS} (h : ∀ st, st.tmps = [(0, r)] → psOf st.mem[0]? = some s → Safe P tb E X Jt Q L0 w0 [] .normal st) : ∀ {o : Out}, EndsP r s o → OutOK P tb E X Jt Q L0 w0 o
  | .leaf K ex st, ho => by obtain ⟨rfl, rfl, h1, h2⟩ := ho; exact h st h1 h2
  | .both a b, ho => ⟨endsP_ok h ho.1, endsP_ok h ho.2⟩
  | .ex f, ho => fun a n => endsP_ok h (ho a n)
  | .nil, _ => trivial

theorem mok_ps {w : World} {J : Nat} {s : PS} (h : PSAt w J s) : Mo noRows famN [J] ⟨w, [J]⟩ (fun i => [J].getD i 0) gh0 [some s.blk] w := by
  have hlt := blk_lt h
  refine ⟨Ext.nil, rfl, fun i hi => (by cases hi), fun b hb => (by cases hb), mok_start rfl (by simp) (fun b hb => by simp at hb; subst hb; exact hlt) (fun b hb => hb) noRows_ok trivial (fun b hb => by cases hb) (fun i b hi => ?_) (fun i b hi => ?_)⟩
  · match i, hi with
    | 0, hi => simp [Ext.nil]
    | i + 1, hi => simp at hi
  · match i, hi with
    | 0, hi => simp at hi; subst hi; exact h
    | i + 1, hi => simp at hi

/-- How a method's contract comes of its tree. -/
theorem ps_of_ev {tb : Tab} (tok : ∀ L0, TabOK Try.prog famN L0 tb) {f : Nat} {fn : Func} (hf : look f tb.fn = some fn) {s s' : PS} {args : List SV} {r : SV} (hn : args.length + 1 ≤ fn.ntmps) (hargs : ∀ v, v ∈ args → ∀ q k off, v ≠ .c (.one (.ep q k off)))
    (hcl : ∀ E σ E' σ', args.map (SV.den E σ) = args.map (SV.den E' σ')) (hr : ∀ E σ E' σ', r.den E σ = r.den E' σ') (n : Nat)
    (h : EndsP r s' (ev tb noRows n [.c f [], .f f 1 [] (some 0)] .normal ⟨fn.ntmps, argTmps 0 (.c (.one (.ptr 0 0)) :: args), [some s.blk], gh0⟩)) (E : Nat → Row) (σ : Nat → Nat) (J : Nat) (w : World) (hat : PSAt w J s) :
    Calls Try.prog f (Value.pointer (some ⟨J, 0, none⟩) :: args.map (SV.den E σ)).toArray w fun e w' => e = .returned (r.den E σ) ∧ PSAt w' J s' ∧ Keep [J] w w' := by
  have key := calls_of_ev (X := famN) (Jt := fun _ _ _ => False) (tok [J]) hf (vs := .c (.one (.ptr 0 0)) :: args) (R := fun e w' => e = .returned (r.den E σ) ∧ PSAt w' J s' ∧ Keep [J] w w') (n := n) (mok_ps hat) (by simp) (by simpa using hn) (fun v hv => by
    rcases List.mem_cons.1 hv with rfl | hv
    · exact fun _ _ _ hh => by cases hh
    · exact fun q k off hh => (hargs v hv q k off hh).elim) (by
    refine endsP_ok (fun st hst hm0 => ?_) h
    have hm0 := psOf_some hm0
    intro σ' a w' hc
    have ht := hc.ht (0, r) (by rw [hst]; simp)
    show _ ∧ _ ∧ _
    refine ⟨?_, ?_, ?_⟩
    · rw [Array.getD_eq_getD_getElem?, ht]
      exact congrArg Ending.returned (hr _ _ _ _)
    · have h0 := hc.init 0 J rfl
      have := hc.blk 0 _ hm0
      rw [h0] at this
      exact this
    · obtain ⟨x, hm⟩ := hc.mo
      exact hm.mok.keep)
  rw [List.map_cons, hcl noRows (fun i => [J].getD i 0) E σ] at key
  exact key
end Go.Proofs.Ytloaehlgcgpieaa.Sx
