/-
  Slices for the reckoner: slots. Conditions: stated at each theorem.
-/
import Derived.Test.YtglbhabpenkpdaaMapK
set_option linter.unusedSimpArgs false
set_option linter.unusedVariables false
namespace Go.Proofs.Ytglbhabpenkpdaa.Sx
open Go.RowKit Go.Proofs.Ytglbhabpenkpdaa

def SlV.S : SlV → Nat | .ints S _ _ _ => S | .poss S _ _ => S
def SlV.e : SlV → Nat | .ints _ e _ _ => e | .poss _ e _ => e
def SlV.sz : SlV → Nat | .ints .. => 1 | .poss .. => 2
def SlV.len : SlV → Nat | .ints _ _ _ xs => xs.length | .poss _ _ ps => ps.length
def SlV.vals : SlV → List Value | .ints _ _ k xs => xs.map (.int k) | .poss _ _ ps => posV ps

/-- The types of a slice. -/
structure SlT (v : SlV) : Prop where
  elt : ∃ bytes z, Elt Try.prog v.S v.e v.sz bytes z ∧ bytes ≤ 64
  sz : ∀ w, (sizeOf v.e).run Try.prog w = .ok v.sz w

structure SlotOK (w : World) (s : Nat → Nat) (q : Sl) : Prop where
  own : q.own = true → w.ownsRow 0 q.v.e q.v.sz (.slice (oad s q.nm) q.v.len (s (q.nm + 2))) q.v.len q.v.vals
  cell : ∀ j v, q.v.vals[j]? = some v → ∃ b o, oad s q.nm = some ⟨b, o, none⟩ ∧ w.cell? ⟨b, o + j, none⟩ = some v
  len : s (q.nm + 3) = q.v.len
  cap : q.v.len ≤ s (q.nm + 2)
  small : q.v.len ≤ 1000000
  ty : SlT q.v

def sblk (s : Nat → Nat) (q : Sl) : List Nat := ((oad s q.nm).map (·.block)).toList

theorem SlotOK.st {w w' : World} {s : Nat → Nat} {q : Sl} (h : SlotOK w s q) (hb : ∀ b, b ∈ sblk s q → w'.heap[b]? = w.heap[b]?) : SlotOK w' s q := by
  refine ⟨fun ho => ⟨(h.own ho).1, ?_⟩, fun j v hv => ?_, h.len, h.cap, h.small, h.ty⟩
  · rcases (h.own ho).2 with h4 | ⟨g, cap, cur, hv, hbase, hh, hr⟩
    · exact .inl h4
    · refine .inr ⟨g, cap, cur, hv, hbase, (hb g ?_).trans hh, hr⟩
      injection hv with h1
      simp [sblk, h1]
  · obtain ⟨b, o, h1, h2⟩ := h.cell j v hv
    refine ⟨b, o, h1, ?_⟩
    have := hb b (by simp [sblk, h1])
    rw [← h2]
    simp only [World.cell?, this]

def slotsX (s : Nat → Nat) (sl : List Sl) : Ext := ⟨sl.flatMap (sblk s), fun w => ∀ q, q ∈ sl → SlotOK w s q, fun w w' h hb _ q hq => (h q hq).st fun b hb' => hb b (List.mem_flatMap.2 ⟨q, hq, hb'⟩)⟩

structure SlotsIn (nm : List Nat) (s : Nat → Nat) (sl : List Sl) : Prop where
  names : ∀ q, q ∈ sl → ∀ d, d < 4 → q.nm + d ∈ nm
  apart : sl.Pairwise fun a b => ∀ g, g ∈ sblk s a → g ∉ sblk s b

def slotY : Side := fun nm rr s x => x = slotsX s rr.sl ∧ SlotsIn nm s rr.sl

def getSl : Nat → List Sl → Option Sl
  | _, [] => none
  | i, q :: r => if Nat.beq q.nm i = true then some q else getSl i r

theorem getSl_some {i : Nat} {q : Sl} : ∀ {l : List Sl}, getSl i l = some q → q ∈ l ∧ q.nm = i
  | [], h => by cases h
  | x :: r, h => by
    unfold getSl at h
    split at h
    · rename_i e
      injection h with h
      subst h
      exact ⟨List.mem_cons_self, Nat.eq_of_beq_eq_true e⟩
    · have := getSl_some h
      exact ⟨List.mem_cons_of_mem _ this.1, this.2⟩

def Gh.pre (g : Gh) : List Nat := match g.k with | 0 => [] | _ + 1 => g.nm.take 1
def Gh.tl (g : Gh) : List Nat := match g.k with | 0 => g.nm | _ + 1 => g.nm.tail

/-- What hangs on the slots, what besides; and how it is put together again. -/
theorem slot_split {E : Nat → Row} {L0 : List Nat} {w0 : WM} {σ : Nat → Nat} {gh : Gh} {mem : List (Option Blk)} {x : Ext} {w : World} (h : Mx E (famJ slotY) L0 w0 σ gh mem x w) :
    ∃ z : Ext, x = z.and (slotsX (res gh.tl σ) gh.r.sl) ∧ SlotsIn gh.tl (res gh.tl σ) gh.r.sl ∧ (∀ b, b ∈ z.B → b ∉ (slotsX (res gh.tl σ) gh.r.sl).B) ∧ gh.nm = gh.pre ++ gh.tl ∧
      ∀ nm' r' σ', (∀ i, i ∈ gh.pre → σ i = σ' i) → (∀ b, b ∈ z.B → b ∉ (slotsX (res nm' σ') r'.sl).B) → SlotsIn nm' (res nm' σ') r'.sl → famJ slotY ⟨gh.pre ++ nm', gh.k, gh.ps, gh.at_, r'⟩ (res (gh.pre ++ nm') σ') (z.and (slotsX (res nm' σ') r'.sl)) := by
  obtain ⟨nm, k, ps, at_, rr⟩ := gh
  cases k with
  | zero =>
    obtain ⟨y, rfl, hy, hin⟩ := h.fam
    have hr : res nm (res nm σ) = res nm σ := res_res fun i hi => hi
    rw [hr] at hy hin
    subst hy
    refine ⟨Ext.nil, rfl, hin, fun b hb => (by cases hb), rfl, fun nm' r' σ' _ _ hin' => ⟨_, rfl, ?_⟩⟩
    show slotY nm' r' (res nm' (res nm' σ')) _
    rw [res_res fun i hi => hi]
    exact ⟨rfl, hin'⟩
  | succ k =>
    obtain ⟨L, p, r, y, h1, rfl, h3, h4, h5, hy, hin⟩ := h.fam
    cases nm with
    | nil => cases h1
    | cons i nm =>
      have hr : res nm (res (i :: nm) σ) = res nm σ := res_res fun i hi => List.mem_cons_of_mem _ hi
      have hy : y = slotsX (res nm (res (i :: nm) σ)) rr.sl := hy
      have hin : SlotsIn nm (res nm (res (i :: nm) σ)) rr.sl := hin
      rw [hr] at hy hin
      subst hy
      have h1 : σ i = L := by simpa [res] using h1
      refine ⟨jX L p r ps at_, rfl, hin, h3, rfl, fun nm' r' σ' hag hd hin' => ⟨L, p, r, _, ?_, rfl, hd, h4, h5, ?_⟩⟩
      · show some (res (i :: nm') σ' i) = some L
        rw [res_in List.mem_cons_self, ← hag i (by simp [Gh.pre]), h1]
      · show slotY nm' r' (res nm' (res (i :: nm') σ')) _
        rw [res_res fun i hi => List.mem_cons_of_mem _ hi]
        exact ⟨rfl, hin'⟩

/-- A slot as it is found. -/
theorem slot_of {E : Nat → Row} {L0 : List Nat} {w0 : WM} {σ : Nat → Nat} {j : Nat} {gh : Gh} {mem : List (Option Blk)} {x : Ext} {w : World} (h : Mx E (famJ slotY) L0 w0 σ gh mem x w) {q : Sl} (hq : getSl j gh.r.sl = some q) :
    SlotOK w σ q ∧ q.nm = j ∧ q ∈ gh.r.sl := by
  obtain ⟨z, rfl, h6, _, _, _⟩ := slot_split h
  obtain ⟨hq1, hq2⟩ := getSl_some hq
  have := h.mok.ext.2 q hq1
  have hn : ∀ d, d < 4 → res gh.tl σ (q.nm + d) = σ (q.nm + d) := fun d hd => res_in (h6.names q hq1 d hd)
  have h0 := hn 0 (by omega)
  have h1 := hn 1 (by omega)
  have h2 := hn 2 (by omega)
  have h3 := hn 3 (by omega)
  simp only [Nat.add_zero] at h0
  refine ⟨⟨fun ho => ?_, fun j v hv => ?_, ?_, ?_, this.small, this.ty⟩, hq2, hq1⟩
  · have := this.own ho
    simpa [oad, h0, h1, h2] using this
  · have := this.cell j v hv
    simpa [oad, h0, h1] using this
  · rw [← h3]; exact this.len
  · rw [← h2]; exact this.cap

/-- Words on what is read. -/
def slotR : Op → List (Nat × SV) → List (Option Blk) → Gh → Option CRR
  | .call { callee := .builtin .len, args := ⟨[x]⟩, argTypes := ⟨[S]⟩ }, tmps, _, ⟨nm, k, ps, at_, rr⟩ => match evO tmps x with
    | some (.c (.one (.os j))) => match getSl j rr.sl with
      | some q => if Nat.beq q.v.S S = true then some (.one ⟨some (iV .i64 q.v.len), [], ⟨nm, k, ps, at_, rr⟩, false, none⟩) else none
      | none => none
    | _ => none
  | .indexAddr S x idx, tmps, _, ⟨nm, k, ps, at_, rr⟩ => match evO tmps x, evO tmps idx with
    | some (.c (.one (.os j))), some (.c (.one (.v (.int kk z)))) => match getSl j rr.sl with
      | some q => if Nat.beq q.v.S S = true then some (.test (decide (0 ≤ z ∧ z < q.v.len)) ⟨some (.c (.one (.oe j z.toNat q.v.sz 0))), [], ⟨nm, k, ps, at_, rr⟩, false, none⟩) else none
      | none => none
    | _, _ => none
  | .fieldAddr t x f, tmps, _, ⟨nm, k, ps, at_, rr⟩ => match evO tmps x with
    | some (.c (.one (.oe j kk 2 0))) => match getSl j rr.sl with
      | some ⟨n', own', .poss S e qs⟩ => if Nat.beq 29 t = true then if Nat.blt f 2 = true then some (.test (decide (kk < qs.length)) ⟨some (.c (.one (.oe j kk 2 f))), [], ⟨nm, k, ps, at_, rr⟩, false, none⟩) else none else none
      | _ => none
    | _ => none
  | .load t x, tmps, _, ⟨nm, k, ps, at_, rr⟩ => match evO tmps x with
    | some (.c (.one (.oe j kk 1 0))) => match getSl j rr.sl with
      | some ⟨n', own', .ints S e .i64 xs⟩ => if Nat.beq 3 t = true then some (.test (decide (kk < xs.length)) ⟨some (iV .i64 (xs.getD kk 0)), [], ⟨nm, k, ps, at_, rr⟩, false, none⟩) else none
      | _ => none
    | some (.c (.one (.oe j kk 2 0))) => match getSl j rr.sl with
      | some ⟨n', own', .poss S e qs⟩ => if Nat.beq 3 t = true then some (.test (decide (kk < qs.length)) ⟨some (iV .i64 (qs.getD kk (0, 0)).1), [], ⟨nm, k, ps, at_, rr⟩, false, none⟩) else if Nat.beq 29 t = true then some (.test (decide (kk < qs.length)) ⟨some (.c (.agg [.v (.int .i64 (qs.getD kk (0, 0)).1), .v (.int .i64 (qs.getD kk (0, 0)).2)])), [], ⟨nm, k, ps, at_, rr⟩, false, none⟩) else none
      | _ => none
    | _ => none
  | _, _, _, _ => none

theorem aft_pure {E : Nat → Row} {X : Fam} {L0 : List Nat} {w0 : WM} {σ : Nat → Nat} {gh : Gh} {mem : List (Option Blk)} {x : Ext} {w : World} (hm : Mx E X L0 w0 σ gh mem x w) {v : SV} (hep : ∀ q k off, v ≠ .c (.one (.ep q k off))) : Aft E X L0 w0 σ mem x w ⟨some v, [], gh, false, none⟩ (v.den E σ) w :=
  ⟨σ, fun v' hv' => by injection hv' with hv'; subst hv'; exact ⟨rfl, fun q k off hh => (hep q k off hh).elim⟩, by rw [CR.mem_nil]; exact ⟨x, hm⟩, fun _ _ => rfl, Keep.refl _ _⟩

/-- What an operation yields that writes nothing. -/
theorem wp_yields {P : Program} {a : Act} {w : World} {o : Oper} {v : Value} {K : Act → World → Prop} {Qk : Exit → Act → World → Prop} (h : (execOp a.eval o).run P w = .ok (.value v) w) (hK : K (a.put o.dst v) w) : o.wp P a w K Qk := by
  unfold Oper.wp
  rw [h, Oper.upon_value]
  exact hK

theorem sz3 (w : World) : (sizeOf 3).run Try.prog w = .ok 1 w := ty3_ok.sizeOf w
theorem posA_add {b o k f : Nat} : (Addr.add ⟨b, o + k, none⟩ f) = ⟨b, o + (k + f), none⟩ := by unfold Addr.add; split <;> simp_all; omega
theorem addr_add {b o f : Nat} : (Addr.add ⟨b, o, none⟩ f) = ⟨b, o + f, none⟩ := by unfold Addr.add; split <;> simp_all

theorem vals_len (v : SlV) : v.vals.length = v.len * v.sz := by
  cases v with
  | ints S e k xs => simp [SlV.vals, SlV.len, SlV.sz]
  | poss S e ps => simp [SlV.vals, SlV.len, SlV.sz, posV_len]

theorem SlotOK.at_ {w : World} {s : Nat → Nat} {q : Sl} (h : SlotOK w s q) {k : Nat} (hk : k < q.v.len) : ∃ b o, oad s q.nm = some ⟨b, o, none⟩ := by
  have hz : 0 < q.v.sz := by cases q.v <;> simp [SlV.sz]
  have hl := vals_len q.v
  have h0 : 0 < q.v.vals.length := by rw [hl]; exact Nat.mul_pos (by omega) hz
  obtain ⟨b, o, h1, _⟩ := h.cell 0 _ (List.getElem?_eq_getElem h0)
  exact ⟨b, o, h1⟩

theorem slotR_ok {L0 : List Nat} : OpOK Try.prog (famJ slotY) L0 slotR := by
  intro op tmps mem gh cr hcr hok E σ w0 x a w hm hL V o ho Qk
  unfold slotR at hcr
  split at hcr
  · rename_i xo S nm k ps at_ rr
    split at hcr
    · rename_i j hj
      split at hcr
      · rename_i q hq
        split at hcr
        · rename_i e1
          have e1 := Nat.eq_of_beq_eq_true e1
          injection hcr with hcr
          subst hcr
          obtain ⟨hs, hn, _⟩ := slot_of hm hq
          obtain ⟨by_, z, helt, _⟩ := hs.ty.elt
          have ev1 := evO_sound V hj
          simp only [SV.den, CV.den, A.den] at ev1
          have hu := helt.und
          rw [e1] at hu
          have hlen := hs.len
          rw [hn] at hlen
          have hrun : (execOp a.eval o).run Try.prog w = .ok (.value (.int .i64 q.v.len)) w := by
            have := run_len_sl (P := Try.prog) (w := w) hu #[S] rfl o.type (oad σ j) (σ (j + 3)) (σ (j + 2))
            rw [hlen] at this ev1
            have this : (Builtin.len_ (⟨[S]⟩ : Array TypeId) o.type #[.slice (oad σ j) q.v.len (σ (j + 2))]).run Try.prog w = .ok (.int .i64 q.v.len) w := this
            simp [execOp, ho, resolve, invoke, builtin, ev1, this, Result.andThen]
          exact wp_yields hrun ⟨_, rfl, aft_pure hm (v := iV .i64 q.v.len) (fun _ _ _ hh => by cases hh)⟩
        · cases hcr
      · cases hcr
    · cases hcr
  · rename_i S xo idx nm k ps at_ rr
    split at hcr
    · rename_i j kk z hj hz
      split at hcr
      · rename_i q hq
        split at hcr
        · rename_i e1
          have e1 := Nat.eq_of_beq_eq_true e1
          injection hcr with hcr
          subst hcr
          have hz2 : 0 ≤ z ∧ z < q.v.len := of_decide_eq_true hok
          obtain ⟨hs, hn, _⟩ := slot_of hm hq
          obtain ⟨by_, zz, helt, _⟩ := hs.ty.elt
          have ev1 := evO_sound V hj
          have ev2 := evO_sound V hz
          simp only [SV.den, CV.den, A.den] at ev1 ev2
          have hu := helt.und
          rw [e1] at hu
          have hlen := hs.len
          rw [hn] at hlen
          obtain ⟨b, o', hb⟩ := hs.at_ (k := z.toNat) (by omega)
          rw [hn] at hb
          have hi := run_indexAt_in (P := Try.prog) (w := w) (k := kk) (b := b) (o := o') (n := σ (j + 3)) (c := σ (j + 2)) hu hs.ty.sz hz2.1 (by rw [hlen]; exact hz2.2)
          have hrun : (execOp a.eval o).run Try.prog w = .ok (.value (.pointer (some ⟨b, o' + z.toNat * q.v.sz, none⟩))) w := by
            simp [execOp, ho, ev1, ev2, hb, hi, Result.andThen]
          have := aft_pure hm (v := .c (.one (.oe j z.toNat q.v.sz 0))) (fun _ _ _ hh => by cases hh)
          simp only [SV.den, CV.den, A.den, hb, Option.map_some, Nat.add_zero, addr_add] at this
          exact wp_yields hrun ⟨_, rfl, this⟩
        · cases hcr
      · cases hcr
    · cases hcr
  · rename_i t xo f nm k ps at_ rr
    split at hcr
    · rename_i j kk hj
      split at hcr
      · rename_i n' own' S e qs hq
        split at hcr
        · rename_i e1
          have e1 := Nat.eq_of_beq_eq_true e1
          split at hcr
          · rename_i e2
            have e2 : f < 2 := by simpa [Nat.blt_eq] using e2
            injection hcr with hcr
            subst hcr
            have hk : kk < qs.length := of_decide_eq_true hok
            obtain ⟨hs, hn, _⟩ := slot_of hm hq
            obtain ⟨b, o', hb⟩ := hs.at_ (k := kk) hk
            rw [hn] at hb
            have ev1 := evO_sound V hj
            simp only [SV.den, CV.den, A.den, hb, Option.map_some, Nat.add_zero, addr_add] at ev1
            have hrun : (execOp a.eval o).run Try.prog w = .ok (.value (.pointer (some ⟨b, o' + (kk * 2 + f), none⟩))) w := by
              subst e1
              have hf : f = 0 ∨ f = 1 := by omega
              rcases hf with rfl | rfl
              · simp [execOp, ho, ev1, Instr.fieldAt, run_underlying Try.underlying29, Instr.sureAddr, fieldPlace, sz3, Result.andThen, Addr.add]
              · simp [execOp, ho, ev1, Instr.fieldAt, run_underlying Try.underlying29, Instr.sureAddr, fieldPlace, sz3, Result.andThen, Addr.add]
            have := aft_pure hm (v := .c (.one (.oe j kk 2 f))) (fun _ _ _ hh => by cases hh)
            simp only [SV.den, CV.den, A.den, hb, Option.map_some, addr_add] at this
            exact wp_yields hrun ⟨_, rfl, this⟩
          · cases hcr
        · cases hcr
      · cases hcr
    · cases hcr
  · rename_i t xo nm k ps at_ rr
    split at hcr
    · rename_i j kk hj
      split at hcr
      · rename_i n' own' S e xs hq
        split at hcr
        · rename_i e1
          have e1 := Nat.eq_of_beq_eq_true e1
          injection hcr with hcr
          subst hcr
          have hk : kk < xs.length := of_decide_eq_true hok
          obtain ⟨hs, hn, _⟩ := slot_of hm hq
          obtain ⟨b, o', hb, hc⟩ := hs.cell kk (.int .i64 (xs.getD kk 0)) (by simp [SlV.vals, List.getElem?_eq_getElem hk, List.getD_eq_getElem?_getD])
          rw [hn] at hb
          have ev1 := evO_sound V hj
          simp only [SV.den, CV.den, A.den, hb, Option.map_some, Nat.add_zero, Nat.mul_one, addr_add] at ev1
          have hl := loadVar_one (P := Try.prog) (w := w) ty3_ok rfl hc
          have hrun : (execOp a.eval o).run Try.prog w = .ok (.value (.int .i64 (xs.getD kk 0))) w := by
            subst e1
            simp [execOp, ho, ev1, Instr.loadAt, Instr.sureAddr, hl, Result.andThen]
          exact wp_yields hrun ⟨_, rfl, aft_pure hm (v := iV .i64 (xs.getD kk 0)) (fun _ _ _ hh => by cases hh)⟩
        · cases hcr
      · cases hcr
    · rename_i j kk hj
      split at hcr
      · rename_i n' own' S e qs hq
        split at hcr
        · rename_i e1
          have e1 := Nat.eq_of_beq_eq_true e1
          injection hcr with hcr
          subst hcr
          have hk : kk < qs.length := of_decide_eq_true hok
          obtain ⟨hs, hn, _⟩ := slot_of hm hq
          obtain ⟨b, o', hb, hc⟩ := hs.cell (kk * 2) (.int .i64 (qs.getD kk (0, 0)).1) (by simp [SlV.vals, posV_get0, List.getElem?_eq_getElem hk, List.getD_eq_getElem?_getD])
          rw [hn] at hb
          have ev1 := evO_sound V hj
          simp only [SV.den, CV.den, A.den, hb, Option.map_some, Nat.add_zero, addr_add] at ev1
          have hl := loadVar_one (P := Try.prog) (w := w) ty3_ok rfl hc
          have hrun : (execOp a.eval o).run Try.prog w = .ok (.value (.int .i64 (qs.getD kk (0, 0)).1)) w := by
            subst e1
            simp [execOp, ho, ev1, Instr.loadAt, Instr.sureAddr, hl, Result.andThen]
          exact wp_yields hrun ⟨_, rfl, aft_pure hm (v := iV .i64 (qs.getD kk (0, 0)).1) (fun _ _ _ hh => by cases hh)⟩
        · split at hcr
          · rename_i _ e1
            have e1 := Nat.eq_of_beq_eq_true e1
            injection hcr with hcr
            subst hcr
            have hk : kk < qs.length := of_decide_eq_true hok
            obtain ⟨hs, hn, _⟩ := slot_of hm hq
            obtain ⟨b, o', hb, hc⟩ := hs.cell (kk * 2) (.int .i64 (qs.getD kk (0, 0)).1) (by simp [SlV.vals, posV_get0, List.getElem?_eq_getElem hk, List.getD_eq_getElem?_getD])
            obtain ⟨b2, o2, hb2, hc2⟩ := hs.cell (kk * 2 + 1) (.int .i64 (qs.getD kk (0, 0)).2) (by simp [SlV.vals, posV_get1, List.getElem?_eq_getElem hk, List.getD_eq_getElem?_getD])
            rw [hb] at hb2
            injection hb2 with hb2
            injection hb2 with h5 h6
            subst h5 h6
            rw [hn] at hb
            have ev1 := evO_sound V hj
            simp only [SV.den, CV.den, A.den, hb, Option.map_some, Nat.add_zero, addr_add] at ev1
            have hl := loadVar_agg (P := Try.prog) (w := w) (b := b) (o := o' + kk * 2) ty29_ok rfl (cs := [.int .i64 (qs.getD kk (0, 0)).1, .int .i64 (qs.getD kk (0, 0)).2]) rfl (fun j v hv => by
              match j, hv with
              | 0, hv => injection hv with hv; subst hv; exact hc
              | 1, hv => injection hv with hv; subst hv; rw [Nat.add_assoc]; exact hc2
              | j + 2, hv => simp at hv)
            have hrun : (execOp a.eval o).run Try.prog w = .ok (.value (.agg #[.int .i64 (qs.getD kk (0, 0)).1, .int .i64 (qs.getD kk (0, 0)).2])) w := by
              subst e1
              simp [execOp, ho, ev1, Instr.loadAt, Instr.sureAddr, hl, Result.andThen]
            exact wp_yields hrun ⟨_, rfl, aft_pure hm (v := .c (.agg [.v (.int .i64 (qs.getD kk (0, 0)).1), .v (.int .i64 (qs.getD kk (0, 0)).2)])) (fun _ _ _ hh => by cases hh)⟩
          · cases hcr
      · cases hcr
    · cases hcr
  · cases hcr
end Go.Proofs.Ytglbhabpenkpdaa.Sx
