/-
  A small reckoner for straight code: it follows a function's operations over blocks of known cells; 'ev_sound': where what it is left with goes well, the code it was set on goes well. Conditions: stated at each theorem.
-/
import Derived.Test.YtloaehlgcgpieaaBase
import Derived.Test.YtloaehlgcgpieaaGh
import Derived.Laws.StructEq
import Derived.OrdersHeld
import Derived.Deep.MidRow
import Derived.Laws.BytesArg
import Derived.Laws.Slices
import Derived.Laws.Small
import Derived.Laws.Tables
import Derived.Great.FillDense
import Derived.Great.BuildSlice
set_option linter.unusedSimpArgs false
set_option linter.unusedVariables false
namespace Go.Proofs.Ytloaehlgcgpieaa.Sx
open Go.RowKit Go.Proofs.Ytloaehlgcgpieaa
section
/-- A row of elements that is only read: where it lies, how many there are, each one's cells. -/
structure Row where
  ad : Option Addr
  n : Nat
  c : Nat
  sz : Nat
  get : Nat → List Value

/-- The value of one cell. -/
inductive A where
  | v (x : Value)
  | ptr (i off : Nat)
  | bsl (i n : Nat)
  | row (r : Nat)
  | ep (r k off : Nat)
  | sub (s : A) (l h m sz : Nat)
  | mp (i : Nat)
  | os (i : Nat)
  | oe (i k sz off : Nat)
  | vw (i l h : Nat)

inductive CV where
  | one (a : A)
  | agg (l : List A)

inductive SV where
  | c (x : CV)
  | tup (l : List CV)

structure Blk where
  cells : List A
  ty : Nat

structure St where
  n : Nat
  tmps : List (Nat × SV)
  mem : List (Option Blk)
  gh : Gh

/-- What an operation beyond the reckoner's own brings: a result, new blocks, the ghost behind it, and whether the blocks of the ghost were written. -/
structure CR where
  r : Option SV
  new : List (Option Blk)
  gh : Gh
  wr : Bool
  up : Option (Nat × Blk)

inductive CRR where
  | one (c : CR)
  | any (f : Option Addr → Nat → CR)
  | test (b : Bool) (c : CR)

def CRR.ok : CRR → Prop
  | .test b _ => b = true
  | _ => True

def CRR.Some (g : CR → Prop) : CRR → Prop
  | .one c => g c
  | .any f => ∃ a n, g (f a n)
  | .test _ c => g c

structure Ty where
  desc : TypeDesc
  sz : Nat
  zero : Value
  eqok : Bool

structure TyOK (P : Program) (t : Nat) (d : Ty) : Prop where
  und : P.underlying t = some d.desc
  info : (P.info? t).map (fun i => (i.zero, i.size)) = some (some d.zero, d.sz)
  eqs : d.eqok = true → P.stoodInHeld t = false ∧ P.eqGuardType P.depth t = false

def Ty.agg (d : Ty) : Bool := d.desc.isRow

def look {α : Type} (k : Nat) : List (Nat × α) → Option α
  | [] => none
  | (i, x) :: r => if Nat.beq i k = true then some x else look k r

theorem look_mem {α : Type} {k : Nat} {x : α} : ∀ {l : List (Nat × α)}, look k l = some x → (k, x) ∈ l
  | [], h => by cases h
  | (i, y) :: r, h => by
    unfold look at h
    split at h
    · rename_i hi
      have := Nat.eq_of_beq_eq_true hi
      injection h with h
      subst this h
      exact List.mem_cons_self
    · exact List.mem_cons_of_mem _ (look_mem h)

def slv (l h m sz : Nat) : Value → Value
  | .slice a _ _ => .slice (if m = l then a else a.map (·.add (l * sz))) (h - l) (m - l)
  | x => x

/-- Where slot i lies: three names. -/
def oad (σ : Nat → Nat) (i : Nat) : Option Addr := if σ i = 0 then none else some ⟨σ i - 1, σ (i + 1), none⟩

section
variable (E : Nat → Row) (σ : Nat → Nat)
def A.den : A → Value
  | .v x => x
  | .ptr i off => .pointer (some ⟨σ i, off, none⟩)
  | .bsl i n => .slice (some ⟨σ i, 0, none⟩) n n
  | .row r => .slice (E r).ad (E r).n (E r).c
  | .ep r k off => .pointer ((E r).ad.map fun a => ⟨a.block, a.off + (k * (E r).sz + off), none⟩)
  | .sub s l h m sz => slv l h m sz s.den
  | .mp i => .map (some (σ i))
  | .os i => .slice (oad σ i) (σ (i + 3)) (σ (i + 2))
  | .oe i k sz off => .pointer ((oad σ i).map (·.add (k * sz + off)))
  | .vw i l h => slv l h (σ (i + 2)) 1 (.slice (oad σ i) (σ (i + 3)) (σ (i + 2)))

def CV.den : CV → Value
  | .one a => a.den E σ
  | .agg l => .agg (l.map (A.den E σ)).toArray

def SV.den : SV → Value
  | .c x => x.den E σ
  | .tup l => .tuple (l.map (CV.den E σ)).toArray
end

/-- Which names a value bears. -/
def A.wf (n : Nat) : A → Bool
  | .ptr i _ => Nat.blt i n
  | .bsl i _ => Nat.blt i n
  | .mp i => Nat.blt i n
  | .os i => Nat.blt (i + 3) n
  | .oe i _ _ _ => Nat.blt (i + 3) n
  | .vw i _ _ => Nat.blt (i + 3) n
  | .sub s _ _ _ _ => s.wf n
  | _ => true
def CV.wf (n : Nat) : CV → Bool
  | .one a => a.wf n
  | .agg l => l.all (A.wf n)
def SV.wf (n : Nat) : SV → Bool
  | .c x => x.wf n
  | .tup l => l.all (CV.wf n)

section
variable {E : Nat → Row} {σ σ' : Nat → Nat} {n : Nat}
theorem A.den_congr (h : ∀ i, i < n → σ i = σ' i) : ∀ {a : A}, a.wf n = true → a.den E σ = a.den E σ'
  | .v _, _ => rfl
  | .ptr i _, hw => by simp only [A.den]; rw [h i (by simpa [A.wf, Nat.blt_eq] using hw)]
  | .bsl i _, hw => by simp only [A.den]; rw [h i (by simpa [A.wf, Nat.blt_eq] using hw)]
  | .mp i, hw => by simp only [A.den]; rw [h i (by simpa [A.wf, Nat.blt_eq] using hw)]
  | .os i, hw => by
    have hw : i + 3 < n := by simpa [A.wf, Nat.blt_eq] using hw
    simp only [A.den, oad]; rw [h i (by omega), h (i + 1) (by omega), h (i + 2) (by omega), h (i + 3) hw]
  | .oe i _ _ _, hw => by
    have hw : i + 3 < n := by simpa [A.wf, Nat.blt_eq] using hw
    simp only [A.den, oad]; rw [h i (by omega), h (i + 1) (by omega)]
  | .vw i _ _, hw => by
    have hw : i + 3 < n := by simpa [A.wf, Nat.blt_eq] using hw
    simp only [A.den, oad]; rw [h i (by omega), h (i + 1) (by omega), h (i + 2) (by omega), h (i + 3) hw]
  | .row _, _ => rfl
  | .ep _ _ _, _ => rfl
  | .sub s _ _ _ _, hw => by simp only [A.den]; rw [A.den_congr h (a := s) (by simpa [A.wf] using hw)]
theorem A.dens_congr (h : ∀ i, i < n → σ i = σ' i) {l : List A} (hw : l.all (A.wf n) = true) : l.map (A.den E σ) = l.map (A.den E σ') :=
  List.map_congr_left fun a ha => A.den_congr h (List.all_eq_true.1 hw a ha)
theorem CV.den_congr (h : ∀ i, i < n → σ i = σ' i) {x : CV} (hw : x.wf n = true) : x.den E σ = x.den E σ' := by
  cases x with
  | one a => exact A.den_congr h hw
  | agg l => simp only [CV.den]; rw [A.dens_congr h hw]
theorem SV.den_congr (h : ∀ i, i < n → σ i = σ' i) {x : SV} (hw : x.wf n = true) : x.den E σ = x.den E σ' := by
  cases x with
  | c x => exact CV.den_congr h hw
  | tup l => simp only [SV.den]; rw [List.map_congr_left fun a ha => CV.den_congr h (List.all_eq_true.1 hw a ha)]
end

/-- What the reckoner is told: types; functions that are entered; functions that are told by a word of their own; which temporaries are kept from region to region; which blocks a region that draws may write. -/
structure Tab where
  ty : List (Nat × Ty)
  fn : List (Nat × Func)
  call : List (Nat × (List SV → List (Option Blk) → Gh → Option CRR))
  keep : List (Nat × List Nat)
  thaw : List (Nat × List (Nat × List Nat))
  op : Op → List (Nat × SV) → List (Option Blk) → Gh → Option CRR := fun _ _ _ _ => none

/-- What an operation that writes nothing yields. -/
inductive PR where
  | no
  | ok (x : SV)
  | test (b : Bool) (x : SV)

abbrev iV (k : IntKind) (n : Int) : SV := .c (.one (.v (.int k n)))
abbrev bV (b : Bool) : SV := .c (.one (.v (.bool b)))
abbrev sV (s : ByteArray) : SV := .c (.one (.v (.string s)))

def evO (tmps : List (Nat × SV)) : Operand → Option SV
  | .tmp t => look t tmps
  | .const v => some (.c (.one (.v v)))
  | .func f => some (.c (.one (.v (.func (.func f) #[] #[]))))
  | .global _ => none

def kindEq : IntKind → IntKind → Bool
  | .i8, .i8 => true
  | .i16, .i16 => true
  | .i32, .i32 => true
  | .i64, .i64 => true
  | .u8, .u8 => true
  | .u16, .u16 => true
  | .u32, .u32 => true
  | .u64, .u64 => true
  | _, _ => false
theorem kindEq_eq {a b : IntKind} (h : kindEq a b = true) : a = b := by cases a <;> cases b <;> first | rfl | cases h

def binI (op : BinOp) (k : IntKind) (x y : Int) : PR :=
  match op with
  | .add => .ok (iV k (k.wrap (x + y)))
  | .sub => .ok (iV k (k.wrap (x - y)))
  | .mul => .ok (iV k (k.wrap (x * y)))
  | .quo => .test (decide (y ≠ 0)) (iV k (k.wrap (x.tdiv y)))
  | .rem => .test (decide (y ≠ 0)) (iV k (x.tmod y))
  | .eql => .ok (bV (x == y))
  | .neq => .ok (bV (x != y))
  | .lss => .ok (bV (decide (x < y)))
  | .leq => .ok (bV (decide (x ≤ y)))
  | .gtr => .ok (bV (decide (x > y)))
  | .geq => .ok (bV (decide (x ≥ y)))
  | _ => .no

def binS (op : BinOp) (a b : ByteArray) : PR :=
  match op with
  | .add => .test (decide (a.size + b.size ≤ 9223372036854775807)) (sV (a ++ b))
  | .eql => .ok (bV (a.toList == b.toList))
  | .neq => .ok (bV (!(a.toList == b.toList)))
  | _ => .no

def eqA (d : TypeDesc) : A → A → Option Bool
  | .v (.int k a), .v (.int k' b) => match d with | .int _ => if kindEq k k' = true then some (a == b) else none | _ => none
  | .v (.bool a), .v (.bool b) => match d with | .bool => some (a == b) | _ => none
  | .v (.string a), .v (.string b) => match d with | .string => some (a.toList == b.toList) | _ => none
  | _, _ => none

def eqFs (ty : List (Nat × Ty)) (xs ys : List A) : List Field → Option Bool
  | [] => some true
  | f :: fs =>
    if (f.name == "_") = true then none else
    match look f.type ty with
    | none => none
    | some d =>
      match xs[f.offset]?, ys[f.offset]? with
      | some x, some y =>
        match eqA d.desc x y, eqFs ty xs ys fs with
        | some r, some s => some (r && s)
        | _, _ => none
      | _, _ => none

def isNilP : A → Option Bool
  | .v (.pointer none) => some true
  | .v (.pointer (some _)) => some false
  | .ptr _ _ => some false
  | _ => none

def binN (ty : List (Nat × Ty)) (op : BinOp) (t : Nat) (x : A) : PR :=
  match look t ty, isNilP x with
  | some d, some r => match d.desc, op with
    | .pointer _, .eql => .ok (bV r)
    | .pointer _, .neq => .ok (bV (!r))
    | _, _ => .no
  | _, _ => .no

def binB (ty : List (Nat × Ty)) (op : BinOp) (t : Nat) (a b : Bool) : PR :=
  match look t ty with
  | some d => match d.desc, op with
    | .bool, .eql => .ok (bV (a == b))
    | .bool, .neq => .ok (bV (!(a == b)))
    | _, _ => .no
  | none => .no

def binG (ty : List (Nat × Ty)) (op : BinOp) (t : Nat) (xs ys : List A) : PR :=
  match look t ty with
  | some d => match d.desc, d.eqok with
    | .struct fs, true =>
      match eqFs ty xs ys fs.toList with
      | some r => match op with
        | .eql => .ok (bV r)
        | .neq => .ok (bV (!r))
        | _ => .no
      | none => .no
    | _, _ => .no
  | none => .no

def binV (ty : List (Nat × Ty)) (op : BinOp) (t : Nat) : CV → CV → PR
  | .one (.v (.int k a)), .one (.v (.int k' b)) => if kindEq k k' = true then binI op k a b else .no
  | .one (.v (.string a)), .one (.v (.string b)) => binS op a b
  | .one (.v (.bool a)), .one (.v (.bool b)) => binB ty op t a b
  | .one x, .one (.v (.pointer none)) => binN ty op t x
  | .agg xs, .agg ys => binG ty op t xs ys
  | _, _ => .no
end

section
structure RowAt (w : World) (R : Row) : Prop where
  cell : 0 < R.n → ∃ b o, R.ad = some ⟨b, o, none⟩ ∧ ∀ k, k < R.n → ∀ j, j < R.sz → w.cell? ⟨b, o + (k * R.sz + j), none⟩ = (R.get k)[j]?
  len : ∀ k, k < R.n → (R.get k).length = R.sz
  cap : R.n ≤ R.c

/-- What may be read: the temporaries, the blocks, the rows. -/
structure Vw (E : Nat → Row) (σ : Nat → Nat) (tmps : List (Nat × SV)) (mem : List (Option Blk)) (a : Act) (w : World) : Prop where
  ht : ∀ p, p ∈ tmps → a.tmps[p.1]? = some (p.2.den E σ)
  he : ∀ t r k off, (t, SV.c (.one (.ep r k off))) ∈ tmps → k < (E r).n
  hm : ∀ i b, mem[i]? = some (some b) → w.heap[σ i]? = some (.cells (b.cells.map (A.den E σ)).toArray b.ty (0, 0))
  hr : ∀ r, RowAt w (E r)

def blkAt (mem : List (Option Blk)) (i : Nat) : Option Blk := match mem[i]? with | some (some b) => some b | _ => none
theorem blkAt_some {mem : List (Option Blk)} {i : Nat} {b : Blk} (h : blkAt mem i = some b) : mem[i]? = some (some b) := by
  unfold blkAt at h
  split at h
  · rename_i x hx; injection h with h; subst h; exact hx
  · cases h

/-- A struct's field: its place, its size, whether it is a struct itself. -/
def fldAt (ty : List (Nat × Ty)) (s fld : Nat) : Option (Nat × Nat × Bool) :=
  match look s ty with
  | some d => match d.desc with
    | .struct fs => match fs.toList[fld]? with
      | some f => match look f.type ty with
        | some fd => some (f.offset, fd.sz, fd.agg)
        | none => none
      | none => none
    | _ => none
  | none => none

def elemAt (ty : List (Nat × Ty)) (t : Nat) : Option Nat :=
  match look t ty with
  | some d => match d.desc with
    | .slice e => match look e ty with
      | some ed => some ed.sz
      | none => none
    | _ => none
  | none => none

def PR.noEp : PR → PR
  | .ok (.c (.one (.ep _ _ _))) => .no
  | r => r

def loadA (E : Nat → Row) (mem : List (Option Blk)) (d : Ty) : A → PR
  | .ptr i off => match blkAt mem i with
    | some b => if d.agg = true then
        (if Nat.beq ((b.cells.drop off).take d.sz).length d.sz = true then .ok (.c (.agg ((b.cells.drop off).take d.sz))) else .no)
      else match b.cells[off]? with
        | some (.ep _ _ _) => .no
        | some x => .ok (.c (.one x))
        | none => .no
    | none => .no
  | .ep r k off => if d.agg = true then
      (if Nat.ble (off + d.sz) (E r).sz = true then .ok (.c (.agg ((((E r).get k).drop off).take d.sz |>.map .v))) else .no)
    else (if Nat.blt off (E r).sz = true then .ok (.c (.one (.v (((E r).get k).getD off undef)))) else .no)
  | _ => .no

def fldA (fo fsz : Nat) : A → PR
  | .ptr i off => if Nat.beq fsz 0 = true then .no else .ok (.c (.one (.ptr i (off + fo))))
  | .ep r k off => if Nat.beq fsz 0 = true then .no else .ok (.c (.one (.ep r k (off + fo))))
  | _ => .no

def fieldV (fo fsz : Nat) (fagg : Bool) (l : List A) : PR :=
  if fagg = true then .ok (.c (.agg ((l.drop fo).take fsz)))
  else match l[fo]? with
    | some (.ep _ _ _) => .no
    | some x => .ok (.c (.one x))
    | none => .no

variable {P : Program} {tb : Tab} {E : Nat → Row} {σ : Nat → Nat} {tmps : List (Nat × SV)} {mem : List (Option Blk)} {a : Act} {w : World}

theorem evO_sound (V : Vw E σ tmps mem a w) {x : Operand} {v : SV} (h : evO tmps x = some v) : a.eval x = v.den E σ := by
  cases x with
  | tmp t =>
    have := V.ht _ (look_mem h)
    simp only [Act.eval, Array.getD_eq_getD_getElem?, this, Option.getD_some]
  | const c => simp only [evO, Option.some.injEq] at h; subst h; rfl
  | func f => simp only [evO, Option.some.injEq] at h; subst h; rfl
  | global g => cases h

theorem evO_ep (V : Vw E σ tmps mem a w) {x : Operand} {r k off : Nat} (h : evO tmps x = some (.c (.one (.ep r k off)))) : k < (E r).n := by
  cases x with
  | tmp t => exact V.he t r k off (look_mem h)
  | const c => simp [evO] at h
  | func f => simp [evO] at h
  | global g => cases h

theorem TyOK.sizeOf {t : Nat} {d : Ty} (h : TyOK P t d) (w : World) : (sizeOf t).run P w = .ok d.sz w := by
  have := h.info
  cases hq : P.info? t with
  | none => rw [hq] at this; cases this
  | some i => rw [hq] at this; simp at this; simp [Go.sizeOf, typeInfo, hq, this]

theorem TyOK.zeroValue {t : Nat} {d : Ty} (h : TyOK P t d) (w : World) : (zeroValue t).run P w = .ok d.zero w := by
  have := h.info
  cases hq : P.info? t with
  | none => rw [hq] at this; cases this
  | some i => rw [hq] at this; simp at this; simp [Go.zeroValue, typeInfo, hq, this]

theorem TyOK.isAgg {t : Nat} {d : Ty} (h : TyOK P t d) (w : World) : (isAgg t).run P w = .ok d.agg w := by
  have := h.und
  unfold Go.isAgg
  rw [Sem.run_bind, run_underlying this w]
  unfold Ty.agg
  cases hd : d.desc <;> simp [hd]

theorem TyOK.sz {t : Nat} {d : Ty} (h : TyOK P t d) : (P.info? t).map (·.size) = some d.sz := by
  have := h.info
  cases hq : P.info? t with
  | none => rw [hq] at this; cases this
  | some i => rw [hq] at this; simp at this; simp [this]

theorem loadVar_agg {t : Nat} {d : Ty} (h : TyOK P t d) (hd : d.agg = true) {b o : Nat} {cs : List Value} (hl : cs.length = d.sz) (hc : ∀ j v, cs[j]? = some v → w.cell? ⟨b, o + j, none⟩ = some v) :
    (loadVar t ⟨b, o, none⟩).run P w = .ok (.agg cs.toArray) w :=
  run_loadVar_mid w b o t cs d.desc hc h.und hd (by rw [h.sz, hl])

theorem loadVar_one {t : Nat} {d : Ty} (h : TyOK P t d) (hd : d.agg = false) {ad : Addr} {v : Value} (hc : w.cell? ad = some v) :
    (loadVar t ad).run P w = .ok v w := by
  unfold loadVar
  rw [Sem.run_bind, h.isAgg w, hd]
  simp [hc]

theorem loadA_sound {t : Nat} {d : Ty} (h : TyOK P t d) (V : Vw E σ tmps mem a w) {x : A} {r : SV} (hx : ∀ r k off, x = .ep r k off → k < (E r).n) (hr : loadA E mem d x = .ok r) :
    (Instr.loadAt t (x.den E σ)).run P w = .ok (r.den E σ) w ∧ ∀ r' k off, r ≠ .c (.one (.ep r' k off)) := by
  cases x with
  | ptr i off =>
    simp only [loadA] at hr
    split at hr
    · rename_i b hb
      have hm := V.hm i b (blkAt_some hb)
      split at hr
      · rename_i hag
        split at hr
        · rename_i hlen
          injection hr with hr
          subst hr
          refine ⟨?_, by simp⟩
          simp only [A.den, SV.den, CV.den, Instr.loadAt, Instr.sureAddr, Sem.run_bind, Sem.run_pure, Result.andThen_ok]
          refine loadVar_agg h hag (by simpa using Nat.eq_of_beq_eq_true hlen) (fun j v hj => ?_)
          rw [blk_cell hm]
          simp only [List.getElem?_map, List.getElem?_take, List.getElem?_drop] at hj
          split at hj
          · simpa using hj
          · cases hj
        · cases hr
      · rename_i hag
        have hag' : d.agg = false := by simpa using hag
        split at hr
        · cases hr
        · rename_i y hne hy
          injection hr with hr
          subst hr
          refine ⟨?_, fun r' k off hh => ?_⟩
          · simp only [A.den, SV.den, CV.den, Instr.loadAt, Instr.sureAddr, Sem.run_bind, Sem.run_pure, Result.andThen_ok]
            exact loadVar_one h hag' (by rw [blk_cell hm]; simp [hy])
          · injection hh with hh; injection hh with hh; subst hh; exact hne _ _ _ rfl
        · cases hr
    · cases hr
  | ep q k off =>
    have hk := hx q k off rfl
    obtain ⟨b, o, had, hcell⟩ := (V.hr q).cell (by omega)
    have hlen := (V.hr q).len k hk
    simp only [loadA] at hr
    split at hr
    · rename_i hag
      split at hr
      · rename_i hle
        have hle := Nat.le_of_ble_eq_true hle
        injection hr with hr
        subst hr
        refine ⟨?_, by simp⟩
        simp only [A.den, SV.den, CV.den, had, Option.map_some, Instr.loadAt, Instr.sureAddr, Sem.run_bind, Sem.run_pure, Result.andThen_ok, List.map_map]
        refine loadVar_agg h hag (by simp [hlen]; omega) (fun j v hj => ?_)
        simp only [List.getElem?_map, List.getElem?_take, List.getElem?_drop] at hj
        split at hj
        · rename_i hjl
          have := hcell k hk (off + j) (by omega)
          rw [show o + (k * (E q).sz + off) + j = o + (k * (E q).sz + (off + j)) by omega, this]
          revert hj
          cases ((E q).get k)[off + j]? <;> simp [A.den]
        · cases hj
      · cases hr
    · rename_i hag
      have hag' : d.agg = false := by simpa using hag
      split at hr
      · rename_i hlt
        have hlt : off < (E q).sz := by simpa [Nat.blt_eq] using hlt
        injection hr with hr
        subst hr
        refine ⟨?_, by simp⟩
        simp only [A.den, SV.den, CV.den, had, Option.map_some, Instr.loadAt, Instr.sureAddr, Sem.run_bind, Sem.run_pure, Result.andThen_ok]
        refine loadVar_one h hag' ?_
        rw [hcell k hk off hlt, List.getElem?_eq_getElem (by omega)]
        simp [List.getD, List.getElem?_eq_getElem (show off < ((E q).get k).length by omega)]
      · cases hr
  | v x => cases hr
  | bsl i n => cases hr
  | row r => cases hr
  | sub s l h m sz => cases hr
  | mp i => cases hr
  | os i => cases hr
  | oe i k sz off => cases hr
  | vw i l h => cases hr
end

section
def stepI (ty : List (Nat × Ty)) (E : Nat → Row) (t : Nat) (x : A) (i : Int) : PR :=
  match x with
  | .row r => match elemAt ty t with
    | some sz => if Nat.beq sz (E r).sz = true then .test (decide (0 ≤ i ∧ i < (E r).n)) (.c (.one (.ep r i.toNat 0))) else .no
    | none => .no
  | .sub (.row r) l h m z => match elemAt ty t with
    | some sz => if Nat.beq sz (E r).sz = true then (if Nat.beq sz z = true then .test (decide (0 ≤ i ∧ i < ((h - l : Nat) : Int) ∧ h ≤ (E r).n ∧ l < m)) (.c (.one (.ep r (l + i.toNat) 0))) else .no) else .no
    | none => .no
  | .bsl b n => match elemAt ty t with
    | some sz => .test (decide (0 ≤ i ∧ i < (n : Int))) (.c (.one (.ptr b (i.toNat * sz))))
    | none => .no
  | _ => .no

def intsOf : List A → Option (List Int)
  | [] => some []
  | .v (.int .u8 z) :: r => match intsOf r with | some l => some (z :: l) | none => none
  | _ => none

/-- The bytes of a row. -/
def byteAt (R : Row) (k : Nat) : Int := match R.get k with | .int .u8 z :: _ => z | _ => 0
def isU8 : TypeDesc → Bool | .int .u8 => true | _ => false
def isStr : TypeDesc → Bool | .string => true | _ => false
def u8Slice (ty : List (Nat × Ty)) (t : Nat) : Bool :=
  match look t ty with
  | some d => match d.desc with
    | .slice e => match look e ty with | some ed => isU8 ed.desc | none => false
    | _ => false
  | none => false
def strTy (ty : List (Nat × Ty)) (t : Nat) : Bool := match look t ty with | some d => isStr d.desc | none => false
def intTy (ty : List (Nat × Ty)) (t : Nat) : Option IntKind := match look t ty with | some d => (match d.desc with | .int k => some k | _ => none) | none => none

def convA (ty : List (Nat × Ty)) (E : Nat → Row) (mem : List (Option Blk)) (src dst : Nat) : A → PR
  | .v (.int _ n) => match intTy ty dst, look src ty with
    | some k, some _ => .ok (iV k (k.wrap n))
    | _, _ => .no
  | .bsl i n => if u8Slice ty src = true then (if strTy ty dst = true then
      (match blkAt mem i with
       | some b => match intsOf b.cells with
         | some xs => if Nat.beq xs.length n = true then .ok (sV (strOfNums xs)) else .no
         | none => .no
       | none => .no) else .no) else .no
  | _ => .no

def sliceA (ty : List (Nat × Ty)) (t : Nat) (x : A) (lo hi : Option SV) : PR :=
  match x with
  | .v (.string s) => if strTy ty t = true then
      match lo, hi with
      | some (.c (.one (.v (.int _ l)))), some (.c (.one (.v (.int _ h)))) => .test (decide (0 ≤ l ∧ l ≤ h ∧ h ≤ (s.size : Int))) (sV (s.extract l.toNat h.toNat))
      | some (.c (.one (.v (.int _ l)))), none => .test (decide (0 ≤ l ∧ l ≤ (s.size : Int))) (sV (s.extract l.toNat s.size))
      | none, some (.c (.one (.v (.int _ h)))) => .test (decide (0 ≤ h ∧ h ≤ (s.size : Int))) (sV (s.extract 0 h.toNat))
      | _, _ => .no
    else .no
  | _ => .no

def callB (ty : List (Nat × Ty)) (E : Nat → Row) (b : Builtin) (args : List SV) (t : Option Nat) : PR :=
  match b, args with
  | .len, [.c (.one x)] =>
    match t.bind (look · ty) with
    | some d => match d.desc, x with
      | .string, .v (.string s) => .ok (iV .i64 s.size)
      | .slice _, .v (.slice _ n _) => .ok (iV .i64 n)
      | .slice _, .bsl _ n => .ok (iV .i64 n)
      | .slice _, .row r => .ok (iV .i64 (E r).n)
      | .slice _, .sub (.row r) l h m sz => .ok (iV .i64 ((h - l : Nat) : Int))
      | _, _ => .no
    | none => .no
  | .min, [.c (.one (.v (.int k x))), .c (.one (.v (.int _ y)))] => .ok (iV k (if y < x then y else x))
  | .max, [.c (.one (.v (.int k x))), .c (.one (.v (.int _ y)))] => .ok (iV k (if y > x then y else x))
  | _, _ => .no

def optO (tmps : List (Nat × SV)) : Option Operand → Option (Option SV)
  | none => some none
  | some x => match evO tmps x with
    | some v => some (some v)
    | none => none

def mapO (tmps : List (Nat × SV)) : List Operand → Option (List SV)
  | [] => some []
  | x :: r => match evO tmps x, mapO tmps r with
    | some v, some l => some (v :: l)
    | _, _ => none

/-- One cell's value, that is no pointer into a row. -/
def A.one : A → Bool
  | .v x => x.oneCell'
  | .ep _ _ _ => false
  | .sub s _ _ _ _ => s.one
  | _ => true

def SV.cells : SV → Option (List A)
  | .c (.one x) => if x.one = true then some [x] else none
  | .c (.agg l) => if l.all A.one = true then some l else none
  | .tup _ => none

def setL (cs : List A) (off : Nat) (vs : List A) : List A := cs.take off ++ vs ++ cs.drop (off + vs.length)

def fillA (place : Nat → Option (Nat × Nat)) (cells : List A) : List (Nat × List A) → Option (List A)
  | [] => some cells
  | (i, vs) :: r =>
    match place i with
    | none => none
    | some (off, size) =>
      if Nat.beq vs.length size = true then
        (if Nat.ble (off + vs.length) cells.length = true then fillA place (setL cells off vs) r else none)
      else none

def plcs (ty : List (Nat × Ty)) : List Field → Option (List (Nat × Nat))
  | [] => some []
  | f :: fs => match look f.type ty, plcs ty fs with
    | some d, some r => some ((f.offset, d.sz) :: r)
    | _, _ => none

def mapP (tmps : List (Nat × SV)) : List (Nat × Operand) → Option (List (Nat × List A))
  | [] => some []
  | (i, x) :: r => match evO tmps x, mapP tmps r with
    | some v, some l => match v.cells with
      | some cs => some ((i, cs) :: l)
      | none => none
    | _, _ => none

def cellsV : Value → List A
  | .agg cs => cs.toList.map .v
  | x => [.v x]

def evP (ty : List (Nat × Ty)) (E : Nat → Row) (tmps : List (Nat × SV)) (mem : List (Option Blk)) (o : Op) : PR :=
  match o with
  | .move x => match evO tmps x with | some v => .ok v | none => .no
  | .assign x => match evO tmps x with | some v => .ok v | none => .no
  | .load t x => match look t ty, evO tmps x with
    | some d, some (.c (.one y)) => loadA E mem d y
    | _, _ => .no
  | .nilCheck x => match evO tmps x with
    | some (.c (.one (.ptr i o))) => .ok (.c (.one (.ptr i o)))
    | some (.c (.one (.ep r k o))) => .ok (.c (.one (.ep r k o)))
    | _ => .no
  | .fieldAddr s x f => match fldAt ty s f, evO tmps x with
    | some (fo, fsz, _), some (.c (.one y)) => fldA fo fsz y
    | _, _ => .no
  | .field s x f => match fldAt ty s f, evO tmps x with
    | some (fo, fsz, fa), some (.c (.agg l)) => fieldV fo fsz fa l
    | _, _ => .no
  | .extract x i => match evO tmps x with
    | some (.tup l) => match l[i]? with
      | some (.one (.ep _ _ _)) => .no
      | some y => .ok (.c y)
      | none => .no
    | _ => .no
  | .unOp .not _ x => match evO tmps x with
    | some (.c (.one (.v (.bool b)))) => .ok (bV !b)
    | _ => .no
  | .binOp op t x y _ => match evO tmps x, evO tmps y with
    | some (.c u), some (.c v) => binV ty op t u v
    | _, _ => .no
  | .convert s d x => match evO tmps x with
    | some (.c (.one y)) => convA ty E mem s d y
    | _ => .no
  | .indexAddr t x i => match evO tmps x, evO tmps i with
    | some (.c (.one y)), some (.c (.one (.v (.int _ n)))) => stepI ty E t y n
    | _, _ => .no
  | .index t x i => match evO tmps x, evO tmps i with
    | some (.c (.one (.v (.string s)))), some (.c (.one (.v (.int _ n)))) =>
      if strTy ty t = true then .test (decide (0 ≤ n ∧ n < (s.size : Int))) (iV .u8 (s.data.toList.getD n.toNat 0).toNat) else .no
    | _, _ => .no
  | .slice t x lo hi none => match evO tmps x, optO tmps lo, optO tmps hi with
    | some (.c (.one y)), some l, some h => sliceA ty t y l h
    | _, _, _ => .no
  | .build t parts => match look t ty with
    | some d => match d.desc with
      | .struct fs => match plcs ty fs.toList, mapP tmps parts.toList with
        | some pl, some ps => match fillA (fun i => pl[i]?) (cellsV d.zero) ps with
          | some cs => .ok (.c (.agg cs))
          | none => .no
        | _, _ => .no
      | _ => .no
    | none => .no
  | .call { callee := .builtin b, args, argTypes } => match mapO tmps args.toList with
    | some l => callB ty E b l argTypes[0]?
    | none => .no
  | _ => .no

def PR.gives (r : PR) (x : SV) : Prop := r = .ok x ∨ ∃ b, r = .test b x ∧ b = true

variable {P : Program} {tb : Tab} {E : Nat → Row} {σ : Nat → Nat} {tmps : List (Nat × SV)} {mem : List (Option Blk)} {a : Act} {w : World}

def epOK (E : Nat → Row) (x : SV) : Prop := ∀ r k off, x = .c (.one (.ep r k off)) → k < (E r).n

/-- The operation yields the value, and nothing else. -/
def Yl (P : Program) (E : Nat → Row) (σ : Nat → Nat) (a : Act) (w : World) (o : Oper) (x : SV) : Prop :=
  (execOp a.eval o).run P w = .ok (.value (x.den E σ)) w ∧ epOK E x

theorem yl_v {o : Oper} {s : Sem Value} {x : SV} (ho : execOp a.eval o = do pure (.value (← s))) (hs : s.run P w = .ok (x.den E σ) w) (he : epOK E x) : Yl P E σ a w o x :=
  ⟨by rw [ho, Sem.run_bind, hs]; rfl, he⟩

theorem epOK_v (y : Value) : epOK E (.c (.one (.v y))) := fun _ _ _ h => by cases h

theorem binI_sound {op : BinOp} {k : IntKind} {x y : Int} {t : Nat} {ox oy : Operand} {r : SV} (h : (binI op k x y).gives r) :
    (do eqGuard op t ox oy (.int k x) (.int k y); binOp op t (.int k x) (.int k y) : Sem Value).run P w = .ok (r.den E σ) w ∧ epOK E r := by
  rw [eqGuard_at_int]
  rcases h with h | ⟨b, h, hb⟩
  · cases op <;> simp only [binI, reduceCtorEq, PR.ok.injEq] at h <;> subst h <;> refine ⟨?_, epOK_v _⟩ <;>
      simp [binOp, Op.intArith, Op.intCmp, SV.den, CV.den, A.den]
  · cases op <;> simp only [binI, reduceCtorEq, PR.test.injEq] at h <;> obtain ⟨h1, rfl⟩ := h <;> subst h1 <;> refine ⟨?_, epOK_v _⟩ <;>
      simp at hb <;> simp [binOp, Op.intDiv, SV.den, CV.den, A.den, hb]

theorem binS_sound {op : BinOp} {x y : ByteArray} {t : Nat} {ox oy : Operand} {r : SV} (h : (binS op x y).gives r) :
    (do eqGuard op t ox oy (.string x) (.string y); binOp op t (.string x) (.string y) : Sem Value).run P w = .ok (r.den E σ) w ∧ epOK E r := by
  rw [eqGuard_at_string]
  rcases h with h | ⟨b, h, hb⟩
  · cases op <;> simp only [binS, reduceCtorEq, PR.ok.injEq] at h <;> subst h <;> refine ⟨?_, epOK_v _⟩ <;>
      simp [binOp, Op.stringOp, SV.den, CV.den, A.den]
  · cases op <;> simp only [binS, reduceCtorEq, PR.test.injEq] at h <;> obtain ⟨h1, rfl⟩ := h <;> subst h1 <;> refine ⟨?_, epOK_v _⟩ <;>
      simp at hb
    have : ¬ (9223372036854775807 : Int) < ((x.size : Int) + (y.size : Int)) := by omega
    simp [binOp, Op.stringOp, SV.den, CV.den, A.den, this]
end

section
variable {P : Program} {tb : Tab} {E : Nat → Row} {σ : Nat → Nat} {tmps : List (Nat × SV)} {mem : List (Option Blk)} {a : Act} {w : World}

theorem eqA_sound {d : Ty} {t : Nat} (h : TyOK P t d) {x y : A} {r : Bool} (hr : eqA d.desc x y = some r) (n : Nat) :
    (Op.equalIn (n + 1) t (x.den E σ) (y.den E σ)).run P w = .ok r w ∧ d.agg = false := by
  have hu := h.und
  unfold eqA at hr
  split at hr
  · split at hr
    · rename_i k a k' b d' q hd
      split at hr
      · rename_i hk
        have hk := kindEq_eq hk
        subst hk
        injection hr with hr
        subst hr
        rw [hd] at hu
        exact ⟨run_equalIn_int w n t _ _ _ _ hu, by unfold Ty.agg; rw [hd]⟩
      · cases hr
    · cases hr
  · split at hr
    · rename_i hd
      injection hr with hr
      subst hr
      rw [hd] at hu
      exact ⟨run_equalIn_bool' w n t _ _ hu, by unfold Ty.agg; rw [hd]⟩
    · cases hr
  · split at hr
    · rename_i hd
      injection hr with hr
      subst hr
      rw [hd] at hu
      exact ⟨run_equalIn_string w n t _ _ hu, by unfold Ty.agg; rw [hd]⟩
    · cases hr
  · cases hr

theorem part_one {t : Nat} {d : Ty} (h : TyOK P t d) (hd : d.agg = false) {cs : Array Value} {off : Nat} {v : Value} (hc : cs[off]? = some v) : (part t cs off).run P w = .ok v w := by
  unfold part
  rw [Sem.run_bind, h.isAgg w, hd]
  simp [hc]

theorem eqFs_sound (ht : ∀ t d, look t tb.ty = some d → TyOK P t d) {xs ys : List A} : ∀ {fs : List Field} {r : Bool}, eqFs tb.ty xs ys fs = some r → ∀ n,
    (Op.eqFields (n + 1) (xs.map (A.den E σ)).toArray (ys.map (A.den E σ)).toArray fs).run P w = .ok r w
  | [], r, h, n => by
    simp only [eqFs, Option.some.injEq] at h
    subst h
    simp [Op.eqFields]
  | f :: fs, r, h, n => by
    simp only [eqFs] at h
    split at h
    · cases h
    · rename_i hname
      split at h
      · cases h
      · rename_i d hd
        split at h
        · rename_i x y hx hy
          split at h
          · rename_i r1 s1 h1 h2
            injection h with h
            subst h
            have hT := ht _ _ hd
            obtain ⟨e1, hag⟩ := eqA_sound (E := E) (σ := σ) (w := w) hT h1 n
            have ih := eqFs_sound ht h2 n
            have px : (part f.type (xs.map (A.den E σ)).toArray f.offset).run P w = .ok (x.den E σ) w := part_one hT hag (by simp [hx])
            have py : (part f.type (ys.map (A.den E σ)).toArray f.offset).run P w = .ok (y.den E σ) w := part_one hT hag (by simp [hy])
            have hne : f.name ≠ "_" := by simpa using hname
            unfold Op.eqFields
            rw [if_pos hne]
            simp only [Sem.run_bind, px, py, e1, Result.andThen_ok, Sem.run_ite, Sem.run_pure]
            cases r1
            · rfl
            · simpa using ih
          · cases h
        · cases h

theorem run_eqBool {t : Nat} {op : BinOp} {x y : Bool} {d : Ty} (h : TyOK P t d) (hd : d.desc = .bool) {r : Bool} (hr : (op = .eql ∧ r = (x == y)) ∨ (op = .neq ∧ r = !(x == y))) :
    (binOp op t (.bool x) (.bool y)).run P w = .ok (.bool r) w := by
  have hu := h.und
  rw [hd] at hu
  have := run_equalIn_bool' (P := P) w 9999 t x y hu
  rcases hr with ⟨rfl, rfl⟩ | ⟨rfl, rfl⟩
  · simp only [binOp, Op.equal, Op.maxDepth, Sem.run_bind, this]; rfl
  · simp only [binOp, Op.equal, Op.maxDepth, Sem.run_bind, this]; rfl

theorem run_eqNilIn {t e : Nat} {x : Option Addr} (hu : P.underlying t = some (.pointer e)) (n : Nat) : (Op.equalIn (n + 1) t (.pointer x) (.pointer none)).run P w = .ok x.isNone w := by
  cases x with
  | none => simp [Op.equalIn, run_underlying hu]
  | some a => simp [Op.equalIn, run_underlying hu]

theorem run_eqNil {t e : Nat} {op : BinOp} {x : Option Addr} (hu : P.underlying t = some (.pointer e)) {r : Bool} (hr : (op = .eql ∧ r = x.isNone) ∨ (op = .neq ∧ r = !x.isNone)) :
    (binOp op t (.pointer x) (.pointer none)).run P w = .ok (.bool r) w := by
  have hx := run_eqNilIn (P := P) (w := w) (x := x) hu 9999
  rcases hr with ⟨rfl, rfl⟩ | ⟨rfl, rfl⟩
  · simp only [binOp, Op.equal, Op.maxDepth, Sem.run_bind, hx]; rfl
  · simp only [binOp, Op.equal, Op.maxDepth, Sem.run_bind, hx]; rfl

theorem isNilP_sound {x : A} {r : Bool} (h : isNilP x = some r) : ∃ p, x.den E σ = .pointer p ∧ r = p.isNone := by
  unfold isNilP at h
  split at h
  · injection h with h; subst h; exact ⟨none, rfl, rfl⟩
  · injection h with h; subst h; exact ⟨some _, rfl, rfl⟩
  · injection h with h; subst h; exact ⟨some _, rfl, rfl⟩
  · cases h

theorem binB_sound (ht : ∀ t d, look t tb.ty = some d → TyOK P t d) {op : BinOp} {t : Nat} {ox oy : Operand} {x y : Bool} {r : SV} (h : (binB tb.ty op t x y).gives r) :
    (do eqGuard op t ox oy (.bool x) (.bool y); binOp op t (.bool x) (.bool y) : Sem Value).run P w = .ok (r.den E σ) w ∧ epOK E r := by
  have hb : ∀ (q : Bool), (r = bV q) → (binOp op t (.bool x) (.bool y)).run P w = .ok (.bool q) w → (do eqGuard op t ox oy (.bool x) (.bool y); binOp op t (.bool x) (.bool y) : Sem Value).run P w = .ok (r.den E σ) w ∧ epOK E r := fun q hq hrun => by
    rw [eqGuard_at_bool]
    subst hq
    exact ⟨by simpa [Sem.run_bind, SV.den, CV.den, A.den] using hrun, epOK_v _⟩
  unfold binB at h
  rcases h with h | ⟨_, h, _⟩
  · split at h
    · rename_i d hd
      split at h
      · rename_i hdd
        injection h with h
        exact hb _ h.symm (run_eqBool (ht _ _ hd) hdd (.inl ⟨rfl, rfl⟩))
      · rename_i hdd
        injection h with h
        exact hb _ h.symm (run_eqBool (ht _ _ hd) hdd (.inr ⟨rfl, rfl⟩))
      · cases h
    · cases h
  · split at h
    · split at h <;> cases h
    · cases h

theorem binN_sound (ht : ∀ t d, look t tb.ty = some d → TyOK P t d) {op : BinOp} {t : Nat} {ox oy : Operand} {x : A} {r : SV} (h : (binN tb.ty op t x).gives r) :
    (do eqGuard op t ox oy (x.den E σ) (.pointer none); binOp op t (x.den E σ) (.pointer none) : Sem Value).run P w = .ok (r.den E σ) w ∧ epOK E r := by
  unfold binN at h
  rcases h with h | ⟨_, h, _⟩
  · split at h
    · rename_i d q hd hq
      obtain ⟨p, hp, rfl⟩ := isNilP_sound (E := E) (σ := σ) hq
      have hb : ∀ (q : Bool), (r = bV q) → (binOp op t (.pointer p) (.pointer none)).run P w = .ok (.bool q) w → (do eqGuard op t ox oy (x.den E σ) (.pointer none); binOp op t (x.den E σ) (.pointer none) : Sem Value).run P w = .ok (r.den E σ) w ∧ epOK E r := fun q hq hrun => by
        rw [hp, eqGuard_at_pointer]
        subst hq
        exact ⟨by simpa [Sem.run_bind, SV.den, CV.den, A.den] using hrun, epOK_v _⟩
      split at h
      · rename_i e hdd
        injection h with h
        have hu := (ht _ _ hd).und
        rw [hdd] at hu
        exact hb _ h.symm (run_eqNil hu (.inl ⟨rfl, rfl⟩))
      · rename_i e hdd
        injection h with h
        have hu := (ht _ _ hd).und
        rw [hdd] at hu
        exact hb _ h.symm (run_eqNil hu (.inr ⟨rfl, rfl⟩))
      · cases h
    · cases h
  · split at h
    · split at h <;> cases h
    · cases h

theorem binG_sound (ht : ∀ t d, look t tb.ty = some d → TyOK P t d) {op : BinOp} {t : Nat} {ox oy : Operand} {xs ys : List A} {r : SV} (h : (binG tb.ty op t xs ys).gives r) :
    (do eqGuard op t ox oy (.agg (xs.map (A.den E σ)).toArray) (.agg (ys.map (A.den E σ)).toArray); binOp op t (.agg (xs.map (A.den E σ)).toArray) (.agg (ys.map (A.den E σ)).toArray) : Sem Value).run P w = .ok (r.den E σ) w ∧ epOK E r := by
  unfold binG at h
  rcases h with h | ⟨_, h, _⟩
  · split at h
    · rename_i d hd
      split at h
      · rename_i fs hdd heq
        split at h
        · rename_i q hq
          have hT := ht _ _ hd
          obtain ⟨g1, g2⟩ := hT.eqs heq
          have hu := hT.und
          rw [hdd] at hu
          have hfo : P.fieldsOf t = fs := by unfold Program.fieldsOf; rw [hu]
          have hrun := run_equalIn_struct (P := P) w 9999 t (xs.map (A.den E σ)).toArray (ys.map (A.den E σ)).toArray (by rw [hfo]; exact hu) g1
          rw [hfo, eqFs_sound ht hq] at hrun
          have hg := run_eqGuard_agg (P := P) w op t ox oy (xs.map (A.den E σ)).toArray (ys.map (A.den E σ)).toArray g2
          split at h
          · injection h with h
            subst h
            refine ⟨?_, epOK_v _⟩
            simp only [Sem.run_bind, hg, Result.andThen_ok]
            rw [run_eql_struct, hrun]
            rfl
          · injection h with h
            subst h
            refine ⟨?_, epOK_v _⟩
            simp only [Sem.run_bind, hg, Result.andThen_ok]
            rw [run_neq_struct, hrun]
            rfl
          · cases h
        · cases h
      · cases h
    · cases h
  · split at h
    · split at h
      · split at h
        · split at h <;> cases h
        · cases h
      · cases h
    · cases h

theorem binV_sound (ht : ∀ t d, look t tb.ty = some d → TyOK P t d) {op : BinOp} {t : Nat} {ox oy : Operand} {u v : CV} {r : SV} (h : (binV tb.ty op t u v).gives r) :
    (do eqGuard op t ox oy (u.den E σ) (v.den E σ); binOp op t (u.den E σ) (v.den E σ) : Sem Value).run P w = .ok (r.den E σ) w ∧ epOK E r := by
  unfold binV at h
  split at h
  · split at h
    · rename_i k a k' b hk
      have hk := kindEq_eq hk
      subst hk
      exact binI_sound h
    · rcases h with h | ⟨_, h, _⟩ <;> cases h
  · exact binS_sound h
  · exact binB_sound ht h
  · exact binN_sound ht h
  · exact binG_sound ht h
  · rcases h with h | ⟨_, h, _⟩ <;> cases h
end

section
variable {P : Program} {tb : Tab} {E : Nat → Row} {σ : Nat → Nat} {tmps : List (Nat × SV)} {mem : List (Option Blk)} {a : Act} {w : World}

theorem gives_ok {x y : SV} (h : (PR.ok x).gives y) : x = y := by
  rcases h with h | ⟨_, h, _⟩
  · injection h
  · cases h
theorem gives_no {y : SV} (h : PR.no.gives y) : False := by
  rcases h with h | ⟨_, h, _⟩ <;> cases h
theorem gives_test {b : Bool} {x y : SV} (h : (PR.test b x).gives y) : b = true ∧ x = y := by
  rcases h with h | ⟨_, h, hb⟩
  · cases h
  · injection h with h1 h2; subst h1; exact ⟨hb, h2⟩

theorem elemAt_some {t sz : Nat} (ht : ∀ t d, look t tb.ty = some d → TyOK P t d) (h : elemAt tb.ty t = some sz) : ∃ e, P.underlying t = some (.slice e) ∧ ∀ w, (sizeOf e).run P w = .ok sz w := by
  unfold elemAt at h
  split at h
  · rename_i d hd
    split at h
    · rename_i e hdd
      split at h
      · rename_i ed hed
        injection h with h
        subst h
        have hu := (ht _ _ hd).und
        rw [hdd] at hu
        exact ⟨e, hu, fun w => (ht _ _ hed).sizeOf w⟩
      · cases h
    · cases h
  · cases h

theorem run_indexAt_in {t e sz : Nat} {k : IntKind} {i : Int} {b o n c : Nat} (hu : P.underlying t = some (.slice e)) (hs : ∀ w, (sizeOf e).run P w = .ok sz w) (h0 : 0 ≤ i) (hn : i < n) :
    (Instr.indexAt t (.slice (some ⟨b, o, none⟩) n c) (.int k i)).run P w = .ok (.pointer (some ⟨b, o + i.toNat * sz, none⟩)) w := by
  have : (asIntOf (.int k i)).run P w = .ok (k, i) w := rfl
  unfold Instr.indexAt
  simp only [Sem.run_bind, this, Result.andThen_ok, run_underlying hu, Sem.run_pure, h0, hn, and_self, if_true, hs]
  congr 1
  congr 1
  congr 1
  unfold Addr.add
  split
  · rename_i hz; rw [hz]; rfl
  · rfl

theorem stepI_sound (ht : ∀ t d, look t tb.ty = some d → TyOK P t d) (V : Vw E σ tmps mem a w) {t : Nat} {x : A} {k : IntKind} {i : Int} {r : SV} (h : (stepI tb.ty E t x i).gives r) :
    (Instr.indexAt t (x.den E σ) (.int k i)).run P w = .ok (r.den E σ) w ∧ epOK E r := by
  unfold stepI at h
  split at h
  · rename_i q
    split at h
    · rename_i sz hsz
      obtain ⟨e, hu, hs⟩ := elemAt_some ht hsz
      split at h
      · rename_i hb
        have hb := Nat.eq_of_beq_eq_true hb
        obtain ⟨h1, rfl⟩ := gives_test h
        have h1 := of_decide_eq_true h1
        obtain ⟨b, o, had, _⟩ := (V.hr q).cell (by omega)
        refine ⟨?_, fun r' k' off hh => ?_⟩
        · simp only [A.den, SV.den, CV.den, had, Option.map_some]
          rw [run_indexAt_in hu hs h1.1 h1.2, hb]
          simp
        · injection hh with hh; injection hh with hh; injection hh with e1 e2 e3; subst e1 e2; omega
      · exact (gives_no h).elim
    · exact (gives_no h).elim
  · rename_i q l hh m z
    split at h
    · rename_i sz hsz
      obtain ⟨e, hu, hs⟩ := elemAt_some ht hsz
      split at h
      · rename_i hb
        have hb := Nat.eq_of_beq_eq_true hb
        split at h
        · rename_i hz
          have hz := Nat.eq_of_beq_eq_true hz
          obtain ⟨h1, rfl⟩ := gives_test h
          have h1 := of_decide_eq_true h1
          obtain ⟨g1, g2, g3, g4⟩ := h1
          have hc := (V.hr q).cap
          obtain ⟨b, o, had, _⟩ := (V.hr q).cell (by omega)
          subst hz
          have hml : ¬ m = l := by omega
          refine ⟨?_, fun r' k' off hh => ?_⟩
          · have e1 : (Addr.add ⟨b, o, none⟩ (l * sz)) = ⟨b, o + l * sz, none⟩ := by unfold Addr.add; split <;> simp_all
            simp only [A.den, SV.den, CV.den, slv, had, Option.map_some, hml, if_false, e1]
            rw [run_indexAt_in hu hs g1 g2, ← hb]
            simp [Nat.add_mul]
          · injection hh with hh; injection hh with hh; injection hh with e1 e2 e3; subst e1 e2; omega
        · exact (gives_no h).elim
      · exact (gives_no h).elim
    · exact (gives_no h).elim
  · rename_i b n
    split at h
    · rename_i sz hsz
      obtain ⟨e, hu, hs⟩ := elemAt_some ht hsz
      obtain ⟨h1, rfl⟩ := gives_test h
      have h1 := of_decide_eq_true h1
      refine ⟨?_, fun r' k' off hh => by cases hh⟩
      simp only [A.den, SV.den, CV.den]
      rw [run_indexAt_in hu hs h1.1 h1.2]
      simp
    · exact (gives_no h).elim
  · exact (gives_no h).elim

theorem intsOf_some : ∀ {l : List A} {xs : List Int}, intsOf l = some xs → l = xs.map fun z => .v (.int .u8 z)
  | [], xs, h => by simp only [intsOf, Option.some.injEq] at h; subst h; rfl
  | x :: r, xs, h => by
    unfold intsOf at h
    split at h
    · injection h with h; subst h; simp_all
    · rename_i z r' heq
      split at h
      · rename_i l' hl
        injection h with h
        subst h
        injection heq with e1 e2
        subst e1 e2
        rw [intsOf_some hl]
        rfl
      · cases h
    · cases h

theorem u8Slice_some (ht : ∀ t d, look t tb.ty = some d → TyOK P t d) {t : Nat} (h : u8Slice tb.ty t = true) : ∃ e, P.underlying t = some (.slice e) ∧ P.underlying e = some (.int .u8) := by
  unfold u8Slice at h
  split at h
  · rename_i d hd
    split at h
    · rename_i e hdd
      split at h
      · rename_i ed hed
        have hu := (ht _ _ hd).und
        rw [hdd] at hu
        have he := (ht _ _ hed).und
        unfold isU8 at h
        split at h
        · rename_i hx; rw [hx] at he; exact ⟨e, hu, he⟩
        · cases h
      · cases h
    · cases h
  · cases h

theorem strTy_some (ht : ∀ t d, look t tb.ty = some d → TyOK P t d) {t : Nat} (h : strTy tb.ty t = true) : P.underlying t = some .string := by
  unfold strTy at h
  split at h
  · rename_i d hd
    have hu := (ht _ _ hd).und
    unfold isStr at h
    split at h
    · rename_i hx; rw [hx] at hu; exact hu
    · cases h
  · cases h

theorem intTy_some (ht : ∀ t d, look t tb.ty = some d → TyOK P t d) {t : Nat} {k : IntKind} (h : intTy tb.ty t = some k) : P.underlying t = some (.int k) := by
  unfold intTy at h
  split at h
  · rename_i d hd
    have hu := (ht _ _ hd).und
    split at h
    · rename_i hx; rw [hx] at hu; injection h with h; subst h; exact hu
    · cases h
  · cases h

theorem convA_sound (ht : ∀ t d, look t tb.ty = some d → TyOK P t d) (V : Vw E σ tmps mem a w) {s d : Nat} {x : A} {r : SV} (h : (convA tb.ty E mem s d x).gives r) :
    (convert s d (x.den E σ)).run P w = .ok (r.den E σ) w ∧ epOK E r := by
  unfold convA at h
  split at h
  · rename_i kk n
    split at h
    · rename_i k sd hk hsd
      have := gives_ok h
      subst this
      refine ⟨?_, epOK_v _⟩
      have hu := intTy_some ht hk
      have hi : P.intKind d = k := by unfold Program.intKind; rw [hu]
      have := run_convert_int (P := P) w s d kk n (by rw [(ht _ _ hsd).und]; rfl) (by rw [hi]; exact hu)
      rw [hi] at this
      exact this
    · exact (gives_no h).elim
  · rename_i i n
    split at h
    · rename_i hs
      split at h
      · rename_i hd
        split at h
        · rename_i b hb
          split at h
          · rename_i xs hxs
            split at h
            · rename_i hn
              have hn := Nat.eq_of_beq_eq_true hn
              have := gives_ok h
              subst this
              refine ⟨?_, epOK_v _⟩
              obtain ⟨e, hu, he⟩ := u8Slice_some ht hs
              have hm := V.hm i b (blkAt_some hb)
              simp only [A.den, SV.den, CV.den]
              refine run_convert_bytes_arg w s e hu he (σ i) 0 n n xs hn (fun j hj => ?_) d (strTy_some ht hd)
              rw [blk_cell hm, intsOf_some hxs]
              simp [List.getD, show j < xs.length by omega, A.den]
            · exact (gives_no h).elim
          · exact (gives_no h).elim
        · exact (gives_no h).elim
      · exact (gives_no h).elim
    · exact (gives_no h).elim
  · exact (gives_no h).elim

theorem optO_sound {o : Option Operand} {v : Option SV} (V : Vw E σ tmps mem a w) (h : optO tmps o = some v) : o.map a.eval = v.map (SV.den E σ) := by
  unfold optO at h
  split at h
  · injection h with h; subst h; rfl
  · split at h
    · rename_i x hx
      injection h with h
      subst h
      simp [evO_sound V hx]
    · cases h

theorem sliceA_sound (ht : ∀ t d, look t tb.ty = some d → TyOK P t d) {t : Nat} {x : A} {lo hi : Option SV} {r : SV} (h : (sliceA tb.ty t x lo hi).gives r) :
    (Instr.sliceAt t (x.den E σ) (lo.map (SV.den E σ)) (hi.map (SV.den E σ)) none).run P w = .ok (r.den E σ) w ∧ epOK E r := by
  unfold sliceA at h
  split at h
  · rename_i s
    split at h
    · rename_i hs
      have hu := strTy_some ht hs
      split at h
      · rename_i k1 l k2 hh
        obtain ⟨h1, rfl⟩ := gives_test h
        obtain ⟨g1, g2, g3⟩ := of_decide_eq_true h1
        refine ⟨?_, epOK_v _⟩
        simp only [Option.map_some, SV.den, CV.den, A.den]
        rw [run_sliceAt_string (h := hu), Instr.slice]
        simp only [Sem.run_bind, run_underlying hu, Result.andThen_ok]
        have e0 : (0 : Int) ≤ hh := by omega
        have e1 : l ≤ (hh.toNat : Int) := by omega
        have e2 := run_sliceBound (P := P) w k1 l hh.toNat .sliceB g1 e1
        simp [Instr.sliceBounds, g1, g3, e0, e2, run_sliceBound]
      · obtain ⟨h1, rfl⟩ := gives_test h
        have h1 := of_decide_eq_true h1
        refine ⟨?_, epOK_v _⟩
        simp only [Option.map_some, Option.map_none, SV.den, CV.den, A.den]
        rw [run_sliceAt_string (h := hu), Instr.slice]
        simp only [Sem.run_bind, run_underlying hu, Result.andThen_ok]
        simp [Instr.sliceBounds, h1.1, h1.2, run_sliceBound]
      · obtain ⟨h1, rfl⟩ := gives_test h
        have h1 := of_decide_eq_true h1
        refine ⟨?_, epOK_v _⟩
        simp only [Option.map_some, Option.map_none, SV.den, CV.den, A.den]
        rw [run_sliceAt_string (h := hu), Instr.slice]
        simp only [Sem.run_bind, run_underlying hu, Result.andThen_ok]
        simp [Instr.sliceBounds, h1.1, h1.2, run_sliceBound]
      · exact (gives_no h).elim
    · exact (gives_no h).elim
  · exact (gives_no h).elim

theorem mapO_sound (V : Vw E σ tmps mem a w) : ∀ {xs : List Operand} {l : List SV}, mapO tmps xs = some l → xs.map a.eval = l.map (SV.den E σ)
  | [], l, h => by simp only [mapO, Option.some.injEq] at h; subst h; rfl
  | x :: r, l, h => by
    simp only [mapO] at h
    split at h
    · rename_i v l' h1 h2
      injection h with h
      subst h
      simp only [List.map_cons, evO_sound V h1, mapO_sound V h2]
    · cases h

theorem run_len_sl {t : Nat} {e : Nat} (hu : P.underlying t = some (.slice e)) (ts : Array TypeId) (h0 : ts[0]? = some t) (ty : Nat) (p : Option Addr) (n c : Nat) :
    (Builtin.len_ ts ty #[.slice p n c]).run P w = .ok (.int .i64 n) w := by
  simp [Builtin.len_, h0, run_underlying hu, goInt]
theorem run_len_st {t : Nat} (hu : P.underlying t = some .string) (ts : Array TypeId) (h0 : ts[0]? = some t) (ty : Nat) (s : ByteArray) :
    (Builtin.len_ ts ty #[.string s]).run P w = .ok (.int .i64 s.size) w := by
  simp [Builtin.len_, h0, run_underlying hu, goInt]

theorem callB_sound (ht : ∀ t d, look t tb.ty = some d → TyOK P t d) {b : Builtin} {args : List SV} {ts : Array TypeId} {ty : Nat} {cs : Array Bool} {r : SV} (h : (callB tb.ty E b args ts[0]?).gives r) :
    (builtin b ts ty cs (args.map (SV.den E σ)).toArray).run P w = .ok (.value (r.den E σ)) w ∧ epOK E r := by
  unfold callB at h
  split at h
  · rename_i x
    split at h
    · rename_i d hd
      obtain ⟨t, ht0, hd⟩ := Option.bind_eq_some_iff.1 hd
      have hu := (ht _ _ hd).und
      split at h
      · rename_i hdd
        have := gives_ok h
        subst this
        rw [hdd] at hu
        refine ⟨?_, epOK_v _⟩
        have := run_len_st (P := P) (w := w) hu ts ht0 ty
        simp [builtin, SV.den, CV.den, A.den, this]
      · rename_i hdd
        have := gives_ok h
        subst this
        rw [hdd] at hu
        refine ⟨?_, epOK_v _⟩
        have := run_len_sl (P := P) (w := w) hu ts ht0 ty
        simp [builtin, SV.den, CV.den, A.den, this]
      · rename_i hdd
        have := gives_ok h
        subst this
        rw [hdd] at hu
        refine ⟨?_, epOK_v _⟩
        have := run_len_sl (P := P) (w := w) hu ts ht0 ty
        simp [builtin, SV.den, CV.den, A.den, this]
      · rename_i hdd
        have := gives_ok h
        subst this
        rw [hdd] at hu
        refine ⟨?_, epOK_v _⟩
        have := run_len_sl (P := P) (w := w) hu ts ht0 ty
        simp [builtin, SV.den, CV.den, A.den, this]
      · rename_i hdd
        have := gives_ok h
        subst this
        rw [hdd] at hu
        refine ⟨?_, epOK_v _⟩
        have := run_len_sl (P := P) (w := w) hu ts ht0 ty
        simp [builtin, SV.den, CV.den, A.den, slv, this]
      · exact (gives_no h).elim
    · exact (gives_no h).elim
  · have := gives_ok h
    subst this
    refine ⟨?_, epOK_v _⟩
    simp [builtin, SV.den, CV.den, A.den, run_min_int2]
  · have := gives_ok h
    subst this
    refine ⟨?_, epOK_v _⟩
    simp [builtin, SV.den, CV.den, A.den, run_max_int2]
  · exact (gives_no h).elim
end

section
variable {P : Program} {tb : Tab} {E : Nat → Row} {σ : Nat → Nat} {tmps : List (Nat × SV)} {mem : List (Option Blk)} {a : Act} {w : World}

theorem slv_one {l h m sz : Nat} {x : Value} (hx : x.oneCell' = true) : (slv l h m sz x).oneCell' = true := by
  unfold slv
  split
  · rfl
  · exact hx
theorem A.one_den : ∀ {x : A}, x.one = true → (x.den E σ).oneCell' = true
  | .v x, h => h
  | .ptr _ _, _ => rfl
  | .bsl _ _, _ => rfl
  | .mp _, _ => rfl
  | .os _, _ => rfl
  | .oe _ _ _ _, _ => rfl
  | .vw _ _ _, _ => slv_one rfl
  | .row _, _ => rfl
  | .ep _ _ _, h => by cases h
  | .sub s _ _ _ _, h => slv_one (A.one_den (x := s) h)

theorem cells_one {v : Value} (h : v.oneCell' = true) : v.cells = #[v] := by
  cases v <;> first | rfl | cases h

theorem cells_sound {x : SV} {cs : List A} (h : x.cells = some cs) : (x.den E σ).cells = (cs.map (A.den E σ)).toArray ∧ ∀ y ∈ cs, y.one = true := by
  unfold SV.cells at h
  split at h
  · split at h
    · rename_i y hy
      injection h with h
      subst h
      refine ⟨?_, by simpa using hy⟩
      simp only [SV.den, CV.den, List.map_cons, List.map_nil]
      exact cells_one (A.one_den hy)
    · cases h
  · split at h
    · rename_i l hl
      injection h with h
      subst h
      exact ⟨rfl, List.all_eq_true.1 hl⟩
    · cases h
  · cases h

theorem setL_map (cs : List A) (off : Nat) (vs : List A) : (setL cs off vs).map (A.den E σ) = (cs.map (A.den E σ)).take off ++ vs.map (A.den E σ) ++ (cs.map (A.den E σ)).drop (off + vs.length) := by
  simp [setL, List.map_take, List.map_drop]

theorem setL_len (cs : List A) (off : Nat) (vs : List A) (h : off + vs.length ≤ cs.length) : (setL cs off vs).length = cs.length := by
  simp [setL]; omega

theorem fill_one (off : Nat) (l : List Value) (cs : List Value) (h : off + l.length ≤ cs.length) :
    ((l.zipIdx).foldl (fun cs (x : Value × Nat) => cs.setIfInBounds (off + x.2) x.1) cs.toArray) = (cs.take off ++ l ++ cs.drop (off + l.length)).toArray := by
  obtain ⟨h1, h2⟩ := Go.Great.foldl_set off l 0 cs.toArray
  apply Array.ext_getElem?
  intro k
  rw [h2 k]
  simp only [Nat.add_zero, List.size_toArray, List.getElem?_toArray]
  by_cases hk : off ≤ k ∧ k < off + l.length ∧ k < cs.length
  · rw [if_pos hk, List.append_assoc, List.getElem?_append_right (by simp; omega), List.getElem?_append_left (by simp; omega)]
    congr 1
    simp
    omega
  · rw [if_neg hk]
    by_cases hlt : k < off
    · rw [List.append_assoc, List.getElem?_append_left (by simp; omega), List.getElem?_take, if_pos hlt]
    · by_cases hge : k < off + l.length
      · omega
      · rw [List.getElem?_append_right (by simp; omega), List.getElem?_drop]
        congr 1
        simp
        omega

theorem fillA_sound {place : Nat → Option (Nat × Nat)} : ∀ {ps : List (Nat × List A)} {cells res : List A}, fillA place cells ps = some res → ∀ (parts : List (Nat × Value)),
    parts.map (fun p => (p.1, p.2.cells)) = ps.map (fun p => (p.1, (p.2.map (A.den E σ)).toArray)) →
    Instr.fill place (cells.map (A.den E σ)).toArray parts = some (res.map (A.den E σ)).toArray
  | [], cells, res, h, parts, hp => by
    simp only [fillA, Option.some.injEq] at h
    subst h
    have : parts = [] := by simpa using hp
    subst this
    rfl
  | (i, vs) :: r, cells, res, h, parts, hp => by
    match parts, hp with
    | (i', v) :: parts, hp =>
      simp only [List.map_cons, List.cons.injEq, Prod.mk.injEq] at hp
      obtain ⟨⟨rfl, hv⟩, hr⟩ := hp
      simp only [fillA] at h
      split at h
      · cases h
      · rename_i off size hpl
        split at h
        · rename_i hsz
          have hsz := Nat.eq_of_beq_eq_true hsz
          split at h
          · rename_i hle
            have hle := Nat.le_of_ble_eq_true hle
            have hsz' : v.cells.size = size := by rw [hv]; simp [hsz]
            unfold Instr.fill
            rw [hpl]
            simp only
            rw [if_neg (by simp [hsz']; rw [← hsz]; exact hle)]
            have hz : (v.cells.zipIdx.foldl (fun cs (x : Value × Nat) => cs.setIfInBounds (off + x.2) x.1) (cells.map (A.den E σ)).toArray) = ((setL cells off vs).map (A.den E σ)).toArray := by
              rw [hv, setL_map, ← Array.foldl_toList]
              have := fill_one off (vs.map (A.den E σ)) (cells.map (A.den E σ)) (by simpa using hle)
              simp only [List.length_map] at this
              rw [← this]
              simp
            exact (congrArg (fun c => Instr.fill place c parts) hz).trans (fillA_sound h parts hr)
          · cases h
        · cases h

theorem plcs_sound (ht : ∀ t d, look t tb.ty = some d → TyOK P t d) : ∀ {fs : List Field} {pl : List (Nat × Nat)}, plcs tb.ty fs = some pl →
    fs.mapM (fun f => (P.info? f.type).map fun i => (f.offset, i.size)) = some pl
  | [], pl, h => by simp only [plcs, Option.some.injEq] at h; subst h; rfl
  | f :: fs, pl, h => by
    simp only [plcs] at h
    split at h
    · rename_i d r h1 h2
      injection h with h
      subst h
      have := (ht _ _ h1).sz
      have ih := plcs_sound ht h2
      cases hi : P.info? f.type with
      | none => rw [hi] at this; cases this
      | some i =>
        rw [hi] at this
        simp at this
        simp [List.mapM_cons, hi, ih, this]
    · cases h

theorem mapP_sound (V : Vw E σ tmps mem a w) : ∀ {xs : List (Nat × Operand)} {l : List (Nat × List A)}, mapP tmps xs = some l →
    (xs.map fun p => (p.1, a.eval p.2)).map (fun p => (p.1, p.2.cells)) = l.map (fun p => (p.1, (p.2.map (A.den E σ)).toArray)) ∧ ∀ p ∈ l, ∀ y ∈ p.2, y.one = true
  | [], l, h => by simp only [mapP, Option.some.injEq] at h; subst h; simp
  | (i, x) :: r, l, h => by
    simp only [mapP] at h
    split at h
    · rename_i v l' h1 h2
      split at h
      · rename_i cs hcs
        injection h with h
        subst h
        obtain ⟨e1, e2⟩ := cells_sound (E := E) (σ := σ) hcs
        obtain ⟨f1, f2⟩ := mapP_sound V h2
        refine ⟨?_, ?_⟩
        · simp only [List.map_cons, f1, evO_sound V h1, e1]
        · intro p hp
          rcases List.mem_cons.1 hp with rfl | hp
          · exact e2
          · exact f2 p hp
      · cases h
    · cases h

theorem cellsV_den (x : Value) : ((cellsV x).map (A.den E σ)).toArray = x.cells := by
  cases x <;> simp [cellsV, Value.cells, A.den, Function.comp_def]

theorem build_sound (ht : ∀ t d, look t tb.ty = some d → TyOK P t d) (V : Vw E σ tmps mem a w) {t : Nat} {d : Ty} {fs : Array Field} {pl : List (Nat × Nat)} {ps : List (Nat × List A)} {parts : Array (Nat × Operand)} {cs : List A}
    (hd : look t tb.ty = some d) (hf : d.desc = .struct fs) (hp : plcs tb.ty fs.toList = some pl) (hm : mapP tmps parts.toList = some ps) (hc : fillA (fun i => pl[i]?) (cellsV d.zero) ps = some cs) :
    (Instr.build t (parts.map fun (i, x) => (i, a.eval x))).run P w = .ok (.agg (cs.map (A.den E σ)).toArray) w := by
  have hT := ht _ _ hd
  have hu := hT.und
  rw [hf] at hu
  refine run_build w t _ _ ?_
  unfold Program.built
  have hi := hT.info
  cases hq : P.info? t with
  | none => rw [hq] at hi; cases hi
  | some i =>
    rw [hq] at hi
    simp at hi
    simp only [hu, hi.1, plcs_sound ht hp]
    have := fillA_sound (E := E) (σ := σ) hc (parts.map fun (i, x) => (i, a.eval x)).toList (by simpa using (mapP_sound V hm).1)
    rw [cellsV_den] at this
    simpa using this
end

section
variable {P : Program} {tb : Tab} {E : Nat → Row} {σ : Nat → Nat} {tmps : List (Nat × SV)} {mem : List (Option Blk)} {a : Act} {w : World}

theorem fldAt_some {s f fo fsz : Nat} {fa : Bool} (ht : ∀ t d, look t tb.ty = some d → TyOK P t d) (h : fldAt tb.ty s f = some (fo, fsz, fa)) :
    ∃ fs fd, P.underlying s = some (.struct fs) ∧ ∃ fl, fs[f]? = some fl ∧ fl.offset = fo ∧ look fl.type tb.ty = some fd ∧ fd.sz = fsz ∧ fd.agg = fa := by
  unfold fldAt at h
  split at h
  · rename_i d hd
    split at h
    · rename_i fs hdd
      split at h
      · rename_i fl hfl
        split at h
        · rename_i fd hfd
          injection h with h
          injection h with h1 h2
          injection h2 with h2 h3
          have hu := (ht _ _ hd).und
          rw [hdd] at hu
          exact ⟨fs, fd, hu, fl, by simpa using hfl, h1, hfd, h2, h3⟩
        · cases h
      · cases h
    · cases h
  · cases h

theorem fldA_sound (V : Vw E σ tmps mem a w) (ht : ∀ t d, look t tb.ty = some d → TyOK P t d) {s f fo fsz : Nat} {fa : Bool} (hf : fldAt tb.ty s f = some (fo, fsz, fa)) {x : A} (hx : ∀ r k off, x = .ep r k off → k < (E r).n) {r : SV} (h : (fldA fo fsz x).gives r) :
    (Instr.fieldAt s (x.den E σ) f).run P w = .ok (r.den E σ) w ∧ epOK E r := by
  obtain ⟨fs, fd, hu, fl, hfl, h1, h2, h3, h4⟩ := fldAt_some ht hf
  have hsz := (ht _ _ h2).sizeOf w
  unfold fldA at h
  split at h
  · rename_i i off
    split at h
    · exact (gives_no h).elim
    · rename_i hz
      have hz : ¬ fsz = 0 := fun hh => hz (by rw [hh]; rfl)
      have := gives_ok h
      subst this
      refine ⟨?_, fun _ _ _ hh => by cases hh⟩
      simp only [A.den, SV.den, CV.den]
      have e1 : (Addr.add ⟨σ i, off, none⟩ fo) = ⟨σ i, off + fo, none⟩ := by unfold Addr.add; split <;> simp_all
      simp [Instr.fieldAt, run_underlying hu, hfl, Instr.sureAddr, fieldPlace, hsz, h3, hz, h1, e1]
  · rename_i q k off
    split at h
    · exact (gives_no h).elim
    · rename_i hz
      have hz : ¬ fsz = 0 := fun hh => hz (by rw [hh]; rfl)
      have := gives_ok h
      subst this
      have hk := hx q k off rfl
      obtain ⟨b, o, had, _⟩ := (V.hr q).cell (by omega)
      refine ⟨?_, fun r' k' off' hh => by injection hh with hh; injection hh with hh; injection hh with e1 e2 e3; subst e1 e2; exact hk⟩
      simp only [A.den, SV.den, CV.den, had, Option.map_some]
      have e1 : (Addr.add ⟨b, o + (k * (E q).sz + off), none⟩ fo) = ⟨b, o + (k * (E q).sz + (off + fo)), none⟩ := by unfold Addr.add; split <;> simp_all; omega
      simp [Instr.fieldAt, run_underlying hu, hfl, Instr.sureAddr, fieldPlace, hsz, h3, hz, h1, e1]
  · exact (gives_no h).elim

theorem fieldV_sound (ht : ∀ t d, look t tb.ty = some d → TyOK P t d) {s f fo fsz : Nat} {fa : Bool} (hf : fldAt tb.ty s f = some (fo, fsz, fa)) {l : List A} {r : SV} (h : (fieldV fo fsz fa l).gives r) :
    (Instr.field s (.agg (l.map (A.den E σ)).toArray) f).run P w = .ok (r.den E σ) w ∧ epOK E r := by
  obtain ⟨fs, fd, hu, fl, hfl, h1, h2, h3, h4⟩ := fldAt_some ht hf
  have hag := (ht _ _ h2).isAgg w
  have hsz := (ht _ _ h2).sizeOf w
  unfold fieldV at h
  split at h
  · rename_i hfa
    have := gives_ok h
    subst this
    refine ⟨?_, fun _ _ _ hh => by cases hh⟩
    simp [Instr.field, run_underlying hu, hfl, asAgg, part, hag, hsz, h1, h3, h4, hfa, SV.den, CV.den, List.map_take, List.map_drop]
  · rename_i hfa
    split at h
    · exact (gives_no h).elim
    · rename_i y hne hy
      have := gives_ok h
      subst this
      refine ⟨?_, fun r' k off hh => by injection hh with hh; injection hh with hh; subst hh; exact (hne _ _ _ rfl).elim⟩
      simp [Instr.field, run_underlying hu, hfl, asAgg, part, hag, hsz, h1, h3, h4, hfa, SV.den, CV.den, hy]
    · exact (gives_no h).elim

theorem evP_sound (ht : ∀ t d, look t tb.ty = some d → TyOK P t d) (V : Vw E σ tmps mem a w) {o : Oper} {r : SV} (h : (evP tb.ty E tmps mem o.op).gives r) : Yl P E σ a w o r := by
  unfold evP at h
  split at h
  · rename_i x ho
    split at h
    · rename_i v hv
      have := gives_ok h
      subst this
      refine ⟨by unfold execOp; rw [ho]; simp [evO_sound V hv], fun r k off hh => ?_⟩
      subst hh
      exact evO_ep V hv
    · exact (gives_no h).elim
  · rename_i x ho
    split at h
    · rename_i v hv
      have := gives_ok h
      subst this
      refine ⟨by unfold execOp; rw [ho]; simp [evO_sound V hv], fun r k off hh => ?_⟩
      subst hh
      exact evO_ep V hv
    · exact (gives_no h).elim
  · rename_i t x ho
    split at h
    · rename_i d y hd hv
      have hl : loadA E mem d y = .ok r := by
        rcases h with h | ⟨b, h, _⟩
        · exact h
        · exfalso
          revert h
          unfold loadA
          repeat' split
          all_goals (intro h; cases h)
      obtain ⟨h1, h2⟩ := loadA_sound (ht _ _ hd) V (fun r k off hh => by subst hh; exact evO_ep V hv) hl
      refine yl_v (by unfold execOp; rw [ho]) ?_ (fun r' k off hh => (h2 _ _ _ hh).elim)
      rw [evO_sound V hv]
      exact h1
    · exact (gives_no h).elim
  · rename_i x ho
    split at h
    · rename_i i off hv
      have := gives_ok h
      subst this
      refine ⟨by unfold execOp; rw [ho]; simp [evO_sound V hv, SV.den, CV.den, A.den], fun r k off hh => by cases hh⟩
    · rename_i q k off hv
      have := gives_ok h
      subst this
      have hk := evO_ep V hv
      obtain ⟨b, o', had, _⟩ := (V.hr q).cell (by omega)
      refine ⟨by unfold execOp; rw [ho]; simp [evO_sound V hv, SV.den, CV.den, A.den, had], fun r' k' off' hh => by injection hh with hh; injection hh with hh; injection hh with e1 e2 e3; subst e1 e2; exact hk⟩
    · exact (gives_no h).elim
  · rename_i s x f ho
    split at h
    · rename_i fo fsz fa y hf hv
      obtain ⟨h1, h2⟩ := fldA_sound (σ := σ) V ht hf (fun r k off hh => by subst hh; exact evO_ep V hv) h
      refine yl_v (by unfold execOp; rw [ho]) ?_ h2
      rw [evO_sound V hv]
      exact h1
    · exact (gives_no h).elim
  · rename_i s x f ho
    split at h
    · rename_i fo fsz fa l hf hv
      obtain ⟨h1, h2⟩ := fieldV_sound (P := P) (E := E) (σ := σ) (w := w) ht hf h
      refine yl_v (by unfold execOp; rw [ho]) ?_ h2
      rw [evO_sound V hv]
      exact h1
    · exact (gives_no h).elim
  · rename_i x i ho
    split at h
    · rename_i l hv
      split at h
      · exact (gives_no h).elim
      · rename_i y hne hy
        have := gives_ok h
        subst this
        refine yl_v (by unfold execOp; rw [ho]) ?_ (fun r' k off hh => by injection hh with hh; subst hh; exact (hne _ _ _ rfl).elim)
        rw [evO_sound V hv]
        simp [Instr.extract, SV.den, hy]
      · exact (gives_no h).elim
    · exact (gives_no h).elim
  · rename_i t x ho
    split at h
    · rename_i b hv
      have := gives_ok h
      subst this
      refine yl_v (by unfold execOp; rw [ho]) ?_ (epOK_v _)
      rw [evO_sound V hv]
      simp [Op.unary, SV.den, CV.den, A.den]
    · exact (gives_no h).elim
  · rename_i op t x y yt ho
    split at h
    · rename_i u v hu hv
      obtain ⟨h1, h2⟩ := binV_sound (P := P) (E := E) (σ := σ) (w := w) (ox := x) (oy := y) ht h
      refine yl_v (by unfold execOp; rw [ho]) ?_ h2
      rw [evO_sound V hu, evO_sound V hv]
      exact h1
    · exact (gives_no h).elim
  · rename_i s d x ho
    split at h
    · rename_i y hv
      obtain ⟨h1, h2⟩ := convA_sound ht V h
      refine yl_v (by unfold execOp; rw [ho]) ?_ h2
      rw [evO_sound V hv]
      exact h1
    · exact (gives_no h).elim
  · rename_i t x i ho
    split at h
    · rename_i y k n hv hi
      obtain ⟨h1, h2⟩ := stepI_sound (k := k) ht V h
      refine yl_v (by unfold execOp; rw [ho]) ?_ h2
      rw [evO_sound V hv, evO_sound V hi]
      exact h1
    · exact (gives_no h).elim
  · rename_i t x i ho
    split at h
    · rename_i s k n hv hi
      split at h
      · rename_i hs
        obtain ⟨h1, rfl⟩ := gives_test h
        obtain ⟨g1, g2⟩ := of_decide_eq_true h1
        refine yl_v (by unfold execOp; rw [ho]) ?_ (epOK_v _)
        rw [evO_sound V hv, evO_sound V hi]
        have hu := strTy_some ht hs
        have hlt : n.toNat < s.size := by omega
        have e1 : s[n.toNat]? = some (s.data.toList.getD n.toNat 0) := by
          rw [getElem?_pos s n.toNat hlt]
          have hlt' : n.toNat < s.data.size := hlt
          simp [List.getD, ByteArray.getElem_eq_getElem_data]
          rw [Array.getElem?_eq_getElem hlt']
          rfl
        simp [Instr.index, asIntOf, SV.den, CV.den, A.den, run_underlying hu, g1, e1]
      · exact (gives_no h).elim
    · exact (gives_no h).elim
  · rename_i t x lo hi ho
    split at h
    · rename_i y l hh hv hl hhi
      obtain ⟨h1, h2⟩ := sliceA_sound (P := P) (E := E) (σ := σ) (w := w) ht h
      refine yl_v (by unfold execOp; rw [ho]) ?_ h2
      rw [evO_sound V hv, optO_sound V hl, optO_sound V hhi]
      exact h1
    · exact (gives_no h).elim
  · rename_i t parts ho
    split at h
    · rename_i d hd
      split at h
      · rename_i fs hf
        split at h
        · rename_i pl ps hp hm
          split at h
          · rename_i cs hc
            have := gives_ok h
            subst this
            exact yl_v (by unfold execOp; rw [ho]) (build_sound ht V hd hf hp hm hc) (fun _ _ _ hh => by cases hh)
          · exact (gives_no h).elim
        · exact (gives_no h).elim
      · exact (gives_no h).elim
    · exact (gives_no h).elim
  · rename_i b args ts ho
    split at h
    · rename_i l hl
      obtain ⟨h1, h2⟩ := callB_sound (P := P) (E := E) (σ := σ) (w := w) (ty := o.type) (cs := args.map fun | .const _ => true | _ => false) ht h
      refine ⟨?_, h2⟩
      unfold execOp
      rw [ho]
      have e1 : args.map a.eval = (l.map (SV.den E σ)).toArray := by
        apply Array.toList_inj.1
        simpa using mapO_sound V hl
      simp only [resolve, e1, Sem.run_bind, Sem.run_pure, Result.andThen_ok, invoke]
      exact h1
    · exact (gives_no h).elim
  · exact (gives_no h).elim
end

section
variable {P : Program} {tb : Tab} {E : Nat → Row} {σ : Nat → Nat} {tmps : List (Nat × SV)} {mem : List (Option Blk)} {a : Act} {w : World}

/-- A world to start from, and which of its blocks may be written. -/
structure WM where
  w : World
  M : List Nat

structure RowOK (w0 : World) (L0 : List Nat) (R : Row) : Prop where
  cell : 0 < R.n → ∃ b o, R.ad = some ⟨b, o, none⟩ ∧ b < w0.heap.size ∧ b ∉ L0 ∧ ∀ k, k < R.n → ∀ j, j < R.sz → w0.cell? ⟨b, o + (k * R.sz + j), none⟩ = (R.get k)[j]?
  len : ∀ k, k < R.n → (R.get k).length = R.sz
  cap : R.n ≤ R.c

/-- What is known of the world besides, by the blocks that it hangs on. -/
structure Ext where
  B : List Nat
  X : World → Prop
  st : ∀ w w' : World, X w → (∀ b, b ∈ B → w'.heap[b]? = w.heap[b]?) → w.heap.size ≤ w'.heap.size → X w'
  /-- Those of them that may be written. -/
  W : List Nat
  sub : ∀ b, b ∈ W → b ∈ B

def Ext.nil : Ext := ⟨[], fun _ => True, fun _ _ _ _ _ => trivial, [], fun _ h => h⟩

/-- The blocks that are known whole. -/
structure MOK (E : Nat → Row) (X : Ext) (L0 : List Nat) (w0 : WM) (σ : Nat → Nat) (mem : List (Option Blk)) (w : World) : Prop where
  blk : ∀ i b, mem[i]? = some (some b) → w.heap[σ i]? = some (.cells (b.cells.map (A.den E σ)).toArray b.ty (0, 0))
  inj : ∀ i j bi bj, mem[i]? = some (some bi) → mem[j]? = some (some bj) → σ i = σ j → i = j
  own : ∀ i b, mem[i]? = some (some b) → (σ i ∈ w0.M ∨ w0.w.heap.size ≤ σ i) ∧ σ i < w.heap.size
  init : ∀ i b, L0[i]? = some b → σ i = b
  keep : Keep w0.M w0.w w
  rows : ∀ r, RowOK w0.w w0.M (E r)
  ext : X.X w
  extB : ∀ b, b ∈ X.B → b < w.heap.size
  extd : ∀ i b, mem[i]? = some (some b) → σ i ∉ X.B

variable {X : Ext}

theorem MOK.rowAt {L0 : List Nat} {w0 : WM} (h : MOK E X L0 w0 σ mem w) (r : Nat) : RowAt w (E r) := by
  refine ⟨fun hn => ?_, (h.rows r).len, (h.rows r).cap⟩
  obtain ⟨b, o, h1, h2, h3, h4⟩ := (h.rows r).cell hn
  refine ⟨b, o, h1, fun k hk j hj => ?_⟩
  rw [← h4 k hk j hj]
  simp only [World.cell?, h.keep.block b h2 h3]

theorem MOK.vw {L0 : List Nat} {w0 : WM} (h : MOK E X L0 w0 σ mem w) (h1 : ∀ p, p ∈ tmps → a.tmps[p.1]? = some (p.2.den E σ)) (h2 : ∀ t r k off, (t, SV.c (.one (.ep r k off))) ∈ tmps → k < (E r).n) : Vw E σ tmps mem a w :=
  ⟨h1, h2, h.blk, h.rowAt⟩

/-- The world went on, no known block was touched. -/
theorem MOK.mono {L0 : List Nat} {w0 : WM} {w' : World} (h : MOK E X L0 w0 σ mem w) (k : Keep [] w w') : MOK E X L0 w0 σ mem w' :=
  ⟨fun i b hb => k.heap (h.blk i b hb) (by simp), h.inj, fun i b hi => ⟨(h.own i b hi).1, Nat.lt_of_lt_of_le (h.own i b hi).2 k.size⟩, h.init, h.keep.trans (k.mono (by simp)), h.rows, X.st _ _ h.ext (fun b hb => k.block b (h.extB b hb) (by simp)) k.size, fun b hb => Nat.lt_of_lt_of_le (h.extB b hb) k.size, h.extd⟩

def upd (σ : Nat → Nat) (n b : Nat) : Nat → Nat := fun i => if i = n then b else σ i
theorem upd_lt {n b i : Nat} (h : i < n) : upd σ n b i = σ i := by unfold upd; rw [if_neg (by omega)]
theorem upd_self {n b : Nat} : upd σ n b n = b := by unfold upd; rw [if_pos rfl]

def memWf (mem : List (Option Blk)) : Bool := mem.all fun b => match b with | some b => b.cells.all (A.wf mem.length) | none => true

theorem memWf_blk {i : Nat} {b : Blk} (h : memWf mem = true) (hb : mem[i]? = some (some b)) : b.cells.all (A.wf mem.length) = true := by
  have := List.all_eq_true.1 h _ (List.mem_of_getElem? hb)
  exact this

theorem MOK.alloc {L0 : List Nat} {w0 : WM} (h : MOK E X L0 w0 σ mem w) (hwf : memWf mem = true) (b : Blk) (hb : b.cells.all (A.wf (mem.length + 1)) = true) (hL : ∀ i, i < L0.length → i < mem.length) (arr : Array Value) (ty : Nat)
    (harr : arr = (b.cells.map (A.den E (upd σ mem.length w.heap.size))).toArray) (hty : ty = b.ty) :
    MOK E X L0 w0 (upd σ mem.length w.heap.size) (mem ++ [some b]) (w.alloc (.cells arr ty)) := by
  subst harr hty
  have last : ∀ i b', (mem ++ [some b])[i]? = some (some b') → ¬ i < mem.length → i = mem.length := fun i b' hi hlt => by
    have := (List.getElem?_eq_some_iff.1 hi).1
    simp at this
    omega
  refine ⟨fun i b' hi => ?_, fun i j bi bj hi hj he => ?_, fun i bi hi => ?_, fun i b' hi => ?_, ?_, h.rows, ?_, ?_, ?_⟩
  · by_cases hlt : i < mem.length
    · rw [List.getElem?_append_left hlt] at hi
      rw [upd_lt hlt, heap_alloc_old _ _ (h.own i b' hi).2, h.blk i b' hi, A.dens_congr (fun j hj => (upd_lt hj).symm) (memWf_blk hwf hi)]
    · rw [List.getElem?_append_right (by omega)] at hi
      have : i = mem.length := by
        have := (List.getElem?_eq_some_iff.1 hi).1
        simp at this
        omega
      subst this
      simp at hi
      subst hi
      rw [upd_self]
      exact heap_alloc_new w _
  · by_cases h1 : i < mem.length <;> by_cases h2 : j < mem.length
    · rw [List.getElem?_append_left h1] at hi
      rw [List.getElem?_append_left h2] at hj
      rw [upd_lt h1, upd_lt h2] at he
      exact h.inj i j bi bj hi hj he
    · obtain rfl := last j bj hj h2
      rw [List.getElem?_append_left h1] at hi
      rw [upd_lt h1, upd_self] at he
      have := (h.own i bi hi).2
      omega
    · obtain rfl := last i bi hi h1
      rw [List.getElem?_append_left h2] at hj
      rw [upd_lt h2, upd_self] at he
      have := (h.own j bj hj).2
      omega
    · rw [last i bi hi h1, last j bj hj h2]
  · by_cases h1 : i < mem.length
    · rw [List.getElem?_append_left h1] at hi
      rw [upd_lt h1]
      exact ⟨(h.own i bi hi).1, by have := (h.own i bi hi).2; simp; omega⟩
    · obtain rfl := last i bi hi h1
      rw [upd_self]
      exact ⟨.inr h.keep.size, by simp⟩
  · have := hL i (List.getElem?_eq_some_iff.1 hi).1
    rw [upd_lt this]
    exact h.init i b' hi
  · exact h.keep.trans (Keep.alloc w0.M w _)
  · exact X.st _ _ h.ext (fun b hb => heap_alloc_old _ _ (h.extB b hb)) (by simp)
  · intro b hb
    have := h.extB b hb
    simp
    omega
  · intro i b' hi
    by_cases hlt : i < mem.length
    · rw [List.getElem?_append_left hlt] at hi
      rw [upd_lt hlt]
      exact h.extd i b' hi
    · rw [List.getElem?_append_right (by omega)] at hi
      have : i = mem.length := by
        have := (List.getElem?_eq_some_iff.1 hi).1
        simp at this
        omega
      subst this
      rw [upd_self]
      intro hm
      have := h.extB _ hm
      omega

theorem MOK.store {L0 : List Nat} {w0 : WM} (h : MOK E X L0 w0 σ mem w) {i off : Nat} {b : Blk} (hb : mem[i]? = some (some b)) (vs : List A) (hl : off + vs.length ≤ b.cells.length) :
    MOK E X L0 w0 σ (mem.set i (some ⟨setL b.cells off vs, b.ty⟩)) (w.setCells (σ i) off (vs.map (A.den E σ))) := by
  have hi : i < mem.length := (List.getElem?_eq_some_iff.1 hb).1
  have hg := setCells_grown (σ i) (vs.map (A.den E σ)) off w
  have hk : Keep [σ i] w (w.setCells (σ i) off (vs.map (A.den E σ))) := by simpa using Keep.of_grown hg
  have hz := setCells_size (σ i) (vs.map (A.den E σ)) off w
  have kn : ∀ j b', (mem.set i (some ⟨setL b.cells off vs, b.ty⟩))[j]? = some (some b') → ∃ b'', mem[j]? = some (some b'') := fun j b' hj => by
    by_cases hij : i = j
    · subst hij; exact ⟨b, hb⟩
    · rw [List.getElem?_set_ne hij] at hj; exact ⟨b', hj⟩
  refine ⟨fun j b' hj => ?_, fun j k bj bk hj hk he => ?_, fun j bj hj => ?_, h.init, ?_, h.rows, ?_, ?_, ?_⟩
  · by_cases hij : i = j
    · subst hij
      rw [List.getElem?_set_self hi] at hj
      injection hj with hj
      injection hj with hj
      subst hj
      rw [setCells_heap (σ i) b.ty (0, 0) (vs.map (A.den E σ)) off w _ (h.blk i b hb) (by simpa using hl)]
      simp only [setL_map, spl, List.length_map]
    · rw [List.getElem?_set_ne hij] at hj
      refine hk.heap (h.blk j b' hj) ?_
      intro hm
      simp at hm
      exact hij (h.inj j i b' b hj hb hm).symm
  · obtain ⟨b1, hj'⟩ := kn j bj hj
    obtain ⟨b2, hk'⟩ := kn k bk hk
    exact h.inj j k b1 b2 hj' hk' he
  · obtain ⟨b1, hj'⟩ := kn j bj hj
    rw [hz]
    exact h.own j b1 hj'
  · refine h.keep.trans' hk (fun k hk' => ?_)
    simp at hk'
    subst hk'
    exact (h.own i b hb).1
  · refine X.st _ _ h.ext (fun k hk' => hk.block k (h.extB k hk') ?_) hk.size
    intro hm
    simp at hm
    subst hm
    exact h.extd i b hb hk'
  · intro k hk'
    rw [hz]
    exact h.extB k hk'
  · intro j b' hj
    by_cases hij : i = j
    · subst hij
      exact h.extd i b hb
    · rw [List.getElem?_set_ne hij] at hj
      exact h.extd j b' hj
end

section
/-- Which facts hang on the ghost. -/
abbrev Fam := Gh → (Nat → Nat) → Ext → Prop
/-- Only these names count. -/
def res (l : List Nat) (σ : Nat → Nat) : Nat → Nat := fun i => if i ∈ l then σ i else 0
theorem res_congr {l : List Nat} {σ σ' : Nat → Nat} (h : ∀ i, i ∈ l → σ i = σ' i) : res l σ = res l σ' := by
  funext i
  unfold res
  split
  · rename_i hi; exact h i hi
  · rfl
theorem res_in {l : List Nat} {σ : Nat → Nat} {i : Nat} (h : i ∈ l) : res l σ i = σ i := by unfold res; rw [if_pos h]
theorem res_res {l l' : List Nat} {σ : Nat → Nat} (h : ∀ i, i ∈ l → i ∈ l') : res l (res l' σ) = res l σ := res_congr fun i hi => res_in (h i hi)
def Fam.one (x : Ext) : Fam := fun _ _ y => y = x
def Own (w0 : WM) (x : Ext) : Prop := ∀ b, b ∈ x.W → b ∈ w0.M ∨ w0.w.heap.size ≤ b

structure Mx (E : Nat → Row) (X : Fam) (L0 : List Nat) (w0 : WM) (σ : Nat → Nat) (gh : Gh) (mem : List (Option Blk)) (x : Ext) (w : World) : Prop where
  fam : X gh (res gh.nm σ) x
  nm : ∀ i, i ∈ gh.nm → i < mem.length
  owns : Own w0 x
  mok : MOK E x L0 w0 σ mem w

def Mo (E : Nat → Row) (X : Fam) (L0 : List Nat) (w0 : WM) (σ : Nat → Nat) (gh : Gh) (mem : List (Option Blk)) (w : World) : Prop := ∃ x, Mx E X L0 w0 σ gh mem x w

/-- The blocks behind it. -/
def CR.mem (c : CR) (mem : List (Option Blk)) : List (Option Blk) := (match c.up with | some (i, b) => mem.set i (some b) | none => mem) ++ c.new
def CR.kept (c : CR) (x : Ext) (σ : Nat → Nat) : List Nat := (if c.wr = true then x.W else []) ++ (match c.up with | some (i, _) => [σ i] | none => [])

/-- How the world stands behind such an operation. -/
def Aft (E : Nat → Row) (X : Fam) (L0 : List Nat) (w0 : WM) (σ : Nat → Nat) (mem : List (Option Blk)) (x : Ext) (w : World) (c : CR) (u : Value) (w' : World) : Prop :=
  ∃ σ', (∀ v, c.r = some v → u = v.den E σ' ∧ epOK E v) ∧ Mo E X L0 w0 σ' c.gh (c.mem mem) w' ∧ (∀ i, i < mem.length → σ i = σ' i) ∧ Keep (c.kept x σ) w w'

def CallOK (P : Program) (X : Fam) (L0 : List Nat) (f : Nat) (φ : List SV → List (Option Blk) → Gh → Option CRR) : Prop :=
  ∃ fn, P.funcs[f]? = some fn ∧ fn.body.isSome = true ∧ (fn.name == "runtime.NumGoroutine") = false ∧
    ∀ args mem gh cr, φ args mem gh = some cr → cr.ok → ∀ (E : Nat → Row) (σ : Nat → Nat) (w0 : WM) (x : Ext) (w : World), Mx E X L0 w0 σ gh mem x w → (∀ i, i < L0.length → i < mem.length) →
      Calls P f (args.map (SV.den E σ)).toArray w fun e w' => cr.Some fun c => ∃ u, e = .returned u ∧ Aft E X L0 w0 σ mem x w c u w'

def OpOK (P : Program) (X : Fam) (L0 : List Nat) (φ : Op → List (Nat × SV) → List (Option Blk) → Gh → Option CRR) : Prop :=
  ∀ op tmps mem gh cr, φ op tmps mem gh = some cr → cr.ok → ∀ (E : Nat → Row) (σ : Nat → Nat) (w0 : WM) (x : Ext) (a : Act) (w : World), Mx E X L0 w0 σ gh mem x w → (∀ i, i < L0.length → i < mem.length) → Vw E σ tmps mem a w → ∀ o : Oper, o.op = op →
    ∀ Qk, o.wp P a w (fun a' w' => cr.Some fun c => ∃ u, a' = a.put o.dst u ∧ Aft E X L0 w0 σ mem x w c u w') Qk

structure TabOK (P : Program) (X : Fam) (L0 : List Nat) (tb : Tab) : Prop where
  ty : ∀ t d, look t tb.ty = some d → TyOK P t d
  fn : ∀ f fn, look f tb.fn = some fn → P.funcs[f]? = some fn ∧ fn.body.isSome = true ∧ (fn.name == "runtime.NumGoroutine") = false
  call : ∀ f φ, look f tb.call = some φ → CallOK P X L0 f φ
  mixed : P.follows .mixedOrders = true
  op : OpOK P X L0 tb.op

inductive It where
  | c (f : Nat) (p : List Nat)
  | o (f : Nat) (p : List Nat) (l : List Nat)
  | d (f : Nat) (p : List Nat) (fuel : Nat) (listed : List Bool) (fz : List Nat)
  | b (id : Nat)
  | f (fid n : Nat) (tmps : List (Nat × SV)) (dst : Option Nat)
  | j (k : Nat)

inductive Out where
  | leaf (K : List It) (ex : Exit) (st : St)
  | both (a b : Out)
  | ex (f : Option Addr → Nat → Out)
  | nil

def child : Nat → Code → Option Code
  | 0, .seq x _ => some x
  | 1, .seq _ y => some y
  | 0, .cond _ x _ => some x
  | 1, .cond _ _ y => some y
  | 0, .block _ c => some c
  | 0, .loop c => some c
  | _, _ => none

def codeIn (c : Code) : List Nat → Option Code
  | [] => some c
  | k :: p => match codeIn c p with | some d => child k d | none => none

def codeAt (tb : Tab) (f : Nat) (p : List Nat) : Option Code :=
  match look f tb.fn with
  | some fn => match fn.body with | some c => codeIn c p | none => none
  | none => none

def opsAt (tb : Tab) (f : Nat) (p : List Nat) : Option (Array Oper) :=
  match codeAt tb f p with
  | some (.region _ ops _) => some ops
  | _ => none

def keepOf (tb : Tab) (f : Nat) (tmps : List (Nat × SV)) : List (Nat × SV) :=
  match look f tb.keep with
  | some l => tmps.filter fun p => l.any (Nat.beq p.1)
  | none => tmps

def St.put (st : St) (dst : Option Nat) (v : Option SV) : St :=
  match dst with
  | none => st
  | some d => match v with
    | some v => if Nat.blt d st.n = true then { st with tmps := (d, v) :: st.tmps.filter fun p => !(Nat.beq p.1 d) } else st
    | none => { st with tmps := st.tmps.filter fun p => !(Nat.beq p.1 d) }

inductive MR where
  | no
  | val (x : SV) (mem : List (Option Blk))
  | unit (mem : List (Option Blk))

def evM (ty : List (Nat × Ty)) (tmps : List (Nat × SV)) (mem : List (Option Blk)) (fz : List Nat) : Op → MR
  | .alloc t => match look t ty with
    | some d => .val (.c (.one (.ptr mem.length 0))) (mem ++ [some ⟨cellsV d.zero, t⟩])
    | none => .no
  | .box t x => match evO tmps x with
    | some v => match v.cells with
      | some cs => .val (.c (.one (.ptr mem.length 0))) (mem ++ [some ⟨cs, t⟩])
      | none => .no
    | none => .no
  | .buildSlice t len parts => match look t ty with
    | some d => match d.desc with
      | .slice e => match look e ty, mapP tmps parts.toList with
        | some ed, some ps =>
          if Nat.blt 0 (len * ed.sz) = true then (if (Nat.ble (len * ed.sz) 1000 && Nat.blt 0 (cellsV ed.zero).length) = true then
            (match fillA (fun i => some (i * ed.sz, ed.sz)) ((List.range (len * ed.sz)).map fun k => (cellsV ed.zero).getD (k % (cellsV ed.zero).length) (.v undef)) ps with
             | some cs => .val (.c (.one (.bsl mem.length len))) (mem ++ [some ⟨cs, e⟩])
             | none => .no) else .no) else .no
        | _, _ => .no
      | _ => .no
    | none => .no
  | .store t x v => match look t ty, evO tmps x, evO tmps v with
    | some d, some (.c (.one (.ptr i off))), some v => match v.cells, blkAt mem i with
      | some vs, some b =>
        if Nat.beq vs.length d.sz = true then (if Nat.ble (off + vs.length) b.cells.length = true then (if fz.any (Nat.beq i) = true then .no else .unit (mem.set i (some ⟨setL b.cells off vs, b.ty⟩))) else .no) else .no
      | _, _ => .no
    | _, _, _ => .no
  | _ => .no

def wfT (n : Nat) (tmps : List (Nat × SV)) : Bool := tmps.all fun p => p.2.wf n
def It.wf (n : Nat) : It → Bool
  | .f _ _ tmps _ => wfT n tmps
  | .d _ _ _ _ fz => fz.all fun i => Nat.blt i n
  | _ => true
def wfAll (K : List It) (st : St) : Bool := K.all (It.wf st.mem.length) && (wfT st.mem.length st.tmps && memWf st.mem)
def newWf (n : Nat) (mem : List (Option Blk)) : Bool := match mem.getLast? with | some (some b) => b.cells.all (A.wf n) | _ => false

inductive Gd where
  | yes
  | ask (t : Nat) (b want : Bool)
  | no
  | bad

def guardOf (ops : Array Oper) (tmps : List (Nat × SV)) (o : Oper) : Gd :=
  match o.guard with
  | none => .yes
  | some (j, want) =>
    match ops[j]? with
    | some oj => match oj.dst with
      | some t => match look t tmps with
        | some (.c (.one (.v (.bool b)))) => .ask t b want
        | some (.tup []) => .no
        | _ => .bad
      | none => .bad
    | none => .bad

/-- What a test's answer says of the temporary that was tested. -/
def St.know (st : St) (t : Nat) (v : Bool) : St := { st with tmps := st.tmps.map fun p => if Nat.beq p.1 t = true then (p.1, bV v) else p }
def St.knowO (st : St) (x : Operand) (v : Bool) : St := match x with | .tmp t => st.know t v | _ => st

/-- An operation that writes nothing. -/
def doP (tb : Tab) (E : Nat → Row) (tmps : List (Nat × SV)) (mem : List (Option Blk)) (o : Oper) (k : Option SV → Out) (stuck : Out) (no : Out) : Out :=
  match o.op with
  | .pick c x y => match evO tmps c with
    | some (.c (.one (.v (.bool b)))) => cond b (match evO tmps x with | some v => k (some v) | none => stuck) (match evO tmps y with | some v => k (some v) | none => stuck)
    | _ => stuck
  | op => match evP tb.ty E tmps mem op with
    | .ok v => k (some v)
    | .test b v => cond b (k (some v)) stuck
    | .no => no

/-- An operation that may make or write memory. -/
def fzKnown (fz : List Nat) (mem : List (Option Blk)) : Bool := fz.all fun j => match mem[j]? with | some (some _) => true | _ => false

def upOK (fz : List Nat) (mem : List (Option Blk)) (c : CR) : Bool := match c.up with
  | some (i, _) => if fz.any (Nat.beq i) = true then false else match mem[i]? with | some (some _) => true | _ => false
  | none => true

def goCR (K : List It) (st : St) (fz : List Nat) (o : Oper) (k : St → Out) (stuck : Out) (c : CR) : Out :=
  if wfAll K st = true then (if upOK fz st.mem c = true then k (St.put ⟨st.n, st.tmps, c.mem st.mem, c.gh⟩ o.dst c.r) else stuck) else stuck

def doCR (K : List It) (st : St) (fz : List Nat) (o : Oper) (k : St → Out) (stuck : Out) : CRR → Out
  | .one c => goCR K st fz o k stuck c
  | .any f => .ex fun a n => goCR K st fz o k stuck (f a n)
  | .test b c => cond b (goCR K st fz o k stuck c) stuck

def doM (tb : Tab) (K : List It) (st : St) (fz : List Nat) (o : Oper) (k : St → Out) (stuck : Out) : Out :=
  match o.op with
  | .call { callee := .value (.func g), args, .. } => match look g tb.call, mapO st.tmps args.toList with
    | some φ, some vs => match φ vs st.mem st.gh with
      | some r => doCR K st fz o k stuck r
      | none => stuck
    | _, _ => stuck
  | op => match tb.op op st.tmps st.mem st.gh with
    | some r => doCR K st fz o k stuck r
    | none => match evM tb.ty st.tmps st.mem fz op with
      | .val v mem => if wfAll K st = true then (if newWf st.mem.length mem = true then k ({ st with mem := mem }.put o.dst (some v)) else stuck) else stuck
      | .unit mem => k ({ st with mem := mem }.put o.dst none)
      | .no => stuck

/-- Behind the guard. -/
def doG (ops : Array Oper) (st : St) (o : Oper) (yes skip : St → Out) (stuck : Out) : Out :=
  match guardOf ops st.tmps o with
  | .yes => yes st
  | .ask t b true => cond b (yes (st.know t true)) (skip (st.know t false))
  | .ask t b false => cond b (skip (st.know t true)) (yes (st.know t false))
  | .no => skip st
  | .bad => stuck

def maskFrom (fz : List Nat) : Nat → List (Option Blk) → List (Option Blk)
  | _, [] => []
  | i, b :: r => (if fz.any (Nat.beq i) = true then b else none) :: maskFrom fz (i + 1) r

abbrev Rec := List It → Exit → St → Out

def setNth : List Bool → Nat → List Bool
  | [], _ => []
  | _ :: r, 0 => true :: r
  | x :: r, i + 1 => x :: setNth r i

def pureOp (tb : Tab) (E : Nat → Row) (tmps : List (Nat × SV)) (mem : List (Option Blk)) (o : Oper) : Bool :=
  match o.op with
  | .pick c _ _ => match evO tmps c with | some (.c (.one (.v (.bool _)))) => true | _ => false
  | op => match evP tb.ty E tmps mem op with | .no => false | _ => true

/-- Which operation may be taken first. -/
def findP (tb : Tab) (E : Nat → Row) (ops : Array Oper) (listed : List Bool) (fz : List Nat) (found : St → Nat → Out) (none_ : St → Out) : List Nat → St → Out
  | [], st => none_ st
  | i :: r, st => match ops[i]? with
    | some o => if Region.free .any ops listed.toArray i = true then
        (if pureOp tb E st.tmps (maskFrom fz 0 st.mem) o = true then found st i
         else match guardOf ops st.tmps o with
           | .ask t b true => cond b (findP tb E ops listed fz found none_ r (st.know t true)) (found (st.know t false) i)
           | .ask t b false => cond b (found (st.know t true) i) (findP tb E ops listed fz found none_ r (st.know t false))
           | .no => found st i
           | _ => findP tb E ops listed fz found none_ r st)
      else findP tb E ops listed fz found none_ r st
    | none => findP tb E ops listed fz found none_ r st

def takeD (tb : Tab) (E : Nat → Row) (rec : Rec) (f : Nat) (p : List Nat) (fuel : Nat) (listed : List Bool) (fz : List Nat) (K : List It) (ops : Array Oper) (rs : List Nat) (stuck : St → Out) (st : St) (i : Nat) : Out :=
  match ops[i]? with
  | some o => if Region.noSelect ops = true then (if rs.contains i = true then (if Region.free .any ops listed.toArray i = true then
      doG ops st o (fun st => doP tb E st.tmps (maskFrom fz 0 st.mem) o (fun v => rec (.d f p fuel (setNth listed i) fz :: K) .normal (st.put o.dst v)) (stuck st) (stuck st)) (fun st => rec (.d f p fuel (setNth listed i) fz :: K) .normal (st.put o.dst (some (.tup [])))) (stuck st) else stuck st) else stuck st) else stuck st
  | none => stuck st

def carryD (tb : Tab) (E : Nat → Row) (rec : Rec) (f : Nat) (p : List Nat) (fuel : Nat) (listed : List Bool) (fz : List Nat) (K : List It) (st : St) (ops : Array Oper) (stuck : St → Out) (i : Nat) : Out :=
  match ops[i]? with
  | some o => doG ops st o (fun st => doP tb E st.tmps st.mem o (fun v => rec (.d f p fuel (setNth listed i) fz :: K) .normal (st.put o.dst v)) (stuck st) (doM tb (.d f p fuel listed fz :: K) st fz o (fun st' => rec (.d f p fuel (setNth listed i) fz :: K) .normal st') (stuck st))) (fun st => rec (.d f p fuel (setNth listed i) fz :: K) .normal (st.put o.dst (some (.tup [])))) (stuck st)
  | none => stuck st

def allD (g : Nat → Out) : List Nat → Out
  | [] => .nil
  | [i] => g i
  | i :: r => .both (g i) (allD g r)

def stepD (tb : Tab) (E : Nat → Row) (rec : Rec) (f : Nat) (p : List Nat) (fuel : Nat) (listed : List Bool) (fz : List Nat) (K : List It) (st : St) : Out :=
  match opsAt tb f p with
  | some ops =>
    match Region.ready .any ops listed.toArray with
    | [] => rec K .normal st
    | i :: r => match fuel with
      | fuel' + 1 => if fzKnown fz st.mem = true then
          findP tb E ops listed fz (takeD tb E rec f p fuel' listed fz K ops (i :: r) (.leaf (.d f p (fuel' + 1) listed fz :: K) .normal))
            (fun st => allD (carryD tb E rec f p fuel' listed fz K st ops (.leaf (.d f p (fuel' + 1) listed fz :: K) .normal)) (i :: r)) (i :: r) st
        else .leaf (.d f p (fuel' + 1) listed fz :: K) .normal st
      | 0 => .leaf (.d f p 0 listed fz :: K) .normal st
  | none => .leaf (.d f p fuel listed fz :: K) .normal st

def inlined (tb : Tab) (tmps : List (Nat × SV)) (o : Oper) : Option (Nat × Func × List SV) :=
  match o.op with
  | .call { callee := .value (.func g), args, .. } => match look g tb.fn, mapO tmps args.toList with
    | some fn, some vs => some (g, fn, vs)
    | _, _ => none
  | _ => none

def argTmps : Nat → List SV → List (Nat × SV)
  | _, [] => []
  | i, v :: r => (i, v) :: argTmps (i + 1) r

def stepO (tb : Tab) (E : Nat → Row) (rec : Rec) (f : Nat) (p : List Nat) (l : List Nat) (K : List It) (st : St) : Out :=
  match opsAt tb f p with
  | none => .leaf (.o f p l :: K) .normal st
  | some ops => match l with
    | [] => rec K .normal st
    | i :: r => match ops[i]? with
      | none => .leaf (.o f p (i :: r) :: K) .normal st
      | some o => doG ops st o
          (fun st => match inlined tb st.tmps o with
           | some (g, fn, vs) => if Nat.ble vs.length fn.ntmps = true then rec (.c g [] :: .f g st.n st.tmps o.dst :: .o f p r :: K) .normal ⟨fn.ntmps, argTmps 0 vs, st.mem, st.gh⟩ else .leaf (.o f p (i :: r) :: K) .normal st
           | none => doP tb E st.tmps st.mem o (fun v => rec (.o f p r :: K) .normal (st.put o.dst v)) (.leaf (.o f p (i :: r) :: K) .normal st)
               (doM tb (.o f p (i :: r) :: K) st [] o (fun st' => rec (.o f p r :: K) .normal st') (.leaf (.o f p (i :: r) :: K) .normal st)))
          (fun st => rec (.o f p r :: K) .normal (st.put o.dst (some (.tup [])))) (.leaf (.o f p (i :: r) :: K) .normal st)

def regionId : Code → Nat
  | .region id _ _ => id
  | _ => 0

def namesTo : Nat → Nat → List Nat
  | _, 0 => []
  | i, n + 1 => i :: namesTo (i + 1) n

def frozenAt (tb : Tab) (f id : Nat) (n : Nat) : List Nat :=
  match look f tb.thaw with
  | some l => match look id l with
    | some t => (namesTo 0 n).filter fun i => !(t.any (Nat.beq i))
    | none => namesTo 0 n
  | none => namesTo 0 n

def frozenK (tb : Tab) (f id : Nat) (mem : List (Option Blk)) : List Nat := (frozenAt tb f id mem.length).filter fun i => match mem[i]? with | some (some _) => true | _ => false

def stepC (tb : Tab) (rec : Rec) (f : Nat) (p : List Nat) (K : List It) (st : St) : Out :=
  match codeAt tb f p with
  | some .skip => rec K .normal st
  | some (.seq _ _) => rec (.c f (0 :: p) :: .c f (1 :: p) :: K) .normal st
  | some (.cond c _ _) => match evO st.tmps c with
    | some (.c (.one (.v (.bool b)))) => cond b (rec (.c f (0 :: p) :: K) .normal (st.knowO c true)) (rec (.c f (1 :: p) :: K) .normal (st.knowO c false))
    | _ => .leaf (.c f p :: K) .normal st
  | some (.block id _) => rec (.c f (0 :: p) :: .b id :: K) .normal st
  | some (.exit id) => rec K (.exit id) st
  | some .ret => rec K .ret st
  | some (.region id ops dr) =>
    if dr = true then rec (.d f p ops.size (List.replicate ops.size false) (frozenK tb f id st.mem) :: K) .normal { st with tmps := keepOf tb f st.tmps }
    else rec (.o f p (List.range ops.size) :: K) .normal { st with tmps := keepOf tb f st.tmps }
  | _ => .leaf (.c f p :: K) .normal st

def resOf (tb : Tab) (E : Nat → Row) (st : St) : List ResultVar → Option (List CV)
  | [] => some []
  | .tmp t :: r => match look t st.tmps, resOf tb E st r with
    | some (.c (.one (.ep _ _ _))), _ => none
    | some (.c x), some l => some (x :: l)
    | _, _ => none
  | .cell a t :: r => match look a st.tmps, look t tb.ty, resOf tb E st r with
    | some (.c (.one (.ptr i off))), some d, some l => match loadA E st.mem d (.ptr i off) with
      | .ok (.c x) => some (x :: l)
      | _ => none
    | _, _, _ => none

def resSV : List CV → SV
  | [x] => .c x
  | l => .tup l

def stepF (tb : Tab) (E : Nat → Row) (rec : Rec) (fid n : Nat) (tmps : List (Nat × SV)) (dst : Option Nat) (K : List It) (ex : Exit) (st : St) : Out :=
  match look fid tb.fn with
  | some fn => match resOf tb E st fn.results.toList with
    | some l => rec K .normal (St.put ⟨n, tmps, st.mem, st.gh⟩ dst (some (resSV l)))
    | none => .leaf (.f fid n tmps dst :: K) ex st
  | none => .leaf (.f fid n tmps dst :: K) ex st

def ev (tb : Tab) (E : Nat → Row) : Nat → Rec
  | 0, K, ex, st => .leaf K ex st
  | n + 1, K, ex, st =>
    match K with
    | [] => .leaf [] ex st
    | it :: K' => match ex with
      | .normal => match it with
        | .c f p => stepC tb (ev tb E n) f p K' st
        | .o f p l => stepO tb E (ev tb E n) f p l K' st
        | .d f p fuel listed fz => stepD tb E (ev tb E n) f p fuel listed fz K' st
        | .b _ => ev tb E n K' .normal st
        | .f fid m tmps dst => stepF tb E (ev tb E n) fid m tmps dst K' .normal st
        | .j k => .leaf (.j k :: K') .normal st
      | .ret => match it with
        | .f fid m tmps dst => stepF tb E (ev tb E n) fid m tmps dst K' .ret st
        | _ => ev tb E n K' .ret st
      | .exit id => match it with
        | .b id' => if Nat.beq id id' = true then ev tb E n K' .normal st else ev tb E n K' (.exit id) st
        | .f fid m tmps dst => .leaf (it :: K') ex st
        | _ => ev tb E n K' (.exit id) st
      | _ => .leaf (it :: K') ex st
end

section
structure Conc (E : Nat → Row) (X : Fam) (L0 : List Nat) (w0 : WM) (σ : Nat → Nat) (st : St) (a : Act) (w : World) : Prop where
  defers : a.defers = []
  size : a.tmps.size = st.n
  ht : ∀ p, p ∈ st.tmps → a.tmps[p.1]? = some (p.2.den E σ)
  he : ∀ t r k off, (t, SV.c (.one (.ep r k off))) ∈ st.tmps → k < (E r).n
  mo : Mo E X L0 w0 σ st.gh st.mem w
  hL : ∀ i, i < L0.length → i < st.mem.length

/-- As the frozen blocks were. -/
def SF (E : Nat → Row) (σ : Nat → Nat) (fz : List Nat) (w w' : World) : Prop := (∀ i, i ∈ fz → w'.heap[σ i]? = w.heap[σ i]?) ∧ ∀ r, RowAt w' (E r)

section
variable (P : Program) (tb : Tab) (E : Nat → Row) (Jt : Nat → Act → World → Prop) (Q : Exit → Act → World → Prop) (σ : Nat → Nat)
def wpK : List It → Exit → Act → World → Prop
  | [] => Q
  | .c f p :: K => Exit.then (fun a w => ∃ c, codeAt tb f p = some c ∧ c.wp P (wpK K) a w) (wpK K)
  | .o f p l :: K => Exit.then (fun a w => ∃ ops, opsAt tb f p = some ops ∧ wpOps P ops (wpK K) l a w) (wpK K)
  | .d f p fuel listed fz :: K => Exit.then (fun a w => ∃ ops, opsAt tb f p = some ops ∧ wpAnyH P .any ops (wpK K) (SF E σ fz w) fuel listed.toArray a w) (wpK K)
  | .b id :: K => Exit.inBlock id (wpK K)
  | .f fid n tmps dst :: K => fun ex a w => ∃ fn, look fid tb.fn = some fn ∧ bodyPost P fn (fun e w' => match e with
      | .returned v => ∀ b : Act, b.defers = [] → b.tmps.size = n → (∀ p, p ∈ tmps → b.tmps[p.1]? = some (p.2.den E σ)) → (∀ t r k off, (t, SV.c (.one (.ep r k off))) ∈ tmps → k < (E r).n) → wpK K .normal (b.put dst v) w'
      | _ => False) ex a w
  | .j k :: K => Exit.then (Jt k) (wpK K)
end

variable {X : Fam}
variable {P : Program} {tb : Tab} {E : Nat → Row} {Jt : Nat → Act → World → Prop} {Q : Exit → Act → World → Prop} {σ σ' : Nat → Nat} {L0 : List Nat} {w0 : WM} {n : Nat}

theorem wfT_den {tmps : List (Nat × SV)} (hw : wfT n tmps = true) {p : Nat × SV} (hp : p ∈ tmps) : p.2.wf n = true := List.all_eq_true.1 hw p hp

theorem SF_congr (h : ∀ i, i < n → σ i = σ' i) {fz : List Nat} (hz : (fz.all fun i => Nat.blt i n) = true) (w : World) : SF E σ fz w = SF E σ' fz w := by
  funext w'
  have : ∀ i, i ∈ fz → σ i = σ' i := fun i hi => h i (by have := List.all_eq_true.1 hz i hi; simpa [Nat.blt_eq] using this)
  unfold SF
  apply propext
  constructor
  · exact fun ⟨h1, h2⟩ => ⟨fun i hi => by rw [← this i hi]; exact h1 i hi, h2⟩
  · exact fun ⟨h1, h2⟩ => ⟨fun i hi => by rw [this i hi]; exact h1 i hi, h2⟩

theorem wpK_congr (h : ∀ i, i < n → σ i = σ' i) : ∀ {K : List It}, K.all (It.wf n) = true → wpK P tb E Jt Q σ K = wpK P tb E Jt Q σ' K
  | [], _ => rfl
  | it :: K, hw => by
    simp only [List.all_cons, Bool.and_eq_true] at hw
    have ih := wpK_congr h hw.2
    cases it with
    | c f p => simp only [wpK, ih]
    | o f p l => simp only [wpK, ih]
    | d f p fuel listed fz =>
      have : ∀ w, SF E σ fz w = SF E σ' fz w := SF_congr h hw.1
      simp only [wpK, ih, this]
    | b id => simp only [wpK, ih]
    | f fid m tmps dst =>
      have : ∀ p, p ∈ tmps → p.2.den E σ = p.2.den E σ' := fun p hp => SV.den_congr h (wfT_den hw.1 hp)
      funext ex a w
      simp only [wpK, ih]
      have : ∀ b : Act, (∀ p, p ∈ tmps → b.tmps[p.1]? = some (p.2.den E σ)) ↔ (∀ p, p ∈ tmps → b.tmps[p.1]? = some (p.2.den E σ')) := fun b =>
        ⟨fun h p hp => by rw [h p hp, this p hp], fun h p hp => by rw [h p hp, this p hp]⟩
      simp only [this]
    | j k => simp only [wpK, ih]

def Safe (P : Program) (tb : Tab) (E : Nat → Row) (X : Fam) (Jt : Nat → Act → World → Prop) (Q : Exit → Act → World → Prop) (L0 : List Nat) (w0 : WM) (K : List It) (ex : Exit) (st : St) : Prop := ∀ σ a w, Conc E X L0 w0 σ st a w → wpK P tb E Jt Q σ K ex a w
def OutOK (P : Program) (tb : Tab) (E : Nat → Row) (X : Fam) (Jt : Nat → Act → World → Prop) (Q : Exit → Act → World → Prop) (L0 : List Nat) (w0 : WM) : Out → Prop
  | .leaf K ex st => Safe P tb E X Jt Q L0 w0 K ex st
  | .both x y => OutOK P tb E X Jt Q L0 w0 x ∧ OutOK P tb E X Jt Q L0 w0 y
  | .ex f => ∀ a n, OutOK P tb E X Jt Q L0 w0 (f a n)
  | .nil => True

theorem OutOK_cond {b : Bool} {x y : Out} : OutOK P tb E X Jt Q L0 w0 (cond b x y) ↔ (b = true → OutOK P tb E X Jt Q L0 w0 x) ∧ (b = false → OutOK P tb E X Jt Q L0 w0 y) := by
  cases b <;> simp

theorem Conc.vw {st : St} {a : Act} {w : World} (h : Conc E X L0 w0 σ st a w) : Vw E σ st.tmps st.mem a w := let ⟨_, m⟩ := h.mo; m.mok.vw h.ht h.he
theorem Conc.blk {st : St} {a : Act} {w : World} (h : Conc E X L0 w0 σ st a w) : ∀ i b, st.mem[i]? = some (some b) → w.heap[σ i]? = some (.cells (b.cells.map (A.den E σ)).toArray b.ty (0, 0)) := let ⟨_, m⟩ := h.mo; m.mok.blk
theorem Conc.own {st : St} {a : Act} {w : World} (h : Conc E X L0 w0 σ st a w) : ∀ i b, st.mem[i]? = some (some b) → (σ i ∈ w0.M ∨ w0.w.heap.size ≤ σ i) ∧ σ i < w.heap.size := let ⟨_, m⟩ := h.mo; m.mok.own
theorem Conc.inj {st : St} {a : Act} {w : World} (h : Conc E X L0 w0 σ st a w) : ∀ i j bi bj, st.mem[i]? = some (some bi) → st.mem[j]? = some (some bj) → σ i = σ j → i = j := let ⟨_, m⟩ := h.mo; m.mok.inj
theorem Conc.init {st : St} {a : Act} {w : World} (h : Conc E X L0 w0 σ st a w) : ∀ i b, L0[i]? = some b → σ i = b := let ⟨_, m⟩ := h.mo; m.mok.init
theorem Conc.rowAt {st : St} {a : Act} {w : World} (h : Conc E X L0 w0 σ st a w) (r : Nat) : RowAt w (E r) := let ⟨_, m⟩ := h.mo; m.mok.rowAt r
theorem Mo.mono {gh : Gh} {mem : List (Option Blk)} {w w' : World} (h : Mo E X L0 w0 σ gh mem w) (k : Keep [] w w') : Mo E X L0 w0 σ gh mem w' := let ⟨x, m⟩ := h; ⟨x, m.fam, m.nm, m.owns, m.mok.mono k⟩

theorem put_size (a : Act) (d : Option Nat) (v : Value) : (a.put d v).tmps.size = a.tmps.size := by cases d <;> simp [Act.put]
theorem put_defers (a : Act) (d : Option Nat) (v : Value) : (a.put d v).defers = a.defers := by cases d <;> rfl

theorem Conc.put {st : St} {a : Act} {w : World} (h : Conc E X L0 w0 σ st a w) (dst : Option Nat) {v : SV} (hv : epOK E v) : Conc E X L0 w0 σ (st.put dst (some v)) (a.put dst (v.den E σ)) w := by
  cases dst with
  | none => exact h
  | some d =>
    simp only [St.put, Act.put]
    split
    · rename_i hd
      have hd : d < st.n := by simpa [Nat.blt_eq] using hd
      refine ⟨h.defers, by simpa using h.size, fun p hp => ?_, fun t r k off hp => ?_, h.mo, h.hL⟩
      · rcases List.mem_cons.1 hp with rfl | hp
        · simp [h.size, hd]
        · have := (List.mem_filter.1 hp)
          have hne : ¬ d = p.1 := fun e => by have h2 := this.2; rw [e] at h2; simp at h2
          rw [Array.getElem?_setIfInBounds]
          rw [if_neg hne]
          exact h.ht p this.1
      · rcases List.mem_cons.1 hp with e | hp
        · injection e with e1 e2
          exact hv r k off e2.symm
        · exact h.he t r k off (List.mem_filter.1 hp).1
    · rename_i hd
      have hd : ¬ d < st.n := by simpa [Nat.blt_eq] using hd
      rw [Array.setIfInBounds_eq_of_size_le (by rw [h.size]; omega)]
      exact h

theorem Conc.unput {st : St} {a : Act} {w : World} (h : Conc E X L0 w0 σ st a w) (dst : Option Nat) (v : Value) : Conc E X L0 w0 σ (st.put dst none) (a.put dst v) w := by
  cases dst with
  | none => exact h
  | some d =>
    simp only [St.put, Act.put]
    refine ⟨h.defers, by simpa using h.size, fun p hp => ?_, fun t r k off hp => h.he t r k off (List.mem_filter.1 hp).1, h.mo, h.hL⟩
    have := (List.mem_filter.1 hp)
    have hne : ¬ d = p.1 := fun e => by have h2 := this.2; rw [e] at h2; simp at h2
    rw [Array.getElem?_setIfInBounds, if_neg hne]
    exact h.ht p this.1

/-- Some temporaries are forgotten. -/
theorem Conc.less {st : St} {a : Act} {w : World} (h : Conc E X L0 w0 σ st a w) {tmps : List (Nat × SV)} (hs : ∀ p, p ∈ tmps → p ∈ st.tmps) : Conc E X L0 w0 σ { st with tmps := tmps } a w :=
  ⟨h.defers, h.size, fun p hp => h.ht p (hs p hp), fun t r k off hp => h.he t r k off (hs _ hp), h.mo, h.hL⟩

theorem Conc.mono {st : St} {a : Act} {w w' : World} (h : Conc E X L0 w0 σ st a w) (k : Keep [] w w') : Conc E X L0 w0 σ st a w' :=
  ⟨h.defers, h.size, h.ht, h.he, h.mo.mono k, h.hL⟩

theorem keepOf_sub {f : Nat} {tmps : List (Nat × SV)} : ∀ p, p ∈ keepOf tb f tmps → p ∈ tmps := by
  intro p hp
  unfold keepOf at hp
  split at hp
  · exact (List.mem_filter.1 hp).1
  · exact hp

theorem A.wf_succ {n : Nat} : ∀ {x : A}, x.wf n = true → x.wf (n + 1) = true
  | .v _, _ => rfl
  | .ptr i _, h => by simp only [A.wf, Nat.blt_eq] at h ⊢; omega
  | .bsl i _, h => by simp only [A.wf, Nat.blt_eq] at h ⊢; omega
  | .mp i, h => by simp only [A.wf, Nat.blt_eq] at h ⊢; omega
  | .os i, h => by simp only [A.wf, Nat.blt_eq] at h ⊢; omega
  | .oe i _ _ _, h => by simp only [A.wf, Nat.blt_eq] at h ⊢; omega
  | .vw i _ _, h => by simp only [A.wf, Nat.blt_eq] at h ⊢; omega
  | .row _, _ => rfl
  | .ep _ _ _, _ => rfl
  | .sub s _ _ _ _, h => A.wf_succ (x := s) h

theorem newWf_app {mem : List (Option Blk)} {b : Blk} (h : newWf n (mem ++ [some b]) = true) : b.cells.all (A.wf n) = true := by
  simpa [newWf] using h

theorem any_beq {i : Nat} {l : List Nat} : (l.any (Nat.beq i) = true) ↔ i ∈ l := by
  rw [List.any_eq_true]
  exact ⟨fun ⟨x, hx, h⟩ => by rw [Nat.eq_of_beq_eq_true h]; exact hx, fun h => ⟨i, h, Nat.beq_refl i⟩⟩

theorem Conc.alloc {st : St} {a : Act} {w : World} (hc : Conc E X L0 w0 σ st a w) (hwf : memWf st.mem = true) (hwt : wfT st.mem.length st.tmps = true) (b : Blk) {arr : Array Value} {ty : Nat} (h1 : newWf st.mem.length (st.mem ++ [some b]) = true)
    (h2 : arr = (b.cells.map (A.den E σ)).toArray) (h4 : ty = b.ty) :
    Conc E X L0 w0 (upd σ st.mem.length w.heap.size) { st with mem := st.mem ++ [some b] } a (w.alloc (.cells arr ty)) := by
  have hσ : ∀ i, i < st.mem.length → σ i = upd σ st.mem.length w.heap.size i := fun i hi => (upd_lt hi).symm
  have h3 := newWf_app h1
  obtain ⟨x, hm⟩ := hc.mo
  refine ⟨hc.defers, hc.size, fun p hp => ?_, hc.he, ⟨x, by rw [show res st.gh.nm (upd σ st.mem.length w.heap.size) = res st.gh.nm σ from res_congr fun i hi => upd_lt (hm.nm i hi)]; exact hm.fam, fun i hi => by have := hm.nm i hi; simp; omega, hm.owns, hm.mok.alloc hwf b ?_ hc.hL arr ty ?_ h4⟩, fun i hi => by simp; have := hc.hL i hi; omega⟩
  · rw [← SV.den_congr hσ (wfT_den hwt hp)]
    exact hc.ht p hp
  · exact List.all_eq_true.2 fun x hx => A.wf_succ (List.all_eq_true.1 h3 x hx)
  · rw [h2, A.dens_congr hσ h3]

theorem run_newVar (w : World) (t : Nat) (v : Value) : (newVar t v).run P w = .ok ⟨w.heap.size, 0, none⟩ (w.alloc (.cells v.cells t)) := by
  simp [newVar, newRow]

theorem run_storeVar_cells {t : Nat} {d : Ty} (h : TyOK P t d) {w : World} {b o : Nat} {v : Value} (hs : v.cells.size = d.sz) (hc : ∀ j, j < v.cells.size → (w.cell? ⟨b, o + j, none⟩).isSome = true) (hf : ∀ j, j < v.cells.size → w.frozen? ⟨b, o + j, none⟩ = false)
    (h1 : ∀ x ∈ v.cells.toList, x.oneCell' = true) : (storeVar t ⟨b, o, none⟩ v).run P w = .ok () (w.setCells b o v.cells.toList) := by
  unfold storeVar
  rw [Sem.run_bind, h.sizeOf w]
  have := run_storeCells_cells (P := P) b o v.cells.toList 0 w (by simpa using hc) (by simpa using hf) h1
  simp only [Result.andThen_ok, hs, ne_eq, not_true_eq_false, if_false]
  simpa using this

theorem zeros_den (E : Nat → Row) (σ : Nat → Nat) (z : Value) (n : Nat) (hz : 0 < z.cells.size) :
    (((List.range n).map fun k => (cellsV z).getD (k % (cellsV z).length) (.v undef)).map (A.den E σ)).toArray = (Array.range n).map (z.cells[· % z.cells.size]!) := by
  have hl : (cellsV z).length = z.cells.size := by have := congrArg Array.size (cellsV_den (E := E) (σ := σ) z); simpa using this
  apply Array.ext
  · simp
  · intro i h1 h2
    have hi : i % z.cells.size < z.cells.size := Nat.mod_lt _ hz
    have hg : ((cellsV z).map (A.den E σ))[i % z.cells.size]? = z.cells[i % z.cells.size]? := by rw [← cellsV_den (E := E) (σ := σ) z]; simp
    simp only [List.getElem_toArray, List.getElem_map, List.getElem_range, Array.getElem_map, Array.getElem_range, hl]
    rw [getElem!_pos z.cells (i % z.cells.size) hi]
    have hi2 : i % z.cells.size < (cellsV z).length := by omega
    rw [List.getElem?_eq_getElem (by simpa using hi2), Array.getElem?_eq_getElem hi] at hg
    injection hg with hg
    rw [← hg]
    simp [List.getD, List.getElem?_eq_getElem hi2]

/-- An operation that makes or writes memory. -/
theorem evM_sound (ht : ∀ t d, look t tb.ty = some d → TyOK P t d) {st : St} {a : Act} {w : World} (hc : Conc E X L0 w0 σ st a w) {fz : List Nat} {o : Oper} :
    (∀ x mem', evM tb.ty st.tmps st.mem fz o.op = .val x mem' → newWf st.mem.length mem' = true → memWf st.mem = true → wfT st.mem.length st.tmps = true →
      ∃ σ' w', (execOp a.eval o).run P w = .ok (.value (x.den E σ')) w' ∧ Conc E X L0 w0 σ' { st with mem := mem' } a w' ∧ (∀ i, i < st.mem.length → σ i = σ' i) ∧ Keep [] w w' ∧ epOK E x) ∧
    (∀ mem', evM tb.ty st.tmps st.mem fz o.op = .unit mem' →
      ∃ w', (execOp a.eval o).run P w = .ok .skip w' ∧ Conc E X L0 w0 σ { st with mem := mem' } a w' ∧ ∀ i b, i ∈ fz → st.mem[i]? = some (some b) → w'.heap[σ i]? = w.heap[σ i]?) := by
  have hσ : ∀ i, i < st.mem.length → σ i = upd σ st.mem.length w.heap.size i := fun i hi => (upd_lt hi).symm
  have V := hc.vw
  refine ⟨fun x mem' h hn hwf hwt => ?_, fun mem' h => ?_⟩
  · unfold evM at h
    split at h
    · rename_i t ho
      split at h
      · rename_i d hd
        injection h with h1 h2
        subst h1 h2
        refine ⟨_, _, ?_, hc.alloc hwf hwt _ (arr := d.zero.cells) (ty := t) hn (cellsV_den _).symm rfl, hσ, Keep.alloc [] w _, fun _ _ _ hh => by cases hh⟩
        unfold execOp
        rw [ho]
        simp [Instr.alloc, (ht _ _ hd).zeroValue, run_newVar, SV.den, CV.den, A.den, upd_self]
      · cases h
    · rename_i t xo ho
      split at h
      · rename_i v hv
        split at h
        · rename_i cs hcs
          injection h with h1 h2
          subst h1 h2
          obtain ⟨e1, _⟩ := cells_sound (E := E) (σ := σ) hcs
          refine ⟨_, _, ?_, hc.alloc hwf hwt _ (arr := (v.den E σ).cells) (ty := t) hn e1 rfl, hσ, Keep.alloc [] w _, fun _ _ _ hh => by cases hh⟩
          unfold execOp
          rw [ho]
          simp [Instr.box, evO_sound V hv, run_newVar, SV.den, CV.den, A.den, upd_self]
        · cases h
      · cases h
    · rename_i t len parts ho
      split at h
      · rename_i d hd
        split at h
        · rename_i e he
          split at h
          · rename_i ed ps hed hps
            split at h
            · rename_i hpos
              split at h
              · rename_i hsm
                split at h
                · rename_i cs hcs
                  injection h with h1 h2
                  subst h1 h2
                  have hpos : 0 < len * ed.sz := by simpa [Nat.blt_eq] using hpos
                  simp only [Bool.and_eq_true] at hsm
                  have hz0 : 0 < ed.zero.cells.size := by
                    have h1 : 0 < (cellsV ed.zero).length := by simpa [Nat.blt_eq] using hsm.2
                    have h2 := congrArg Array.size (cellsV_den (E := E) (σ := σ) ed.zero)
                    simp at h2
                    omega
                  have hsm := Nat.le_of_ble_eq_true hsm.1
                  have hu := (ht _ _ hd).und
                  rw [he] at hu
                  have hi := (ht _ _ hed).info
                  cases hq : P.info? e with
                  | none => rw [hq] at hi; cases hi
                  | some ie =>
                    rw [hq] at hi
                    simp at hi
                    refine ⟨_, _, ?_, hc.alloc hwf hwt _ (arr := (cs.map (A.den E σ)).toArray) (ty := e) hn rfl rfl, hσ, Keep.alloc [] w _, fun _ _ _ hh => by cases hh⟩
                    have hf := fillA_sound (E := E) (σ := σ) hcs (parts.map fun (i, x) => (i, a.eval x)).toList (by simpa using (mapP_sound V hps).1)
                    rw [zeros_den E σ _ _ hz0] at hf
                    have hb := run_buildSlice (P := P) w t e len (parts.map fun (i, x) => (i, a.eval x)) (cs.map (A.den E σ)).toArray ie ed.zero hu hq hi.1 (by rw [hi.2]; omega) (by rw [hi.2]; omega) (by rw [hi.2]; exact hf)
                    unfold execOp
                    rw [ho]
                    simp only [Sem.run_bind, hb, Result.andThen_ok]
                    simp [SV.den, CV.den, A.den, upd_self]
                · cases h
              · cases h
            · cases h
          · cases h
        · cases h
      · cases h
    · split at h
      · split at h
        · split at h
          · split at h
            · split at h <;> cases h
            · cases h
          · cases h
        · cases h
      · cases h
    · cases h
  · unfold evM at h
    split at h
    · split at h <;> cases h
    · split at h
      · split at h <;> cases h
      · cases h
    · split at h
      · split at h
        · split at h
          · split at h
            · split at h
              · split at h <;> cases h
              · cases h
            · cases h
          · cases h
        · cases h
      · cases h
    · rename_i t xo vo ho
      split at h
      · rename_i d i off v hd hx hv
        split at h
        · rename_i vs b hvs hb
          split at h
          · rename_i hl
            have hl := Nat.eq_of_beq_eq_true hl
            split at h
            · rename_i hle
              have hle := Nat.le_of_ble_eq_true hle
              split at h
              · cases h
              · rename_i hfz
                injection h with h
                subst h
                have hb' := blkAt_some hb
                obtain ⟨e1, e2⟩ := cells_sound (E := E) (σ := σ) hvs
                have hm := hc.blk i b hb'
                have hvsz : (v.den E σ).cells.size = vs.length := by rw [e1]; simp
                have hrun := run_storeVar_cells (P := P) (ht _ _ hd) (w := w) (b := σ i) (o := off) (v := v.den E σ) (by rw [hvsz, hl])
                  (fun j hj => by rw [blk_cell hm]; simp; omega) (fun j hj => blk_frozen hm _)
                  (fun x hx => by rw [e1] at hx; simp at hx; obtain ⟨y, hy, rfl⟩ := hx; exact A.one_den (e2 y hy))
                obtain ⟨x0, hm0⟩ := hc.mo
                have hst : Mo E X L0 w0 σ st.gh _ _ := ⟨x0, hm0.fam, fun i hi => by have := hm0.nm i hi; simpa using this, hm0.owns, hm0.mok.store hb' vs hle⟩
                refine ⟨w.setCells (σ i) off (vs.map (A.den E σ)), ?_, ⟨hc.defers, hc.size, hc.ht, hc.he, hst, fun j hj => by simpa using hc.hL j hj⟩, fun j bj hj hjl => ?_⟩
                · unfold execOp
                  rw [ho]
                  have : (v.den E σ).cells.toList = vs.map (A.den E σ) := by rw [e1]
                  rw [this] at hrun
                  simp only [evO_sound V hx, evO_sound V hv, SV.den, CV.den, A.den] at hrun ⊢
                  simp [Instr.storeAt, Instr.sureAddr, hrun]
                · have hne : ¬ i = j := fun e => hfz (by rw [e]; exact any_beq.2 hj)
                  have hg := setCells_grown (σ i) (vs.map (A.den E σ)) off w
                  have hk : Keep [σ i] w (w.setCells (σ i) off (vs.map (A.den E σ))) := by simpa using Keep.of_grown hg
                  refine hk.block _ (hc.own j bj hjl).2 (fun hm => ?_)
                  simp at hm
                  exact hne (hc.inj j i bj b hjl hb' hm).symm
            · cases h
          · cases h
        · cases h
      · cases h
    · cases h
end

section
variable {X : Fam}
variable {P : Program} {tb : Tab} {E : Nat → Row} {Jt : Nat → Act → World → Prop} {Q : Exit → Act → World → Prop} {σ σ' : Nat → Nat} {L0 : List Nat} {w0 : WM} {n : Nat}

theorem Conc.know {st : St} {a : Act} {w : World} (h : Conc E X L0 w0 σ st a w) {t : Nat} {v : Bool} (ht : look t st.tmps = some (bV v)) : Conc E X L0 w0 σ (st.know t v) a w := by
  have h1 : a.tmps[t]? = some (.bool v) := h.ht _ (look_mem ht)
  refine ⟨h.defers, h.size, fun p hp => ?_, fun t' r k off hp => ?_, h.mo, h.hL⟩
  · obtain ⟨q, hq, rfl⟩ := List.mem_map.1 hp
    by_cases hb : Nat.beq q.1 t = true
    · rw [if_pos hb]
      rw [Nat.eq_of_beq_eq_true hb]
      exact h1
    · rw [if_neg hb]
      exact h.ht q hq
  · obtain ⟨q, hq, he⟩ := List.mem_map.1 hp
    by_cases hb : Nat.beq q.1 t = true
    · rw [if_pos hb] at he
      cases he
    · rw [if_neg hb] at he
      subst he
      exact h.he t' r k off hq

theorem Conc.knowO {st : St} {a : Act} {w : World} (h : Conc E X L0 w0 σ st a w) {x : Operand} {v : Bool} (ht : evO st.tmps x = some (bV v)) : Conc E X L0 w0 σ (st.knowO x v) a w := by
  cases x with
  | tmp t => exact h.know ht
  | const c => exact h
  | func f => exact h
  | global g => exact h

theorem guardOf_sound {ops : Array Oper} {tmps : List (Nat × SV)} {a : Act} (ht : ∀ p, p ∈ tmps → a.tmps[p.1]? = some (p.2.den E σ)) {o : Oper} :
    (guardOf ops tmps o = .yes → Region.wanted o (yielded ops a.tmps) = true) ∧ (∀ t b want, guardOf ops tmps o = .ask t b want → Region.wanted o (yielded ops a.tmps) = (b == want) ∧ look t tmps = some (bV b)) ∧ (guardOf ops tmps o = .no → Region.wanted o (yielded ops a.tmps) = false) := by
  unfold guardOf Region.wanted
  split
  · rename_i hg
    simp [hg]
  · rename_i j want hg
    simp only [hg]
    split
    · rename_i oj hj
      split
      · rename_i t hd
        split
        · rename_i b hl
          have := ht _ (look_mem hl)
          have hy : yielded ops a.tmps j = some b := by
            unfold yielded
            simp [hj, hd, this, SV.den, CV.den, A.den]
          refine ⟨by simp, ?_, by simp⟩
          intro t' b' want' hb'
          injection hb' with h1 h2 h3
          subst h1 h2 h3
          refine ⟨?_, hl⟩
          rw [hy]
          cases b <;> cases want <;> rfl
        · rename_i hl
          have := ht _ (look_mem hl)
          have hy : yielded ops a.tmps j = none := by
            unfold yielded
            simp [hj, hd, this, SV.den]
          refine ⟨by simp, by simp, fun _ => ?_⟩
          rw [hy]
          rfl
        · exact ⟨by simp, by simp, by simp⟩
      · exact ⟨by simp, by simp, by simp⟩
    · exact ⟨by simp, by simp, by simp⟩

theorem doG_sound {ops : Array Oper} {st : St} {a : Act} {w : World} (hc : Conc E X L0 w0 σ st a w) {o : Oper} {yes skip : St → Out} {stuck : Out} (h : OutOK P tb E X Jt Q L0 w0 (doG ops st o yes skip stuck)) :
    (∃ st', Conc E X L0 w0 σ st' a w ∧ st'.mem = st.mem ∧ st'.n = st.n ∧ Region.wanted o (yielded ops a.tmps) = true ∧ OutOK P tb E X Jt Q L0 w0 (yes st')) ∨ (∃ st', Conc E X L0 w0 σ st' a w ∧ st'.mem = st.mem ∧ st'.n = st.n ∧ Region.wanted o (yielded ops a.tmps) = false ∧ OutOK P tb E X Jt Q L0 w0 (skip st')) ∨ OutOK P tb E X Jt Q L0 w0 stuck := by
  obtain ⟨g1, g2, g3⟩ := guardOf_sound (E := E) (σ := σ) (ops := ops) hc.ht (o := o)
  unfold doG at h
  split at h
  · rename_i hg
    exact .inl ⟨st, hc, rfl, rfl, g1 hg, h⟩
  · rename_i t b hg
    obtain ⟨e1, e2⟩ := g2 t b true hg
    obtain ⟨h1, h2⟩ := OutOK_cond.1 h
    cases b with
    | true => exact .inl ⟨_, hc.know e2, rfl, rfl, e1, h1 rfl⟩
    | false => exact .inr (.inl ⟨_, hc.know e2, rfl, rfl, e1, h2 rfl⟩)
  · rename_i t b hg
    obtain ⟨e1, e2⟩ := g2 t b false hg
    obtain ⟨h1, h2⟩ := OutOK_cond.1 h
    cases b with
    | true => exact .inr (.inl ⟨_, hc.know e2, rfl, rfl, e1, h1 rfl⟩)
    | false => exact .inl ⟨_, hc.know e2, rfl, rfl, e1, h2 rfl⟩
  · rename_i hg
    exact .inr (.inl ⟨st, hc, rfl, rfl, g3 hg, h⟩)
  · exact .inr (.inr h)

/-- A pick. -/
theorem pick_sound {tmps : List (Nat × SV)} {mem : List (Option Blk)} {a : Act} {w : World} (V : Vw E σ tmps mem a w) {o : Oper} {c x y : Operand} {b : Bool} (ho : o.op = .pick c x y) (hc : evO tmps c = some (.c (.one (.v (.bool b))))) {v : SV}
    (hv : evO tmps (if b = true then x else y) = some v) : Yl P E σ a w o v := by
  refine ⟨?_, fun r k off hh => by subst hh; exact evO_ep V hv⟩
  unfold execOp
  rw [ho]
  have h1 := evO_sound V hc
  have h2 := evO_sound V hv
  simp only [SV.den, CV.den, A.den] at h1
  simp only [h1]
  cases b
  · simp at h2
    simp [asBool, h2]
  · simp at h2
    simp [asBool, h2]

theorem doP_sound (ht : ∀ t d, look t tb.ty = some d → TyOK P t d) {tmps : List (Nat × SV)} {mem : List (Option Blk)} {a : Act} {S : World → Prop} (hV : ∀ w, S w → Vw E σ tmps mem a w) {o : Oper} {k : Option SV → Out} {stuck no : Out}
    (h : OutOK P tb E X Jt Q L0 w0 (doP tb E tmps mem o k stuck no)) :
    (∃ v, (∀ w, S w → Yl P E σ a w o v) ∧ OutOK P tb E X Jt Q L0 w0 (k (some v))) ∨ OutOK P tb E X Jt Q L0 w0 stuck ∨ OutOK P tb E X Jt Q L0 w0 no := by
  unfold doP at h
  split at h
  · rename_i c x y ho
    split at h
    · rename_i b hc
      obtain ⟨h1, h2⟩ := OutOK_cond.1 h
      cases b with
      | true =>
        have h1 := h1 rfl
        split at h1
        · rename_i v hv
          exact .inl ⟨v, fun w hw => pick_sound (hV w hw) ho hc (by simpa using hv), h1⟩
        · exact .inr (.inl h1)
      | false =>
        have h2 := h2 rfl
        split at h2
        · rename_i v hv
          exact .inl ⟨v, fun w hw => pick_sound (hV w hw) ho hc (by simpa using hv), h2⟩
        · exact .inr (.inl h2)
    · exact .inr (.inl h)
  · split at h
    · rename_i v hv
      exact .inl ⟨v, fun w hw => evP_sound ht (hV w hw) (.inl hv), h⟩
    · rename_i b v hv
      obtain ⟨h1, h2⟩ := OutOK_cond.1 h
      cases b with
      | true => exact .inl ⟨v, fun w hw => evP_sound ht (hV w hw) (.inr ⟨true, hv, rfl⟩), h1 rfl⟩
      | false => exact .inr (.inl (h2 rfl))
    · exact .inr (.inr h)

theorem run_call {g : Nat} {fn : Func} (hf : P.funcs[g]? = some fn) (hb : fn.body.isSome = true) (hn : (fn.name == "runtime.NumGoroutine") = false) {o : Oper} {xs : Array Operand} {ts : Array TypeId} (ho : o.op = .call { callee := .value (.func g), args := xs, argTypes := ts }) (a : Act) (w : World) :
    (execOp a.eval o).run P w = .ok (.enter g (xs.map a.eval)) w := by
  unfold execOp
  rw [ho]
  have h2 : fn.body ≠ none := by intro hq; rw [hq] at hb; cases hb
  have h4 : ¬ fn.name = "runtime.NumGoroutine" := by simpa using hn
  simp [resolve, Act.eval, Deferred.ofValue, invoke, callFunc, hf, h4, h2]

theorem CR.mem_nil {r : Option SV} {gh : Gh} {wr : Bool} {mem : List (Option Blk)} : CR.mem ⟨r, [], gh, wr, none⟩ mem = mem := by simp [CR.mem]
theorem CR.mem_len (c : CR) (mem : List (Option Blk)) : mem.length ≤ (c.mem mem).length := by
  unfold CR.mem
  rw [List.length_append]
  split
  · simp
  · omega

theorem goCR_sound {st : St} {K : List It} {fz : List Nat} {o : Oper} {k : St → Out} {stuck : Out} {c : CR} (h : OutOK P tb E X Jt Q L0 w0 (goCR K st fz o k stuck c)) (hns : ¬ OutOK P tb E X Jt Q L0 w0 stuck) :
    wfAll K st = true ∧ upOK fz st.mem c = true ∧ OutOK P tb E X Jt Q L0 w0 (k (St.put ⟨st.n, st.tmps, c.mem st.mem, c.gh⟩ o.dst c.r)) := by
  unfold goCR at h
  by_cases h1 : wfAll K st = true
  · rw [if_pos h1] at h
    by_cases h2 : upOK fz st.mem c = true
    · rw [if_pos h2] at h
      exact ⟨h1, h2, h⟩
    · rw [if_neg h2] at h
      exact (hns h).elim
  · rw [if_neg h1] at h
    exact (hns h).elim

theorem doCR_sound {st : St} {a : Act} {w : World} (hc : Conc E X L0 w0 σ st a w) {K : List It} {fz : List Nat} {o : Oper} {k : St → Out} {stuck : Out} {cr : CRR} (h : OutOK P tb E X Jt Q L0 w0 (doCR K st fz o k stuck cr)) (hns : ¬ OutOK P tb E X Jt Q L0 w0 stuck) {x : Ext} (hx : MOK E x L0 w0 σ st.mem w)
    {Kt : Act → World → Prop} (hk : ∀ st', OutOK P tb E X Jt Q L0 w0 (k st') → ∀ σ' a' w', Conc E X L0 w0 σ' st' a' w' → (σ' = σ ∨ (K.all (It.wf st.mem.length) = true ∧ ∀ i, i < st.mem.length → σ i = σ' i)) → (∀ i b, i ∈ fz → st.mem[i]? = some (some b) → w'.heap[σ i]? = w.heap[σ i]?) → Kt a' w')
    {u : CR → Value → Prop} {a1 : Value → Act} (ha : ∀ u, a1 u = a.put o.dst u) {w' : World} {v : Act} (hcr : cr.Some fun c => ∃ u, Aft E X L0 w0 σ st.mem x w c u w' ∧ v = a1 u) : Kt v w' := by
  have key : ∀ c, OutOK P tb E X Jt Q L0 w0 (goCR K st fz o k stuck c) → (∃ u, Aft E X L0 w0 σ st.mem x w c u w' ∧ v = a1 u) → Kt v w' := by
    rintro c hg ⟨u, ⟨σ', hr, hm, hag, hkeep⟩, rfl⟩
    obtain ⟨hwf, hfz, hout⟩ := goCR_sound hg hns
    simp only [wfAll, Bool.and_eq_true] at hwf
    have hc1 : Conc E X L0 w0 σ' ⟨st.n, st.tmps, c.mem st.mem, c.gh⟩ a w' := by
      refine ⟨hc.defers, hc.size, fun q hq => ?_, hc.he, hm, fun i hi => Nat.lt_of_lt_of_le (hc.hL i hi) (CR.mem_len c st.mem)⟩
      rw [← SV.den_congr hag (wfT_den hwf.2.1 hq)]
      exact hc.ht q hq
    have hc2 : Conc E X L0 w0 σ' (St.put ⟨st.n, st.tmps, c.mem st.mem, c.gh⟩ o.dst c.r) (a1 u) w' := by
      rw [ha]
      cases hcv : c.r with
      | none => exact hc1.unput o.dst u
      | some v' =>
        obtain ⟨rfl, hep⟩ := hr v' hcv
        exact hc1.put o.dst hep
    refine hk _ hout σ' _ w' hc2 (.inr ⟨hwf.1, hag⟩) (fun i bi hi hlt => ?_)
    refine hkeep.block _ (hx.own i bi hlt).2 ?_
    intro hmem
    rcases List.mem_append.1 hmem with hmem | hmem
    · by_cases hmu : c.wr = true
      · rw [if_pos hmu] at hmem
        exact hx.extd i bi hlt (x.sub _ hmem)
      · rw [if_neg hmu] at hmem
        cases hmem
    · unfold upOK at hfz
      cases hup : c.up with
      | none => rw [hup] at hmem; cases hmem
      | some p =>
        obtain ⟨j, b⟩ := p
        rw [hup] at hmem hfz
        simp only at hmem hfz
        split at hfz
        · cases hfz
        · rename_i hnf
          split at hfz
          · rename_i bj hbj
            have : σ i = σ j := by simpa using hmem
            have := hx.inj i j bi bj hlt hbj this
            subst this
            exact hnf (any_beq.2 hi)
          · cases hfz
  cases cr with
  | one c => exact key c h hcr
  | any f =>
    obtain ⟨p, n, hcr⟩ := hcr
    exact key (f p n) (h p n) hcr
  | test b c =>
    have h : OutOK P tb E X Jt Q L0 w0 (cond b (goCR K st fz o k stuck c) stuck) := h
    cases b with
    | true => exact key c h hcr
    | false => exact (hns h).elim

theorem doM_sound (tbok : TabOK P X L0 tb) {st : St} {a : Act} {w : World} (hc : Conc E X L0 w0 σ st a w) {K : List It} {fz : List Nat} {o : Oper} {k : St → Out} {stuck : Out} (h : OutOK P tb E X Jt Q L0 w0 (doM tb K st fz o k stuck))
    {Kt : Act → World → Prop} {Qk : Exit → Act → World → Prop}
    (hk : ∀ st', OutOK P tb E X Jt Q L0 w0 (k st') → ∀ σ' a' w', Conc E X L0 w0 σ' st' a' w' → (σ' = σ ∨ (K.all (It.wf st.mem.length) = true ∧ ∀ i, i < st.mem.length → σ i = σ' i)) → (∀ i b, i ∈ fz → st.mem[i]? = some (some b) → w'.heap[σ i]? = w.heap[σ i]?) → Kt a' w') :
    o.wp P a w Kt Qk ∨ OutOK P tb E X Jt Q L0 w0 stuck := by
  by_cases hns : OutOK P tb E X Jt Q L0 w0 stuck
  · exact .inr hns
  left
  unfold doM at h
  split at h
  · rename_i g xs ts ho
    split at h
    · rename_i φ vs hφ hvs
      split at h
      · rename_i r hr
        obtain ⟨fn, hf, hb, hn, hcall⟩ := tbok.call g φ hφ
        obtain ⟨x, hx⟩ := hc.mo
        have hok : r.ok := by
          cases r with
          | one c => trivial
          | any f => trivial
          | test b c =>
            have h : OutOK P tb E X Jt Q L0 w0 (cond b (goCR K st fz o k stuck c) stuck) := h
            cases b with
            | true => rfl
            | false => exact (hns h).elim
        have hC := hcall vs st.mem st.gh r hr hok E σ w0 x w hx hc.hL
        unfold Oper.wp
        rw [run_call hf hb hn ho, Oper.upon_enter]
        have e1 : xs.map a.eval = (vs.map (SV.den E σ)).toArray := by
          apply Array.toList_inj.1
          simpa using mapO_sound hc.vw hvs
        rw [e1]
        refine hC.mono ?_
        intro e w' hcr
        have hret : ∃ u, e = .returned u := by
          cases r with
          | one c => obtain ⟨u, h1, _⟩ := hcr; exact ⟨u, h1⟩
          | any f => obtain ⟨_, _, u, h1, _⟩ := hcr; exact ⟨u, h1⟩
          | test b c => obtain ⟨u, h1, _⟩ := hcr; exact ⟨u, h1⟩
        obtain ⟨u, rfl⟩ := hret
        refine doCR_sound (v := a.put o.dst u) hc h hns hx.mok hk (u := fun _ _ => True) (a1 := fun u => a.put o.dst u) (fun _ => rfl) ?_
        cases r with
        | one c => obtain ⟨u', h1, h2⟩ := hcr; injection h1 with h1; subst h1; exact ⟨_, h2, rfl⟩
        | any f => obtain ⟨p, n, u', h1, h2⟩ := hcr; injection h1 with h1; subst h1; exact ⟨p, n, _, h2, rfl⟩
        | test b c => obtain ⟨u', h1, h2⟩ := hcr; injection h1 with h1; subst h1; exact ⟨_, h2, rfl⟩
      · exact (hns h).elim
    · exact (hns h).elim
  · rename_i hno
    split at h
    · rename_i r hr
      obtain ⟨x, hx⟩ := hc.mo
      have hok : r.ok := by
        cases r with
        | one c => trivial
        | any f => trivial
        | test b c =>
          have h : OutOK P tb E X Jt Q L0 w0 (cond b (goCR K st fz o k stuck c) stuck) := h
          cases b with
          | true => rfl
          | false => exact (hns h).elim
      refine Oper.wp_mono ?_ (tbok.op _ _ _ _ _ hr hok E σ w0 x a w hx hc.hL hc.vw o rfl Qk)
      intro a' w' hcr
      refine doCR_sound (v := a') hc h hns hx.mok hk (u := fun _ _ => True) (a1 := fun u => a.put o.dst u) (fun _ => rfl) ?_
      cases r with
      | one c => obtain ⟨u', h1, h2⟩ := hcr; exact ⟨_, h2, h1⟩
      | any f => obtain ⟨p, n, u', h1, h2⟩ := hcr; exact ⟨p, n, _, h2, h1⟩
      | test b c => obtain ⟨u', h1, h2⟩ := hcr; exact ⟨_, h2, h1⟩
    · obtain ⟨h1, h2⟩ := evM_sound tbok.ty hc (fz := fz) (o := o)
      split at h
      · rename_i v mem' hv
        split at h
        · rename_i hwf
          split at h
          · rename_i hnw
            simp only [wfAll, Bool.and_eq_true] at hwf
            obtain ⟨σ', w', hrun, hc', hag, hkeep, hep⟩ := h1 v mem' hv hnw hwf.2.2 hwf.2.1
            unfold Oper.wp
            rw [hrun, Oper.upon_value]
            exact hk _ h σ' _ w' (hc'.put o.dst hep) (.inr ⟨hwf.1, hag⟩) (fun i b _ hi => hkeep.block _ (hc.own i b hi).2 (by simp))
          · exact (hns h).elim
        · exact (hns h).elim
      · rename_i mem' hv
        obtain ⟨w', hrun, hc', hfz⟩ := h2 mem' hv
        unfold Oper.wp
        rw [hrun, Oper.upon_skip]
        exact hk _ h σ _ w' (hc'.unput o.dst undef) (.inl rfl) hfz
      · exact (hns h).elim

theorem yl_wpOp {ops : Array Oper} {i : Nat} {o : Oper} (hi : ops[i]? = some o) {a : Act} {w : World} {v : SV} (hw : Region.wanted o (yielded ops a.tmps) = true) (hy : Yl P E σ a w o v) {K : Act → World → Prop} {Qk : Exit → Act → World → Prop} (h : K (a.put o.dst (v.den E σ)) w) : wpOp P ops Qk i K a w := by
  unfold wpOp
  simp only [hi, hw, if_true]
  left
  unfold Oper.wp
  rw [hy.1, Oper.upon_value]
  exact h

theorem skip_wpOp {ops : Array Oper} {i : Nat} {o : Oper} (hi : ops[i]? = some o) {a : Act} {w : World} (hw : Region.wanted o (yielded ops a.tmps) = false) {K : Act → World → Prop} {Qk : Exit → Act → World → Prop} (h : K (a.put o.dst undef) w) : wpOp P ops Qk i K a w := by
  unfold wpOp
  simp only [hi, hw]
  exact h

theorem wp_wpOp {ops : Array Oper} {i : Nat} {o : Oper} (hi : ops[i]? = some o) {a : Act} {w : World} (hw : Region.wanted o (yielded ops a.tmps) = true) {K : Act → World → Prop} {Qk : Exit → Act → World → Prop} (h : o.wp P a w K Qk) : wpOp P ops Qk i K a w := by
  unfold wpOp
  simp only [hi, hw, if_true]
  exact .inl h
end

section
variable {X : Fam}
variable {P : Program} {tb : Tab} {E : Nat → Row} {Jt : Nat → Act → World → Prop} {Q : Exit → Act → World → Prop} {σ σ' : Nat → Nat} {L0 : List Nat} {w0 : WM} {n : Nat}

theorem setNth_eq : ∀ (l : List Bool) (i : Nat), setNth l i = l.set i true
  | [], i => by cases i <;> rfl
  | _ :: r, 0 => rfl
  | x :: r, i + 1 => by simp [setNth, setNth_eq r i]

theorem setNth_arr (l : List Bool) (i : Nat) : (setNth l i).toArray = l.toArray.setIfInBounds i true := by
  rw [setNth_eq]
  simp

theorem wpK_panic (hQ : ∀ c a d v w, Q (.panic c) (Act.put a d v) w → Q (.panic c) a w) : ∀ (K : List It) c a d v w, wpK P tb E Jt Q σ K (.panic c) (Act.put a d v) w → wpK P tb E Jt Q σ K (.panic c) a w
  | [], c, a, d, v, w, h => hQ c a d v w h
  | it :: K, c, a, d, v, w, h => by
    cases it with
    | c f p => exact wpK_panic hQ K c a d v w h
    | o f p l => exact wpK_panic hQ K c a d v w h
    | d f p fuel listed fz => exact wpK_panic hQ K c a d v w h
    | b id => exact wpK_panic hQ K c a d v w h
    | f fid m tmps dst =>
      obtain ⟨fn, _, _, h3⟩ := h
      exact h3.elim
    | j k => exact wpK_panic hQ K c a d v w h

theorem findP_sound {ops : Array Oper} {listed : List Bool} {fz : List Nat} {found : St → Nat → Out} {none_ : St → Out} {a : Act} {w : World} : ∀ {l : List Nat} {st : St}, Conc E X L0 w0 σ st a w →
    OutOK P tb E X Jt Q L0 w0 (findP tb E ops listed fz found none_ l st) → ∃ st', Conc E X L0 w0 σ st' a w ∧ st'.mem = st.mem ∧ st'.n = st.n ∧ ((∃ i, OutOK P tb E X Jt Q L0 w0 (found st' i)) ∨ OutOK P tb E X Jt Q L0 w0 (none_ st'))
  | [], st, hc, h => ⟨st, hc, rfl, rfl, .inr h⟩
  | i :: r, st, hc, h => by
    simp only [findP] at h
    split at h
    · rename_i o ho
      split at h
      · split at h
        · exact ⟨st, hc, rfl, rfl, .inl ⟨i, h⟩⟩
        · obtain ⟨g1, g2, g3⟩ := guardOf_sound (E := E) (σ := σ) (ops := ops) hc.ht (o := o)
          split at h
          · rename_i t b hg
            obtain ⟨e1, e2⟩ := g2 t b true hg
            obtain ⟨h1, h2⟩ := OutOK_cond.1 h
            cases b with
            | true =>
              obtain ⟨st', q1, q2, q3, q4⟩ := findP_sound (hc.know e2) (h1 rfl)
              exact ⟨st', q1, q2, q3, q4⟩
            | false => exact ⟨_, hc.know e2, rfl, rfl, .inl ⟨i, h2 rfl⟩⟩
          · rename_i t b hg
            obtain ⟨e1, e2⟩ := g2 t b false hg
            obtain ⟨h1, h2⟩ := OutOK_cond.1 h
            cases b with
            | true => exact ⟨_, hc.know e2, rfl, rfl, .inl ⟨i, h1 rfl⟩⟩
            | false =>
              obtain ⟨st', q1, q2, q3, q4⟩ := findP_sound (hc.know e2) (h2 rfl)
              exact ⟨st', q1, q2, q3, q4⟩
          · exact ⟨st, hc, rfl, rfl, .inl ⟨i, h⟩⟩
          · exact findP_sound hc h
      · exact findP_sound hc h
    · exact findP_sound hc h

theorem allD_sound {g : Nat → Out} : ∀ {l : List Nat}, OutOK P tb E X Jt Q L0 w0 (allD g l) → ∀ i, i ∈ l → OutOK P tb E X Jt Q L0 w0 (g i)
  | [], _, i, hi => by cases hi
  | [j], h, i, hi => by
    simp only [List.mem_singleton] at hi
    subst hi
    exact h
  | j :: k :: r, h, i, hi => by
    rcases List.mem_cons.1 hi with rfl | hi
    · exact h.1
    · exact allD_sound (l := k :: r) h.2 i hi

theorem maskFrom_some : ∀ {mem : List (Option Blk)} {fz : List Nat} {s i : Nat} {b : Blk}, (maskFrom fz s mem)[i]? = some (some b) → mem[i]? = some (some b) ∧ s + i ∈ fz
  | [], _, _, i, b, h => by simp [maskFrom] at h
  | x :: r, fz, s, 0, b, h => by
    simp only [maskFrom, List.getElem?_cons_zero, Option.some.injEq] at h
    split at h
    · rename_i hz
      subst h
      exact ⟨by simp, any_beq.1 hz⟩
    · cases h
  | x :: r, fz, s, i + 1, b, h => by
    simp only [maskFrom, List.getElem?_cons_succ] at h
    have := maskFrom_some h
    exact ⟨by simpa using this.1, by have := this.2; rwa [show s + 1 + i = s + (i + 1) by omega] at this⟩

theorem argTmps_mem : ∀ {vs : List SV} {s : Nat} {p : Nat × SV}, p ∈ argTmps s vs → ∃ j, p.1 = s + j ∧ vs[j]? = some p.2
  | [], s, p, h => by cases h
  | v :: r, s, p, h => by
    rcases List.mem_cons.1 h with rfl | h
    · exact ⟨0, rfl, rfl⟩
    · obtain ⟨j, h1, h2⟩ := argTmps_mem h
      exact ⟨j + 1, by omega, by simpa using h2⟩

theorem mapO_ep {tmps : List (Nat × SV)} {mem : List (Option Blk)} {a : Act} {w : World} (V : Vw E σ tmps mem a w) : ∀ {xs : List Operand} {l : List SV}, mapO tmps xs = some l → ∀ v, v ∈ l → epOK E v
  | [], l, h, v, hv => by simp only [mapO, Option.some.injEq] at h; subst h; cases hv
  | x :: r, l, h, v, hv => by
    simp only [mapO] at h
    split at h
    · rename_i y l' h1 h2
      injection h with h
      subst h
      rcases List.mem_cons.1 hv with rfl | hv
      · intro q k off hh
        subst hh
        exact evO_ep V h1
      · exact mapO_ep V h2 v hv
    · cases h

theorem inlined_some {tmps : List (Nat × SV)} {o : Oper} {g : Nat} {fn : Func} {vs : List SV} (h : inlined tb tmps o = some (g, fn, vs)) :
    ∃ xs ts, o.op = .call { callee := .value (.func g), args := xs, argTypes := ts } ∧ look g tb.fn = some fn ∧ mapO tmps xs.toList = some vs := by
  unfold inlined at h
  split at h
  · rename_i g' xs ts ho
    split at h
    · rename_i fn' vs' h1 h2
      injection h with h
      injection h with e1 e2
      injection e2 with e2 e3
      subst e1 e2 e3
      exact ⟨xs, ts, ho, h1, h2⟩
    · cases h
  · cases h

theorem bodyPost_mono {fn : Func} {R R' : Ending → World → Prop} (hR : ∀ e w, R e w → R' e w) {ex : Exit} {a : Act} {w : World} (h : bodyPost P fn R ex a w) : bodyPost P fn R' ex a w := by
  cases ex with
  | normal => exact ⟨h.1, let ⟨v, h1, h2⟩ := h.2; ⟨v, h1, hR _ _ h2⟩⟩
  | ret => exact ⟨h.1, let ⟨v, h1, h2⟩ := h.2; ⟨v, h1, hR _ _ h2⟩⟩
  | panic c => exact ⟨h.1, hR _ _ h.2⟩
  | outgrown => exact hR _ _ h
  | exit id => exact h
  | goto l => exact h

section steps
variable {rec : Rec} (hrec : ∀ K ex st, OutOK P tb E X Jt Q L0 w0 (rec K ex st) → Safe P tb E X Jt Q L0 w0 K ex st)
include hrec

theorem stepD_sound (tbok : TabOK P X L0 tb) (hQ : ∀ c a d v w, Q (.panic c) (Act.put a d v) w → Q (.panic c) a w) {f : Nat} {p : List Nat} {fuel : Nat} {listed : List Bool} {fz : List Nat} {K : List It} {st : St}
    (h : OutOK P tb E X Jt Q L0 w0 (stepD tb E rec f p fuel listed fz K st)) : Safe P tb E X Jt Q L0 w0 (.d f p fuel listed fz :: K) .normal st := by
  intro σ a w hc
  unfold stepD at h
  split at h
  · rename_i ops hops
    split at h
    · rename_i hr
      exact ⟨ops, hops, wpAnyH_done hr (hrec _ _ _ h σ a w hc) _⟩
    · rename_i i0 r0 hr
      split at h
      · rename_i fuel'
        split at h
        rotate_left
        · exact h σ a w hc
        rename_i hfz
        have hfz' : ∀ i, i ∈ fz → ∃ b, st.mem[i]? = some (some b) := fun i hi => by
          have := List.all_eq_true.1 hfz i hi
          split at this
          · rename_i b hb; exact ⟨b, hb⟩
          · cases this
        have hSw : SF E σ fz w w := ⟨fun _ _ => rfl, hc.rowAt⟩
        by_cases hst : ∃ st', Conc E X L0 w0 σ st' a w ∧ OutOK P tb E X Jt Q L0 w0 (.leaf (.d f p (fuel' + 1) listed fz :: K) .normal st')
        · obtain ⟨st', q1, q2⟩ := hst
          exact q2 σ a w q1
        obtain ⟨st1, hc1, hm1, hn1, hor⟩ := findP_sound hc h
        have hfz1 : ∀ i, i ∈ fz → ∃ b, st1.mem[i]? = some (some b) := fun i hi => by rw [hm1]; exact hfz' i hi
        rcases hor with ⟨i, h⟩ | h
        · unfold takeD at h
          split at h
          · rename_i o ho
            split at h
            · rename_i hns
              split at h
              · rename_i hcon
                split at h
                · rename_i hfree
                  rcases doG_sound hc1 h with ⟨st2, hc2, hm2, _, hw, h⟩ | ⟨st2, hc2, hm2, _, hw, h⟩ | h
                  · have hV : ∀ w', SF E σ fz w w' → Vw E σ st2.tmps (maskFrom fz 0 st2.mem) a w' := fun w' hw' => ⟨hc2.ht, hc2.he, fun j b hj => by
                      obtain ⟨h1, h2⟩ := maskFrom_some hj
                      simp at h2
                      rw [hw'.1 j h2]
                      exact hc2.blk j b h1, hw'.2⟩
                    rcases doP_sound tbok.ty (S := SF E σ fz w) hV h with ⟨v, hy, h⟩ | h | h
                    · obtain ⟨ops', ho', hrest⟩ := hrec _ _ _ h σ (a.put o.dst (v.den E σ)) w (hc2.put o.dst (hy w hSw).2)
                      rw [hops] at ho'
                      injection ho' with ho'
                      subst ho'
                      rw [setNth_arr] at hrest
                      exact ⟨ops, hops, wpAnyH_take ho hns hfree (by rw [hr]; exact hcon) (fun c a' w' => wpK_panic hQ K c a' _ _ w') (.inl ⟨hw, fun w' hw' => (hy w' hw').1⟩) hSw hrest⟩
                    · exact (hst ⟨_, hc2, h⟩).elim
                    · exact (hst ⟨_, hc2, h⟩).elim
                  · obtain ⟨ops', ho', hrest⟩ := hrec _ _ _ h σ (a.put o.dst undef) w (hc2.put o.dst (v := .tup []) (fun _ _ _ hh => by cases hh))
                    rw [hops] at ho'
                    injection ho' with ho'
                    subst ho'
                    rw [setNth_arr] at hrest
                    exact ⟨ops, hops, wpAnyH_take ho hns hfree (by rw [hr]; exact hcon) (fun c a' w' => wpK_panic hQ K c a' _ _ w') (.inr ⟨hw, rfl⟩) hSw hrest⟩
                  · exact (hst ⟨_, hc1, h⟩).elim
                · exact (hst ⟨_, hc1, h⟩).elim
              · exact (hst ⟨_, hc1, h⟩).elim
            · exact (hst ⟨_, hc1, h⟩).elim
          · exact (hst ⟨_, hc1, h⟩).elim
        · have hall := allD_sound h
          refine ⟨ops, hops, wpAnyH_all hr (by simp) (fun i hi => ?_)⟩
          have h := hall i hi
          unfold carryD at h
          split at h
          · rename_i o ho
            rcases doG_sound hc1 h with ⟨st2, hc2, hm2, _, hw, h⟩ | ⟨st2, hc2, hm2, _, hw, h⟩ | h
            · have hst0 := h
              rcases doP_sound tbok.ty (S := fun w' => w' = w) (fun w' hw' => by subst hw'; exact hc2.vw) h with ⟨v, hy, h⟩ | h | h
              · refine yl_wpOp ho hw (hy w rfl) ?_
                obtain ⟨ops', ho', hrest⟩ := hrec _ _ _ h σ (a.put o.dst (v.den E σ)) w (hc2.put o.dst (hy w rfl).2)
                rw [hops] at ho'
                injection ho' with ho'
                subst ho'
                rw [setNth_arr] at hrest
                exact ⟨hSw, hrest⟩
              · exact (hst ⟨_, hc2, h⟩).elim
              refine wp_wpOp ho hw ?_
              have hk : ∀ st', OutOK P tb E X Jt Q L0 w0 (rec (.d f p fuel' (setNth listed i) fz :: K) .normal st') → ∀ σ' a' w', Conc E X L0 w0 σ' st' a' w' → (σ' = σ ∨ (List.all (.d f p (fuel' + 1) listed fz :: K) (It.wf st2.mem.length) = true ∧ ∀ i, i < st2.mem.length → σ i = σ' i)) →
                  (∀ i b, i ∈ fz → st2.mem[i]? = some (some b) → w'.heap[σ i]? = w.heap[σ i]?) → SF E σ fz w w' ∧ wpAnyH P .any ops (wpK P tb E Jt Q σ K) (SF E σ fz w) fuel' (listed.toArray.setIfInBounds i true) a' w' := by
                intro st' hst' σ' a' w' hc' hσ hsame
                have h1 := hrec _ _ _ hst' σ' a' w' hc'
                have h2 : wpK P tb E Jt Q σ (.d f p fuel' (setNth listed i) fz :: K) .normal a' w' := by
                  rcases hσ with rfl | ⟨hwf, hag⟩
                  · exact h1
                  · rw [wpK_congr hag (K := .d f p fuel' (setNth listed i) fz :: K) hwf]
                    exact h1
                have hsf : SF E σ fz w w' := ⟨fun j hj => let ⟨b, hb⟩ := hfz1 j hj; hsame j b hj (by rw [hm2]; exact hb), fun q => hc'.rowAt q⟩
                have heq : SF E σ fz w' = SF E σ fz w := by
                  funext w''
                  apply propext
                  exact ⟨fun ⟨g1, g2⟩ => ⟨fun j hj => (g1 j hj).trans (hsf.1 j hj), g2⟩, fun ⟨g1, g2⟩ => ⟨fun j hj => (g1 j hj).trans (hsf.1 j hj).symm, g2⟩⟩
                obtain ⟨ops', ho', hrest⟩ := h2
                rw [hops] at ho'
                injection ho' with ho'
                subst ho'
                rw [setNth_arr, heq] at hrest
                exact ⟨hsf, hrest⟩
              rcases doM_sound tbok hc2 h (Qk := wpK P tb E Jt Q σ K) hk with h | h
              · exact h
              · exact (hst ⟨_, hc2, h⟩).elim
            · refine skip_wpOp ho hw ?_
              obtain ⟨ops', ho', hrest⟩ := hrec _ _ _ h σ (a.put o.dst undef) w (hc2.put o.dst (v := .tup []) (fun _ _ _ hh => by cases hh))
              rw [hops] at ho'
              injection ho' with ho'
              subst ho'
              rw [setNth_arr] at hrest
              exact ⟨hSw, hrest⟩
            · exact (hst ⟨_, hc1, h⟩).elim
          · exact (hst ⟨_, hc1, h⟩).elim
      · exact h σ a w hc
  · exact h σ a w hc

theorem stepO_sound (tbok : TabOK P X L0 tb) {f : Nat} {p l : List Nat} {K : List It} {st : St}
    (h : OutOK P tb E X Jt Q L0 w0 (stepO tb E rec f p l K st)) : Safe P tb E X Jt Q L0 w0 (.o f p l :: K) .normal st := by
  intro σ a w hc
  unfold stepO at h
  split at h
  · exact h σ a w hc
  · rename_i ops hops
    split at h
    · exact ⟨ops, hops, hrec _ _ _ h σ a w hc⟩
    · rename_i i r
      split at h
      · exact h σ a w hc
      · rename_i o ho
        by_cases hst : ∃ st', Conc E X L0 w0 σ st' a w ∧ OutOK P tb E X Jt Q L0 w0 (.leaf (.o f p (i :: r) :: K) .normal st')
        · obtain ⟨st', q1, q2⟩ := hst
          exact q2 σ a w q1
        refine ⟨ops, hops, ?_⟩
        rw [wpOps_cons]
        have next : ∀ (st0 : St), ∀ st', OutOK P tb E X Jt Q L0 w0 (rec (.o f p r :: K) .normal st') → ∀ σ' a' w', Conc E X L0 w0 σ' st' a' w' → (σ' = σ ∨ (List.all (.o f p (i :: r) :: K) (It.wf st0.mem.length) = true ∧ ∀ i, i < st0.mem.length → σ i = σ' i)) → wpOps P ops (wpK P tb E Jt Q σ K) r a' w' := by
          intro st0 st' hst' σ' a' w' hc' hσ
          have h1 := hrec _ _ _ hst' σ' a' w' hc'
          have h2 : wpK P tb E Jt Q σ (.o f p r :: K) .normal a' w' := by
            rcases hσ with rfl | ⟨hwf, hag⟩
            · exact h1
            · rw [wpK_congr hag (K := .o f p r :: K) hwf]
              exact h1
          obtain ⟨ops', ho', hrest⟩ := h2
          rw [hops] at ho'
          injection ho' with ho'
          subst ho'
          exact hrest
        rcases doG_sound hc h with ⟨st2, hc2, hm2, _, hw, h⟩ | ⟨st2, hc2, hm2, _, hw, h⟩ | h
        · split at h
          · rename_i g fn vs hin
            obtain ⟨xs, ts, hop, hfn, hvs⟩ := inlined_some hin
            obtain ⟨hf, hb, hn⟩ := tbok.fn g fn hfn
            split at h
            · rename_i hle
              have hle := Nat.le_of_ble_eq_true hle
              refine wp_wpOp ho hw ?_
              unfold Oper.wp
              rw [run_call hf hb hn hop, Oper.upon_enter]
              obtain ⟨c, hcb⟩ := Option.isSome_iff_exists.1 hb
              have e1 : xs.map a.eval = (vs.map (SV.den E σ)).toArray := by
                apply Array.toList_inj.1
                simpa using mapO_sound hc2.vw hvs
              rw [e1]
              have hlen : (vs.map (SV.den E σ)).toArray.size = vs.length := by simp
              refine calls_of_wp hf hcb ?_
              have hsafe := hrec _ _ _ h σ { tmps := (vs.map (SV.den E σ)).toArray ++ Array.replicate (fn.ntmps - (vs.map (SV.den E σ)).toArray.size) undef, defers := [] } w
                ⟨rfl, by simp; omega, fun q hq => by
                  obtain ⟨j, h1, h2⟩ := argTmps_mem hq
                  have hj := (List.getElem?_eq_some_iff.1 h2).1
                  simp only [Nat.zero_add] at h1
                  rw [h1, Array.getElem?_append_left (by simpa using hj)]
                  simp [h2], fun t q k off hq => by
                  obtain ⟨j, h1, h2⟩ := argTmps_mem hq
                  exact mapO_ep hc2.vw hvs _ (List.mem_of_getElem? h2) q k off rfl, hc2.mo, hc2.hL⟩
              obtain ⟨c', hc', hwp⟩ := hsafe
              have : c' = c := by
                unfold codeAt at hc'
                rw [hfn] at hc'
                simp only [hcb, codeIn] at hc'
                injection hc' with hc'
                exact hc'.symm
              subst this
              refine wp_mono hwp ?_
              rintro ex b w' ⟨fn', hfn', hbp⟩
              rw [hfn] at hfn'
              injection hfn' with hfn'
              subst hfn'
              refine bodyPost_mono ?_ hbp
              intro e w'' hR
              cases e with
              | returned v =>
                obtain ⟨ops', ho', hrest⟩ := hR a hc2.defers hc2.size hc2.ht hc2.he
                rw [hops] at ho'
                injection ho' with ho'
                subst ho'
                exact hrest
              | panicked ch => exact hR.elim
              | outgrown => exact hR.elim
            · exact (hst ⟨_, hc2, h⟩).elim
          · rcases doP_sound tbok.ty (S := fun w' => w' = w) (fun w' hw' => by subst hw'; exact hc2.vw) h with ⟨v, hy, h⟩ | h | h
            · exact yl_wpOp ho hw (hy w rfl) (next st2 _ h σ _ w (hc2.put o.dst (hy w rfl).2) (.inl rfl))
            · exact (hst ⟨_, hc2, h⟩).elim
            · refine wp_wpOp ho hw ?_
              rcases doM_sound tbok hc2 h (Kt := wpOps P ops (wpK P tb E Jt Q σ K) r) (Qk := wpK P tb E Jt Q σ K) (fun st' hst' σ' a' w' hc' hσ _ => next st2 st' hst' σ' a' w' hc' hσ) with h | h
              · exact h
              · exact (hst ⟨_, hc2, h⟩).elim
        · exact skip_wpOp ho hw (next st2 _ h σ _ w (hc2.put o.dst (v := .tup []) (fun _ _ _ hh => by cases hh)) (.inl rfl))
        · exact (hst ⟨_, hc, h⟩).elim
end steps
end

section
variable {X : Fam}
variable {P : Program} {tb : Tab} {E : Nat → Row} {Jt : Nat → Act → World → Prop} {Q : Exit → Act → World → Prop} {σ σ' : Nat → Nat} {L0 : List Nat} {w0 : WM} {n : Nat}

theorem codeAt_child {f k : Nat} {p : List Nat} {c d : Code} (h : codeAt tb f p = some c) (hd : child k c = some d) : codeAt tb f (k :: p) = some d := by
  unfold codeAt at h ⊢
  split at h
  · rename_i fn hfn
    split at h
    · rename_i c0 hc0
      simp only [hfn, hc0, codeIn, h, hd]
    · cases h
  · cases h

def resF (tmps : Array Value) : ResultVar → Sem Value
  | .tmp t => pure (tmps.getD t undef)
  | .cell a t => do loadVar t (← asAddr (tmps.getD a undef))

theorem results_eq (fn : Func) (tmps : Array Value) : results fn tmps = (fn.results.mapM (resF tmps)).bind fun vs => Sem.pure (if h : vs.size = 1 then vs[0] else .tuple vs) := by
  have : resF tmps = (fun x : ResultVar => match x with | ResultVar.tmp t => (pure (tmps.getD t undef) : Sem Value) | ResultVar.cell a t => (do loadVar t (← asAddr (tmps.getD a undef)))) := by
    funext x
    cases x <;> rfl
  rw [this]
  rfl

theorem results_run (ht : ∀ t d, look t tb.ty = some d → TyOK P t d) {st : St} {a : Act} {w : World} (V : Vw E σ st.tmps st.mem a w) : ∀ {rs : List ResultVar} {l : List CV}, resOf tb E st rs = some l →
    (rs.mapM (resF a.tmps)).run P w = .ok (l.map (CV.den E σ)) w ∧ ∀ x, x ∈ l → ∀ q k off, x ≠ .one (.ep q k off)
  | [], l, h => by simp only [resOf, Option.some.injEq] at h; subst h; simp
  | .tmp t :: r, l, h => by
    simp only [resOf] at h
    split at h
    · cases h
    · rename_i x l' hne h1 h2
      injection h with h
      subst h
      obtain ⟨e1, e2⟩ := results_run ht V h2
      have hv : a.tmps.getD t undef = x.den E σ := by
        have := V.ht _ (look_mem h1)
        simp only [Array.getD_eq_getD_getElem?, this, Option.getD_some, SV.den]
      refine ⟨?_, ?_⟩
      · simp [List.mapM_cons, resF, hv, e1]
      · intro y hy q k off hh
        rcases List.mem_cons.1 hy with rfl | hy
        · subst hh
          exact hne q k off rfl
        · exact e2 y hy q k off hh
    · cases h
  | .cell b t :: r, l, h => by
    simp only [resOf] at h
    split at h
    · rename_i i off d l' h1 h2 h3
      split at h
      · rename_i x hx
        injection h with h
        subst h
        obtain ⟨e1, e2⟩ := results_run ht V h3
        have hv : a.tmps.getD b undef = .pointer (some ⟨σ i, off, none⟩) := by
          have := V.ht _ (look_mem h1)
          simp only [Array.getD_eq_getD_getElem?, this, Option.getD_some, SV.den, CV.den, A.den]
        obtain ⟨g1, g2⟩ := loadA_sound (ht _ _ h2) V (fun q k off hh => by cases hh) hx
        simp only [A.den, Instr.loadAt, Instr.sureAddr, Sem.run_bind, Sem.run_pure, Result.andThen_ok] at g1
        refine ⟨?_, ?_⟩
        · simp [List.mapM_cons, resF, hv, asAddr, g1, e1, SV.den]
        · intro y hy q k off hh
          rcases List.mem_cons.1 hy with rfl | hy
          · subst hh
            exact g2 q k off rfl
          · exact e2 y hy q k off hh
      · cases h
    · cases h

theorem results_sound (ht : ∀ t d, look t tb.ty = some d → TyOK P t d) {st : St} {a : Act} {w : World} (V : Vw E σ st.tmps st.mem a w) {fn : Func} {l : List CV} (h : resOf tb E st fn.results.toList = some l) :
    (results fn a.tmps).run P w = .ok ((resSV l).den E σ) w ∧ epOK E (resSV l) := by
  obtain ⟨h1, h2⟩ := results_run ht V h
  refine ⟨?_, ?_⟩
  · rw [results_eq, Array.mapM_eq_mapM_toList]
    show ((List.toArray <$> (fn.results.toList.mapM (resF a.tmps))) >>= fun vs => pure (if h : vs.size = 1 then vs[0] else .tuple vs)).run P w = _
    rw [Sem.run_bind]
    have : (List.toArray <$> (fn.results.toList.mapM (resF a.tmps))).run P w = .ok (l.map (CV.den E σ)).toArray w := by
      simp only [map_eq_pure_bind, Sem.run_bind, h1, Result.andThen_ok, Sem.run_pure]
    rw [this]
    simp only [Result.andThen_ok, Sem.run_pure]
    congr 1
    match l with
    | [] => rfl
    | [x] => rfl
    | x :: y :: r =>
      simp only [resSV, SV.den]
      rw [dif_neg (by simp)]
  · intro q k off hh
    match l, hh with
    | [x], hh =>
      simp only [resSV] at hh
      injection hh with hh
      exact (h2 x (by simp) q k off hh).elim

section steps
variable {rec : Rec} (hrec : ∀ K ex st, OutOK P tb E X Jt Q L0 w0 (rec K ex st) → Safe P tb E X Jt Q L0 w0 K ex st)
include hrec

theorem stepF_sound (tbok : TabOK P X L0 tb) {fid m : Nat} {tmps : List (Nat × SV)} {dst : Option Nat} {K : List It} {ex : Exit} {st : St} (hex : ex = .normal ∨ ex = .ret)
    (h : OutOK P tb E X Jt Q L0 w0 (stepF tb E rec fid m tmps dst K ex st)) : Safe P tb E X Jt Q L0 w0 (.f fid m tmps dst :: K) ex st := by
  intro σ a w hc
  unfold stepF at h
  split at h
  · rename_i fn hfn
    split at h
    · rename_i l hl
      obtain ⟨h1, h2⟩ := results_sound tbok.ty hc.vw hl
      have key : ∀ (R : Ending → World → Prop), R (.returned ((resSV l).den E σ)) w → bodyPost P fn R ex a w := fun R hR => by
        rcases hex with rfl | rfl
        · exact ⟨hc.defers, _, h1, hR⟩
        · exact ⟨hc.defers, _, h1, hR⟩
      refine ⟨fn, hfn, key _ ?_⟩
      intro b hb1 hb2 hb3 hb4
      have hcb : Conc E X L0 w0 σ ⟨m, tmps, st.mem, st.gh⟩ b w := ⟨hb1, hb2, hb3, hb4, hc.mo, hc.hL⟩
      exact hrec _ _ _ h σ _ w (hcb.put dst h2)
    · exact h σ a w hc
  · exact h σ a w hc

theorem stepC_sound (tbok : TabOK P X L0 tb) {f : Nat} {p : List Nat} {K : List It} {st : St}
    (h : OutOK P tb E X Jt Q L0 w0 (stepC tb rec f p K st)) : Safe P tb E X Jt Q L0 w0 (.c f p :: K) .normal st := by
  intro σ a w hc
  unfold stepC at h
  split at h
  · rename_i hcode
    exact ⟨_, hcode, wp_skip (hrec _ _ _ h σ a w hc)⟩
  · rename_i x y hcode
    refine ⟨_, hcode, wp_seq ?_⟩
    obtain ⟨x', hx', hwp⟩ := hrec _ _ _ h σ a w hc
    rw [codeAt_child hcode (k := 0) (d := x) rfl] at hx'
    injection hx' with hx'
    subst hx'
    refine wp_mono hwp ?_
    intro ex b w' hb
    cases ex with
    | normal =>
      obtain ⟨y', hy', hwp'⟩ := hb
      rw [codeAt_child hcode (k := 1) (d := y) rfl] at hy'
      injection hy' with hy'
      subst hy'
      exact hwp'
    | exit id => exact hb
    | goto l => exact hb
    | ret => exact hb
    | panic c => exact hb
    | outgrown => exact hb
  · rename_i c x y hcode
    split at h
    · rename_i b hb
      have he := evO_sound hc.vw hb
      simp only [SV.den, CV.den, A.den] at he
      obtain ⟨h1, h2⟩ := OutOK_cond.1 h
      refine ⟨_, hcode, ?_⟩
      cases b with
      | true =>
        obtain ⟨x', hx', hwp⟩ := hrec _ _ _ (h1 rfl) σ a w (hc.knowO hb)
        rw [codeAt_child hcode (k := 0) (d := x) rfl] at hx'
        injection hx' with hx'
        subst hx'
        exact wp_cond_true he hwp
      | false =>
        obtain ⟨x', hx', hwp⟩ := hrec _ _ _ (h2 rfl) σ a w (hc.knowO hb)
        rw [codeAt_child hcode (k := 1) (d := y) rfl] at hx'
        injection hx' with hx'
        subst hx'
        exact wp_cond_false he hwp
    · exact h σ a w hc
  · rename_i id c hcode
    refine ⟨_, hcode, wp_block ?_⟩
    obtain ⟨x', hx', hwp⟩ := hrec _ _ _ h σ a w hc
    rw [codeAt_child hcode (k := 0) (d := c) rfl] at hx'
    injection hx' with hx'
    subst hx'
    exact hwp
  · rename_i id hcode
    exact ⟨_, hcode, wp_exit (hrec _ _ _ h σ a w hc)⟩
  · rename_i hcode
    exact ⟨_, hcode, wp_ret (hrec _ _ _ h σ a w hc)⟩
  · rename_i id ops dr hcode
    split at h
    · rename_i hdr
      subst hdr
      refine ⟨_, hcode, wp_region_held (S := SF E σ (frozenK tb f id st.mem) w.drew) tbok.mixed ?_⟩
      · have hkd : Keep [] w w.drew := Keep.drew [] w
        obtain ⟨ops', ho', hrest⟩ := hrec _ _ _ h σ a w.drew ((hc.mono hkd).less keepOf_sub)
        unfold opsAt at ho'
        rw [hcode] at ho'
        injection ho' with ho'
        subst ho'
        simpa using hrest
    · rename_i hdr
      have hdr : dr = false := by simpa using hdr
      subst hdr
      refine ⟨_, hcode, wp_region ?_⟩
      obtain ⟨ops', ho', hrest⟩ := hrec _ _ _ h σ a w (hc.less keepOf_sub)
      unfold opsAt at ho'
      rw [hcode] at ho'
      injection ho' with ho'
      subst ho'
      exact hrest
  · exact h σ a w hc
end steps

/-- **The reckoner tells the truth.** -/
theorem ev_sound (tbok : TabOK P X L0 tb) (hQ : ∀ c a d v w, Q (.panic c) (Act.put a d v) w → Q (.panic c) a w) : ∀ (n : Nat) (K : List It) (ex : Exit) (st : St), OutOK P tb E X Jt Q L0 w0 (ev tb E n K ex st) → Safe P tb E X Jt Q L0 w0 K ex st
  | 0, _, _, _, h => h
  | n + 1, K, ex, st, h => by
    have ih := ev_sound tbok hQ n
    unfold ev at h
    split at h
    · exact h
    · rename_i it K'
      split at h
      · split at h
        · exact stepC_sound ih tbok h
        · exact stepO_sound ih tbok h
        · exact stepD_sound ih tbok hQ h
        · exact fun σ a w hc => ih _ _ _ h σ a w hc
        · exact stepF_sound ih tbok (.inl rfl) h
        · exact h
      · split at h
        · exact stepF_sound ih tbok (.inr rfl) h
        · have := ih _ _ _ h
          rename_i hne
          cases it with
          | f fid m tmps dst => exact (hne fid m tmps dst rfl).elim
          | c f p => exact this
          | o f p l => exact this
          | d f p fuel listed fz => exact this
          | b id => exact this
          | j k => exact this
      · rename_i id
        split at h
        · rename_i id'
          split at h
          · rename_i hid
            have hid := Nat.eq_of_beq_eq_true hid
            subst hid
            intro σ a w hc
            have := ih _ _ _ h σ a w hc
            simp only [wpK, Exit.inBlock, if_true]
            exact this
          · rename_i hid
            have hid : ¬ id = id' := fun e => hid (by rw [e]; exact Nat.beq_refl _)
            intro σ a w hc
            have := ih _ _ _ h σ a w hc
            simp only [wpK, Exit.inBlock, hid, if_false]
            exact this
        · exact h
        · have := ih _ _ _ h
          rename_i hne hne2
          cases it with
          | f fid m tmps dst => exact (hne2 fid m tmps dst rfl).elim
          | c f p => exact this
          | o f p l => exact this
          | d f p fuel listed fz => exact this
          | b id => exact (hne id rfl).elim
          | j k => exact this
      · exact h
end

section
variable {X : Fam}
variable {P : Program} {tb : Tab} {E : Nat → Row} {Jt : Nat → Act → World → Prop} {σ : Nat → Nat} {L0 : List Nat} {w0 : WM}

/-- What a call is to come to. -/
def EndQ (R : Ending → World → Prop) : Exit → Act → World → Prop
  | .normal, a, w => R (.returned (a.tmps.getD 0 undef)) w
  | _, _, _ => False

theorem calls_of_safe {X : Fam} {gh : Gh} {f : Nat} {fn : Func} (hf : look f tb.fn = some fn) (h1 : P.funcs[f]? = some fn) (h2 : fn.body.isSome = true) {vs : List SV} {mem : List (Option Blk)} {R : Ending → World → Prop} {w : World}
    (hm : Mo E X L0 w0 σ gh mem w) (hL : L0.length ≤ mem.length) (hv : vs.length ≤ fn.ntmps) (hep : ∀ v, v ∈ vs → epOK E v)
    (h : Safe P tb E X Jt (EndQ R) L0 w0 [.c f [], .f f 1 [] (some 0)] .normal ⟨fn.ntmps, argTmps 0 vs, mem, gh⟩) :
    Calls P f (vs.map (SV.den E σ)).toArray w R := by
  obtain ⟨c, hcb⟩ := Option.isSome_iff_exists.1 h2
  refine calls_of_wp h1 hcb ?_
  have hsafe := h σ { tmps := (vs.map (SV.den E σ)).toArray ++ Array.replicate (fn.ntmps - (vs.map (SV.den E σ)).toArray.size) undef, defers := [] } w
    ⟨rfl, by simp; omega, fun q hq => by
      obtain ⟨j, h1, h2⟩ := argTmps_mem hq
      have hj := (List.getElem?_eq_some_iff.1 h2).1
      simp only [Nat.zero_add] at h1
      rw [h1, Array.getElem?_append_left (by simpa using hj)]
      simp [h2], fun t q k off hq => by
      obtain ⟨j, h1, h2⟩ := argTmps_mem hq
      exact hep _ (List.mem_of_getElem? h2) q k off rfl, hm, fun i hi => by show i < mem.length; omega⟩
  obtain ⟨c', hc', hwp⟩ := hsafe
  have : c' = c := by
    unfold codeAt at hc'
    rw [hf] at hc'
    simp only [hcb, codeIn] at hc'
    injection hc' with hc'
    exact hc'.symm
  subst this
  refine wp_mono hwp ?_
  rintro ex b w' ⟨fn', hfn', hbp⟩
  rw [hf] at hfn'
  injection hfn' with hfn'
  subst hfn'
  refine bodyPost_mono ?_ hbp
  intro e w'' hR
  cases e with
  | returned v =>
    have := hR ⟨#[undef], []⟩ rfl rfl (fun _ h => by cases h) (fun _ _ _ _ h => by cases h)
    simpa [wpK, EndQ, Act.put] using this
  | panicked ch => exact hR.elim
  | outgrown => exact hR.elim

theorem endQ_panic {R : Ending → World → Prop} : ∀ c a d v w, EndQ R (.panic c) (Act.put a d v) w → EndQ R (.panic c) a w := fun _ _ _ _ _ h => h

theorem calls_of_ev {X : Fam} {gh : Gh} (tbok : TabOK P X L0 tb) {f : Nat} {fn : Func} (hf : look f tb.fn = some fn) {n : Nat} {vs : List SV} {mem : List (Option Blk)} {R : Ending → World → Prop} {w : World}
    (hm : Mo E X L0 w0 σ gh mem w) (hL : L0.length ≤ mem.length) (hv : vs.length ≤ fn.ntmps) (hep : ∀ v, v ∈ vs → epOK E v)
    (h : OutOK P tb E X Jt (EndQ R) L0 w0 (ev tb E n [.c f [], .f f 1 [] (some 0)] .normal ⟨fn.ntmps, argTmps 0 vs, mem, gh⟩)) :
    Calls P f (vs.map (SV.den E σ)).toArray w R :=
  calls_of_safe hf (tbok.fn f fn hf).1 (tbok.fn f fn hf).2.1 hm hL hv hep (ev_sound tbok endQ_panic n _ _ _ h)

/-- A way's end. -/
theorem leaf_end {R : Ending → World → Prop} {r : SV} {mem : List (Option Blk)} {gh : Gh} (h : ∀ σ w, Mo E X L0 w0 σ gh mem w → R (.returned (r.den E σ)) w) :
    OutOK P tb E X Jt (EndQ R) L0 w0 (.leaf [] .normal ⟨1, [(0, r)], mem, gh⟩) := by
  intro σ a w hc
  have := hc.ht (0, r) (by simp)
  show R (.returned (a.tmps.getD 0 undef)) w
  rw [Array.getD_eq_getD_getElem?, this]
  exact h σ w hc.mo

/-- How the blocks stand at the start. -/
theorem mok_start {X : Ext} {mem : List (Option Blk)} {w : World} {M : List Nat} (hL : L0.length = mem.length) (hnd : L0.Nodup) (hlt : ∀ b, b ∈ L0 → b < w.heap.size) (hM : ∀ b, b ∈ L0 → b ∈ M) (hrows : ∀ r, RowOK w M (E r)) (hx : X.X w) (hxb : ∀ b, b ∈ X.B → b < w.heap.size) (hxd : ∀ i b, mem[i]? = some (some b) → L0.getD i 0 ∉ X.B)
    (hb : ∀ i b, mem[i]? = some (some b) → w.heap[L0.getD i 0]? = some (.cells (b.cells.map (A.den E fun i => L0.getD i 0)).toArray b.ty (0, 0))) : MOK E X L0 ⟨w, M⟩ (fun i => L0.getD i 0) mem w := by
  have hg : ∀ i, i < mem.length → L0.getD i 0 ∈ L0 := fun i hi => by
    simp only [List.getD_eq_getElem?_getD]
    rw [List.getElem?_eq_getElem (by omega)]
    exact List.getElem_mem _
  have hlen : ∀ i b, mem[i]? = some (some b) → i < mem.length := fun i b h => (List.getElem?_eq_some_iff.1 h).1
  refine ⟨hb, fun i j bi bj hi hj he => ?_, fun i b hi => ⟨.inl (hM _ (hg i (hlen i b hi))), hlt _ (hg i (hlen i b hi))⟩, fun i b h => by simp [List.getD_eq_getElem?_getD, h], Keep.refl _ _, hrows, hx, hxb, hxd⟩
  have hi := hlen i bi hi
  have hj := hlen j bj hj
  have h1 : i < L0.length := by omega
  have h2 : j < L0.length := by omega
  simp only [List.getD_eq_getElem?_getD, List.getElem?_eq_getElem h1, List.getElem?_eq_getElem h2, Option.getD_some] at he
  exact (List.getElem_inj hnd).1 he

/-- No rows. -/
def noRows : Nat → Row := fun _ => ⟨none, 0, 0, 1, fun _ => []⟩
theorem noRows_ok {w : World} {M : List Nat} (r : Nat) : RowOK w M (noRows r) := ⟨fun h => by simp [noRows] at h, fun k h => by simp [noRows] at h, by simp [noRows]⟩

/-! ### At a stop -/

/-- The world went on: blocks of S may have changed, none of them known. -/
theorem MOK.call {X : Ext} {mem : List (Option Blk)} {S : List Nat} {w w' : World} (h : MOK E X L0 w0 σ mem w) (k : Keep S w w') (hS : ∀ x, x ∈ S → x ∈ w0.M ∨ w0.w.heap.size ≤ x) (hd : ∀ i b, mem[i]? = some (some b) → σ i ∉ S)
    {X' : Ext} (hx : X'.X w') (hxb : ∀ b, b ∈ X'.B → b < w'.heap.size) (hxd : ∀ i b, mem[i]? = some (some b) → σ i ∉ X'.B) : MOK E X' L0 w0 σ mem w' :=
  ⟨fun i b hb => k.heap (h.blk i b hb) (hd i b hb), h.inj, fun i b hi => ⟨(h.own i b hi).1, Nat.lt_of_lt_of_le (h.own i b hi).2 k.size⟩, h.init, h.keep.trans' k hS, h.rows, hx, hxb, hxd⟩

/-- A block's new content is told. -/
theorem MOK.told {X : Ext} {mem : List (Option Blk)} {w : World} (h : MOK E X L0 w0 σ mem w) {i : Nat} (hi : i < mem.length) {b : Option Blk} (hb : ∀ b', b = some b' → w.heap[σ i]? = some (.cells (b'.cells.map (A.den E σ)).toArray b'.ty (0, 0)) ∧ σ i ∉ X.B ∧ (σ i ∈ w0.M ∨ w0.w.heap.size ≤ σ i) ∧ ∀ j bj, j ≠ i → mem[j]? = some (some bj) → σ j ≠ σ i) : MOK E X L0 w0 σ (mem.set i b) w := by
  have kn : ∀ j bj, (mem.set i b)[j]? = some (some bj) → (j = i ∧ b = some bj) ∨ (j ≠ i ∧ mem[j]? = some (some bj)) := fun j bj hj => by
    by_cases hij : i = j
    · subst hij
      rw [List.getElem?_set_self hi] at hj
      injection hj with hj
      exact .inl ⟨rfl, hj⟩
    · rw [List.getElem?_set_ne hij] at hj
      exact .inr ⟨fun e => hij e.symm, hj⟩
  refine ⟨fun j b' hj => ?_, fun j k bj bk hj hk he => ?_, fun j bj hj => ?_, h.init, h.keep, h.rows, h.ext, h.extB, fun j b' hj => ?_⟩
  · rcases kn j b' hj with ⟨e, hj'⟩ | ⟨_, hj'⟩
    · rw [e]; exact (hb b' hj').1
    · exact h.blk j b' hj'
  · rcases kn j bj hj with ⟨e1, hj'⟩ | ⟨n1, hj'⟩ <;> rcases kn k bk hk with ⟨e2, hk'⟩ | ⟨n2, hk'⟩
    · rw [e1, e2]
    · rw [e1] at he
      exact ((hb bj hj').2.2.2 k bk n2 hk' he.symm).elim
    · rw [e2] at he
      exact ((hb bk hk').2.2.2 j bj n1 hj' he).elim
    · exact h.inj j k bj bk hj' hk' he
  · rcases kn j bj hj with ⟨e, hj'⟩ | ⟨_, hj'⟩
    · rw [e]; exact ⟨(hb bj hj').2.2.1, blk_lt (hb bj hj').1⟩
    · exact h.own j bj hj'
  · rcases kn j b' hj with ⟨e, hj'⟩ | ⟨_, hj'⟩
    · rw [e]; exact (hb b' hj').2.1
    · exact h.extd j b' hj'

/-- Something is no longer told. -/
theorem MOK.untold {X : Ext} {mem : List (Option Blk)} {w : World} (h : MOK E X L0 w0 σ mem w) {i : Nat} (hi : i < mem.length) : MOK E X L0 w0 σ (mem.set i none) w := h.told hi (fun b' hb => by cases hb)

/-- New names that denote anything. -/
theorem MOK.more {X : Ext} {mem : List (Option Blk)} {w : World} (h : MOK E X L0 w0 σ mem w) (hwf : memWf mem = true) {σ' : Nat → Nat} (hag : ∀ i, i < mem.length → σ i = σ' i) (hL : ∀ i, i < L0.length → i < mem.length) {new : List (Option Blk)} (hn : ∀ b, b ∈ new → b = none) : MOK E X L0 w0 σ' (mem ++ new) w := by
  have kn : ∀ j bj, (mem ++ new)[j]? = some (some bj) → mem[j]? = some (some bj) ∧ j < mem.length := fun j bj hj => by
    by_cases hlt : j < mem.length
    · rw [List.getElem?_append_left hlt] at hj
      exact ⟨hj, hlt⟩
    · rw [List.getElem?_append_right (by omega)] at hj
      cases hn _ (List.mem_of_getElem? hj)
  refine ⟨fun j b' hj => ?_, fun j k bj bk hj hk he => ?_, fun j bj hj => ?_, fun i b hb => ?_, h.keep, h.rows, h.ext, h.extB, fun j b' hj => ?_⟩
  · obtain ⟨h1, h2⟩ := kn j b' hj
    rw [← hag j h2, h.blk j b' h1, A.dens_congr hag (memWf_blk hwf h1)]
  · obtain ⟨h1, h2⟩ := kn j bj hj
    obtain ⟨h3, h4⟩ := kn k bk hk
    exact h.inj j k bj bk h1 h3 (by rw [hag j h2, hag k h4, he])
  · obtain ⟨h1, h2⟩ := kn j bj hj
    rw [← hag j h2]
    exact h.own j bj h1
  · rw [← hag i (hL i (List.getElem?_eq_some_iff.1 hb).1)]
    exact h.init i b hb
  · obtain ⟨h1, h2⟩ := kn j b' hj
    rw [← hag j h2]
    exact h.extd j b' h1

/-- Another word on the world besides. -/
theorem MOK.ext' {X X' : Ext} {mem : List (Option Blk)} {w : World} (h : MOK E X L0 w0 σ mem w) (hx : X'.X w) (hxb : ∀ b, b ∈ X'.B → b < w.heap.size) (hxd : ∀ i b, mem[i]? = some (some b) → σ i ∉ X'.B) : MOK E X' L0 w0 σ mem w :=
  ⟨h.blk, h.inj, h.own, h.init, h.keep, h.rows, hx, hxb, hxd⟩

/-- A block that lies in the world gets a name. -/
theorem MOK.name {X X' : Ext} {mem : List (Option Blk)} {w : World} (h : MOK E X L0 w0 σ mem w) (hwf : memWf mem = true) {n : Nat} {b : Option Blk} (hn : ∀ i bi, mem[i]? = some (some bi) → σ i ≠ n) (hown : n ∈ w0.M ∨ w0.w.heap.size ≤ n) (hlt : n < w.heap.size) (hL : ∀ i, i < L0.length → i < mem.length)
    (hb : ∀ b', b = some b' → w.heap[n]? = some (.cells (b'.cells.map (A.den E (upd σ mem.length n))).toArray b'.ty (0, 0)) ∧ n ∉ X'.B)
    (hx : X'.X w) (hxb : ∀ b, b ∈ X'.B → b < w.heap.size) (hxd : ∀ i b, mem[i]? = some (some b) → σ i ∉ X'.B) : MOK E X' L0 w0 (upd σ mem.length n) (mem ++ [b]) w := by
  have last : ∀ i b', (mem ++ [b])[i]? = some (some b') → ¬ i < mem.length → i = mem.length ∧ b = some b' := fun i b' hi hlt => by
    rw [List.getElem?_append_right (by omega)] at hi
    have : i = mem.length := by
      have := (List.getElem?_eq_some_iff.1 hi).1
      simp at this
      omega
    subst this
    simp at hi
    exact ⟨rfl, hi⟩
  refine ⟨fun i b' hi => ?_, fun i j bi bj hi hj he => ?_, fun i bi hi => ?_, fun i b' hi => ?_, h.keep, h.rows, hx, hxb, fun i b' hi => ?_⟩
  · by_cases hlt : i < mem.length
    · rw [List.getElem?_append_left hlt] at hi
      rw [upd_lt hlt, h.blk i b' hi, A.dens_congr (fun j hj => (upd_lt hj).symm) (memWf_blk hwf hi)]
    · obtain ⟨rfl, hb'⟩ := last i b' hi hlt
      rw [upd_self]
      exact (hb b' hb').1
  · by_cases h1 : i < mem.length <;> by_cases h2 : j < mem.length
    · rw [List.getElem?_append_left h1] at hi
      rw [List.getElem?_append_left h2] at hj
      rw [upd_lt h1, upd_lt h2] at he
      exact h.inj i j bi bj hi hj he
    · obtain ⟨rfl, _⟩ := last j bj hj h2
      rw [List.getElem?_append_left h1] at hi
      rw [upd_lt h1, upd_self] at he
      exact (hn i bi hi he).elim
    · obtain ⟨rfl, _⟩ := last i bi hi h1
      rw [List.getElem?_append_left h2] at hj
      rw [upd_lt h2, upd_self] at he
      exact (hn j bj hj he.symm).elim
    · rw [(last i bi hi h1).1, (last j bj hj h2).1]
  · by_cases h1 : i < mem.length
    · rw [List.getElem?_append_left h1] at hi
      rw [upd_lt h1]
      exact h.own i bi hi
    · obtain ⟨rfl, _⟩ := last i bi hi h1
      rw [upd_self]
      exact ⟨hown, hlt⟩
  · have := hL i (List.getElem?_eq_some_iff.1 hi).1
    rw [upd_lt this]
    exact h.init i b' hi
  · by_cases hlt : i < mem.length
    · rw [List.getElem?_append_left hlt] at hi
      rw [upd_lt hlt]
      exact hxd i b' hi
    · obtain ⟨rfl, hb'⟩ := last i b' hi hlt
      rw [upd_self]
      exact (hb b' hb').2

/-- The last names are forgotten. -/
theorem MOK.take {X : Ext} {mem : List (Option Blk)} {w : World} (h : MOK E X L0 w0 σ mem w) (n : Nat) : MOK E X L0 w0 σ (mem.take n) w := by
  have hget : ∀ i b, (mem.take n)[i]? = some (some b) → mem[i]? = some (some b) := fun i b hi => by
    rw [List.getElem?_take] at hi
    split at hi
    · exact hi
    · cases hi
  exact ⟨fun i b hb => h.blk i b (hget i b hb), fun i j bi bj hi hj he => h.inj i j bi bj (hget i bi hi) (hget j bj hj) he, fun i b hi => h.own i b (hget i b hi), h.init, h.keep, h.rows, h.ext, h.extB, fun i b hb => h.extd i b (hget i b hb)⟩

/-- Told anew from here. -/
theorem MOK.rebase {X : Ext} {mem : List (Option Blk)} {w : World} (h : MOK E X L0 w0 σ mem w) {L1 M1 : List Nat} (hL : L1 = (List.range mem.length).map σ) (hM : ∀ i b, mem[i]? = some (some b) → σ i ∈ M1 ∨ w.heap.size ≤ σ i) (hrows : ∀ r, RowOK w M1 (E r)) : MOK E X L1 ⟨w, M1⟩ σ mem w := by
  subst hL
  exact ⟨h.blk, h.inj, fun i b hi => ⟨hM i b hi, (h.own i b hi).2⟩, fun i b hi => by
    simp only [List.getElem?_map] at hi
    have hlt : i < mem.length := by
      have := (List.getElem?_eq_some_iff.1 (Option.map_eq_some_iff.1 hi).choose_spec.1).1
      simpa using this
    rw [List.getElem?_range hlt] at hi
    simpa using hi, Keep.refl _ _, hrows, h.ext, h.extB, h.extd⟩

variable {X : Fam} {Q : Exit → Act → World → Prop}

/-- How an operation at which the reckoner stands comes to its end. -/
theorem safe_run {f : Nat} {p r : List Nat} {i : Nat} {K : List It} {st : St} {ops : Array Oper} {o : Oper} (hops : opsAt tb f p = some ops) (ho : ops[i]? = some o) (hg : o.guard = none)
    (h : ∀ σ a w, Conc E X L0 w0 σ st a w → o.wp P a w (fun a' w' => ∃ (v : Option SV) (σ' : Nat → Nat) (mem : List (Option Blk)) (gh' : Gh) (X' : Fam) (tb' : Tab), (match v with | some v => a' = a.put o.dst (v.den E σ') ∧ epOK E v | none => ∃ u, a' = a.put o.dst u) ∧ Mo E X' L0 w0 σ' gh' mem w' ∧ st.mem.length ≤ mem.length ∧
      (σ' = σ ∨ (wfAll K st = true ∧ ∀ i, i < st.mem.length → σ i = σ' i)) ∧ tb'.fn = tb.fn ∧ Safe P tb' E X' Jt Q L0 w0 (.o f p r :: K) .normal ({ st with mem := mem, gh := gh' }.put o.dst v)) (wpK P tb E Jt Q σ K)) :
    Safe P tb E X Jt Q L0 w0 (.o f p (i :: r) :: K) .normal st := by
  intro σ a w hc
  refine ⟨ops, hops, ?_⟩
  rw [wpOps_cons]
  refine wp_wpOp ho (by unfold Region.wanted; rw [hg]) ?_
  refine Oper.wp_mono ?_ (h σ a w hc)
  rintro a' w' ⟨v, σ', mem, gh', X', tb', ha', hm, hlen, hσ, htb, hsafe⟩
  have htbe : ∀ K', wpK P tb' E Jt Q σ' K' = wpK P tb E Jt Q σ' K' := fun K' => by
    have e : ∀ f p, codeAt tb' f p = codeAt tb f p := fun f p => by unfold codeAt; rw [htb]
    have e2 : ∀ f p, opsAt tb' f p = opsAt tb f p := fun f p => by unfold opsAt; rw [e]
    induction K' with
    | nil => rfl
    | cons it K' ih => cases it <;> simp only [wpK, ih, e, e2, htb]
  have hc1 : Conc E X' L0 w0 σ' { st with mem := mem, gh := gh' } a w' := by
    refine ⟨hc.defers, hc.size, fun q hq => ?_, hc.he, hm, fun i hi => Nat.lt_of_lt_of_le (hc.hL i hi) hlen⟩
    rcases hσ with rfl | ⟨hwf, hag⟩
    · exact hc.ht q hq
    · simp only [wfAll, Bool.and_eq_true] at hwf
      rw [← SV.den_congr hag (wfT_den hwf.2.1 hq)]
      exact hc.ht q hq
  have h1 : wpK P tb' E Jt Q σ' (.o f p r :: K) .normal a' w' := by
    cases v with
    | some v =>
      obtain ⟨rfl, hep⟩ := ha'
      exact hsafe σ' _ w' (hc1.put o.dst hep)
    | none =>
      obtain ⟨u, rfl⟩ := ha'
      exact hsafe σ' _ w' (hc1.unput o.dst u)
  rw [htbe] at h1
  have h2 : wpK P tb E Jt Q σ (.o f p r :: K) .normal a' w' := by
    rcases hσ with rfl | ⟨hwf, hag⟩
    · exact h1
    · simp only [wfAll, Bool.and_eq_true] at hwf
      rw [wpK_congr hag (K := .o f p r :: K) (by simpa [It.wf] using hwf.1)]
      exact h1
  obtain ⟨ops', ho', hrest⟩ := h2
  rw [hops] at ho'
  injection ho' with ho'
  subst ho'
  exact hrest

/-- How a call at which the reckoner stands comes to its end. -/
theorem safe_call {f : Nat} {p r : List Nat} {i : Nat} {K : List It} {st : St} {ops : Array Oper} {o : Oper} {g : Nat} {fn : Func} {xs : Array Operand} {ts : Array TypeId} {vs : List SV} (hops : opsAt tb f p = some ops) (ho : ops[i]? = some o) (hg : o.guard = none)
    (hop : o.op = .call { callee := .value (.func g), args := xs, argTypes := ts }) (hfn : P.funcs[g]? = some fn ∧ fn.body.isSome = true ∧ (fn.name == "runtime.NumGoroutine") = false) (hvs : mapO st.tmps xs.toList = some vs)
    (h : ∀ σ a w, Conc E X L0 w0 σ st a w → Calls P g (vs.map (SV.den E σ)).toArray w (fun e w' => ∃ (v : SV) (σ' : Nat → Nat) (mem : List (Option Blk)) (gh' : Gh) (X' : Fam) (tb' : Tab), e = .returned (v.den E σ') ∧ epOK E v ∧ Mo E X' L0 w0 σ' gh' mem w' ∧ st.mem.length ≤ mem.length ∧
      (σ' = σ ∨ (wfAll K st = true ∧ ∀ i, i < st.mem.length → σ i = σ' i)) ∧ tb'.fn = tb.fn ∧ Safe P tb' E X' Jt Q L0 w0 (.o f p r :: K) .normal ({ st with mem := mem, gh := gh' }.put o.dst (some v)))) :
    Safe P tb E X Jt Q L0 w0 (.o f p (i :: r) :: K) .normal st := by
  refine safe_run hops ho hg ?_
  intro σ a w hc
  unfold Oper.wp
  rw [run_call hfn.1 hfn.2.1 hfn.2.2 hop, Oper.upon_enter]
  have e1 : xs.map a.eval = (vs.map (SV.den E σ)).toArray := by
    apply Array.toList_inj.1
    simpa using mapO_sound hc.vw hvs
  rw [e1]
  refine (h σ a w hc).mono ?_
  rintro e w' ⟨v, σ', mem, gh', X', tb', rfl, hep, hm, hl, hσ, htb, hs⟩
  exact ⟨some v, σ', mem, gh', X', tb', ⟨rfl, hep⟩, hm, hl, hσ, htb, hs⟩

theorem wp_loop_ind {c : Code} {Qc : Exit → Act → World → Prop} (I : Nat → Act → World → Prop)
    (round : ∀ N a w, I N a w → c.wp P (Exit.then (fun a' w' => ∃ M, M < N ∧ I M a' w') Qc) a w) : ∀ N a w, I N a w → (Code.loop c).wp P Qc a w := by
  intro N a w h₀ b k cs
  have key : ∀ n a w, I n a w →
      ∃ e a' w', Qc e a' w' ∧ Arrives P (lone (b.at a (.code c :: .inLoop c :: k)) cs w) b k cs e a' w' := by
    intro n
    induction n using Nat.strongRecOn with
    | _ n ih =>
      intro a w hI
      obtain ⟨e, a₁, w₁, hq, harr⟩ := round n a w hI b (.inLoop c :: k) cs
      cases e with
      | normal =>
        obtain ⟨M, hlt, hI₁⟩ := hq
        obtain ⟨e₂, a₂, w₂, hq₂, harr₂⟩ := ih M hlt a₁ w₁ hI₁
        exact ⟨e₂, a₂, w₂, hq₂, .of_steps (Steps.trans harr (.one step_inLoop)) harr₂⟩
      | exit id => exact ⟨_, a₁, w₁, hq, .pass (x := .inLoop c) rfl (fun _ _ => .inl (by simp)) harr⟩
      | goto l => exact ⟨_, a₁, w₁, hq, .pass (x := .inLoop c) rfl (fun _ _ => .inl (by simp)) harr⟩
      | ret => exact ⟨_, a₁, w₁, hq, .pass (x := .inLoop c) rfl (fun _ _ => .inl (by simp)) harr⟩
      | panic ch => exact ⟨_, a₁, w₁, hq, .pass (x := .inLoop c) rfl (fun _ _ => .inl (by simp)) harr⟩
      | outgrown => exact ⟨_, a₁, w₁, hq, .pass (x := .inLoop c) rfl (fun _ _ => .inl (by simp)) harr⟩
  obtain ⟨e, a', w', hq, harr⟩ := key N a w h₀
  exact ⟨e, a', w', hq, .of_steps (.one step_loop) harr⟩

def updJ (Jt : Nat → Act → World → Prop) (k : Nat) (J : Act → World → Prop) : Nat → Act → World → Prop := fun i => if i = k then J else Jt i
def It.notJ (k : Nat) : It → Bool
  | .j i => !(Nat.beq i k)
  | _ => true

theorem wpK_updJ {k : Nat} {J : Act → World → Prop} : ∀ {K : List It}, K.all (It.notJ k) = true → wpK P tb E (updJ Jt k J) Q σ K = wpK P tb E Jt Q σ K
  | [], _ => rfl
  | it :: K, h => by
    simp only [List.all_cons, Bool.and_eq_true] at h
    have ih := wpK_updJ (J := J) h.2
    cases it with
    | j i =>
      have hik : ¬ i = k := fun e => by subst e; simp [It.notJ] at h
      simp only [wpK, ih, updJ, hik, if_false]
    | _ => simp only [wpK, ih]

theorem wpK_tab {tb' : Tab} (htb : tb'.fn = tb.fn) : ∀ {K : List It}, wpK P tb' E Jt Q σ K = wpK P tb E Jt Q σ K := fun {K} => by
  have e : ∀ f p, codeAt tb' f p = codeAt tb f p := fun f p => by unfold codeAt; rw [htb]
  have e2 : ∀ f p, opsAt tb' f p = opsAt tb f p := fun f p => by unfold opsAt; rw [e]
  induction K with
  | nil => rfl
  | cons it K' ih => cases it <;> simp only [wpK, ih, e, e2, htb]

/-- A loop. -/
theorem safe_loop {f : Nat} {p : List Nat} {K : List It} {body : Code} (hcode : codeAt tb f p = some (.loop body)) (k : Nat) (hk : K.all (It.notJ k) = true) (hwf : K.all (It.wf L0.length) = true)
    {α : Type} (S : α → St) (X : α → Fam) (tbx : α → Tab) (htb : ∀ x, (tbx x).fn = tb.fn) (μ : α → Nat)
    (hround : ∀ (x : α) (J : Act → World → Prop), (∀ x', μ x' < μ x → ∀ σ a w, Conc E (X x') L0 w0 σ (S x') a w → J a w) → Safe P (tbx x) E (X x) (updJ Jt k J) Q L0 w0 (.c f (0 :: p) :: .j k :: K) .normal (S x)) :
    ∀ x, Safe P (tbx x) E (X x) Jt Q L0 w0 (.c f p :: K) .normal (S x) := by
  intro x σ a w hc
  rw [wpK_tab (htb x)]
  refine ⟨_, hcode, ?_⟩
  have hbody : codeAt tb f (0 :: p) = some body := codeAt_child hcode rfl
  refine wp_loop_ind (fun N a w => ∃ x σ', μ x = N ∧ Conc E (X x) L0 w0 σ' (S x) a w) ?_ (μ x) a w ⟨x, σ, rfl, hc⟩
  rintro N a w ⟨x, σ', rfl, hc'⟩
  have hr := hround x (fun a w => ∃ M, M < μ x ∧ ∃ x σ', μ x = M ∧ Conc E (X x) L0 w0 σ' (S x) a w) (fun x' hlt σ'' a w h => ⟨μ x', hlt, x', σ'', rfl, h⟩) σ' a w hc'
  rw [wpK_tab (htb x)] at hr
  obtain ⟨c, hcc, hwp⟩ := hr
  rw [hbody] at hcc
  injection hcc with hcc
  subst hcc
  have hag : ∀ i, i < L0.length → σ' i = σ i := fun i hi => by
    rw [hc'.init i _ (List.getElem?_eq_getElem hi), hc.init i _ (List.getElem?_eq_getElem hi)]
  have hK : wpK P tb E (updJ Jt k (fun a w => ∃ M, M < μ x ∧ ∃ x σ', μ x = M ∧ Conc E (X x) L0 w0 σ' (S x) a w)) Q σ' K = wpK P tb E Jt Q σ K := by
    rw [wpK_updJ hk, wpK_congr hag hwf]
  refine wp_mono hwp ?_
  intro ex b w' hb
  simp only [wpK, hK, updJ, if_true] at hb
  cases ex with
  | normal => exact hb
  | exit id => exact hb
  | goto l => exact hb
  | ret => exact hb
  | panic ch => exact hb
  | outgrown => exact hb

/-- A loop's round is over. -/
theorem safe_j {J : Act → World → Prop} {k : Nat} {K : List It} {st : St} (h : ∀ σ a w, Conc E X L0 w0 σ st a w → J a w) : Safe P tb E X (updJ Jt k J) Q L0 w0 (.j k :: K) .normal st := by
  intro σ a w hc
  show updJ Jt k J k a w
  unfold updJ
  rw [if_pos rfl]
  exact h σ a w hc

/-- The same table with other words on calls. -/
theorem TabOK.calls (h : TabOK P X L0 tb) (c : List (Nat × (List SV → List (Option Blk) → Gh → Option CRR))) (hc : ∀ q, q ∈ c → CallOK P X L0 q.1 q.2) : TabOK P X L0 { tb with call := c } :=
  ⟨h.ty, h.fn, fun f φ hf => hc _ (look_mem hf), h.mixed, h.op⟩
theorem TabOK.ops (h : TabOK P X L0 tb) (φ : Op → List (Nat × SV) → List (Option Blk) → Gh → Option CRR) (hc : OpOK P X L0 φ) : TabOK P X L0 { tb with op := φ } :=
  ⟨h.ty, h.fn, h.call, h.mixed, hc⟩
theorem TabOK.thaws (h : TabOK P X L0 tb) (t : List (Nat × List (Nat × List Nat))) : TabOK P X L0 { tb with thaw := t } :=
  ⟨h.ty, h.fn, h.call, h.mixed, h.op⟩

/-- Words on a call that writes nothing and looks at no ghost. -/
def pureW (φ : List SV → List (Option Blk) → Option SV) : List SV → List (Option Blk) → Gh → Option CRR := fun args mem gh => match φ args mem with | some r => some (.one ⟨some r, [], gh, false, none⟩) | none => none

theorem pureW_ok {X : Fam} {f : Nat} {φ : List SV → List (Option Blk) → Option SV}
    (h : ∃ fn, P.funcs[f]? = some fn ∧ fn.body.isSome = true ∧ (fn.name == "runtime.NumGoroutine") = false ∧
      ∀ args mem r, φ args mem = some r → (∀ q k off, r ≠ .c (.one (.ep q k off))) ∧ ∀ (E : Nat → Row) (σ : Nat → Nat) (w : World) (gh : Gh) (ns : Nat → Nat) (x : Ext), (∀ i b, mem[i]? = some (some b) → w.heap[σ i]? = some (.cells (b.cells.map (A.den E σ)).toArray b.ty (0, 0))) → (∀ q, RowAt w (E q)) → X gh ns x → x.X w → (∀ i b, L0[i]? = some b → σ i = b) →
        Calls P f (args.map (SV.den E σ)).toArray w fun e w' => e = .returned (r.den E σ) ∧ Keep [] w w') : CallOK P X L0 f (pureW φ) := by
  obtain ⟨fn, h1, h2, h3, h4⟩ := h
  refine ⟨fn, h1, h2, h3, fun args mem gh cr hcr _ E σ w0 x w hm hL => ?_⟩
  unfold pureW at hcr
  split at hcr
  · rename_i r hr
    injection hcr with hcr
    subst hcr
    obtain ⟨h5, h6⟩ := h4 args mem r hr
    refine (h6 E σ w gh _ x hm.mok.blk hm.mok.rowAt hm.fam hm.mok.ext hm.mok.init).mono ?_
    rintro e w' ⟨rfl, hk⟩
    refine ⟨_, rfl, σ, fun v hv => ?_, ?_, fun _ _ => rfl, hk⟩
    · injection hv with hv
      subst hv
      exact ⟨rfl, fun q k off hh => (h5 q k off hh).elim⟩
    · show Mo E X L0 w0 σ gh (mem ++ []) _
      rw [List.append_nil]
      exact (show Mo E X L0 w0 σ gh mem w from ⟨x, hm⟩).mono hk
  · cases hcr

/-- A list of the program's own (vec.Vec) in memory besides. -/
def vecX (TV e sz p : Nat) (r : Option Nat) (n : Nat) (xs : List Value) : Ext :=
  ⟨p :: r.toList, fun w => Vec TV e sz w p r n xs, fun w w' h hb _ => by
    obtain ⟨a, c, h1, h2, h3⟩ := h.ex
    refine ⟨⟨a, c, (hb p (by simp)).trans h1, ⟨h2.1, ?_⟩, h3⟩, h.one, h.ne⟩
    rcases h2.2 with h4 | ⟨g, cap, cur, hv, hbase, hh, hr⟩
    · exact .inl h4
    · refine .inr ⟨g, cap, cur, hv, hbase, (hb g ?_).trans hh, hr⟩
      have : a = some ⟨g, 0, none⟩ := by injection hv
      subst this
      simp [h3], p :: r.toList, fun _ h => h⟩

theorem TabOK.fns (h : TabOK P X L0 tb) (c : List (Nat × Func)) (hc : ∀ q, q ∈ c → P.funcs[q.1]? = some q.2 ∧ q.2.body.isSome = true ∧ (q.2.name == "runtime.NumGoroutine") = false) : TabOK P X L0 { tb with fn := c } :=
  ⟨h.ty, fun f fn hf => hc _ (look_mem hf), h.call, h.mixed, h.op⟩

/-- The same in a region that draws its order, where nothing but this call may come up. -/
theorem safe_callD {f : Nat} {p fz : List Nat} {fuel i : Nat} {listed : List Bool} {K : List It} {st : St} {ops : Array Oper} {o : Oper} {g : Nat} {fn : Func} {xs : Array Operand} {ts : Array TypeId} {vs : List SV} (hops : opsAt tb f p = some ops) (ho : ops[i]? = some o) (hg : o.guard = none)
    (hr : Region.ready .any ops listed.toArray = [i]) (hop : o.op = .call { callee := .value (.func g), args := xs, argTypes := ts }) (hfn : P.funcs[g]? = some fn ∧ fn.body.isSome = true ∧ (fn.name == "runtime.NumGoroutine") = false) (hvs : mapO st.tmps xs.toList = some vs)
    (h : ∀ σ a w, Conc E X L0 w0 σ st a w → Calls P g (vs.map (SV.den E σ)).toArray w (fun e w' => ∃ (v : SV) (σ' : Nat → Nat) (mem : List (Option Blk)) (gh' : Gh) (X' : Fam) (tb' : Tab), e = .returned (v.den E σ') ∧ epOK E v ∧ Mo E X' L0 w0 σ' gh' mem w' ∧ st.mem.length ≤ mem.length ∧
      (σ' = σ ∨ (wfAll (.d f p fuel listed fz :: K) st = true ∧ ∀ i, i < st.mem.length → σ i = σ' i)) ∧ tb'.fn = tb.fn ∧ (∀ j, j ∈ fz → w'.heap[σ j]? = w.heap[σ j]?) ∧ Safe P tb' E X' Jt Q L0 w0 (.d f p fuel (setNth listed i) fz :: K) .normal ({ st with mem := mem, gh := gh' }.put o.dst (some v)))) :
    Safe P tb E X Jt Q L0 w0 (.d f p (fuel + 1) listed fz :: K) .normal st := by
  intro σ a w hc
  refine ⟨ops, hops, wpAnyH_all hr (by simp) (fun j hj => ?_)⟩
  simp only [List.mem_singleton] at hj
  subst hj
  refine wp_wpOp ho (by unfold Region.wanted; rw [hg]) ?_
  unfold Oper.wp
  rw [run_call hfn.1 hfn.2.1 hfn.2.2 hop, Oper.upon_enter]
  have e1 : xs.map a.eval = (vs.map (SV.den E σ)).toArray := by
    apply Array.toList_inj.1
    simpa using mapO_sound hc.vw hvs
  rw [e1]
  refine (h σ a w hc).mono ?_
  rintro e w' ⟨v, σ', mem, gh', X', tb', rfl, hep, hm, hl, hσ, htb, hsame, hs⟩
  have hc1 : Conc E X' L0 w0 σ' { st with mem := mem, gh := gh' } a w' := by
    refine ⟨hc.defers, hc.size, fun q hq => ?_, hc.he, hm, fun i hi => Nat.lt_of_lt_of_le (hc.hL i hi) hl⟩
    rcases hσ with rfl | ⟨hwf, hag⟩
    · exact hc.ht q hq
    · simp only [wfAll, Bool.and_eq_true] at hwf
      rw [← SV.den_congr hag (wfT_den hwf.2.1 hq)]
      exact hc.ht q hq
  have h1 := hs σ' _ w' (hc1.put o.dst hep)
  rw [wpK_tab htb] at h1
  have h2 : wpK P tb E Jt Q σ (.d f p fuel (setNth listed j) fz :: K) .normal (a.put o.dst (v.den E σ')) w' := by
    rcases hσ with rfl | ⟨hwf, hag⟩
    · exact h1
    · simp only [wfAll, Bool.and_eq_true] at hwf
      rw [wpK_congr hag (K := .d f p fuel (setNth listed j) fz :: K) hwf.1]
      exact h1
  have hsf : SF E σ fz w w' := ⟨hsame, fun q => let ⟨_, m⟩ := hm; m.mok.rowAt q⟩
  have heq : SF E σ fz w' = SF E σ fz w := by
    funext w''
    apply propext
    exact ⟨fun ⟨g1, g2⟩ => ⟨fun j hj => (g1 j hj).trans (hsf.1 j hj), g2⟩, fun ⟨g1, g2⟩ => ⟨fun j hj => (g1 j hj).trans (hsf.1 j hj).symm, g2⟩⟩
  obtain ⟨ops', ho', hrest⟩ := h2
  rw [hops] at ho'
  injection ho' with ho'
  subst ho'
  rw [setNth_arr, heq] at hrest
  exact ⟨hsf, hrest⟩

def callAt (tb : Tab) (f : Nat) (p : List Nat) (i : Nat) (tmps : List (Nat × SV)) : Option (Nat × Option Nat × List SV) :=
  match opsAt tb f p with
  | some ops => match ops[i]? with
    | some o => match o.guard with
      | none => match o.op with
        | .call { callee := .value (.func g), args, .. } => match mapO tmps args.toList with
          | some vs => some (g, o.dst, vs)
          | none => none
        | _ => none
      | some _ => none
    | none => none
  | none => none

theorem callAt_some {f : Nat} {p : List Nat} {i : Nat} {tmps : List (Nat × SV)} {g : Nat} {dst : Option Nat} {vs : List SV} (h : callAt tb f p i tmps = some (g, dst, vs)) :
    ∃ ops o xs ts, opsAt tb f p = some ops ∧ ops[i]? = some o ∧ o.guard = none ∧ o.op = .call { callee := .value (.func g), args := xs, argTypes := ts } ∧ mapO tmps xs.toList = some vs ∧ o.dst = dst := by
  unfold callAt at h
  split at h
  · rename_i ops hops
    split at h
    · rename_i o ho
      split at h
      · rename_i hg
        split at h
        · rename_i g' xs ts hop
          split at h
          · rename_i vs' hvs
            injection h with h
            injection h with e1 e2
            injection e2 with e2 e3
            subst e1 e2 e3
            exact ⟨ops, o, xs, ts, hops, ho, hg, hop, hvs, rfl⟩
          · cases h
        · cases h
      · cases h
    · cases h
  · cases h

/-- What is to be shown of a call's end: the result, the blocks behind it, and that the rest goes well. -/
def After (P : Program) (tb : Tab) (E : Nat → Row) (Jt : Nat → Act → World → Prop) (Q : Exit → Act → World → Prop) (L0 : List Nat) (w0 : WM) (K' : List It) (K : List It) (st : St) (dst : Option Nat) (σ : Nat → Nat) (e : Ending) (w' : World) : Prop :=
  ∃ (v : SV) (σ' : Nat → Nat) (mem : List (Option Blk)) (gh' : Gh) (X' : Fam) (tb' : Tab) (st' : St), e = .returned (v.den E σ') ∧ epOK E v ∧ Mo E X' L0 w0 σ' gh' mem w' ∧ st.mem.length ≤ mem.length ∧
    (σ' = σ ∨ (wfAll K' st = true ∧ ∀ i, i < st.mem.length → σ i = σ' i)) ∧ tb'.fn = tb.fn ∧ { st with mem := mem, gh := gh' }.put dst (some v) = st' ∧ Safe P tb' E X' Jt Q L0 w0 K .normal st'

/-- A call at which the reckoner stands. -/
theorem at_call {f : Nat} {p r : List Nat} {i : Nat} {K : List It} {st : St} {g : Nat} {fn : Func} {dst : Option Nat} {vs : List SV} (hc : callAt tb f p i st.tmps = some (g, dst, vs))
    (hfn : P.funcs[g]? = some fn ∧ fn.body.isSome = true ∧ (fn.name == "runtime.NumGoroutine") = false)
    (h : ∀ σ w, Mo E X L0 w0 σ st.gh st.mem w → Calls P g (vs.map (SV.den E σ)).toArray w (After P tb E Jt Q L0 w0 K (.o f p r :: K) st dst σ)) :
    OutOK P tb E X Jt Q L0 w0 (.leaf (.o f p (i :: r) :: K) .normal st) := by
  obtain ⟨ops, o, xs, ts, h1, h2, h3, h4, h5, rfl⟩ := callAt_some hc
  refine safe_call h1 h2 h3 h4 hfn h5 fun σ a w hcc => (h σ w hcc.mo).mono ?_
  rintro e w' ⟨v, σ', mem, gh', X', tb', st', g1, g2, g3, g4, g5, g6, rfl, g7⟩
  exact ⟨v, σ', mem, gh', X', tb', g1, g2, g3, g4, g5, g6, g7⟩

/-- The same in a region that draws its order, where nothing but this call may come up. -/
theorem at_callD {f : Nat} {p fz : List Nat} {fuel i : Nat} {listed : List Bool} {K : List It} {st : St} {g : Nat} {fn : Func} {dst : Option Nat} {vs : List SV} (hc : callAt tb f p i st.tmps = some (g, dst, vs))
    (hr : (match opsAt tb f p with | some ops => Region.ready .any ops listed.toArray | none => []) = [i])
    (hfn : P.funcs[g]? = some fn ∧ fn.body.isSome = true ∧ (fn.name == "runtime.NumGoroutine") = false)
    (h : ∀ σ w, Mo E X L0 w0 σ st.gh st.mem w → Calls P g (vs.map (SV.den E σ)).toArray w (fun e w' => (∀ j, j ∈ fz → w'.heap[σ j]? = w.heap[σ j]?) ∧ After P tb E Jt Q L0 w0 (.d f p fuel listed fz :: K) (.d f p fuel (setNth listed i) fz :: K) st dst σ e w')) :
    OutOK P tb E X Jt Q L0 w0 (.leaf (.d f p (fuel + 1) listed fz :: K) .normal st) := by
  obtain ⟨ops, o, xs, ts, h1, h2, h3, h4, h5, rfl⟩ := callAt_some hc
  rw [h1] at hr
  refine safe_callD h1 h2 h3 hr h4 hfn h5 fun σ a w hcc => (h σ w hcc.mo).mono ?_
  rintro e w' ⟨hs, v, σ', mem, gh', X', tb', st', g1, g2, g3, g4, g5, g6, rfl, g7⟩
  exact ⟨v, σ', mem, gh', X', tb', g1, g2, g3, g4, g5, g6, hs, g7⟩

def isLoop (tb : Tab) (f : Nat) (p : List Nat) : Bool := match codeAt tb f p with | some (.loop _) => true | _ => false
theorem isLoop_some {f : Nat} {p : List Nat} (h : isLoop tb f p = true) : ∃ body, codeAt tb f p = some (.loop body) := by
  unfold isLoop at h
  split at h
  · rename_i b hb
    exact ⟨b, hb⟩
  · cases h

/-- A loop at which the reckoner stands. -/
theorem at_loop {f : Nat} {p : List Nat} {K : List It} (hl : isLoop tb f p = true) (k : Nat) (hk : K.all (It.notJ k) = true) (hwf : K.all (It.wf L0.length) = true)
    {α : Type} (S : α → St) (X : α → Fam) (tbx : α → Tab) (htb : ∀ x, (tbx x).fn = tb.fn) (μ : α → Nat)
    (hround : ∀ (x : α) (J : Act → World → Prop), (∀ x', μ x' < μ x → ∀ σ a w, Conc E (X x') L0 w0 σ (S x') a w → J a w) → Safe P (tbx x) E (X x) (updJ Jt k J) Q L0 w0 (.c f (0 :: p) :: .j k :: K) .normal (S x)) :
    ∀ x, Safe P (tbx x) E (X x) Jt Q L0 w0 (.c f p :: K) .normal (S x) := by
  obtain ⟨body, hb⟩ := isLoop_some hl
  exact safe_loop hb k hk hwf S X tbx htb μ hround
end
end Go.Proofs.Ytloaehlgcgpieaa.Sx
