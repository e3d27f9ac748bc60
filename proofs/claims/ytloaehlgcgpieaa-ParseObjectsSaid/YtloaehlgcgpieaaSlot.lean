/-
  Slices for the reckoner: slots, what is read of them. Conditions: stated at each theorem.
-/
import Derived.Test.YtloaehlgcgpieaaMethT
set_option linter.all false
namespace Go.Proofs.Ytloaehlgcgpieaa.Sx
open Go.RowKit Go.Proofs.Ytloaehlgcgpieaa

def SlV.S : SlV → Nat | .ints S _ _ _ => S | .bools S _ _ => S
def SlV.e : SlV → Nat | .ints _ e _ _ => e | .bools _ e _ => e
def SlV.len : SlV → Nat | .ints _ _ _ xs => xs.length | .bools _ _ bs => bs.length
def SlV.vals : SlV → List Value | .ints _ _ k xs => xs.map (.int k) | .bools _ _ bs => bs.map .bool
def SlV.cut : SlV → Nat → Nat → SlV | .ints S e k xs, l, h => .ints S e k ((xs.take h).drop l) | .bools S e bs, l, h => .bools S e ((bs.take h).drop l)
theorem vals_len (v : SlV) : v.vals.length = v.len := by cases v <;> simp [SlV.vals, SlV.len]
theorem cut_vals (v : SlV) (l h : Nat) : (v.cut l h).vals = (v.vals.take h).drop l := by
  cases v <;> simp [SlV.cut, SlV.vals, List.map_take, List.map_drop]
theorem cut_len {v : SlV} {l h : Nat} (h1 : h ≤ v.len) : (v.cut l h).len = h - l := by
  rw [← vals_len, cut_vals, List.length_drop, List.length_take, vals_len, Nat.min_eq_left h1]
theorem cut_S (v : SlV) (l h : Nat) : (v.cut l h).S = v.S ∧ (v.cut l h).e = v.e := by cases v <;> exact ⟨rfl, rfl⟩
theorem vals_one (v : SlV) : ∀ y, y ∈ v.vals → y.oneCell' = true := by
  cases v <;> (intro y hy; obtain ⟨z, _, rfl⟩ := List.mem_map.1 hy; rfl)

/-- The types of a slice. -/
structure SlT (v : SlV) : Prop where
  elt : ∃ bytes z, Elt Try.prog v.S v.e 1 bytes z ∧ bytes ≤ 64
  sz : ∀ w, (sizeOf v.e).run Try.prog w = .ok 1 w
  ag : ∀ w, (isAgg v.e).run Try.prog w = .ok false w

structure SlotOK (w : World) (s : Nat → Nat) (q : Sl) : Prop where
  own : q.own = true → w.ownsRow 0 q.v.e 1 (.slice (oad s q.nm) q.v.len (s (q.nm + 2))) q.v.len q.v.vals
  cell : ∀ j v, q.v.vals[j]? = some v → ∃ b o, oad s q.nm = some ⟨b, o, none⟩ ∧ w.cell? ⟨b, o + j, none⟩ = some v
  nil : oad s q.nm = none → s (q.nm + 2) = 0
  len : s (q.nm + 3) = q.v.len
  cap : q.v.len ≤ s (q.nm + 2)
  small : q.v.len ≤ 1000000
  ty : SlT q.v

def sblk (s : Nat → Nat) (q : Sl) : List Nat := ((oad s q.nm).map (·.block)).toList

theorem SlotOK.st {w w' : World} {s : Nat → Nat} {q : Sl} (h : SlotOK w s q) (hb : ∀ b, b ∈ sblk s q → w'.heap[b]? = w.heap[b]?) : SlotOK w' s q := by
  refine ⟨fun ho => ⟨(h.own ho).1, ?_⟩, fun j v hv => ?_, h.nil, h.len, h.cap, h.small, h.ty⟩
  · rcases (h.own ho).2 with h4 | ⟨g, cap, cur, hv, hbase, hh, hr⟩
    · exact .inl h4
    · refine .inr ⟨g, cap, cur, hv, hbase, (hb g ?_).trans hh, hr⟩
      injection hv with h1
      simp [sblk, h1]
  · obtain ⟨b, o, h1, h2⟩ := h.cell j v hv
    refine ⟨b, o, h1, ?_⟩
    have := hb b (by simp [sblk, h1])
    rw [← h2]
    simp only [World.cell?, this]

def slotsX (s : Nat → Nat) (sl : List Sl) : Ext := ⟨sl.flatMap (sblk s), fun w => ∀ q, q ∈ sl → SlotOK w s q, fun w w' h hb _ q hq => (h q hq).st fun b hb' => hb b (List.mem_flatMap.2 ⟨q, hq, hb'⟩), (sl.filter (·.own)).flatMap (sblk s),
  fun b hb => by
    obtain ⟨q, hq, hb⟩ := List.mem_flatMap.1 hb
    exact List.mem_flatMap.2 ⟨q, (List.mem_filter.1 hq).1, hb⟩⟩
theorem mem_W {s : Nat → Nat} {sl : List Sl} {b : Nat} : b ∈ (slotsX s sl).W ↔ ∃ q, q ∈ sl ∧ q.own = true ∧ b ∈ sblk s q := by
  constructor
  · intro h
    obtain ⟨q, hq, hb⟩ := List.mem_flatMap.1 h
    obtain ⟨h1, h2⟩ := List.mem_filter.1 hq
    exact ⟨q, h1, h2, hb⟩
  · rintro ⟨q, h1, h2, hb⟩
    exact List.mem_flatMap.2 ⟨q, List.mem_filter.2 ⟨h1, h2⟩, hb⟩
theorem mem_B {s : Nat → Nat} {sl : List Sl} {b : Nat} : b ∈ (slotsX s sl).B ↔ ∃ q, q ∈ sl ∧ b ∈ sblk s q := List.mem_flatMap

def Apart (s : Nat → Nat) (a b : Sl) : Prop := (a.own = true ∨ b.own = true) → ∀ g, g ∈ sblk s a → g ∉ sblk s b
theorem Apart.symm {s : Nat → Nat} {a b : Sl} (h : Apart s a b) : Apart s b a := fun ho g hg hg' => h ho.symm g hg' hg
structure SlotsIn (nm : List Nat) (s : Nat → Nat) (sl : List Sl) : Prop where
  names : ∀ q, q ∈ sl → ∀ d, d < 4 → q.nm + d ∈ nm
  apart : sl.Pairwise (Apart s)

def famB : Fam := fun gh s x => x = slotsX s gh.sl ∧ SlotsIn gh.nm s gh.sl

def getSl : Nat → List Sl → Option Sl
  | _, [] => none
  | i, q :: r => if Nat.beq q.nm i = true then some q else getSl i r

theorem getSl_some {i : Nat} {q : Sl} : ∀ {l : List Sl}, getSl i l = some q → q ∈ l ∧ q.nm = i
  | [], h => by cases h
  | x :: r, h => by
    unfold getSl at h
    split at h
    · rename_i e
      injection h with h
      subst h
      exact ⟨List.mem_cons_self, Nat.eq_of_beq_eq_true e⟩
    · have := getSl_some h
      exact ⟨List.mem_cons_of_mem _ this.1, this.2⟩

/-- Names that are kept. -/
theorem oad_res {nm : List Nat} {σ : Nat → Nat} {n : Nat} (h : ∀ d, d < 4 → n + d ∈ nm) : oad (res nm σ) n = oad σ n ∧ ∀ d, d < 4 → res nm σ (n + d) = σ (n + d) := by
  have hn : ∀ d, d < 4 → res nm σ (n + d) = σ (n + d) := fun d hd => res_in (h d hd)
  have h0 := hn 0 (by omega)
  have h1 := hn 1 (by omega)
  simp only [Nat.add_zero] at h0
  exact ⟨by simp only [oad, h0, h1], hn⟩
theorem SlotOK.names {w : World} {s s' : Nat → Nat} {q : Sl} (h : SlotOK w s q) (hd : ∀ d, d < 4 → s' (q.nm + d) = s (q.nm + d)) : SlotOK w s' q := by
  have h0 := hd 0 (by omega)
  have h1 := hd 1 (by omega)
  have h2 := hd 2 (by omega)
  have h3 := hd 3 (by omega)
  simp only [Nat.add_zero] at h0
  have ho : oad s' q.nm = oad s q.nm := by simp only [oad, h0, h1]
  refine ⟨fun hh => ?_, fun j v hv => ?_, fun hh => ?_, ?_, ?_, h.small, h.ty⟩
  · rw [ho, h2]; exact h.own hh
  · rw [ho]; exact h.cell j v hv
  · rw [ho] at hh; rw [h2]; exact h.nil hh
  · rw [h3]; exact h.len
  · rw [h2]; exact h.cap
theorem sblk_names {s s' : Nat → Nat} {q : Sl} (hd : ∀ d, d < 4 → s' (q.nm + d) = s (q.nm + d)) : sblk s' q = sblk s q := by
  have h0 := hd 0 (by omega)
  have h1 := hd 1 (by omega)
  simp only [Nat.add_zero] at h0
  simp only [sblk, oad, h0, h1]

/-- A slot as it is found. -/
theorem slot_of {E : Nat → Row} {L0 : List Nat} {w0 : WM} {σ : Nat → Nat} {j : Nat} {gh : Gh} {mem : List (Option Blk)} {x : Ext} {w : World} (h : Mx E famB L0 w0 σ gh mem x w) {q : Sl} (hq : getSl j gh.sl = some q) :
    SlotOK w σ q ∧ q.nm = j ∧ q ∈ gh.sl := by
  obtain ⟨rfl, hin⟩ := h.fam
  obtain ⟨hq1, hq2⟩ := getSl_some hq
  exact ⟨(h.mok.ext q hq1).names fun d hd => ((oad_res (hin.names q hq1)).2 d hd).symm, hq2, hq1⟩

/-- A slice that may be read. -/
structure RdV (w : World) (u : Value) (v : SlV) : Prop where
  ex : ∃ ad c, u = .slice ad v.len c ∧ (ad = none → c = 0) ∧ v.len ≤ c ∧ (∀ a, ad = some a → a.spot = none ∧ a.block < w.heap.size) ∧ ∀ j x, v.vals[j]? = some x → ∃ b o, ad = some ⟨b, o, none⟩ ∧ w.cell? ⟨b, o + j, none⟩ = some x
  small : v.len ≤ 1000000
  ty : SlT v

theorem oad_path {σ : Nat → Nat} {i : Nat} {a : Addr} (h : oad σ i = some a) : a.spot = none := by
  unfold oad at h
  split at h
  · cases h
  · injection h with h
    subst h
    rfl

/-- What a value shows of the slots: whose, its types and elements, and whether it lies within. -/
def rd (sl : List Sl) : A → Option (Sl × SlV × Bool)
  | .os j => match getSl j sl with
    | some q => some (q, q.v, true)
    | none => none
  | .vw j l h => match getSl j sl with
    | some q => some (q, q.v.cut l h, decide (l ≤ h ∧ h ≤ q.v.len))
    | none => none
  | .sub (.os j) l h m 1 => match getSl j sl with
    | some q => some (q, q.v.cut l h, decide (l ≤ h ∧ h ≤ m ∧ m ≤ q.v.len))
    | none => none
  | _ => none

theorem SlotOK.at_ {w : World} {s : Nat → Nat} {q : Sl} (h : SlotOK w s q) {k : Nat} (hk : k < q.v.len) : ∃ b o, oad s q.nm = some ⟨b, o, none⟩ := by
  have h0 : 0 < q.v.vals.length := by rw [vals_len]; omega
  obtain ⟨b, o, h1, _⟩ := h.cell 0 _ (List.getElem?_eq_getElem h0)
  exact ⟨b, o, h1⟩

theorem cut_T {v : SlV} (h : SlT v) (l r : Nat) : SlT (v.cut l r) := by
  obtain ⟨h1, h2⟩ := cut_S v l r
  exact ⟨by rw [h1, h2]; exact h.elt, by rw [h2]; exact h.sz, by rw [h2]; exact h.ag⟩

theorem slv_rd {w : World} {σ : Nat → Nat} {q : Sl} (hs : SlotOK w σ q) (hb : ∀ b, b ∈ sblk σ q → b < w.heap.size) {l h m : Nat} (h1 : l ≤ h) (h2 : h ≤ q.v.len) (h3 : h ≤ m) (h4 : m ≤ σ (q.nm + 2)) (n c : Nat) : RdV w (slv l h m 1 (.slice (oad σ q.nm) n c)) (q.v.cut l h) := by
  have hlen := cut_len (v := q.v) (l := l) h2
  refine ⟨⟨if m = l then oad σ q.nm else (oad σ q.nm).map (·.add (l * 1)), m - l, by rw [hlen]; rfl, ?_, by omega, ?_, ?_⟩, by have := hs.small; omega, cut_T hs.ty l h⟩
  · intro hn
    split at hn
    · omega
    · have hn : oad σ q.nm = none := by simpa using hn
      have := hs.nil hn
      omega
  · intro a ha
    split at ha
    · exact ⟨oad_path ha, hb _ (by simp [sblk, ha])⟩
    · simp only [Option.map_eq_some_iff] at ha
      obtain ⟨a0, h0, rfl⟩ := ha
      have h1 := oad_path h0
      have h2 := hb a0.block (by simp [sblk, h0])
      unfold Addr.add
      split <;> simp_all
  · intro j x hj
    have hjl : j < h - l := by
      have := (List.getElem?_eq_some_iff.1 hj).1
      rw [vals_len, hlen] at this
      exact this
    rw [cut_vals, List.getElem?_drop, List.getElem?_take, if_pos (by omega)] at hj
    obtain ⟨b, o, h5, h6⟩ := hs.cell _ x hj
    refine ⟨b, o + l, ?_, by rw [Nat.add_assoc]; exact h6⟩
    rw [if_neg (by omega), h5]
    simp [Addr.add]

theorem os_rd {w : World} {σ : Nat → Nat} {q : Sl} (hs : SlotOK w σ q) (hb : ∀ b, b ∈ sblk σ q → b < w.heap.size) : RdV w (.slice (oad σ q.nm) (σ (q.nm + 3)) (σ (q.nm + 2))) q.v :=
  ⟨⟨oad σ q.nm, σ (q.nm + 2), by rw [hs.len], hs.nil, hs.cap, fun a ha => ⟨oad_path ha, hb _ (by simp [sblk, ha])⟩, hs.cell⟩, hs.small, hs.ty⟩

theorem slot_lt {E : Nat → Row} {L0 : List Nat} {w0 : WM} {σ : Nat → Nat} {gh : Gh} {mem : List (Option Blk)} {x : Ext} {w : World} (hm : Mx E famB L0 w0 σ gh mem x w) {q : Sl} (hq : q ∈ gh.sl) : ∀ b, b ∈ sblk σ q → b < w.heap.size := fun b hb => by
  obtain ⟨rfl, hin⟩ := hm.fam
  refine hm.mok.extB b (mem_B.2 ⟨q, hq, ?_⟩)
  rw [sblk_names (oad_res (hin.names q hq)).2]
  exact hb

theorem rd_den {E : Nat → Row} {L0 : List Nat} {w0 : WM} {σ : Nat → Nat} {gh : Gh} {mem : List (Option Blk)} {x : Ext} {w : World} (hm : Mx E famB L0 w0 σ gh mem x w) {y : A} {q : Sl} {v : SlV} (h : rd gh.sl y = some (q, v, true)) :
    RdV w (y.den E σ) v := by
  unfold rd at h
  split at h
  · rename_i j
    split at h
    · rename_i q' hq
      injection h with h
      injection h with h1 h2
      injection h2 with h2 h3
      subst h1 h2
      obtain ⟨hs, hn, hi⟩ := slot_of hm hq
      have := os_rd hs (slot_lt hm hi)
      rw [hn] at this
      exact this
    · cases h
  · rename_i j l r
    split at h
    · rename_i q' hq
      injection h with h
      injection h with h1 h2
      injection h2 with h2 h3
      subst h1 h2
      obtain ⟨hs, hn, hi⟩ := slot_of hm hq
      have h3 := of_decide_eq_true h3
      have := slv_rd hs (slot_lt hm hi) h3.1 h3.2 (by have := hs.cap; omega) (Nat.le_refl _) (σ (j + 3)) (σ (j + 2))
      rw [hn] at this
      exact this
    · cases h
  · rename_i j l r m
    split at h
    · rename_i q' hq
      injection h with h
      injection h with h1 h2
      injection h2 with h2 h3
      subst h1 h2
      obtain ⟨hs, hn, hi⟩ := slot_of hm hq
      have h3 := of_decide_eq_true h3
      have := slv_rd hs (slot_lt hm hi) h3.1 (by omega) h3.2.1 (by have := hs.cap; omega) (σ (j + 3)) (σ (j + 2))
      rw [hn] at this
      exact this
    · cases h
  · cases h

theorem aft_pure {E : Nat → Row} {X : Fam} {L0 : List Nat} {w0 : WM} {σ : Nat → Nat} {gh : Gh} {mem : List (Option Blk)} {x : Ext} {w : World} (hm : Mx E X L0 w0 σ gh mem x w) {v : SV} (hep : ∀ q k off, v ≠ .c (.one (.ep q k off))) : Aft E X L0 w0 σ mem x w ⟨some v, [], gh, false, none⟩ (v.den E σ) w :=
  ⟨σ, fun v' hv' => by injection hv' with hv'; subst hv'; exact ⟨rfl, fun q k off hh => (hep q k off hh).elim⟩, by rw [CR.mem_nil]; exact ⟨x, hm⟩, fun _ _ => rfl, Keep.refl _ _⟩

/-- What an operation yields that writes nothing. -/
theorem wp_yields {P : Program} {a : Act} {w w' : World} {o : Oper} {v : Value} {K : Act → World → Prop} {Qk : Exit → Act → World → Prop} (h : (execOp a.eval o).run P w = .ok (.value v) w') (hK : K (a.put o.dst v) w') : o.wp P a w K Qk := by
  unfold Oper.wp
  rw [h, Oper.upon_value]
  exact hK

theorem addr_add {b o f : Nat} : (Addr.add ⟨b, o, none⟩ f) = ⟨b, o + f, none⟩ := by unfold Addr.add; split <;> simp_all
def SlV.at? : SlV → Nat → Option A
  | .ints _ _ k xs, i => some (.v (.int k (xs.getD i 0)))
  | .bools _ _ bs, i => some (.v (.bool (bs.getD i false)))
theorem at_some {v : SlV} {i : Nat} {y : A} (h : v.at? i = some y) (hi : i < v.len) (E : Nat → Row) (σ : Nat → Nat) : v.vals[i]? = some (y.den E σ) ∧ (∀ q k off, y ≠ .ep q k off) := by
  cases v with
  | ints S e k xs =>
    injection h with h
    subst h
    have hi : i < xs.length := hi
    exact ⟨by simp [SlV.vals, A.den, List.getElem?_eq_getElem hi], fun _ _ _ hh => by cases hh⟩
  | bools S e xs =>
    injection h with h
    subst h
    have hi : i < xs.length := hi
    exact ⟨by simp [SlV.vals, A.den, List.getElem?_eq_getElem hi], fun _ _ _ hh => by cases hh⟩
end Go.Proofs.Ytloaehlgcgpieaa.Sx
