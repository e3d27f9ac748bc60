/-
  Laws of no program, which the walks below use: a block of cells whose content is known whole; what a run of copy, append, clear does to it;
  what a call leaves alone ('Keep'). Conditions: stated at each theorem.
-/
import Derived.WalkKit
import Derived.WalkSpells
import Derived.WalkLawsBesides
import Derived.KernelRfl
import Derived.Laws.IdiomCopy
import Derived.Lib.JoinLaws
import Derived.Lib.AppendZeros
import Derived.Lib.AppendZerosOnto
import Derived.Lib.Overlaps
import Derived.Lib.SliceRun
import Derived.Lib.Hide
import Derived.Deep.AppendSrc
import Derived.Deep.RegionLaw
import Derived.Maps.AppendAt
namespace Go.Proofs.Ytloaehlgcgpieaa
open Go.RowKit

/-- The cells with 'ys' written from place o on. -/
def spl (arr : Array Value) (o : Nat) (ys : List Value) : Array Value := (arr.toList.take o ++ ys ++ arr.toList.drop (o + ys.length)).toArray

theorem spl_size (arr : Array Value) (o : Nat) (ys : List Value) (h : o + ys.length ≤ arr.size) : (spl arr o ys).size = arr.size := by
  simp [spl]; omega

theorem spl_nil (arr : Array Value) (o : Nat) : spl arr o [] = arr := by
  apply Array.ext'
  simp [spl]

theorem spl_cons (arr : Array Value) (o : Nat) (y : Value) (ys : List Value) (h : o < arr.size) :
    spl (arr.setIfInBounds o y) (o + 1) ys = spl arr o (y :: ys) := by
  have hl : o < arr.toList.length := by simpa using h
  apply Array.ext'
  simp only [spl, Array.toList_setIfInBounds, List.length_cons]
  rw [List.take_succ_eq_append_getElem (by simpa using hl), List.getElem_set_self, List.take_set_of_le (Nat.le_refl _), List.drop_set_of_lt (by omega), show o + 1 + ys.length = o + (ys.length + 1) by omega]
  simp

section
variable {w : World} {b : Nat} {arr : Array Value} {e : TypeId}

theorem blk_cell {fr : Nat × Nat} (h : w.heap[b]? = some (.cells arr e fr)) (j : Nat) : w.cell? ⟨b, j, none⟩ = arr[j]? := by
  simp [World.cell?, h]

theorem blk_frozen (h : w.heap[b]? = some (.cells arr e (0, 0))) (j : Nat) : w.frozen? ⟨b, j, none⟩ = false := by
  simp [World.frozen?, h]

theorem blk_shape {fr : Nat × Nat} (h : w.heap[b]? = some (.cells arr e fr)) : w.shape? b = some (e, arr.size) := by
  simp [World.shape?, h]

theorem blk_lt {o : Obj} (h : w.heap[b]? = some o) : b < w.heap.size := by
  rcases Nat.lt_or_ge b w.heap.size with h' | h'
  · exact h'
  · rw [Array.getElem?_eq_none h'] at h; cases h

theorem setCell_heap {fr : Nat × Nat} (h : w.heap[b]? = some (.cells arr e fr)) (j : Nat) (v : Value) :
    (w.setCell ⟨b, j, none⟩ v).heap[b]? = some (.cells (arr.setIfInBounds j v) e fr) := by
  simp [World.setCell, Array.getElem?_modify, h]

theorem setCell_other {k : Nat} (a : Addr) (v : Value) (hk : k ≠ a.block) : (w.setCell a v).heap[k]? = w.heap[k]? :=
  Below.heap_setCell w a v k hk
end

theorem setCells_heap (b : Nat) (e : TypeId) (fr : Nat × Nat) : ∀ (vs : List Value) (o : Nat) (w : World) (arr : Array Value), w.heap[b]? = some (.cells arr e fr) → o + vs.length ≤ arr.size →
    (w.setCells b o vs).heap[b]? = some (.cells (spl arr o vs) e fr)
  | [], o, w, arr, h, _ => by rw [spl_nil]; exact h
  | v :: r, o, w, arr, h, hl => by
    simp only [List.length_cons] at hl
    rw [World.setCells, setCells_heap b e fr r (o + 1) _ _ (setCell_heap h o v) (by simp; omega), spl_cons _ _ _ _ (by omega)]

theorem setCells_grown (b : Nat) : ∀ (vs : List Value) (o : Nat) (w : World), w.grownBy (w.setCells b o vs) (some b)
  | [], _, w => ⟨rfl, rfl, rfl, Nat.le_refl _, fun _ _ _ => rfl⟩
  | v :: r, o, w => by
    have h1 : w.grownBy (w.setCell ⟨b, o, none⟩ v) (some b) := ⟨rfl, rfl, rfl, by simp, fun k _ hk => setCell_other _ _ (fun hh => hk (by rw [hh]))⟩
    have h2 := setCells_grown b r (o + 1) (w.setCell ⟨b, o, none⟩ v)
    exact ⟨h2.os.trans h1.os, h2.tape.trans h1.tape, h2.output.trans h1.output, Nat.le_trans h1.size h2.size, fun k hk hne => (h2.block k (Nat.lt_of_lt_of_le hk h1.size) hne).trans (h1.block k hk hne)⟩

theorem setCells_size (b : Nat) : ∀ (vs : List Value) (o : Nat) (w : World), (w.setCells b o vs).heap.size = w.heap.size
  | [], _, _ => rfl
  | v :: r, o, w => by rw [World.setCells, setCells_size]; simp

/-! ### What a call leaves alone: all blocks that lay there but those of S. -/
structure Keep (S : List Nat) (w w' : World) : Prop where
  os : w'.os = w.os
  tape : w'.tape = w.tape
  output : w'.output = w.output
  size : w.heap.size ≤ w'.heap.size
  block : ∀ k, k < w.heap.size → k ∉ S → w'.heap[k]? = w.heap[k]?

theorem Keep.refl (S : List Nat) (w : World) : Keep S w w := ⟨rfl, rfl, rfl, Nat.le_refl _, fun _ _ _ => rfl⟩
theorem Keep.trans {S : List Nat} {a b c : World} (h : Keep S a b) (k : Keep S b c) : Keep S a c :=
  ⟨k.os.trans h.os, k.tape.trans h.tape, k.output.trans h.output, Nat.le_trans h.size k.size, fun i hi hn => (k.block i (Nat.lt_of_lt_of_le hi h.size) hn).trans (h.block i hi hn)⟩
/-- A later step may write what is new besides. -/
theorem Keep.trans' {S T : List Nat} {a b c : World} (h : Keep S a b) (k : Keep T b c) (hT : ∀ i, i ∈ T → i ∈ S ∨ a.heap.size ≤ i) : Keep S a c :=
  ⟨k.os.trans h.os, k.tape.trans h.tape, k.output.trans h.output, Nat.le_trans h.size k.size, fun i hi hn =>
    (k.block i (Nat.lt_of_lt_of_le hi h.size) (fun hm => (hT i hm).elim hn (fun hge => by omega))).trans (h.block i hi hn)⟩
theorem Keep.mono {S T : List Nat} {a b : World} (h : Keep S a b) (hs : ∀ i, i ∈ S → i ∈ T) : Keep T a b :=
  ⟨h.os, h.tape, h.output, h.size, fun i hi hn => h.block i hi (fun hm => hn (hs i hm))⟩
theorem Keep.of_grown {a b : World} {r : Option Nat} (h : a.grownBy b r) : Keep r.toList a b :=
  ⟨h.os, h.tape, h.output, h.size, fun i hi hn => h.block i hi (fun hm => hn (by rw [← hm]; simp))⟩
theorem Keep.below {S : List Nat} {a b : World} (h : Keep S a b) {B : Nat} (hB : B ≤ a.heap.size) (hS : ∀ i, i ∈ S → B ≤ i) : Below B a b :=
  ⟨h.os, h.tape, h.output, h.size, fun k hk => h.block k (by omega) (fun hm => by have := hS k hm; omega)⟩
theorem Keep.of_below {a b : World} (h : Below a.heap.size a b) (S : List Nat) : Keep S a b :=
  ⟨h.os, h.tape, h.output, h.size, fun k hk _ => h.block k hk⟩
theorem Keep.alloc (S : List Nat) (w : World) (o : Obj) : Keep S w (w.alloc o) := Keep.of_below ((Below.refl _ _).alloc (Nat.le_refl _) _) S
theorem Keep.drew (S : List Nat) (w : World) : Keep S w w.drew := ⟨rfl, rfl, rfl, Nat.le_refl _, fun _ _ _ => rfl⟩
theorem Keep.setCell {S : List Nat} (w : World) (a : Addr) (v : Value) (h : a.block ∈ S) : Keep S w (w.setCell a v) :=
  ⟨rfl, rfl, rfl, by simp, fun k _ hn => setCell_other _ _ (fun hh => hn (by rw [hh]; exact h))⟩
theorem Keep.heap {S : List Nat} {a b : World} (h : Keep S a b) {k : Nat} {o : Obj} (hk : a.heap[k]? = some o) (hn : k ∉ S) : b.heap[k]? = some o :=
  (h.block k (blk_lt hk) hn).trans hk
theorem Keep.cell {S : List Nat} {a b : World} (h : Keep S a b) {x : Addr} {v : Value} (hk : a.cell? x = some v) (hn : x.block ∉ S) : b.cell? x = some v :=
  (World.cell?_of_block (h.block x.block (World.block_lt_of_cell? a x hk) hn)).trans hk
theorem Keep.row {S : List Nat} {a b : World} (h : Keep S a b) {base : Nat} {e : TypeId} {sz : Nat} {v : Value} {n : Nat} {xs : List Value} (ho : a.ownsRow base e sz v n xs) (hn : ∀ g, v.ownBlock = some g → g ∉ S) : b.ownsRow base e sz v n xs := by
  obtain ⟨h1, h2⟩ := ho
  refine ⟨h1, ?_⟩
  rcases h2 with h2 | ⟨g, cap, cur, rfl, hb, hh, r⟩
  · exact .inl h2
  · exact .inr ⟨g, cap, cur, rfl, hb, h.heap hh (hn g rfl), r⟩

/-! ### An argument that is a slice and is only read. -/
/-- 'u' is a slice of m elements (sz cells each) that read ys; where there is one, it lies in block b. -/
def Arg (w : World) (sz : Nat) (u : Value) (m : Nat) (ys : List Value) (away : Option Nat) : Prop :=
  ys.length = m * sz ∧ (∀ y ∈ ys, y.oneCell' = true) ∧
  ((m = 0 ∧ ∃ a c, u = .slice a 0 c ∧ (a = none → c = 0)) ∨
   (0 < m ∧ ∃ b off c, u = .slice (some ⟨b, off, none⟩) m c ∧ (∀ j v, ys[j]? = some v → w.cell? ⟨b, off + j, none⟩ = some v) ∧ some b ≠ away))

theorem Arg.keep {S : List Nat} {a b : World} {sz : Nat} {u : Value} {m : Nat} {ys : List Value} {r r' : Option Nat} (hpos : 0 < sz) (h : Arg a sz u m ys r) (k : Keep S a b)
    (hS : ∀ c, c < a.heap.size → c ∉ S ∧ some c ≠ r') : Arg b sz u m ys r' := by
  obtain ⟨h1, h2, h3⟩ := h
  refine ⟨h1, h2, ?_⟩
  rcases h3 with h3 | ⟨hm, c, off, cp, rfl, hc, hne⟩
  · exact .inl h3
  · have hl : 0 < ys.length := by rw [h1]; exact Nat.mul_pos hm hpos
    have h0 := World.block_lt_of_cell? _ _ (hc 0 ys[0] (List.getElem?_eq_getElem hl))
    have := hS c h0
    exact .inr ⟨hm, c, off, cp, rfl, fun j v hj => k.cell (hc j v hj) this.1, this.2⟩

/-! ### Runs of the builtins. -/
section
variable {P : Program}

theorem run_copy_blk (w : World) (dT sT ty e : TypeId) (i : TypeInfo) (ht : P.underlying dT = some (.slice e)) (hi : P.info? e = some i) (b o dLen dCap : Nat) (arr : Array Value) (te : TypeId)
    (hb : w.heap[b]? = some (.cells arr te (0, 0))) (a : Addr) (sLen sCap : Nat) (cs : List Value) (hcl : cs.length = Nat.min sLen dLen * i.size)
    (hsrc : ∀ j v, cs[j]? = some v → w.cell? (a.add j) = some v) (hfit : o + cs.length ≤ arr.size) (h1 : ∀ v ∈ cs, v.oneCell' = true) :
    (Builtin.copy_ #[dT, sT] ty #[.slice (some ⟨b, o, none⟩) dLen dCap, .slice (some a) sLen sCap]).run P w = .ok (goInt (Nat.min sLen dLen)) (w.setCells b o cs) := by
  have hl := run_loadCells_list (P := P) w a cs hsrc
  have hst := run_storeCells_cells (P := P) b o cs 0 w
    (fun j hj => by rw [blk_cell hb, Nat.add_zero, Array.getElem?_eq_getElem (by omega)]; rfl) (fun j hj => blk_frozen hb _) h1
  simp only [Nat.add_zero] at hst
  simp [Builtin.copy_, run_underlying ht, Builtin.lenOf, Builtin.firstCells, sizeOf, typeInfo, hi, ← hcl, hl, hst]

/-- .. where nothing goes over. -/
theorem run_copy_zero (w : World) (dT sT ty e : TypeId) (i : TypeInfo) (ht : P.underlying dT = some (.slice e)) (hi : P.info? e = some i) (d a : Option Addr) (dLen dCap sLen sCap : Nat) (hn : Nat.min sLen dLen = 0) :
    (Builtin.copy_ #[dT, sT] ty #[.slice d dLen dCap, .slice a sLen sCap]).run P w = .ok (goInt 0) w := by
  have hl : ∀ (x : Addr), (loadCells x 0).run P w = .ok #[] w := fun x => by simpa using run_loadCells_list (P := P) w x [] (by simp)
  cases d <;> cases a <;> simp [Builtin.copy_, run_underlying ht, Builtin.lenOf, Builtin.firstCells, sizeOf, typeInfo, hi, hn, storeCells, hl]

theorem zeroCells_length (z : Array Value) (n : Nat) : (Builtin.zeroCells z n).size = n * z.size := by simp [Builtin.zeroCells]

theorem zeroCells_one (z : Array Value) (hz : ∀ v ∈ z, v.oneCell' = true) (n : Nat) : ∀ v ∈ (Builtin.zeroCells z n).toList, v.oneCell' = true := by
  intro v hv
  simp only [Builtin.zeroCells, Array.toList_map, List.mem_map] at hv
  obtain ⟨i, hi, rfl⟩ := hv
  have : 0 < z.size := by
    rcases Nat.eq_zero_or_pos z.size with h | h
    · rw [h] at hi; simp at hi
    · exact h
  rw [getElem!_pos z _ (Nat.mod_lt _ this)]
  exact hz _ (Array.getElem_mem _)

/-- 'clear(s)': zero values over its n elements. -/
theorem run_clear_blk (w : World) (t e ty : TypeId) (i : TypeInfo) (z : Value) (ht : P.underlying t = some (.slice e)) (hi : P.info? e = some i) (hz : i.zero = some z) (h1 : ∀ v ∈ z.cells, v.oneCell' = true)
    (b o n c : Nat) (arr : Array Value) (te : TypeId) (hb : w.heap[b]? = some (.cells arr te (0, 0))) (hn : 0 < n) (hfit : o + n * z.cells.size ≤ arr.size) :
    (Builtin.clear_ #[t] ty #[.slice (some ⟨b, o, none⟩) n c]).run P w = .ok (.tuple #[]) (w.setCells b o (Builtin.zeroCells z.cells n).toList) := by
  have hlen : (Builtin.zeroCells z.cells n).toList.length = n * z.cells.size := by rw [Array.length_toList, zeroCells_length]
  have hst := run_storeCells_cells (P := P) b o (Builtin.zeroCells z.cells n).toList 0 w
    (fun j hj => by rw [blk_cell hb, Nat.add_zero, Array.getElem?_eq_getElem (by omega)]; rfl) (fun j hj => blk_frozen hb _) (zeroCells_one _ h1 n)
  simp only [Nat.add_zero] at hst
  obtain ⟨m, rfl⟩ : ∃ m, n = m + 1 := ⟨n - 1, by omega⟩
  have hzv : (zeroValue e).run P w = .ok z w := by simp [zeroValue, typeInfo, hi, hz]
  simp [Builtin.clear_, run_underlying ht, hzv, hst]

/-- slices.overlaps, of two blocks, the second of them plain and not empty. -/
theorem run_overlaps_two (w : World) (tS tR e : TypeId) (ht : P.underlying tS = some (.slice e)) (i : TypeInfo) (hi : P.info? e = some i)
    (a b : Addr) (la ca lb cb : Nat) (hne : a.block ≠ b.block) (tA : TypeId) (kA : Nat) (hsa : w.shape? a.block = some (tA, kA)) (hkA : kA ≠ 0) (arr : Array Value) (tB : TypeId) (hb : w.heap[b.block]? = some (.cells arr tB (0, 0))) (hkB : arr.size ≠ 0) :
    (Extern.SlicesOverlaps.overlaps #[tS, tS] #[tR] #[.slice (some a) la ca, .slice (some b) lb cb]).run P w = .ok (.bool false) w := by
  have hnb : (a.block != b.block) = true := by simpa using hne
  have hnb' : (a.block == b.block) = false := by simpa using hne
  have hsb := blk_shape hb
  have hfb : ∀ j s, w.frozen? ⟨b.block, j, s⟩ = false := fun j s => by simp [World.frozen?, hb]
  have hfb' : w.frozen? b = false := hfb b.off b.spot
  change Sem.run P (α := Value) (do
    let some t := (#[tS, tS] : Array TypeId)[0]? | stuck "slices.overlaps: no parameter types"
    let .slice elem ← underlying t | stuck "slices.overlaps: slice type expected"
    let size ← sizeOf elem
    match (some a : Option Addr), (some b : Option Addr) with
    | some a, some b =>
      if la = 0 ∨ lb = 0 ∨ size = 0 then pure (Value.bool false)
      else if a.block != b.block && (← frozen a) && (← frozen b) then unsupported .addressObserved
      else do
        if a.block != b.block then do
          noView a; noView b
          if ← mayBeOne a b then return Value.bool ((← choose (.extern "sameAddr.stringBytes" 2)) == 1)
        pure (Value.bool (a.block == b.block && a.off < b.off + lb * size && b.off < a.off + la * size))
    | _, _ => pure (Value.bool false)) w = _
  have hz : ∀ w, (Go.sizeOf e).run P w = .ok i.size w := fun w => by simp [sizeOf, typeInfo, hi]
  by_cases h0 : la = 0 ∨ lb = 0 ∨ i.size = 0
  · simp [run_underlying ht, hz, h0]
  · obtain ⟨kA, rfl⟩ : ∃ k, kA = k + 1 := ⟨kA - 1, by omega⟩
    obtain ⟨kB, hkB'⟩ : ∃ k, arr.size = k + 1 := ⟨arr.size - 1, by omega⟩
    rw [hkB'] at hsb
    cases hfa : w.frozen? a <;> cases hfe : w.frozen? { block := a.block, off := kA + 1 } <;>
      simp [run_underlying ht, hz, h0, hnb, hnb', frozen, noView, viewAt, mayBeOne, stringish, shape, Sem.run, hsa, hsb, hfa, hfe, hfb', hfb]
end

/-! ### A builtin whose run is known, as a step of the walk, and of a region that draws. -/
section
variable {P : Program}

theorem wpList_copy_known (w : World) {ops : Array Oper} {rest : List Oper} {o : Oper} {a : Act} {Q : Exit → Act → World → Prop} (hgd : o.guard = none) (d s : Operand) (t t' : TypeId)
    (ho : o.op = .call { callee := .builtin .copy, args := #[d, s], argTypes := #[t, t'] }) (v u : Value) (hd : a.eval d = v) (hs : a.eval s = u) {v' : Value} {w' : World}
    (hr : (Builtin.copy_ #[t, t'] o.type #[v, u]).run P w = .ok v' w') (h : wpList P ops Q rest (a.put o.dst v') w') : wpList P ops Q (o :: rest) a w :=
  wpList_plain hgd fun _ hK => by
    unfold Oper.wp execOp
    simp only [ho, resolve, invoke, builtin, Sem.run_bind, Sem.run_pure, Result.andThen_ok, List.map_toArray, List.map_cons, List.map_nil, hd, hs, hr]
    exact hK _ _ h

theorem step_copy_known {ops : Array Oper} {o : Oper} {a : Act} {w : World} {K : Act → World → Prop} {Q : Exit → Act → World → Prop} {E : Prop}
    (hg : o.guard = none) (d x : Operand) (dT sT : TypeId) (hop : o.op = Op.call { callee := Callee.builtin Builtin.copy, args := #[d, x], argTypes := #[dT, sT] })
    (v u : Value) (hd : a.eval d = v) (hx : a.eval x = u) {v' : Value} {w' : World} (hr : (Builtin.copy_ #[dT, sT] o.type #[v, u]).run P w = .ok v' w') (hK : K (a.put o.dst v') w') :
    if Region.wanted o (yielded ops a.tmps) = true then Oper.wp P o a w K Q else E := by
  have hw : Region.wanted o (yielded ops a.tmps) = true := by simp [Region.wanted, hg]
  rw [if_pos hw]
  unfold Oper.wp
  simp [execOp, hop, resolve, invoke, builtin, hd, hx, hr, Result.andThen]
  exact hK

theorem step_append_known {ops : Array Oper} {o : Oper} {a : Act} {w : World} {K : Act → World → Prop} {Q : Exit → Act → World → Prop} {E : Prop}
    (hg : o.guard = none) (d x : Operand) (dT sT : TypeId) (hop : o.op = Op.call { callee := Callee.builtin Builtin.append, args := #[d, x], argTypes := #[dT, sT] })
    (v u : Value) (hd : a.eval d = v) (hx : a.eval x = u) {v' : Value} {w' : World} (hr : (Builtin.append_ #[dT, sT] o.type #[v, u]).run P w = .ok v' w') (hK : K (a.put o.dst v') w') :
    if Region.wanted o (yielded ops a.tmps) = true then Oper.wp P o a w K Q else E := by
  have hw : Region.wanted o (yielded ops a.tmps) = true := by simp [Region.wanted, hg]
  rw [if_pos hw]
  unfold Oper.wp
  simp [execOp, hop, resolve, invoke, builtin, hd, hx, hr, Result.andThen]
  exact hK
end

/-! ### A row of the call's own: what slices.Insert, Delete, Clone make of it. -/
theorem spl_shift {α : Type} (L xs ys : List α) (I M N : Nat) (hx : L.take N = xs) (hI : I ≤ N) (hM : ys.length = M) (hL : N + M ≤ L.length) :
    (((L.take (I + M) ++ xs.drop I ++ L.drop (I + M + (N - I))).take I ++ ys ++ (L.take (I + M) ++ xs.drop I ++ L.drop (I + M + (N - I))).drop (I + M)).take (N + M)) = xs.take I ++ ys ++ xs.drop I := by
  subst hx
  have h1 : (L.take (I + M)).length = I + M := by simp; omega
  have h2 : (L.take (I + M) ++ (L.take N).drop I ++ L.drop (I + M + (N - I))).take I = L.take I := by
    rw [List.append_assoc, List.take_append_of_le_length (by omega), List.take_take, Nat.min_eq_left (by omega)]
  have h3 : (L.take (I + M) ++ (L.take N).drop I ++ L.drop (I + M + (N - I))).drop (I + M) = (L.take N).drop I ++ L.drop (I + M + (N - I)) := by
    rw [List.append_assoc, List.drop_append_of_le_length (by omega), List.drop_of_length_le (by omega), List.nil_append]
  rw [h2, h3, ← List.append_assoc, List.take_append_of_le_length (by simp; omega), List.take_of_length_le (by simp; omega), List.take_take, Nat.min_eq_left (by omega)]

theorem spl_grow {α : Type} (xs ys zs : List α) (I M N : Nat) (hxl : xs.length = N) (hI : I ≤ N) (hM : ys.length = M) :
    ((((xs.take I ++ zs).take I ++ ys ++ (xs.take I ++ zs).drop (I + M)).take (I + M) ++ xs.drop I ++ ((xs.take I ++ zs).take I ++ ys ++ (xs.take I ++ zs).drop (I + M)).drop (I + M + (N - I))).take (N + M)) = xs.take I ++ ys ++ xs.drop I := by
  have h1 : (xs.take I).length = I := by simp; omega
  have h2 : (xs.take I ++ zs).take I = xs.take I := by
    rw [List.take_append_of_le_length (by omega), List.take_of_length_le (by omega)]
  rw [h2]
  have h3 : (xs.take I ++ ys ++ (xs.take I ++ zs).drop (I + M)).take (I + M) = xs.take I ++ ys := by
    rw [List.take_append_of_le_length (by simp; omega), List.take_of_length_le (by simp; omega)]
  rw [h3, List.take_append_of_le_length (by simp; omega), List.take_of_length_le (by simp; omega)]

/-- The facts on an element type: slice type S, element type e, sz cells, 'bytes' bytes, zero value z. -/
structure Elt (P : Program) (S e sz bytes : Nat) (z : Value) : Prop where
  und : P.underlying S = some (.slice e)
  info : (P.info? e).map (fun i => (i.zero, i.size, i.bytes)) = some (some z, sz, bytes)
  zsz : z.cells.size = sz
  zone : ∀ v ∈ z.cells, v.oneCell' = true
  pos : 0 < sz
  bpos : 0 < bytes

section
variable {P : Program} {S e sz bytes : Nat} {z : Value}

theorem mem_take {α : Type} {l : List α} {n : Nat} {x : α} (h : x ∈ l.take n) : x ∈ l := List.mem_of_mem_take h

theorem nmin {a b : Nat} (h : a ≤ b) : Nat.min a b = a := by simp only [Nat.min_def]; split <;> omega

theorem ins_shift_mem (E : Elt P S e sz bytes z) (w : World) (g n c : Nat) (arr : Array Value) (xs : List Value) (hg : w.heap[g]? = some (.cells arr e (0, 0))) (harr : arr.size = c * sz) (hx : arr.toList.take (n * sz) = xs) (h1 : ∀ x ∈ xs, x.oneCell' = true) (hcm : c ≤ maxLen)
    (i m : Nat) (vb voff vc : Nat) (ys : List Value) (hyl : ys.length = m * sz) (hy1 : ∀ y ∈ ys, y.oneCell' = true) (hys : ∀ j v, ys[j]? = some v → w.cell? ⟨vb, voff + j, none⟩ = some v) (hne : vb ≠ g)
    (hi : i < n) (hm : 0 < m) (hroom : n + m ≤ c) :
    (∀ tR lb cb, (Extern.SlicesOverlaps.overlaps #[S, S] #[tR] #[.slice (some ⟨vb, voff, none⟩) m vc, .slice (some ⟨g, (i + m) * sz, none⟩) lb cb]).run P w = .ok (.bool false) w) ∧
    ∃ w1 w2, (∀ ty dc sc, (Builtin.copy_ #[S, S] ty #[.slice (some ⟨g, (i + m) * sz, none⟩) (n + m - (i + m)) dc, .slice (some ⟨g, i * sz, none⟩) (n + m - i) sc]).run P w.drew = .ok (goInt (n - i : Nat)) w1) ∧
      (∀ ty dc, (Builtin.copy_ #[S, S] ty #[.slice (some ⟨g, i * sz, none⟩) (n + m - i) dc, .slice (some ⟨vb, voff, none⟩) m vc]).run P w1 = .ok (goInt m) w2) ∧
      w2.ownsRow 0 e sz (.slice (some ⟨g, 0, none⟩) (n + m) c) (n + m) (xs.take (i * sz) ++ ys ++ xs.drop (i * sz)) ∧ w.grownBy w2 (some g) := by
  obtain ⟨i0, hi0, hz0, hzs, hzb⟩ := info_parts E.info
  have hpos := E.pos
  have hal : arr.toList.length = c * sz := by simpa using harr
  have hN : n * sz + m * sz ≤ c * sz := by rw [← Nat.add_mul]; exact Nat.mul_le_mul_right _ hroom
  have hIN : i * sz + sz ≤ n * sz := by rw [← Nat.succ_mul]; exact Nat.mul_le_mul_right _ hi
  have hms : 0 < m * sz := Nat.mul_pos hm hpos
  have hxl : xs.length = n * sz := by rw [← hx]; simp; omega
  have him : (i + m) * sz = i * sz + m * sz := Nat.add_mul ..
  have hni : (n - i) * sz = n * sz - i * sz := Nat.sub_mul ..
  have hy0 : ∃ v, w.cell? ⟨vb, voff, none⟩ = some v := ⟨ys[0]'(by omega), by simpa using hys 0 (ys[0]'(by omega)) (List.getElem?_eq_getElem (by omega))⟩
  have hsa : ∃ tA kA, w.shape? vb = some (tA, kA) ∧ kA ≠ 0 := by
    obtain ⟨v, hv⟩ := hy0
    unfold World.cell? at hv
    dsimp only at hv
    split at hv
    · rename_i cc ee ff hh
      simp at hv
      have : voff < cc.size := (Array.getElem?_eq_some_iff.1 hv).1
      exact ⟨ee, cc.size, by simp [World.shape?, hh], by omega⟩
    · cases hv
  have hdl : (xs.drop (i * sz)).length = (n - i) * sz := by rw [List.length_drop, hxl, hni]
  have hsp1 : (i + m) * sz + (xs.drop (i * sz)).length ≤ arr.size := by rw [hdl, hni, him, harr]; omega
  refine ⟨fun tR lb cb => ?_, w.drew.setCells g ((i + m) * sz) (xs.drop (i * sz)), (w.drew.setCells g ((i + m) * sz) (xs.drop (i * sz))).setCells g (i * sz) ys, fun ty dc sc => ?_, fun ty dc => ?_, ?_, ?_⟩
  · obtain ⟨tA, kA, hsA, hkA⟩ := hsa
    exact run_overlaps_two w S tR e E.und i0 hi0 ⟨vb, voff, none⟩ ⟨g, (i + m) * sz, none⟩ m vc lb cb hne tA kA hsA hkA arr e hg (by omega)
  · have := run_copy_blk (P := P) w.drew S S ty e i0 E.und hi0 g ((i + m) * sz) (n + m - (i + m)) dc arr e hg ⟨g, i * sz, none⟩ (n + m - i) sc (xs.drop (i * sz))
      (by rw [hdl, hzs]; congr 1; simp only [Nat.min_def]; split <;> omega)
      (fun j v hj => by
        rw [Addr.add_lit, World.cell?_drew, blk_cell hg]
        rw [List.getElem?_drop, ← hx, List.getElem?_take] at hj
        split at hj
        · simpa using hj
        · cases hj) hsp1 (fun v hv => h1 v (List.mem_of_mem_drop hv))
    rw [this]
    congr 2
    simp only [Nat.min_def]; split <;> omega
  · have hw1 := setCells_heap g e (0, 0) (xs.drop (i * sz)) ((i + m) * sz) w.drew arr hg hsp1
    have := run_copy_blk (P := P) (w.drew.setCells g ((i + m) * sz) (xs.drop (i * sz))) S S ty e i0 E.und hi0 g (i * sz) (n + m - i) dc _ e hw1 ⟨vb, voff, none⟩ m vc ys
      (by rw [hyl, hzs, nmin (by omega)])
      (fun j v hj => by
        rw [Addr.add_lit, World.cell?_setCells_out _ _ _ _ _ (fun h _ => absurd h hne), World.cell?_drew]
        exact hys j v hj) (by rw [spl_size _ _ _ hsp1]; omega) hy1
    rw [this]
    congr 2
    rw [nmin (by omega)]
  · have hw1 := setCells_heap g e (0, 0) (xs.drop (i * sz)) ((i + m) * sz) w.drew arr hg hsp1
    have hw2 := setCells_heap g e (0, 0) ys (i * sz) _ _ hw1 (by rw [spl_size _ _ _ hsp1]; omega)
    refine ⟨?_, .inr ⟨g, c, _, rfl, Nat.zero_le _, hw2, hroom, hcm, ?_, ?_⟩⟩
    · simp only [List.length_append, List.length_take, List.length_drop, hxl, hyl, Nat.add_mul]; omega
    · rw [spl_size _ _ _ (by rw [spl_size _ _ _ hsp1]; omega), spl_size _ _ _ hsp1, harr]
    · have := spl_shift arr.toList xs ys (i * sz) (m * sz) (n * sz) hx (by omega) hyl (by omega)
      simp only [spl, hdl, hyl, him, hni, Nat.add_mul]
      exact this
  · exact World.grownBy.trans (World.grownBy.trans (b := w.drew) ⟨rfl, rfl, rfl, Nat.le_refl _, fun _ _ _ => rfl⟩ (setCells_grown g _ _ _)) (setCells_grown g _ _ _)

theorem ins_grow_mem (E : Elt P S e sz bytes z) (tI : Nat) (htI : P.underlying tI = some (.int .i64)) (w : World) (g n c : Nat) (arr : Array Value) (xs : List Value) (hg : w.heap[g]? = some (.cells arr e (0, 0))) (harr : arr.size = c * sz) (hx : arr.toList.take (n * sz) = xs) (h1 : ∀ x ∈ xs, x.oneCell' = true)
    (i m : Nat) (vb voff vc : Nat) (ys : List Value) (hyl : ys.length = m * sz) (hy1 : ∀ y ∈ ys, y.oneCell' = true) (hys : ∀ j v, ys[j]? = some v → w.cell? ⟨vb, voff + j, none⟩ = some v)
    (hi : i < n) (hm : 0 < m) (hnc : n ≤ c) (hroom : c < n + m) (hbig : (n + m) * bytes ≤ 140737488355328) :
    ∃ G wA wB wC, n + m ≤ G ∧ G ≤ maxLen ∧
      (∀ ty, (Builtin.append_ #[S, tI] ty #[.slice (some ⟨g, 0, none⟩) i c, .int .i64 ((n : Int) + (m : Int) - (i : Int))]).run P w = .ok (.slice (some ⟨w.heap.size, 0, none⟩) (n + m) G) wA) ∧
      (∀ ty dc, (Builtin.copy_ #[S, S] ty #[.slice (some ⟨w.heap.size, i * sz, none⟩) (n + m - i) dc, .slice (some ⟨vb, voff, none⟩) m vc]).run P wA = .ok (goInt m) wB) ∧
      (∀ ty dc sc, (Builtin.copy_ #[S, S] ty #[.slice (some ⟨w.heap.size, (i + m) * sz, none⟩) (n + m - (i + m)) dc, .slice (some ⟨g, i * sz, none⟩) (n - i) sc]).run P wB.drew = .ok (goInt (n - i : Nat)) wC) ∧
      wC.ownsRow 0 e sz (.slice (some ⟨w.heap.size, 0, none⟩) (n + m) G) (n + m) (xs.take (i * sz) ++ ys ++ xs.drop (i * sz)) ∧ w.grownBy wC none := by
  obtain ⟨i0, hi0, hz0, hzs, hzb⟩ := info_parts E.info
  have hpos := E.pos
  have hbpos := E.bpos
  have hal : arr.toList.length = c * sz := by simpa using harr
  have hIN : i * sz + sz ≤ n * sz := by rw [← Nat.succ_mul]; exact Nat.mul_le_mul_right _ hi
  have hNC : n * sz ≤ c * sz := Nat.mul_le_mul_right _ hnc
  have hms : 0 < m * sz := Nat.mul_pos hm hpos
  have hxl : xs.length = n * sz := by rw [← hx]; simp; omega
  have him : (i + m) * sz = i * sz + m * sz := Nat.add_mul ..
  have hnm : (n + m) * sz = n * sz + m * sz := Nat.add_mul ..
  have hni : (n - i) * sz = n * sz - i * sz := Nat.sub_mul ..
  have hnm1 : n + m ≤ (n + m) * bytes := Nat.le_mul_of_pos_right _ hbpos
  have hkk : (n : Int) + (m : Int) - (i : Int) = ((n + m - i : Nat) : Int) := by omega
  have hik : i + (n + m - i) = n + m := by omega
  have hdl : (xs.drop (i * sz)).length = (n - i) * sz := by rw [List.length_drop, hxl, hni]
  have hgl := blk_lt hg
  have hxc : ∀ j v, xs[j]? = some v → w.cell? ⟨g, j, none⟩ = some v := fun j v hj => by
    rw [blk_cell hg]
    rw [← hx, List.getElem?_take] at hj
    split at hj
    · simpa using hj
    · cases hj
  have hold : (Builtin.firstCells i0.size i (.slice (some ⟨g, 0, none⟩) i c)).run P w.drew = .ok (xs.take (i * sz)).toArray w.drew := by
    rw [hzs]
    exact run_firstCells_some w.drew sz i ⟨g, 0, none⟩ i c (xs.take (i * sz)) (by rw [List.length_take, hxl]; omega) (fun j v hj => by
      rw [Addr.add_lit, World.cell?_drew, Nat.zero_add]
      rw [List.getElem?_take] at hj
      split at hj
      · exact hxc j v hj
      · cases hj)
  have hrz : ∀ ty, (Builtin.append_ #[S, tI] ty #[.slice (some ⟨g, 0, none⟩) i c, .int .i64 ((n : Int) + (m : Int) - (i : Int))]).run P w =
      .ok (.slice (some ⟨w.heap.size, 0, none⟩) (n + m) (grownCap w (n + m) c e)) (w.drew.alloc (.cells ((xs.take (i * sz)).toArray ++ Builtin.zeroCells z.cells (n + m - i) ++ Builtin.zeroCells z.cells (grownCap w (n + m) c e - (n + m))) e)) := fun ty => by
    have h := Lib.run_append_grow_zeros w S tI ty e i0 _ .i64 .i64 E.und htI hi0 hz0 (some ⟨g, 0, none⟩) i c (xs.take (i * sz)) hold (n + m - i) (by omega) (by omega) (by omega) (by omega)
      (by rw [hzb]; exact Nat.le_trans (Nat.mul_le_mul_right bytes (show n + m - i ≤ n + m by omega)) (by omega)) (by rw [hzb, hik]; exact growslice_fits hroom hbig)
    rw [hik] at h
    rw [hkk]
    exact h
  have hGn : n + m ≤ grownCap w (n + m) c e := grownCap_ge w _ _ _
  have hG63 : grownCap w (n + m) c e ≤ maxLen := grownCap_le_maxLen w (n + m) c e (by unfold maxLen; omega)
  obtain ⟨G, hG⟩ : ∃ G, G = grownCap w (n + m) c e := ⟨_, rfl⟩
  rw [← hG] at hrz hGn hG63
  obtain ⟨ROW, hROW⟩ : ∃ ROW : Array Value, ROW = (xs.take (i * sz)).toArray ++ Builtin.zeroCells z.cells (n + m - i) ++ Builtin.zeroCells z.cells (G - (n + m)) := ⟨_, rfl⟩
  rw [← hROW] at hrz
  have hRl : ROW.size = G * sz := by
    rw [hROW]
    simp only [Array.size_append, List.size_toArray, List.length_take, hxl, zeroCells_length, E.zsz]
    rw [Nat.min_eq_left (by omega), ← Nat.add_mul, ← Nat.add_mul]
    congr 1
    omega
  have hGs : n * sz + m * sz ≤ G * sz := by rw [← hnm]; exact Nat.mul_le_mul_right _ hGn
  obtain ⟨wA, hwA⟩ : ∃ wA, wA = w.drew.alloc (.cells ROW e) := ⟨_, rfl⟩
  rw [← hwA] at hrz
  have hA : wA.heap[w.heap.size]? = some (.cells ROW e (0, 0)) := by rw [hwA]; exact heap_alloc_new w.drew _
  have hold' : ∀ k, k < w.heap.size → wA.heap[k]? = w.heap[k]? := fun k hk => by rw [hwA]; exact heap_alloc_old w.drew _ hk
  have hAc : ∀ a v, w.cell? a = some v → wA.cell? a = some v := fun a v hv => (World.cell?_of_block (hold' _ (World.block_lt_of_cell? w a hv))).trans hv
  have hs1 : i * sz + ys.length ≤ ROW.size := by rw [hRl, hyl]; omega
  have hB := setCells_heap w.heap.size e (0, 0) ys (i * sz) wA ROW hA hs1
  have hs2 : (i + m) * sz + (xs.drop (i * sz)).length ≤ (spl ROW (i * sz) ys).size := by rw [spl_size _ _ _ hs1, hRl, hdl, hni, him]; omega
  have hC := setCells_heap w.heap.size e (0, 0) (xs.drop (i * sz)) ((i + m) * sz) (wA.setCells w.heap.size (i * sz) ys).drew _ hB hs2
  refine ⟨G, wA, wA.setCells w.heap.size (i * sz) ys, (wA.setCells w.heap.size (i * sz) ys).drew.setCells w.heap.size ((i + m) * sz) (xs.drop (i * sz)), hGn, hG63, hrz, fun ty dc => ?_, fun ty dc sc => ?_, ?_, ?_⟩
  · have := run_copy_blk (P := P) wA S S ty e i0 E.und hi0 w.heap.size (i * sz) (n + m - i) dc ROW e hA ⟨vb, voff, none⟩ m vc ys (by rw [hyl, hzs, nmin (by omega)])
      (fun j v hj => by rw [Addr.add_lit]; exact hAc _ _ (hys j v hj)) hs1 hy1
    rw [this]
    congr 2
    rw [nmin (by omega)]
  · have := run_copy_blk (P := P) (wA.setCells w.heap.size (i * sz) ys).drew S S ty e i0 E.und hi0 w.heap.size ((i + m) * sz) (n + m - (i + m)) dc _ e hB ⟨g, i * sz, none⟩ (n - i) sc (xs.drop (i * sz))
      (by rw [hdl, hzs]; congr 1; simp only [Nat.min_def]; split <;> omega)
      (fun j v hj => by
        rw [Addr.add_lit, World.cell?_drew, World.cell?_setCells_out _ _ _ _ _ (fun h _ => absurd h (by show g ≠ w.heap.size; omega))]
        exact hAc _ _ (hxc _ v (by rwa [List.getElem?_drop] at hj))) hs2 (fun v hv => h1 v (List.mem_of_mem_drop hv))
    rw [this]
    congr 2
    simp only [Nat.min_def]; split <;> omega
  · refine ⟨?_, .inr ⟨w.heap.size, G, _, rfl, Nat.zero_le _, hC, hGn, hG63, ?_, ?_⟩⟩
    · simp only [List.length_append, List.length_take, List.length_drop, hxl, hyl, hnm]; omega
    · rw [spl_size _ _ _ hs2, spl_size _ _ _ hs1, hRl]
    · have := spl_grow xs ys (Builtin.zeroCells z.cells (n + m - i) ++ Builtin.zeroCells z.cells (G - (n + m))).toList (i * sz) (m * sz) (n * sz) hxl (by omega) hyl
      simp only [spl, hdl, hyl, him, hni, hnm, hROW, Array.toList_append, List.append_assoc] at this ⊢
      exact this
  · have h1 : w.grownBy wA none := by rw [hwA]; exact ⟨rfl, rfl, rfl, by simp, fun k hk _ => heap_alloc_old w.drew _ hk⟩
    refine ⟨?_, ?_, ?_, ?_, fun k hk _ => ?_⟩
    · rw [(setCells_grown _ _ _ _).os]; exact (setCells_grown _ _ _ wA).os.trans h1.os
    · rw [(setCells_grown _ _ _ _).tape]; exact (setCells_grown _ _ _ wA).tape.trans h1.tape
    · rw [(setCells_grown _ _ _ _).output]; exact (setCells_grown _ _ _ wA).output.trans h1.output
    · rw [setCells_size]; show _ ≤ (wA.setCells _ _ _).heap.size; rw [setCells_size]; exact h1.size
    · have hAk : k < wA.heap.size := Nat.lt_of_lt_of_le hk h1.size
      have hne : some k ≠ some w.heap.size := by intro h; injection h; omega
      rw [(setCells_grown _ _ _ _).block k (by show k < (wA.setCells _ _ _).heap.size; rw [setCells_size]; exact hAk) hne]
      exact ((setCells_grown _ _ _ wA).block k hAk hne).trans (h1.block k hk (by simp))
end

/-- What slices.Insert, slices.Clone .. hand back: a slice that owns zs, in the old row or in a new one. -/
def RowPost (e sz : Nat) (w : World) (old : Option Nat) (n : Nat) (zs : List Value) (en : Ending) (w' : World) : Prop :=
  ∃ a c, en = .returned (.slice a n c) ∧ w'.ownsRow 0 e sz (.slice a n c) n zs ∧ Keep old.toList w w' ∧ (a.map (·.block) = old ∨ ∃ k, a.map (·.block) = some k ∧ w.heap.size ≤ k)

/-- .. in the old row. -/
def RowIn (e sz : Nat) (w : World) (old : Option Nat) (n : Nat) (zs : List Value) (en : Ending) (w' : World) : Prop :=
  ∃ a c, en = .returned (.slice a n c) ∧ w'.ownsRow 0 e sz (.slice a n c) n zs ∧ Keep old.toList w w' ∧ a.map (·.block) = old

theorem own_form {w : World} {base : Nat} {e : TypeId} {sz : Nat} {v : Value} {n : Nat} {xs : List Value} (h : w.ownsRow base e sz v n xs) : ∃ a c, v = .slice a n c ∧ (a = none ∨ ∃ g, a = some ⟨g, 0, none⟩) := by
  rcases h.2 with ⟨rfl, rfl⟩ | ⟨g, cap, cur, rfl, _⟩
  · exact ⟨none, 0, rfl, .inl rfl⟩
  · exact ⟨_, cap, rfl, .inr ⟨g, rfl⟩⟩

theorem own_block (a : Option Addr) (n c : Nat) : Value.ownBlock (.slice a n c) = a.map (·.block) := by cases a <;> rfl

section
variable {P : Program} {S e sz bytes : Nat} {z : Value}

/-- append(v, u...) onto a row of the call's own. -/
theorem app_mem (E : Elt P S e sz bytes z) (w : World) (a : Option Addr) (n c : Nat) (xs : List Value) (ho : w.ownsRow 0 e sz (.slice a n c) n xs) (u : Value) (m : Nat) (ys : List Value) (r : Option Nat) (hu : Arg w sz u m ys r) (hbig : (n + m) * bytes ≤ 140737488355328) :
    ∃ a' c' w', (∀ ty, (Builtin.append_ #[S, S] ty #[.slice a n c, u]).run P w = .ok (.slice a' (n + m) c') w') ∧ w'.ownsRow 0 e sz (.slice a' (n + m) c') (n + m) (xs ++ ys) ∧ Keep (a.map (·.block)).toList w w' ∧
      (a'.map (·.block) = a.map (·.block) ∨ a'.map (·.block) = some w.heap.size) := by
  obtain ⟨i0, hi0, hz0, hzs, hzb⟩ := info_parts E.info
  have hpos := E.pos
  have hnm1 : n + m ≤ (n + m) * bytes := Nat.le_mul_of_pos_right _ E.bpos
  obtain ⟨hyl, hy1, hu⟩ := hu
  rcases hu with ⟨rfl, ua, uc, rfl, _⟩ | ⟨hm, b, off, uc, rfl, hcell, _⟩
  · -- nothing is appended
    have hy0 : ys = [] := List.eq_nil_of_length_eq_zero (by rw [hyl]; simp)
    subst hy0
    have hnc : n ≤ c := by
      rcases ho.2 with ⟨h, rfl⟩ | ⟨g, cap, cur, h, _, _, hn, _⟩
      · omega
      · injection h with _ _ hc; omega
    refine ⟨a, c, w, fun ty => ?_, by simpa using ho, Keep.refl _ _, .inl rfl⟩
    have hl : ∀ (x : Addr), (loadCells x 0).run P w = .ok #[] w := fun x => by simpa using run_loadCells_list (P := P) w x [] (by simp)
    have hst : ∀ (x : Addr) , (storeCells x []).run P w = .ok () w := fun x => rfl
    cases ua <;> cases a <;> simp [Builtin.append_, run_underlying E.und, sizeOf, typeInfo, hi0, Builtin.lenOf, Builtin.firstCells, hnc, hl, hst]
  · have key : ∀ ty, ∃ v' w', (Builtin.append_ #[S, S] ty #[.slice a n c, .slice (some ⟨b, off, none⟩) m uc]).run P w = .ok v' w' ∧ w'.ownsRow 0 e sz v' (n + m) (xs ++ ys) ∧ w.grownBy w' (Value.ownBlock (.slice a n c)) ∧
        (v' = .slice none 0 0 ↔ Value.slice a n c = .slice none 0 0 ∧ m = 0) ∧ (v'.ownBlock = Value.ownBlock (.slice a n c) ∨ v'.ownBlock = some w.heap.size) := fun ty =>
      run_append_own_at (P := P) w 0 S ty e i0 z sz bytes E.und hi0 hz0 hzs hzb E.zsz hpos _ n xs ho ⟨b, off, none⟩ m uc ys hyl (fun j v hj => by rw [Addr.add_lit]; exact hcell j v hj) hy1 (by unfold maxLen; omega) hbig (Nat.zero_le _)
    have hty : ∀ ty, (Builtin.append_ #[S, S] ty #[.slice a n c, .slice (some ⟨b, off, none⟩) m uc]).run P w = (Builtin.append_ #[S, S] 0 #[.slice a n c, .slice (some ⟨b, off, none⟩) m uc]).run P w := fun ty => rfl
    obtain ⟨v', w', hr, h1, h2, _, h4⟩ := key 0
    obtain ⟨a', c', rfl, _⟩ := own_form h1
    rw [own_block, own_block] at h4
    exact ⟨a', c', w', fun ty => (hty ty).trans hr, h1, by have := Keep.of_grown h2; rwa [own_block] at this, h4⟩

/-- slices.Clone's append: onto an empty slice that was just made. -/
theorem clone_mem (E : Elt P S e sz bytes z) (w : World) (u : Value) (m : Nat) (ys : List Value) (r : Option Nat) (hu : Arg w sz u m ys r) (hbig : m * bytes ≤ 140737488355328) :
    ∃ a' c' w', (∀ ty, (Builtin.append_ #[S, S] ty #[.slice (some ⟨w.heap.size, 0, none⟩) 0 0, u]).run P (w.alloc (.cells #[] e)) = .ok (.slice a' m c') w') ∧ w'.ownsRow 0 e sz (.slice a' m c') m ys ∧ Keep [] w w' ∧
      (∃ k, a'.map (·.block) = some k ∧ w.heap.size ≤ k) := by
  have ho : (w.alloc (.cells #[] e)).ownsRow 0 e sz (.slice (some ⟨w.heap.size, 0, none⟩) 0 0) 0 [] := World.ownsRow_made w #[] 0 (Nat.zero_le _) (by unfold maxLen; omega) (by simp)
  have hu' : Arg (w.alloc (.cells #[] e)) sz u m ys none := by
    obtain ⟨h1, h2, h3⟩ := hu
    refine ⟨h1, h2, ?_⟩
    rcases h3 with h3 | ⟨hm, b, off, c, rfl, hc, _⟩
    · exact .inl h3
    · exact .inr ⟨hm, b, off, c, rfl, fun j v hj => (Keep.alloc [] w _).cell (hc j v hj) (by simp), by simp⟩
  obtain ⟨a', c', w', hr, h1, h2, h3⟩ := app_mem E _ _ 0 0 [] ho u m ys none hu' (by simpa using hbig)
  simp only [Nat.zero_add, List.nil_append] at hr h1
  refine ⟨a', c', w', hr, h1, ?_, ?_⟩
  · exact (Keep.alloc [] w _).trans' h2 (fun i hi => .inr (by simp at hi; omega))
  · rcases h3 with h3 | h3
    · exact ⟨w.heap.size, by simpa using h3, Nat.le_refl _⟩
    · exact ⟨_, h3, by simp⟩

theorem spl_del {α : Type} (A R Z T : List α) (M : Nat) (hA : A.length = M) : ((A ++ R).take M ++ Z ++ T).take M = A := by
  rw [List.take_left' hA, List.append_assoc, List.take_left' hA]

/-- slices.Delete's append and clear, in place. -/
theorem del_mem (E : Elt P S e sz bytes z) (w : World) (g n c : Nat) (arr : Array Value) (xs : List Value) (hg : w.heap[g]? = some (.cells arr e (0, 0))) (harr : arr.size = c * sz) (hx : arr.toList.take (n * sz) = xs) (h1 : ∀ x ∈ xs, x.oneCell' = true) (hcm : c ≤ maxLen)
    (i k : Nat) (hk : 0 < k) (hj : i + k ≤ n) (hnc : n ≤ c) :
    ∃ w1 w2, (∀ ty a cc, (c ≠ i + k → a = some ⟨g, (i + k) * sz, none⟩) → (Builtin.append_ #[S, S] ty #[.slice (some ⟨g, 0, none⟩) i c, .slice a (n - (i + k)) cc]).run P w.drew = .ok (.slice (some ⟨g, 0, none⟩) (n - k) c) w1) ∧
      (∀ ty cc, (Builtin.clear_ #[S] ty #[.slice (some ⟨g, (n - k) * sz, none⟩) (n - (n - k)) cc]).run P w1 = .ok (.tuple #[]) w2) ∧
      w2.ownsRow 0 e sz (.slice (some ⟨g, 0, none⟩) (n - k) c) (n - k) (xs.take (i * sz) ++ xs.drop ((i + k) * sz)) ∧ w.grownBy w2 (some g) := by
  obtain ⟨i0, hi0, hz0, hzs, hzb⟩ := info_parts E.info
  have hpos := E.pos
  have hal : arr.toList.length = c * sz := by simpa using harr
  have hNC : n * sz ≤ c * sz := Nat.mul_le_mul_right _ hnc
  have hJN : (i + k) * sz ≤ n * sz := Nat.mul_le_mul_right _ hj
  have hxl : xs.length = n * sz := by rw [← hx]; simp; omega
  have hik : (i + k) * sz = i * sz + k * sz := Nat.add_mul ..
  have hnk : (n - k) * sz = n * sz - k * sz := Nat.sub_mul ..
  have hnj : (n - (i + k)) * sz = n * sz - (i + k) * sz := Nat.sub_mul ..
  have hnn : (n - (n - k)) = k := by omega
  have hks : 0 < k * sz := Nat.mul_pos hk hpos
  have hdl : (xs.drop ((i + k) * sz)).length = (n - (i + k)) * sz := by rw [List.length_drop, hxl, hnj]
  have hfit : i * sz + (xs.drop ((i + k) * sz)).length ≤ arr.size := by rw [hdl, hnj, harr]; omega
  have hw1 := setCells_heap g e (0, 0) (xs.drop ((i + k) * sz)) (i * sz) w.drew arr hg hfit
  have hzl : (Builtin.zeroCells z.cells k).toList.length = k * sz := by rw [Array.length_toList, zeroCells_length, E.zsz]
  have hfit2 : (n - k) * sz + (Builtin.zeroCells z.cells k).toList.length ≤ (spl arr (i * sz) (xs.drop ((i + k) * sz))).size := by rw [spl_size _ _ _ hfit, hzl, hnk, harr]; omega
  have hw2 := setCells_heap g e (0, 0) (Builtin.zeroCells z.cells k).toList ((n - k) * sz) _ _ hw1 hfit2
  refine ⟨w.drew.setCells g (i * sz) (xs.drop ((i + k) * sz)), (w.drew.setCells g (i * sz) (xs.drop ((i + k) * sz))).setCells g ((n - k) * sz) (Builtin.zeroCells z.cells k).toList, fun ty a cc ha => ?_, fun ty cc => ?_, ?_, ?_⟩
  · have hsrc : Src P i0.size S (.slice a (n - (i + k)) cc) (n - (i + k)) (xs.drop ((i + k) * sz)) w.drew := by
      rw [hzs]
      by_cases hcj : c = i + k
      · have hn0 : n - (i + k) = 0 := by omega
        have hd0 : xs.drop ((i + k) * sz) = [] := List.drop_eq_nil_of_le (by rw [hxl]; exact Nat.mul_le_mul_right _ (by omega))
        rw [hn0, hd0]
        cases a with
        | none => exact Src.ofNil _ E.und cc
        | some ad => exact Src.ofSlice _ E.und ad 0 cc [] (by simp) (fun j u hj => by simp at hj) (fun _ h => by cases h)
      · rw [ha hcj]
        exact Src.ofSlice _ E.und _ _ _ _ hdl (fun j u hj => by
          rw [Addr.add_lit, World.cell?_drew, blk_cell hg]
          rw [List.getElem?_drop, ← hx, List.getElem?_take] at hj
          split at hj
          · simpa using hj
          · cases hj) (fun v hv => h1 v (List.mem_of_mem_drop hv))
    have hr := run_append_room_src (P := P) w.drew S S ty e i0 E.und hi0 g 0 i c _ (n - (i + k)) _ hsrc (by omega)
      (fun j hj => by rw [hdl] at hj; rw [World.cell?_drew, blk_cell hg, hzs, Array.getElem?_eq_getElem (by rw [harr]; omega)]; rfl) (fun j hj => by rw [World.frozen?_drew]; exact blk_frozen hg _)
    rw [hr, hzs, Nat.zero_add, show i + (n - (i + k)) = n - k by omega]
  · have := run_clear_blk (P := P) (w.drew.setCells g (i * sz) (xs.drop ((i + k) * sz))) S e ty i0 z E.und hi0 hz0 E.zone g ((n - k) * sz) (n - (n - k)) cc _ e hw1 (by omega) (by rw [hnn, E.zsz, ← hzl]; exact hfit2)
    rw [this, hnn]
  · refine ⟨?_, .inr ⟨g, c, _, rfl, Nat.zero_le _, hw2, by omega, hcm, ?_, ?_⟩⟩
    · simp only [List.length_append, List.length_take, List.length_drop, hxl, hnk, hik]; omega
    · rw [spl_size _ _ _ hfit2, spl_size _ _ _ hfit, harr]
    · have ht : (arr.toList.take (i * sz)) = xs.take (i * sz) := by rw [← hx, List.take_take, Nat.min_eq_left (by omega)]
      simp only [spl, ht]
      have hA : (xs.take (i * sz) ++ xs.drop ((i + k) * sz)).length = (n - k) * sz := by simp only [List.length_append, List.length_take, List.length_drop, hxl, hnk, hik]; omega
      exact spl_del _ _ _ _ _ hA
  · exact World.grownBy.trans (World.grownBy.trans (b := w.drew) ⟨rfl, rfl, rfl, Nat.le_refl _, fun _ _ _ => rfl⟩ (setCells_grown g _ _ _)) (setCells_grown g _ _ _)

theorem wpList_clear_known (w : World) {ops : Array Oper} {rest : List Oper} {o : Oper} {a : Act} {Q : Exit → Act → World → Prop} (hgd : o.guard = none) (d : Operand) (t : TypeId)
    (ho : o.op = .call { callee := .builtin .clear, args := #[d], argTypes := #[t] }) (v : Value) (hd : a.eval d = v) {v' : Value} {w' : World}
    (hr : (Builtin.clear_ #[t] o.type #[v]).run P w = .ok v' w') (h : wpList P ops Q rest (a.put o.dst v') w') : wpList P ops Q (o :: rest) a w :=
  wpList_plain hgd fun _ hK => by
    unfold Oper.wp execOp
    simp only [ho, resolve, invoke, builtin, Sem.run_bind, Sem.run_pure, Result.andThen_ok, List.map_toArray, List.map_cons, List.map_nil, hd, hr]
    exact hK _ _ h

theorem wpList_append_known (w : World) {ops : Array Oper} {rest : List Oper} {o : Oper} {a : Act} {Q : Exit → Act → World → Prop} (hgd : o.guard = none) (d s : Operand) (t t' : TypeId)
    (ho : o.op = .call { callee := .builtin .append, args := #[d, s], argTypes := #[t, t'] }) (v u : Value) (hd : a.eval d = v) (hs : a.eval s = u) {v' : Value} {w' : World}
    (hr : (Builtin.append_ #[t, t'] o.type #[v, u]).run P w = .ok v' w') (h : wpList P ops Q rest (a.put o.dst v') w') : wpList P ops Q (o :: rest) a w :=
  wpList_plain hgd fun _ hK => by
    unfold Oper.wp execOp
    simp only [ho, resolve, invoke, builtin, Sem.run_bind, Sem.run_pure, Result.andThen_ok, List.map_toArray, List.map_cons, List.map_nil, hd, hs, hr]
    exact hK _ _ h
end

/-- A vec.Vec behind a pointer: block p holds the slice value; the slice owns xs, in block r (none: nil). -/
structure Vec (TV e sz : Nat) (w : World) (p : Nat) (r : Option Nat) (n : Nat) (xs : List Value) : Prop where
  ex : ∃ a c, w.heap[p]? = some (.cells #[.slice a n c] TV (0, 0)) ∧ w.ownsRow 0 e sz (.slice a n c) n xs ∧ r = a.map (·.block)
  one : ∀ x ∈ xs, x.oneCell' = true
  ne : r ≠ some p

theorem Vec.keep {TV e sz : Nat} {S : List Nat} {w w' : World} {p : Nat} {r : Option Nat} {n : Nat} {xs : List Value} (h : Vec TV e sz w p r n xs) (k : Keep S w w') (hp : p ∉ S) (hr : ∀ g, r = some g → g ∉ S) : Vec TV e sz w' p r n xs := by
  obtain ⟨⟨a, c, h1, h2, rfl⟩, h3, h4⟩ := h
  exact ⟨⟨a, c, k.heap h1 hp, k.row h2 (fun g hg => hr g (by rw [← hg, own_block])), rfl⟩, h3, h4⟩

theorem Vec.lt {TV e sz : Nat} {w : World} {p : Nat} {r : Option Nat} {n : Nat} {xs : List Value} (h : Vec TV e sz w p r n xs) : p < w.heap.size ∧ (∀ g, r = some g → g < w.heap.size) := by
  obtain ⟨⟨a, c, h1, h2, rfl⟩, h3, h4⟩ := h
  refine ⟨blk_lt h1, fun g hg => ?_⟩
  rcases h2.2 with ⟨h, _⟩ | ⟨g', cap, cur, h, _, hh, _⟩
  · injection h with h; subst h; cases hg
  · injection h with h; subst h; simp at hg; subst hg; exact blk_lt hh

/-! ### Small facts for the laws' own walks. -/
/-- A variadic argument that was just laid. -/
theorem arg_lit (w : World) (e : TypeId) (ys : List Value) (r : Option Nat) (h1 : ∀ y ∈ ys, y.oneCell' = true) (hr : ∀ g, r = some g → g < w.heap.size) (h0 : 0 < ys.length) :
    Arg (w.alloc (.cells ys.toArray e)) 1 (.slice (some ⟨w.heap.size, 0, none⟩) ys.length ys.length) ys.length ys r :=
  ⟨by simp, h1, .inr ⟨h0, w.heap.size, 0, _, rfl, fun j v hj => by rw [blk_cell (heap_alloc_new w _)]; simpa using hj, fun h => by have := hr _ h.symm; omega⟩⟩

/-- A row of the call's own, handed on. -/
theorem arg_of_own {w : World} {e : TypeId} {sz : Nat} {a : Option Addr} {n c : Nat} {xs : List Value} {r : Option Nat} (ho : w.ownsRow 0 e sz (.slice a n c) n xs) (h1 : ∀ x ∈ xs, x.oneCell' = true) (hr : 0 < n → a.map (·.block) ≠ r) : Arg w sz (.slice a n c) n xs r := by
  have hxl := ho.1
  refine ⟨hxl, h1, ?_⟩
  rcases ho.2 with ⟨h, h0⟩ | ⟨g, cap, cur, hv, _, hg, hnc, hcm, hcs, htk⟩
  · injection h with ha hb hc
    subst ha hb hc
    exact .inl ⟨rfl, none, 0, rfl, fun _ => rfl⟩
  · injection hv with hv1 hv2 hv3
    subst hv1 hv3
    by_cases hn : n = 0
    · subst hn
      exact .inl ⟨rfl, _, _, rfl, fun h => by cases h⟩
    · refine .inr ⟨by omega, g, 0, c, rfl, fun j v hj => ?_, fun h => hr (by omega) (by simpa using h)⟩
      rw [blk_cell hg, Nat.zero_add]
      rw [← htk, List.getElem?_take] at hj
      split at hj
      · simpa using hj
      · cases hj

/-- A part of an argument: s[lo:hi]. -/
theorem Arg.part {w : World} {sz : Nat} {a : Option Addr} {n c : Nat} {xs : List Value} {r : Option Nat} (h : Arg w sz (.slice a n c) n xs r) (lo hi : Nat) (hlo : lo ≤ hi) (hhi : hi ≤ n) (a' : Option Addr) (c' : Nat) (ha : lo < hi → a' = a.map (·.add (lo * sz))) (hc : a' = none → c' = 0) :
    Arg w sz (.slice a' (hi - lo) c') (hi - lo) ((xs.drop (lo * sz)).take ((hi - lo) * sz)) r := by
  obtain ⟨h1, h2, h3⟩ := h
  have hl1 : hi * sz ≤ n * sz := Nat.mul_le_mul_right _ hhi
  have hl2 : lo * sz ≤ hi * sz := Nat.mul_le_mul_right _ hlo
  have hl3 : (hi - lo) * sz = hi * sz - lo * sz := Nat.sub_mul ..
  refine ⟨by rw [List.length_take, List.length_drop, h1]; omega, fun y hy => h2 y (List.mem_of_mem_drop (List.mem_of_mem_take hy)), ?_⟩
  by_cases he : lo = hi
  · subst he
    rw [Nat.sub_self]
    exact .inl ⟨rfl, a', c', rfl, hc⟩
  · rcases h3 with ⟨h0, _⟩ | ⟨hn, b, off, cp, hv, hcell, hne⟩
    · omega
    · injection hv with hv1 hv2 hv3
      subst hv1 hv3
      rw [ha (by omega)]
      refine .inr ⟨by omega, b, off + lo * sz, c', by simp [Addr.add_lit], fun j v hj => ?_, hne⟩
      rw [List.getElem?_take] at hj
      split at hj
      · rw [List.getElem?_drop] at hj
        rw [Nat.add_assoc]
        exact hcell _ v hj
      · cases hj

/-- An element of a row is written (elements of one cell). -/
theorem own_set1 {w : World} {e : TypeId} {g n c i : Nat} {xs : List Value} (ho : w.ownsRow 0 e 1 (.slice (some ⟨g, 0, none⟩) n c) n xs) (v : Value) : (w.setCell ⟨g, i, none⟩ v).ownsRow 0 e 1 (.slice (some ⟨g, 0, none⟩) n c) n (xs.set i v) := by
  have hxl := ho.1
  rcases ho.2 with ⟨h, _⟩ | ⟨g', cap, cur', hv', _, hg', hnc, hcm, hcs, htk⟩
  · cases h
  injection hv' with hv1 hv2 hv3
  injection hv1 with hv1
  injection hv1 with hv1
  subst hv1 hv3
  refine ⟨by simpa using hxl, .inr ⟨g, c, _, rfl, Nat.zero_le _, setCell_heap hg' i v, hnc, hcm, by simpa using hcs, ?_⟩⟩
  rw [Array.toList_setIfInBounds, List.take_set, htk]

/-- The address of a row that is not empty; its cells. -/
theorem own_addr {w : World} {e : TypeId} {sz : Nat} {a : Option Addr} {n c : Nat} {xs : List Value} (ho : w.ownsRow 0 e sz (.slice a n c) n xs) (hn : 0 < n) : ∃ g, a = some ⟨g, 0, none⟩ := by
  rcases ho.2 with ⟨_, h0⟩ | ⟨g, cap, cur, hv, _⟩
  · omega
  · injection hv with hv1
    exact ⟨g, hv1⟩

theorem own_cell {w : World} {e : TypeId} {sz : Nat} {g n c : Nat} {xs : List Value} (ho : w.ownsRow 0 e sz (.slice (some ⟨g, 0, none⟩) n c) n xs) {j : Nat} {v : Value} (hj : xs[j]? = some v) : w.cell? ⟨g, j, none⟩ = some v := by
  have := ho.cells (g := g) rfl j v hj
  rwa [Addr.add_lit, Nat.zero_add] at this

theorem own_frozen {w : World} {e : TypeId} {sz : Nat} {g n c : Nat} {xs : List Value} (ho : w.ownsRow 0 e sz (.slice (some ⟨g, 0, none⟩) n c) n xs) (j : Nat) : w.frozen? ⟨g, j, none⟩ = false := by
  rcases ho.2 with ⟨h, _⟩ | ⟨g', cap, cur', hv', _, hg', _⟩
  · cases h
  · injection hv' with hv1
    injection hv1 with hv1
    injection hv1 with hv1
    subst hv1
    exact blk_frozen hg' j

theorem own_lt {w : World} {e : TypeId} {sz : Nat} {a : Option Addr} {n c : Nat} {xs : List Value} (ho : w.ownsRow 0 e sz (.slice a n c) n xs) : ∀ g, a.map (·.block) = some g → g < w.heap.size := by
  intro g hg
  rcases ho.2 with ⟨h, _⟩ | ⟨g', cap, cur', hv', _, hg', _⟩
  · injection h with h; subst h; cases hg
  · injection hv' with hv1
    subst hv1
    simp at hg
    subst hg
    exact blk_lt hg'

section
variable {P : Program} {S e sz bytes : Nat} {z : Value}
/-- append onto a row of the call's own, as a step of the walk. -/
theorem wpList_app (E : Elt P S e sz bytes z) (w : World) {ops : Array Oper} {rest : List Oper} {o : Oper} {act : Act} {Q : Exit → Act → World → Prop} (hgd : o.guard = none) (d s : Operand)
    (hop : o.op = .call { callee := .builtin .append, args := #[d, s], argTypes := #[S, S] }) (a : Option Addr) (n c : Nat) (xs : List Value) (hd : act.eval d = .slice a n c) (ho : w.ownsRow 0 e sz (.slice a n c) n xs)
    (u : Value) (hs : act.eval s = u) (m : Nat) (ys : List Value) (r : Option Nat) (hu : Arg w sz u m ys r) (hbig : (n + m) * bytes ≤ 140737488355328)
    (h : ∀ a' c' w', w'.ownsRow 0 e sz (.slice a' (n + m) c') (n + m) (xs ++ ys) → Keep (a.map (·.block)).toList w w' → (a'.map (·.block) = a.map (·.block) ∨ a'.map (·.block) = some w.heap.size) →
      wpList P ops Q rest (act.put o.dst (.slice a' (n + m) c')) w') : wpList P ops Q (o :: rest) act w := by
  obtain ⟨a', c', w', hr, h1, h2, h3⟩ := app_mem E w a n c xs ho u m ys r hu hbig
  exact wpList_append_known w hgd d s S S hop _ _ hd hs (hr _) (h a' c' w' h1 h2 h3)

/-- append onto nil: a row of its own, or nil. -/
theorem wpList_app_nil (E : Elt P S e sz bytes z) (w : World) {ops : Array Oper} {rest : List Oper} {o : Oper} {act : Act} {Q : Exit → Act → World → Prop} (hgd : o.guard = none) (d s : Operand)
    (hop : o.op = .call { callee := .builtin .append, args := #[d, s], argTypes := #[S, S] }) (hd : act.eval d = .slice none 0 0)
    (u : Value) (hs : act.eval s = u) (m : Nat) (ys : List Value) (r : Option Nat) (hu : Arg w sz u m ys r) (hbig : m * bytes ≤ 140737488355328)
    (h : ∀ a' c' w', w'.ownsRow 0 e sz (.slice a' m c') m ys → Keep [] w w' → (∀ g, a'.map (·.block) = some g → w.heap.size ≤ g) →
      wpList P ops Q rest (act.put o.dst (.slice a' m c')) w') : wpList P ops Q (o :: rest) act w := by
  refine wpList_app E w hgd d s hop none 0 0 [] hd (World.ownsRow_nil _ _ _ _) u hs m ys r hu (by simpa using hbig) ?_
  intro a' c' w' h1 h2 h3
  simp only [Nat.zero_add, List.nil_append] at h1 ⊢
  refine h a' c' w' h1 (h2.mono (by simp)) (fun g hg => ?_)
  rcases h3 with h3 | h3
  · rw [hg] at h3; cases h3
  · rw [hg] at h3; injection h3 with h3; omega
end

theorem Arg.nil {w : World} {sz : Nat} {a : Option Addr} {n c : Nat} {xs : List Value} {r : Option Nat} (h : Arg w sz (.slice a n c) n xs r) : a = none → c = 0 := by
  intro ha
  subst ha
  rcases h.2.2 with ⟨h0, a', c', he, hc⟩ | ⟨_, b, off, c', he, _⟩
  · injection he with h1 h2 h3
    rw [h3]
    exact hc h1.symm
  · injection he with h1
    cases h1

theorem Arg.left {w : World} {sz : Nat} {a : Option Addr} {n c : Nat} {xs : List Value} {r : Option Nat} (h : Arg w sz (.slice a n c) n xs r) (k : Nat) (hk : k ≤ n) : Arg w sz (.slice a k c) k (xs.take (k * sz)) r := by
  have := h.part 0 k (Nat.zero_le _) hk a c (fun _ => by cases a <;> simp [Addr.add]) h.nil
  simpa using this

section
variable {P : Program} {S e sz bytes : Nat} {z : Value}
/-- append(append(append(nil, u1...), u2...), u3...) -/
theorem join3_mem (E : Elt P S e sz bytes z) (w : World) (u1 u2 u3 : Value) (m1 m2 m3 : Nat) (y1 y2 y3 : List Value) (h1 : Arg w sz u1 m1 y1 none) (h2 : Arg w sz u2 m2 y2 none) (h3 : Arg w sz u3 m3 y3 none) (hbig : (m1 + m2 + m3) * bytes ≤ 140737488355328) :
    ∃ a1 c1 w1 a2 c2 w2 a3 c3 w3, (∀ ty, (Builtin.append_ #[S, S] ty #[.slice none 0 0, u1]).run P w = .ok (.slice a1 m1 c1) w1) ∧
      (∀ ty, (Builtin.append_ #[S, S] ty #[.slice a1 m1 c1, u2]).run P w1 = .ok (.slice a2 (m1 + m2) c2) w2) ∧ (∀ ty, (Builtin.append_ #[S, S] ty #[.slice a2 (m1 + m2) c2, u3]).run P w2 = .ok (.slice a3 (m1 + m2 + m3) c3) w3) ∧
      w3.ownsRow 0 e sz (.slice a3 (m1 + m2 + m3) c3) (m1 + m2 + m3) (y1 ++ y2 ++ y3) ∧ Keep [] w w3 ∧ (∀ g, a3.map (·.block) = some g → w.heap.size ≤ g) := by
  have hb1 : (m1 + m2) * bytes ≤ (m1 + m2 + m3) * bytes := Nat.mul_le_mul_right _ (by omega)
  have hb0 : (0 + m1) * bytes ≤ (m1 + m2 + m3) * bytes := Nat.mul_le_mul_right _ (by omega)
  obtain ⟨a1, c1, w1, r1, o1, k1, f1⟩ := app_mem E w none 0 0 [] (World.ownsRow_nil _ _ _ _) u1 m1 y1 none h1 (by omega)
  have g1 : ∀ g, a1.map (·.block) = some g → w.heap.size ≤ g := fun g hg => by
    rcases f1 with f1 | f1
    · rw [hg] at f1; cases f1
    · rw [hg] at f1; injection f1 with f1; omega
  have k1' : Keep [] w w1 := k1.mono (by simp)
  simp only [Nat.zero_add, List.nil_append] at r1 o1
  obtain ⟨a2, c2, w2, r2, o2, k2, f2⟩ := app_mem E w1 a1 m1 c1 y1 o1 u2 m2 y2 none (h2.keep E.pos k1' (fun c _ => ⟨by simp, by simp⟩)) (by omega)
  have g2 : ∀ g, a2.map (·.block) = some g → w.heap.size ≤ g := fun g hg => by
    rcases f2 with f2 | f2
    · rw [hg] at f2; exact g1 g f2.symm
    · rw [hg] at f2; injection f2 with f2; have := k1.size; omega
  have k2' : Keep [] w w2 := k1'.trans' k2 (fun i hi => .inr (g1 i (by simpa using hi)))
  obtain ⟨a3, c3, w3, r3, o3, k3, f3⟩ := app_mem E w2 a2 (m1 + m2) c2 (y1 ++ y2) o2 u3 m3 y3 none (h3.keep E.pos k2' (fun c _ => ⟨by simp, by simp⟩)) hbig
  have g3 : ∀ g, a3.map (·.block) = some g → w.heap.size ≤ g := fun g hg => by
    rcases f3 with f3 | f3
    · rw [hg] at f3; exact g2 g f3.symm
    · rw [hg] at f3; injection f3 with f3; have := k2'.size; omega
  exact ⟨a1, c1, w1, a2, c2, w2, a3, c3, w3, r1, r2, r3, o3, k2'.trans' k3 (fun i hi => .inr (g2 i (by simpa using hi))), g3⟩
end
end Go.Proofs.Ytloaehlgcgpieaa
