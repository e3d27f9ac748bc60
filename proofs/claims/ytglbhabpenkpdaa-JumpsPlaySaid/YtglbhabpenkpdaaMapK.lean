/-
  A map from int to bool that only takes keys: what it holds, and the reckoner's words on it. Conditions: stated at each theorem.
-/
import Derived.Test.YtglbhabpenkpdaaKnown
import Derived.MapKept
set_option linter.unusedSimpArgs false
set_option linter.unusedVariables false
namespace Go.Proofs.Ytglbhabpenkpdaa.Sx
open Go.RowKit Go.Proofs.Ytglbhabpenkpdaa

def MapI (w : World) (b : Nat) (ks : List Int) : Prop := ∃ es clock, w.heap[b]? = some (.map es clock) ∧ es.toList.map MapEntry.key = ks.map (Value.int .i64)
def addK (ks : List Int) (x : Int) : List Int := if x ∈ ks then ks else ks ++ [x]

theorem findNow_keys (x : Int) : ∀ (es : List MapEntry) (ks : List Int) (i : Nat), es.map MapEntry.key = ks.map (Value.int .i64) →
    (x ∈ ks ∧ ∃ j v, Instr.findNow (.int .i64) (.int .i64 x) es i = some (some (i + j, v)) ∧ (es[j]?).map MapEntry.key = some (.int .i64 x)) ∨ (x ∉ ks ∧ Instr.findNow (.int .i64) (.int .i64 x) es i = some none)
  | [], [], i, _ => .inr ⟨by simp, rfl⟩
  | [], _ :: _, i, h => by simp at h
  | _ :: _, [], i, h => by simp at h
  | e :: es, k :: ks, i, h => by
    simp only [List.map_cons, List.cons.injEq] at h
    obtain ⟨h1, h2⟩ := h
    by_cases hk : x = k
    · subst hk
      refine .inl ⟨by simp, 0, e.val, ?_, by simp [h1]⟩
      simp [Instr.findNow, h1, Instr.sameNow]
    · have hs : Instr.sameNow (.int .i64) (.int .i64 x) e.key = some false := by simp [h1, Instr.sameNow, hk]
      rcases findNow_keys x es ks (i + 1) h2 with ⟨g1, j, v, g2, g3⟩ | ⟨g1, g2⟩
      · refine .inl ⟨List.mem_cons_of_mem _ g1, j + 1, v, ?_, by simpa using g3⟩
        simp only [Instr.findNow, hs, g2]
        congr 3
        omega
      · refine .inr ⟨by simp [hk, g1], ?_⟩
        simp only [Instr.findNow, hs, g2]

theorem run_mapUpdate {P : Program} {t k e : TypeId} (ht : P.underlying t = some (.map k e)) (hk : P.underlying k = some (.int .i64)) {w : World} {b : Nat} {ks : List Int} (h : MapI w b ks) (x : Int) (v : Value) :
    ∃ o, (Instr.mapUpdate t (.map (some b)) (.int .i64 x) v).run P w = .ok () { w with heap := w.heap.setIfInBounds b o } ∧ MapI { w with heap := w.heap.setIfInBounds b o } b (addK ks x) := by
  obtain ⟨es, clock, hb, hes⟩ := h
  have hchk : ∀ c, (Instr.checkKey c 10000 k (.int .i64 x)).run P w = .ok () w := fun c => MapKept.run_checkKey (n := 9999) hk (by simp [MapKept.IsKey]) c
  have hset : ∀ o, ({ w with heap := w.heap.setIfInBounds b o } : World).heap[b]? = some o := fun o => (MapKept.heap_set hb).1
  rcases findNow_keys x es.toList ks 0 hes with ⟨g1, j, v', g2, g3⟩ | ⟨g1, g2⟩
  · have hf := MapKept.run_findKey (w := w) hk g2
    have hj : es[j]? = some ((es[j]?).getD default) := by
      rw [Array.getElem?_toList] at g3
      cases hh : es[j]? with
      | none => rw [hh] at g3; cases g3
      | some y => rfl
    have hkey : ((es[j]?).map (·.key)).getD (.int .i64 x) = .int .i64 x := by
      rw [Array.getElem?_toList] at g3
      rw [g3]; rfl
    refine ⟨.map (es.modify j fun e => { e with key := .int .i64 x, val := v }) clock, ?_, ?_⟩
    · unfold Instr.mapUpdate
      simp [Sem.run_bind, run_underlying ht, MapKept.run_getObj_map hb, hchk, hf, Instr.keyThatStays, hkey, Instr.sameBits, MapKept.run_setObj_map _ hb, Result.andThen]
    · refine ⟨_, _, hset _, ?_⟩
      unfold addK
      rw [if_pos g1, ← hes]
      apply List.ext_getElem?
      intro i
      simp only [List.getElem?_map, Array.getElem?_toList, Array.getElem?_modify]
      by_cases hij : j = i
      · subst hij
        rw [Array.getElem?_toList] at g3
        rw [if_pos rfl, g3]
        cases hh : es[j]? with
        | none => rw [hh] at g3; cases g3
        | some y => rfl
      · rw [if_neg hij]
  · have hf := MapKept.run_findKey (w := w) hk g2
    refine ⟨.map (es.push { key := .int .i64 x, val := v, born := clock }) (clock + 1), ?_, ?_⟩
    · unfold Instr.mapUpdate
      simp [Sem.run_bind, run_underlying ht, MapKept.run_getObj_map hb, hchk, hf, MapKept.run_setObj_map _ hb, Result.andThen]
    · refine ⟨_, _, hset _, ?_⟩
      unfold addK
      rw [if_neg g1]
      simp [hes]

def mapX (b : Nat) (ks : List Int) : Ext := ⟨[b], fun w => MapI w b ks, fun w w' ⟨es, c, h1, h2⟩ hb _ => ⟨es, c, (hb b (by simp)).trans h1, h2⟩⟩

def mapY : Side := fun nm rr s x => match rr.m with
  | 0 => x = Ext.nil
  | _ + 1 => ∃ b, nm[0]?.map s = some b ∧ x = mapX b rr.xs

def mapW : Op → List (Nat × SV) → List (Option Blk) → Gh → Option CRR
  | .makeMap 26 none, _, mem, ⟨[i], k + 1, ps, at_, ⟨0, _, sl⟩⟩ => if memWf mem = true then some (.one ⟨some (.c (.one (.mp mem.length))), [none], ⟨[i, mem.length], k + 1, ps, at_, ⟨1, [], sl⟩⟩, false, none⟩) else none
  | .mapUpdate 26 m key val, tmps, mem, ⟨[i, j], k + 1, ps, at_, ⟨1, xs, sl⟩⟩ => match evO tmps m, evO tmps key with
    | some (.c (.one (.mp j'))), some (.c (.one (.v (.int .i64 x)))) => if Nat.beq j j' = true then some (.one ⟨none, [], ⟨[i, j], k + 1, ps, at_, ⟨1, addK xs x, sl⟩⟩, true, none⟩) else none
    | _, _ => none
  | .call { callee := .builtin .len, args := ⟨[m]⟩, argTypes := ⟨[26]⟩ }, tmps, mem, ⟨[i, j], k + 1, ps, at_, ⟨1, xs, sl⟩⟩ => match evO tmps m with
    | some (.c (.one (.mp j'))) => if Nat.beq j j' = true then some (.one ⟨some (iV .i64 xs.length), [], ⟨[i, j], k + 1, ps, at_, ⟨1, xs, sl⟩⟩, false, none⟩) else none
    | _ => none
  | _, _, _, _ => none

theorem _root_.Go.Proofs.Ytglbhabpenkpdaa.Sx.MOK.swap {E : Nat → Row} {L0 : List Nat} {w0 : WM} {σ : Nat → Nat} {mem : List (Option Blk)} {a y : Ext} {w : World} (h : MOK E (a.and y) L0 w0 σ mem w) : MOK E (y.and a) L0 w0 σ mem w :=
  h.ext' ⟨h.ext.2, h.ext.1⟩ (fun b hb => h.extB b (by simpa [Ext.and, or_comm] using hb)) (fun i b hb hm => h.extd i b hb (by simpa [Ext.and, or_comm] using hm))

theorem mapW_ok {L0 : List Nat} : OpOK Try.prog (famJ mapY) L0 mapW := by
  intro op tmps mem gh cr hcr _ E σ w0 x a w hm hL V o ho Qk
  unfold mapW at hcr
  split at hcr
  · rename_i i k ps at_ xs0 sl
    split at hcr
    · rename_i hwf
      injection hcr with hcr
      subst hcr
      obtain ⟨p, r, y, rfl, hd, h1, h2, hy, hj⟩ := famJ_some hm
      have hy : y = Ext.nil := hy
      subst hy
      have hk : Keep [] w (w.alloc (.map #[] 0)) := Keep.alloc [] w _
      have hnew : MapI (w.alloc (.map #[] 0)) w.heap.size [] := ⟨#[], 0, heap_alloc_new w _, rfl⟩
      have hm1 := hm.mok.mono hk
      have hxB : ∀ b, b ∈ σ i :: p :: r.toList → b < w.heap.size := fun b hb => hm.mok.extB b (List.mem_append_left _ hb)
      have hown : ∀ i bi, mem[i]? = some (some bi) → σ i < w.heap.size := fun i bi hi => (hm.mok.own i bi hi).2
      have hlt : w.heap.size < (w.alloc (.map #[] 0)).heap.size := by simp
      have hm2 : MOK E ((jX (σ i) p r ps at_).and (mapX w.heap.size [])) L0 w0 (upd σ mem.length w.heap.size) (mem ++ [none]) (w.alloc (.map #[] 0)) := by
        refine hm1.name (X' := (jX (σ i) p r ps at_).and (mapX w.heap.size [])) hwf (n := w.heap.size) (b := none) (fun i bi hi e => ?_) (.inr hm.mok.keep.size) hlt hL (fun b' hb' => by cases hb') ⟨hm1.ext.1, hnew⟩ (fun b hb => ?_) (fun i b hb hh => ?_)
        · have := hown i bi hi; omega
        · rcases List.mem_append.1 hb with hb | hb
          · exact Nat.lt_trans (hxB b hb) hlt
          · have : b = w.heap.size := by simpa [mapX] using hb
            omega
        · have hi := (List.getElem?_eq_some_iff.1 hb).1
          rcases List.mem_append.1 hh with hh | hh
          · exact hm.mok.extd i b hb (List.mem_append_left _ hh)
          · have h3 : σ i = w.heap.size := by simpa [mapX] using hh
            have h4 := hown i b hb
            omega
      have hi : i < mem.length := hm.nm i (by simp)
      have hrun : (execOp a.eval o).run Try.prog w = .ok (.value (.map (some w.heap.size))) (w.alloc (.map #[] 0)) := by
        simp [execOp, ho, run_makeMap, Result.andThen]
      unfold Oper.wp
      rw [hrun, Oper.upon_value]
      refine ⟨_, rfl, upd σ mem.length w.heap.size, fun v hv => ?_, ⟨_, ⟨σ i, p, r, mapX w.heap.size [], by simp [res, upd_lt hi], rfl, fun b hb hx => ?_, h1, h2, ⟨w.heap.size, by simp [res, upd_self], rfl⟩⟩, fun i' hi' => ?_, fun b hb => ?_, hm2⟩, fun i hi => (upd_lt hi).symm, hk⟩
      · injection hv with hv
        subst hv
        exact ⟨by simp [SV.den, CV.den, A.den, upd_self], fun _ _ _ hh => by cases hh⟩
      · have h3 : b = w.heap.size := by simpa [mapX] using hx
        have := hxB b hb
        omega
      · simp [CR.mem] at hi' ⊢
        omega
      · rcases List.mem_append.1 hb with hb | hb
        · exact hm.owns b (List.mem_append_left _ hb)
        · have h3 : b = w.heap.size := by simpa [mapX] using hb
          exact .inr (by rw [h3]; exact hm.mok.keep.size)
    · cases hcr
  · rename_i m key val i j k ps at_ xs sl
    split at hcr
    · rename_i j' x' hj' hx'
      split at hcr
      · rename_i e1
        have e1 := Nat.eq_of_beq_eq_true e1
        subst e1
        injection hcr with hcr
        subst hcr
        obtain ⟨p, r, y, rfl, hd, h1, h2, hy, hj⟩ := famJ_some hm
        obtain ⟨b, hb, rfl⟩ := hy
        have hb : σ j = b := by simpa [res] using hb
        subst hb
        have hmap : MapI w (σ j) xs := hm.mok.ext.2
        obtain ⟨ob, hrun, hmap'⟩ := run_mapUpdate Try.underlying26 Try.underlying3 hmap x' (a.eval val)
        have hjl : σ j < w.heap.size := hm.mok.extB _ (List.mem_append_right _ (by simp [mapX]))
        have hk : Keep [σ j] w { w with heap := w.heap.setIfInBounds (σ j) ob } := ⟨rfl, rfl, rfl, by simp, fun i hi hn => by
          have : i ≠ σ j := fun e => hn (by simp [e])
          simp [Ne.symm this]⟩
        have e1 : a.eval m = .map (some (σ j)) := by simpa [SV.den, CV.den, A.den] using evO_sound V hj'
        have e2 : a.eval key = .int .i64 x' := by simpa [SV.den, CV.den, A.den] using evO_sound V hx'
        have hrun2 : (execOp a.eval o).run Try.prog w = .ok .skip { w with heap := w.heap.setIfInBounds (σ j) ob } := by
          simp [execOp, ho, e1, e2, hrun, Result.andThen]
        obtain ⟨g1, g2, g3, g4⟩ := eff (a' := mapX (σ j) (addK xs x')) hm.mok.swap (fun b hb => hm.owns b (by simpa [Ext.and, or_comm] using hb)) (fun b hb hb' => hd b hb' hb) hk (fun b hb => hb) hmap' (fun b hb => .inl hb)
        unfold Oper.wp
        rw [hrun2, Oper.upon_skip]
        refine ⟨_, rfl, σ, fun v hv => (by cases hv), ?_, fun _ _ => rfl, g4.mono (fun b hb => by simpa [CR.kept, Ext.and, or_comm] using hb)⟩
        rw [CR.mem_nil]
        exact ⟨_, ⟨σ i, p, r, mapX (σ j) (addK xs x'), by simp [res], rfl, fun b hb hb' => g3 b hb' hb, h1, h2, ⟨σ j, by simp [res], rfl⟩⟩, hm.nm, fun b hb => g2 b (by simpa [Ext.and, or_comm] using hb), g1.swap⟩
      · cases hcr
    · cases hcr
  · rename_i m i j k ps at_ xs sl
    split at hcr
    · rename_i j' hj'
      split at hcr
      · rename_i e1
        have e1 := Nat.eq_of_beq_eq_true e1
        subst e1
        injection hcr with hcr
        subst hcr
        obtain ⟨p, r, y, rfl, hd, h1, h2, hy, hj⟩ := famJ_some hm
        obtain ⟨b, hb, rfl⟩ := hy
        have hb : σ j = b := by simpa [res] using hb
        subst hb
        obtain ⟨es, clock, hbk, hes⟩ : MapI w (σ j) xs := hm.mok.ext.2
        have e1 : a.eval m = .map (some (σ j)) := by simpa [SV.den, CV.den, A.den] using evO_sound V hj'
        have hsz : es.size = xs.length := by have := congrArg List.length hes; simpa using this
        have hrun : (execOp a.eval o).run Try.prog w = .ok (.value (.int .i64 xs.length)) w := by
          simp [execOp, ho, resolve, invoke, builtin, e1, Builtin.len_, run_underlying Try.underlying26, MapKept.run_getObj_map hbk, goInt, Result.andThen, hsz]
        unfold Oper.wp
        rw [hrun, Oper.upon_value]
        refine ⟨_, rfl, σ, fun v hv => ?_, ?_, fun _ _ => rfl, Keep.refl _ _⟩
        · injection hv with hv
          subst hv
          exact ⟨rfl, fun _ _ _ hh => by cases hh⟩
        · rw [CR.mem_nil]
          exact ⟨_, hm⟩
      · cases hcr
    · cases hcr
  · cases hcr
end Go.Proofs.Ytglbhabpenkpdaa.Sx
