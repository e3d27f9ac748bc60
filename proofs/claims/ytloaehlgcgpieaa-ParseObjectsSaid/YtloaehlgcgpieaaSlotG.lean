/-
  Slices of bytes for the reckoner: rows that are built, bytes that are written, a literal's conversion; all words together. Conditions: stated at each theorem.
-/
import Derived.Test.YtloaehlgcgpieaaSlotF
set_option linter.all false
namespace Go.Proofs.Ytloaehlgcgpieaa.Sx
open Go.RowKit Go.Proofs.Ytloaehlgcgpieaa

def slotB : Op → List (Nat × SV) → List (Option Blk) → Gh → Option CRR
  | .buildSlice 22 n parts, tmps, mem, gh => match mapP tmps parts.toList with
    | some ps => match fillA (fun i => some (i * 1, 1)) ((List.range (n * 1)).map fun k => (cellsV (.int .u8 0)).getD (k % (cellsV (.int .u8 0)).length) (.v undef)) ps with
      | some cs => match intsOf cs with
        | some xs => if (Nat.blt 0 n && (Nat.ble n 1000 && (Nat.beq xs.length n && memWf mem))) = true then some (.one ⟨some (.c (.one (.os mem.length))), nones4, ⟨gh.nm ++ four mem.length, gh.sl ++ [⟨mem.length, true, bytesV xs⟩]⟩, false, none⟩) else none
        | none => none
      | none => none
    | none => none
  | .store 5 x v, tmps, mem, gh => match evO tmps x, evO tmps v with
    | some (.c (.one (.oe j k 1 0))), some (.c (.one (.v (.int .u8 z)))) => match getSl j gh.sl with
      | some ⟨n', true, .ints 22 5 .u8 xs⟩ => if memWf mem = true then some (.test (decide (k < xs.length)) ⟨none, [], ⟨gh.nm, setSl j ⟨j, true, bytesV (xs.set k z)⟩ gh.sl⟩, true, none⟩) else none
      | _ => none
    | _, _ => none
  | .convert 22 22 x, tmps, mem, gh => match evO tmps x with
    | some (.c (.one (.os j))) => match getSl j gh.sl with
      | some ⟨n', true, .ints 22 5 .u8 xs⟩ => if memWf mem = true then some (.test (decide (1 ≤ xs.length)) ⟨some (.c (.one (.os j))), [], ⟨gh.nm, setSl j ⟨j, false, bytesV xs⟩ gh.sl⟩, true, none⟩) else none
      | _ => none
    | _ => none
  | _, _, _, _ => none

variable {L0 : List Nat}
theorem wp_skips {P : Program} {a : Act} {w w' : World} {o : Oper} {K : Act → World → Prop} {Qk : Exit → Act → World → Prop} (h : (execOp a.eval o).run P w = .ok .skip w') (hK : K (a.put o.dst undef) w') : o.wp P a w K Qk := by
  unfold Oper.wp
  rw [h, Oper.upon_skip]
  exact hK

theorem slotB_ok : OpOK Try.prog famB L0 slotB := by
  intro op tmps mem gh cr hcr hok E σ w0 x a w hm hL V o ho Qk
  unfold slotB at hcr
  split at hcr
  · rename_i n parts
    split at hcr
    · rename_i ps hps
      split at hcr
      · rename_i cs hcs
        split at hcr
        · rename_i xs hxs
          split at hcr
          · rename_i hc
            injection hcr with hcr
            subst hcr
            simp only [Bool.and_eq_true] at hc
            have h1 : 0 < n := by simpa [Nat.blt_eq] using hc.1
            have h2 := Nat.le_of_ble_eq_true hc.2.1
            have h3 := Nat.eq_of_beq_eq_true hc.2.2.1
            have hwf := hc.2.2.2
            obtain ⟨i0, hi0, hz0, hzs, hzb⟩ := info_parts elt5.info
            have hf := fillA_sound (E := E) (σ := σ) hcs (parts.map fun (i, x) => (i, a.eval x)).toList (by simpa using (mapP_sound V hps).1)
            rw [zeros_den E σ _ _ (by simp [Value.cells])] at hf
            have hb := run_buildSlice (P := Try.prog) w 22 5 n (parts.map fun (i, x) => (i, a.eval x)) (cs.map (A.den E σ)).toArray i0 (.int .u8 0) elt5.und hi0 hz0 (by rw [hzs]; omega) (by rw [hzs]; omega) (by rw [hzs]; exact hf)
            rw [intsOf_some hxs] at hb
            have hrun : (execOp a.eval o).run Try.prog w = .ok (.value (.slice (some ⟨w.heap.size, 0, none⟩) xs.length n)) (w.alloc (.cells (xs.map (Value.int .u8)).toArray 5)) := by
              unfold execOp
              rw [ho]
              simp only [Sem.run_bind, hb, Result.andThen_ok]
              simp [h3, List.map_map, Function.comp_def, A.den]
            refine wp_yields hrun ⟨_, rfl, aft_new hm hwf hL ⟨by simp [SlV.vals], .inr ⟨w.heap.size, n, _, rfl, Nat.zero_le _, heap_alloc_new w _, by omega, by unfold maxLen; omega, by simp [h3], by simp [SlV.vals]; exact List.take_of_length_le (by simp)⟩⟩ (by omega) (Keep.alloc [] w _) fun g hg => ?_⟩
            injection hg with hg
            have hg : w.heap.size = g := hg
            omega
          · cases hcr
        · cases hcr
      · cases hcr
    · cases hcr
  · rename_i xo vo
    split at hcr
    · rename_i j k z hj hz
      split at hcr
      · rename_i n' xs hq
        split at hcr
        · rename_i hwf
          injection hcr with hcr
          subst hcr
          have hk : k < xs.length := of_decide_eq_true hok
          obtain ⟨hs, hn, hin⟩ := slot_of hm hq
          have hn : n' = j := hn
          subst hn
          have hown : w.ownsRow 0 5 1 (.slice (oad σ n') xs.length (σ (n' + 2))) xs.length (bytesV xs).vals := hs.own rfl
          obtain ⟨g, hg⟩ := own_addr hown (by omega)
          have ev1 := evO_sound V hj
          have ev2 := evO_sound V hz
          simp only [SV.den, CV.den, A.den, hg, Option.map_some, Nat.add_zero, Nat.mul_one, addr_add, Nat.zero_add] at ev1 ev2
          rw [hg] at hown
          have hc := own_cell hown (j := k) (v := .int .u8 (xs.getD k 0)) (by simp [SlV.vals, List.getElem?_eq_getElem hk])
          have hfz := own_frozen hown k
          have hst := run_storeVar_cells (P := Try.prog) ty5_ok (w := w) (b := g) (o := k) (v := .int .u8 z) rfl (fun j hj => by
            have : j = 0 := by simpa [Value.cells] using hj
            subst this
            rw [Nat.add_zero, hc]; rfl) (fun j hj => by
            have : j = 0 := by simpa [Value.cells] using hj
            subst this
            exact hfz) (fun y hy => by simp [Value.cells] at hy; subst hy; rfl)
          have hown' := own_set1 hown (i := k) (.int .u8 z)
          have hrun : (execOp a.eval o).run Try.prog w = .ok .skip (w.setCell ⟨g, k, none⟩ (.int .u8 z)) := by
            simp [execOp, ho, ev1, ev2, Instr.storeAt, Instr.sureAddr, hst, Result.andThen, Value.cells, World.setCells]
          have hkeep : Keep ((oad σ n').map (·.block)).toList w (w.setCell ⟨g, k, none⟩ (.int .u8 z)) := by
            rw [hg]
            exact Keep.setCell w ⟨g, k, none⟩ _ (by simp)
          have hok2 : SlotOK (w.setCell ⟨g, k, none⟩ (.int .u8 z)) σ ⟨n', true, bytesV (xs.set k z)⟩ := by
            have hlen : σ (n' + 3) = xs.length := hs.len
            have hcap : xs.length ≤ σ (n' + 2) := hs.cap
            have hsm : xs.length ≤ 1000000 := hs.small
            have hv : (bytesV (xs.set k z)).vals = (bytesV xs).vals.set k (.int .u8 z) := by simp [SlV.vals, List.map_set]
            refine ⟨fun _ => ?_, fun j v hv' => ?_, hs.nil, by show σ (n' + 3) = _; simp [SlV.len, hlen], by show _ ≤ σ (n' + 2); simpa [SlV.len] using hcap, by simpa [SlV.len] using hsm, bytesT _⟩
            · show (w.setCell ⟨g, k, none⟩ (.int .u8 z)).ownsRow 0 5 1 (.slice (oad σ n') (bytesV (xs.set k z)).len (σ (n' + 2))) (bytesV (xs.set k z)).len (bytesV (xs.set k z)).vals
              rw [hg, hv]
              simpa [SlV.len] using hown'
            · have hv' : (bytesV (xs.set k z)).vals[j]? = some v := hv'
              rw [hv] at hv'
              exact ⟨g, 0, hg, by rw [Nat.zero_add]; exact own_cell hown' hv'⟩
          obtain ⟨g1, g2⟩ := slots_put hm hwf hL (σ' := σ) (fun _ _ => rfl) hq hkeep (fun g hg => ⟨rfl, hg⟩) (ms := []) (fun _ h => by cases h) (nm' := gh.nm) (fun n hn => hn) (fun n hn => by simpa using hm.nm n hn) (new := ⟨n', true, bytesV (xs.set k z)⟩) (fun d hd => (slot_nm hm hin d hd).1) hok2 (fun g hg => .inl ⟨hg, fun _ => rfl⟩)
          exact wp_skips hrun ⟨_, rfl, σ, fun v hv => (by cases hv), by simpa [CR.mem] using g1, fun _ _ => rfl, by simpa [CR.kept] using g2⟩
        · cases hcr
      · cases hcr
    · cases hcr
  · rename_i xo
    split at hcr
    · rename_i j hj
      split at hcr
      · rename_i n' xs hq
        split at hcr
        · rename_i hwf
          injection hcr with hcr
          subst hcr
          have hk : 1 ≤ xs.length := of_decide_eq_true hok
          obtain ⟨hs, hn, hin⟩ := slot_of hm hq
          have hn : n' = j := hn
          subst hn
          have hown : w.ownsRow 0 5 1 (.slice (oad σ n') xs.length (σ (n' + 2))) xs.length (bytesV xs).vals := hs.own rfl
          obtain ⟨g, hg⟩ := own_addr hown (by omega)
          have ev1 := evO_sound V hj
          have hlen : σ (n' + 3) = xs.length := hs.len
          simp only [SV.den, CV.den, A.den, hg, hlen] at ev1
          rw [hg] at hown
          obtain ⟨cur, hheap⟩ : ∃ cur, w.heap[g]? = some (.cells cur 5 (0, 0)) := by
            rcases hown.2 with ⟨h, _⟩ | ⟨g', cap, cur, h, _, hh, _⟩
            · cases h
            · injection h with h
              injection h with h
              injection h with h
              subst h
              exact ⟨cur, hh⟩
          have hsh : w.shape? g = some (5, cur.size) := by simp [World.shape?, hheap]
          have hrun : (execOp a.eval o).run Try.prog w = .ok (.value (.slice (some ⟨g, 0, none⟩) xs.length (σ (n' + 2)))) (w.freeze ⟨g, cur.size, none⟩ 1) := by
            simp [execOp, ho, ev1, convert, run_underlying Try.underlying22, run_underlying Try.underlying5, markStringish, hsh, Result.andThen]
          have hkeep : Keep ((oad σ n').map (·.block)).toList w (w.freeze ⟨g, cur.size, none⟩ 1) := by
            rw [hg]
            refine ⟨rfl, rfl, rfl, by simp [World.freeze], fun k hk hkn => ?_⟩
            have hne : g ≠ k := fun e => hkn (by simp [e])
            simp [World.freeze, Array.getElem?_modify, hne]
          have hcells : ∀ j, (w.freeze ⟨g, cur.size, none⟩ 1).cell? ⟨g, j, none⟩ = w.cell? ⟨g, j, none⟩ := fun j => by
            simp [World.cell?, World.freeze, Array.getElem?_modify, hheap]
          have hok2 : SlotOK (w.freeze ⟨g, cur.size, none⟩ 1) σ ⟨n', false, bytesV xs⟩ := by
            refine ⟨fun h => (by cases h), fun j v hv => ?_, hs.nil, hs.len, hs.cap, hs.small, hs.ty⟩
            refine ⟨g, 0, hg, ?_⟩
            rw [Nat.zero_add, hcells]
            exact own_cell hown hv
          obtain ⟨g1, g2⟩ := slots_put hm hwf hL (σ' := σ) (fun _ _ => rfl) hq hkeep (fun g hg => ⟨rfl, hg⟩) (ms := []) (fun _ h => by cases h) (nm' := gh.nm) (fun n hn => hn) (fun n hn => by simpa using hm.nm n hn) (new := ⟨n', false, bytesV xs⟩) (fun d hd => (slot_nm hm hin d hd).1) hok2 (fun g hg => .inl ⟨hg, fun _ => rfl⟩)
          refine wp_yields hrun ⟨_, rfl, σ, fun v hv => ?_, by simpa [CR.mem] using g1, fun _ _ => rfl, by simpa [CR.kept] using g2⟩
          injection hv with hv
          subst hv
          exact ⟨by simp [SV.den, CV.den, A.den, hg, hlen], fun _ _ _ hh => by cases hh⟩
        · cases hcr
      · cases hcr
    · cases hcr
  · cases hcr

def orW (φ ψ : Op → List (Nat × SV) → List (Option Blk) → Gh → Option CRR) : Op → List (Nat × SV) → List (Option Blk) → Gh → Option CRR := fun op tmps mem gh => match φ op tmps mem gh with | some c => some c | none => ψ op tmps mem gh
theorem orW_ok {P : Program} {X : Fam} {L0 : List Nat} {φ ψ : Op → List (Nat × SV) → List (Option Blk) → Gh → Option CRR} (h1 : OpOK P X L0 φ) (h2 : OpOK P X L0 ψ) : OpOK P X L0 (orW φ ψ) := by
  intro op tmps mem gh cr hcr
  unfold orW at hcr
  split at hcr
  · rename_i c hc
    injection hcr with hcr
    subst hcr
    exact h1 op tmps mem gh c hc
  · exact h2 op tmps mem gh cr hcr
def slotW : Op → List (Nat × SV) → List (Option Blk) → Gh → Option CRR := orW slotR (orW slotP slotB)
theorem slotW_ok {L0 : List Nat} : OpOK Try.prog famB L0 slotW := orW_ok slotR_ok (orW_ok slotP_ok slotB_ok)
end Go.Proofs.Ytloaehlgcgpieaa.Sx
