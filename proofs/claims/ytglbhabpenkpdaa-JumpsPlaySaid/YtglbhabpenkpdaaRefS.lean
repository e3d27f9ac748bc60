/-
  The reference's object for the reckoner: what its methods say. Conditions: stated at each theorem.
-/
import Derived.Test.YtglbhabpenkpdaaRefP
set_option linter.all false
namespace Go.Proofs.Ytglbhabpenkpdaa.Sx
open Go.RowKit Go.Proofs.Ytglbhabpenkpdaa

/-- One part of what hangs on the ghost was written. -/
theorem eff2 {E : Nat → Row} {L0 : List Nat} {w0 : WM} {σ : Nat → Nat} {mem : List (Option Blk)} {a y a' : Ext} {w w' : World} {S : List Nat} (h : MOK E (a.and y) L0 w0 σ mem w) (ho : Own w0 (a.and y)) (hd : ∀ b, b ∈ a.B → b ∉ y.B) (k : Keep S w w') (hS : ∀ b, b ∈ S → b ∈ a.B ∨ ((b ∈ w0.M ∨ w0.w.heap.size ≤ b) ∧ (∀ i bi, mem[i]? = some (some bi) → σ i ≠ b) ∧ b ∉ y.B))
    (hx : a'.X w') (hB : ∀ b, b ∈ a'.B → b ∈ a.B ∨ (w.heap.size ≤ b ∧ b < w'.heap.size)) :
    MOK E (a'.and y) L0 w0 σ mem w' ∧ Own w0 (a'.and y) ∧ (∀ b, b ∈ a'.B → b ∉ y.B) := by
  have hlt := h.extB
  have hsz := k.size
  have hw0 := h.keep.size
  have hy : ∀ b, b ∈ y.B → b < w.heap.size := fun b hb => hlt b (List.mem_append_right _ hb)
  have ha : ∀ b, b ∈ a.B → b < w.heap.size := fun b hb => hlt b (List.mem_append_left _ hb)
  have hxy : (a'.and y).X w' := ⟨hx, y.st _ _ h.ext.2 (fun b hb => k.block b (hy b hb) (fun hm => (hS b hm).elim (fun h => hd b h hb) (fun h => h.2.2 hb))) hsz⟩
  refine ⟨h.call k (fun b hb => (hS b hb).elim (fun hh => ho b (List.mem_append_left _ hh)) (fun hh => hh.1)) (fun i b hb hm => (hS _ hm).elim (fun hh => h.extd i b hb (List.mem_append_left _ hh)) (fun hh => hh.2.1 i b hb rfl)) hxy (fun b hb => ?_) (fun i b hb hm => ?_), fun b hb => ?_, fun b hb hm => ?_⟩
  · rcases List.mem_append.1 hb with hb | hb
    · rcases hB b hb with hb | hb
      · exact Nat.lt_of_lt_of_le (ha b hb) hsz
      · exact hb.2
    · exact Nat.lt_of_lt_of_le (hy b hb) hsz
  · have hi := (h.own i b hb).2
    rcases List.mem_append.1 hm with hm | hm
    · rcases hB _ hm with hm | hm
      · exact h.extd i b hb (List.mem_append_left _ hm)
      · omega
    · exact h.extd i b hb (List.mem_append_right _ hm)
  · rcases List.mem_append.1 hb with hb | hb
    · rcases hB b hb with hb | hb
      · exact ho b (List.mem_append_left _ hb)
      · exact .inr (Nat.le_trans hw0 hb.1)
    · exact ho b (List.mem_append_right _ hb)
  · rcases hB b hb with hb | hb
    · exact hd b hb hm
    · have := hy b hm
      omega

/-- One slot was changed for another. -/
theorem slot_next2 {E : Nat → Row} {L0 : List Nat} {w0 : WM} {σ : Nat → Nat} {k at_ j : Nat} {nm0 : List Nat} {ps : List (Int × Int)} {m : Nat} {xs : List Int} {sl : List Sl} {mem : List (Option Blk)} {x : Ext} {w w' : World} (hm : Mx E (famJ slotY) L0 w0 σ ⟨nm0, k, ps, at_, ⟨m, xs, sl⟩⟩ mem x w)
    (hwf : memWf mem = true) (hL : ∀ i, i < L0.length → i < mem.length) {q : Sl} (hq : getSl j sl = some q) {b o c : Nat} {v : SlV} {own : Bool} {S : List Nat} (kk : Keep S w w') (hS : ∀ g, g ∈ S → g ∈ sblk σ q ∨ ((g ∈ w0.M ∨ w0.w.heap.size ≤ g) ∧ (∀ i bi, mem[i]? = some (some bi) → σ i ≠ g) ∧ g ∉ x.B))
    (hok : SlotOK w' (updS σ mem.length b o c v.len) ⟨mem.length, own, v⟩) (hb : b = 0 ∨ (b - 1 ∈ sblk σ q ∨ (w.heap.size ≤ b - 1 ∧ b - 1 < w'.heap.size))) :
    ∃ x', Mx E (famJ slotY) L0 w0 (updS σ mem.length b o c v.len) ⟨nm0 ++ [mem.length, mem.length + 1, mem.length + 2, mem.length + 3], k, ps, at_, ⟨m, xs, setSl j ⟨mem.length, own, v⟩ sl⟩⟩ (mem ++ [none, none, none, none]) x' w' ∧ ∀ g, g ∈ x'.B → g ∈ x.B ∨ w.heap.size ≤ g := by
  obtain ⟨z, rfl, hin, hd, hnme, hre⟩ := slot_split hm
  have hnall : ∀ n, n ∈ nm0 → n < mem.length := hm.nm
  generalize hgt : Gh.tl ⟨nm0, k, ps, at_, ⟨m, xs, sl⟩⟩ = nm at *
  generalize hgp : Gh.pre ⟨nm0, k, ps, at_, ⟨m, xs, sl⟩⟩ = pre at *
  have hnme : nm0 = pre ++ nm := hnme
  have hnm : ∀ n, n ∈ nm → n < mem.length := fun n hn => hnall n (by rw [hnme]; exact List.mem_append_right _ hn)
  have hq1 := (getSl_some hq).1
  generalize hs' : updS σ mem.length b o c v.len = σ' at *
  have hag : ∀ n, n < mem.length → σ n = σ' n := fun n hn => by rw [← hs']; exact (updS_lt hn).symm
  generalize hnm' : nm ++ [mem.length, mem.length + 1, mem.length + 2, mem.length + 3] = nm' at *
  have hsub : ∀ n, n ∈ nm → n ∈ nm' := fun n hn => by rw [← hnm']; exact List.mem_append_left _ hn
  -- names of the elder slots
  have hold : ∀ q2, q2 ∈ sl → ∀ d, d < 4 → res nm' σ' (q2.nm + d) = res nm σ (q2.nm + d) := fun q2 h2 d hd' => by
    have := hin.names q2 h2 d hd'
    rw [res_in this, res_in (hsub _ this), hag _ (hnm _ this)]
  have holdb : ∀ q2, q2 ∈ sl → oad (res nm' σ') q2.nm = oad (res nm σ) q2.nm := fun q2 h2 => by
    have e0 := hold q2 h2 0 (by omega)
    have e1 := hold q2 h2 1 (by omega)
    simp only [Nat.add_zero] at e0
    simp only [oad, e0, e1]
  have hsblk : ∀ q2, q2 ∈ sl → sblk (res nm' σ') q2 = sblk (res nm σ) q2 := fun q2 h2 => by simp only [sblk, holdb q2 h2]
  have hsq : sblk (res nm σ) q = sblk σ q := by
    have e0 := res_in (σ := σ) (hin.names q hq1 0 (by omega))
    have e1 := res_in (σ := σ) (hin.names q hq1 1 (by omega))
    simp only [Nat.add_zero] at e0
    simp only [sblk, oad, e0, e1]
  have hnew : ∀ d, d < 4 → mem.length + d ∈ nm' := fun d hd' => by
    rw [← hnm']
    refine List.mem_append_right _ ?_
    have : d = 0 ∨ d = 1 ∨ d = 2 ∨ d = 3 := by omega
    rcases this with rfl | rfl | rfl | rfl <;> simp
  have hnewn : ∀ d, d < 4 → res nm' σ' (mem.length + d) = σ' (mem.length + d) := fun d hd' => res_in (hnew d hd')
  have hoadn : oad (res nm' σ') mem.length = oad σ' mem.length := by
    have e0 := hnewn 0 (by omega)
    have e1 := hnewn 1 (by omega)
    simp only [Nat.add_zero] at e0
    simp only [oad, e0, e1]
  have hσm : σ' mem.length = b := by rw [← hs']; simp [updS]
  have hsn : ∀ g, g ∈ sblk (res nm' σ') ⟨mem.length, own, v⟩ → b ≠ 0 ∧ g = b - 1 := fun g hg => by
    have hg : g ∈ ((oad (res nm' σ') mem.length).map (·.block)).toList := hg
    rw [hoadn] at hg
    simp only [oad, hσm] at hg
    by_cases hb0 : b = 0
    · simp [hb0] at hg
    · simp [hb0] at hg
      exact ⟨hb0, hg⟩
  have hBlt : ∀ q2, q2 ∈ sl → ∀ g, g ∈ sblk (res nm σ) q2 → g < w.heap.size := fun q2 h2 g hg => hm.mok.extB g (List.mem_append_right _ (List.mem_flatMap.2 ⟨q2, h2, hg⟩))
  have hX : ∀ q2, q2 ∈ setSl j ⟨mem.length, own, v⟩ sl → SlotOK w' (res nm' σ') q2 := fun q2 h2 => by
    rcases setSl_mem hin.apart hq q2 h2 with rfl | ⟨h3, h6⟩
    · refine ⟨fun ho => ?_, fun j' v' hv' => ?_, ?_, ?_, hok.small, hok.ty⟩
      · have := hok.own ho
        rw [← hoadn, ← hnewn 2 (by omega)] at this
        exact this
      · have := hok.cell j' v' hv'
        rw [← hoadn] at this
        exact this
      · rw [hnewn 3 (by omega)]; exact hok.len
      · rw [hnewn 2 (by omega)]; exact hok.cap
    · have hok2 : SlotOK w (res nm σ) q2 := hm.mok.ext.2 q2 h3
      have hok3 := hok2.st (w' := w') (fun g hg => kk.block g (hBlt q2 h3 g hg) (fun hgS => by
        rcases hS g hgS with this | this
        rotate_left
        · exact this.2.2 (List.mem_append_right _ (List.mem_flatMap.2 ⟨q2, h3, hg⟩))
        rw [← hsq] at this
        rcases h6 with h6 | h6
        · exact h6 g this hg
        · exact h6 g hg this))
      refine ⟨fun ho => ?_, fun j' v' hv' => ?_, ?_, ?_, hok3.small, hok3.ty⟩
      · rw [holdb q2 h3, hold q2 h3 2 (by omega)]; exact hok3.own ho
      · rw [holdb q2 h3]; exact hok3.cell j' v' hv'
      · rw [hold q2 h3 3 (by omega)]; exact hok3.len
      · rw [hold q2 h3 2 (by omega)]; exact hok3.cap
  have hsw : ∀ b', b' ∈ z.B ++ (slotsX (res nm σ) sl).B ↔ b' ∈ (slotsX (res nm σ) sl).B ++ z.B := fun b' => by simp only [List.mem_append, or_comm]
  have hBB : ∀ g, g ∈ (slotsX (res nm' σ') (setSl j ⟨mem.length, own, v⟩ sl)).B → g ∈ (slotsX (res nm σ) sl).B ∨ (w.heap.size ≤ g ∧ g < w'.heap.size) := fun g hg => by
    obtain ⟨q2, h2, hg⟩ := List.mem_flatMap.1 hg
    rcases setSl_mem hin.apart hq q2 h2 with rfl | ⟨h3, _⟩
    · obtain ⟨hb0, rfl⟩ := hsn g hg
      rcases hb with hb | hb | hb
      · exact (hb0 hb).elim
      · exact .inl (List.mem_flatMap.2 ⟨q, hq1, by rw [hsq]; exact hb⟩)
      · exact .inr hb
    · rw [hsblk q2 h3] at hg
      exact .inl (List.mem_flatMap.2 ⟨q2, h3, hg⟩)
  obtain ⟨g1, g2, g3⟩ := eff2 (a' := slotsX (res nm' σ') (setSl j ⟨mem.length, own, v⟩ sl)) hm.mok.swap (fun b' hb' => hm.owns b' ((hsw b').2 hb')) (fun b' hb' hb'' => hd b' hb'' hb') kk (fun g hg => (hS g hg).imp (fun h => List.mem_flatMap.2 ⟨q, hq1, by rw [hsq]; exact h⟩) (fun h => ⟨h.1, h.2.1, fun hz => h.2.2 (List.mem_append_left _ hz)⟩)) hX hBB
  have hpre : ∀ n, n ∈ pre → σ n = σ' n := fun n hn => hag n (hnall n (by rw [hnme]; exact List.mem_append_left _ hn))
  have hfam : famJ slotY ⟨nm0 ++ [mem.length, mem.length + 1, mem.length + 2, mem.length + 3], k, ps, at_, ⟨m, xs, setSl j ⟨mem.length, own, v⟩ sl⟩⟩ (res (nm0 ++ [mem.length, mem.length + 1, mem.length + 2, mem.length + 3]) σ') (z.and (slotsX (res nm' σ') (setSl j ⟨mem.length, own, v⟩ sl))) := by
    rw [show nm0 ++ [mem.length, mem.length + 1, mem.length + 2, mem.length + 3] = pre ++ nm' by rw [hnme, ← hnm', List.append_assoc]]
    refine hre nm' ⟨m, xs, setSl j ⟨mem.length, own, v⟩ sl⟩ σ' hpre (fun b' hb' hb'' => g3 b' hb'' hb') ⟨fun q2 h2 d hd' => ?_, ?_⟩
    · rcases setSl_mem hin.apart hq q2 h2 with rfl | ⟨h3, _⟩
      · exact hnew d hd'
      · exact hsub _ (hin.names q2 h3 d hd')
    · refine setSl_pair (q := q) (hin.apart.imp_of_mem fun {a b} ha hb' h => by rw [hsblk a ha, hsblk b hb']; exact h) hq fun q2 h2 => ⟨fun h g hg hg' => ?_, fun h g hg hg' => ?_⟩
      · obtain ⟨hb0, rfl⟩ := hsn g hg
        rcases hb with hb | hb | hb
        · exact hb0 hb
        · refine h _ ?_ hg'
          rw [hsblk q hq1, hsq]; exact hb
        · rw [hsblk q2 h2] at hg'
          have := hBlt q2 h2 _ hg'
          omega
      · obtain ⟨hb0, rfl⟩ := hsn g hg'
        rcases hb with hb | hb | hb
        · exact hb0 hb
        · refine h _ hg ?_
          rw [hsblk q hq1, hsq]; exact hb
        · rw [hsblk q2 h2] at hg
          have := hBlt q2 h2 _ hg
          omega
  refine ⟨_, ⟨hfam, fun n hn => ?_, ?_, ?_⟩, fun g hg => (List.mem_append.1 hg).elim (fun h => .inl (List.mem_append_left _ h)) (fun h => (hBB g h).elim (fun h => .inl (List.mem_append_right _ h)) (fun h => .inr h.1))⟩
  · rcases List.mem_append.1 hn with hn | hn
    · have := hnall n hn
      simp; omega
    · simp at hn ⊢; omega
  · exact fun b' hb' => g2 b' (by simpa [Ext.and, or_comm] using hb')
  · exact g1.swap.more hwf hag hL (fun b' hb' => by simpa using hb')

/-- What a method says of the object: places, index; the answer, places, index behind it. -/
abbrev RefF := List SV → List Pos → Nat → Option (SV × List Pos × Nat)
def blkRef (b : Option (Option Blk)) : Option (Nat × Int) := match b with
  | some (some ⟨[.os j, .v (.int .i64 bt)], t⟩) => if Nat.beq t 42 = true then some (j, bt) else none
  | _ => none
theorem blkRef_some {b : Option (Option Blk)} {j : Nat} {bt : Int} (h : blkRef b = some (j, bt)) : b = some (some ⟨[.os j, .v (.int .i64 bt)], 42⟩) := by
  unfold blkRef at h
  split at h
  · rename_i j' bt' t
    split at h
    · rename_i e
      have e := Nat.eq_of_beq_eq_true e
      injection h with h
      injection h with h1 h2
      subst h1 h2 e
      rfl
    · cases h
  · cases h
def slP (q : Option Sl) : Option (List Pos) := match q with
  | some ⟨_, false, .poss S e qs⟩ => if (Nat.beq S 35 && Nat.beq e 29) = true then some qs else none
  | _ => none
def refW (i : Nat) (φ : RefF) : List SV → List (Option Blk) → Gh → Option CRR
  | .c (.one (.ptr i' off)) :: args, mem, ⟨nm, k, ps, at_, ⟨m, xs, sl⟩⟩ =>
    if (Nat.beq i i' && Nat.beq off 0) = true then match blkRef mem[i]? with
      | some (j, bt) => match slP (getSl j sl) with
        | some qs => match φ args qs bt.toNat with
          | some (r, qs', bt') => if memWf mem = true then
              some (.test (decide (qs.length ≤ 16 ∧ 0 ≤ bt ∧ bt ≤ qs.length)) ⟨some r, [none, none, none, none], ⟨nm ++ [mem.length, mem.length + 1, mem.length + 2, mem.length + 3], k, ps, at_, ⟨m, xs, setSl j ⟨mem.length, false, .poss 35 29 qs'⟩ sl⟩⟩, true, some (i, ⟨[.os mem.length, .v (.int .i64 (bt' : Nat))], 42⟩)⟩)
            else none
          | none => none
        | none => none
      | none => none
    else none
  | _, _, _ => none

theorem refW_ok {L0 : List Nat} {f : Nat} {fn : Func} (i : Nat) (φ : RefF) (hfn : Try.prog.funcs[f]? = some fn ∧ fn.body.isSome = true ∧ (fn.name == "runtime.NumGoroutine") = false)
    (hφ : ∀ args qs bt r qs' bt', φ args qs bt = some (r, qs', bt') → (∀ q k off, r ≠ .c (.one (.ep q k off))) ∧ ∀ (E : Nat → Row) (σ : Nat → Nat), (∀ σ', r.den E σ' = r.den E σ) ∧ ∀ (J b o c : Nat) (w : World), RJ w J b o c false qs bt → qs.length ≤ 16 → bt ≤ qs.length →
      Calls Try.prog f (Value.pointer (some ⟨J, 0, none⟩) :: args.map (SV.den E σ)).toArray w fun e w' => e = .returned (r.den E σ) ∧ RPost w J b false qs' bt' w') :
    CallOK Try.prog (famJ slotY) L0 f (refW i φ) := by
  refine ⟨fn, hfn.1, hfn.2.1, hfn.2.2, fun args mem gh cr hcr hok E σ w0 x w hm hL => ?_⟩
  unfold refW at hcr
  split at hcr
  rotate_left
  · cases hcr
  rename_i i' off args nm k ps at_ m xs sl
  split at hcr
  rotate_left
  · cases hcr
  rename_i hi
  simp only [Bool.and_eq_true] at hi
  have hi1 := Nat.eq_of_beq_eq_true hi.1
  have hi2 := Nat.eq_of_beq_eq_true hi.2
  subst hi1 hi2
  split at hcr
  rotate_left
  · cases hcr
  rename_i j bt hb
  split at hcr
  rotate_left
  · cases hcr
  rename_i qs hq
  split at hcr
  rotate_left
  · cases hcr
  rename_i r qs' bt' hr
  split at hcr
  rotate_left
  · cases hcr
  rename_i hwf
  injection hcr with hcr
  subst hcr
  have hpre : qs.length ≤ 16 ∧ 0 ≤ bt ∧ bt ≤ qs.length := of_decide_eq_true hok
  have hb := blkRef_some hb
  obtain ⟨n', hq⟩ : ∃ n', getSl j sl = some ⟨n', false, .poss 35 29 qs⟩ := by
    unfold slP at hq
    split at hq
    · rename_i n' S e qs0 hqq
      split at hq
      · rename_i hc
        simp only [Bool.and_eq_true] at hc
        injection hq with hq
        rw [Nat.eq_of_beq_eq_true hc.1, Nat.eq_of_beq_eq_true hc.2, hq] at hqq
        exact ⟨n', hqq⟩
      · cases hq
    · cases hq
  have hn' : n' = j := (getSl_some hq).2
  subst hn'
  obtain ⟨bt, rfl⟩ : ∃ z : Nat, bt = z := ⟨bt.toNat, by omega⟩
  rw [Int.toNat_natCast] at hr
  obtain ⟨hep, hφ⟩ := hφ args qs bt r qs' bt' hr
  obtain ⟨hrd, hφ⟩ := hφ E σ
  -- the object as it stands
  obtain ⟨hs, _, hin0⟩ := slot_of hm hq
  obtain ⟨z, hxe, hin, hd, _, _⟩ := slot_split hm
  have hilt := (List.getElem?_eq_some_iff.1 hb).1
  have hblk := hm.mok.blk i _ hb
  have hxd := hm.mok.extd i _ hb
  have hown := hm.mok.own i _ hb
  have hoad : oad (refN (σ i) (σ n') (σ (n' + 1)) (σ (n' + 2)) qs.length) 1 = oad σ n' := by simp [oad, refN]
  have hlen : σ (n' + 3) = qs.length := hs.len
  have hmem : σ n' ≠ 0 → σ n' - 1 ∈ x.B := fun hne => by
    rw [hxe]
    refine List.mem_append_right _ (List.mem_flatMap.2 ⟨_, hin0, ?_⟩)
    have e0 := res_in (σ := σ) (hin.names _ hin0 0 (by omega))
    have e0 : res (Gh.tl ⟨nm, k, ps, at_, ⟨m, xs, sl⟩⟩) σ n' = σ n' := e0
    simp [sblk, oad, e0, hne]
  have hrj : RJ w (σ i) (σ n') (σ (n' + 1)) (σ (n' + 2)) false qs bt := by
    refine ⟨?_, ⟨fun hh => (by cases hh), fun j v hv => ?_, rfl, hs.cap, hs.small, hs.ty⟩, fun hne he => ?_, fun hne => ?_⟩
    · rw [hblk, hoad]
      simp [A.den, hlen]
    · have := hs.cell j v hv
      rw [← hoad] at this
      exact this
    · exact hxd (he ▸ hmem hne)
    · exact hm.mok.extB _ (hmem hne)
  have hcall := hφ (σ i) (σ n') (σ (n' + 1)) (σ (n' + 2)) w hrj hpre.1 (by omega)
  refine Calls.mono (R := _) (by simpa [SV.den, CV.den, A.den] using hcall) ?_
  rintro e w' ⟨rfl, ⟨b', o', c', hrj', hfr⟩, hk⟩
  have hsz := hk.size
  have hs' := hrj'.slot
  have hsq : ∀ g, g ∈ sblk σ ⟨n', false, .poss 35 29 qs⟩ ↔ (σ n' ≠ 0 ∧ g = σ n' - 1) := fun g => by
    simp only [sblk, oad]
    by_cases h0 : σ n' = 0
    · simp [h0]
    · simp [h0]
  -- the block is no longer told
  have hm1 : Mx E (famJ slotY) L0 w0 σ ⟨nm, k, ps, at_, ⟨m, xs, sl⟩⟩ (mem.set i none) x w := ⟨hm.fam, fun n hn => by simpa using hm.nm n hn, hm.owns, hm.mok.untold hilt⟩
  have hwf1 : memWf (mem.set i none) = true := by
    refine List.all_eq_true.2 fun b hb => ?_
    rw [List.length_set]
    rcases List.mem_or_eq_of_mem_set hb with hb | hb
    · exact List.all_eq_true.1 hwf b hb
    · subst hb; rfl
  have hnk : ∀ a ba, (mem.set i none)[a]? = some (some ba) → a ≠ i ∧ mem[a]? = some (some ba) := fun a ba ha => by
    by_cases hai : i = a
    · subst hai
      rw [List.getElem?_set_self hilt] at ha
      cases ha
    · rw [List.getElem?_set_ne hai] at ha
      exact ⟨fun e => hai e.symm, ha⟩
  have hslot : SlotOK w' (updS σ (mem.set i none).length b' o' c' (SlV.poss 35 29 qs').len) ⟨(mem.set i none).length, false, .poss 35 29 qs'⟩ := by
    have ho : oad (updS σ (mem.set i none).length b' o' c' (SlV.poss 35 29 qs').len) (mem.set i none).length = oad (refN (σ i) b' o' c' qs'.length) 1 := by simp [oad, updS, refN]
    refine ⟨fun hh => (by cases hh), fun j v hv => ?_, ?_, ?_, hs'.small, hs'.ty⟩
    · rw [ho]; exact hs'.cell j v hv
    · simp [updS]
    · have := hs'.cap
      simpa [updS, refN] using this
  have g1 := slot_next2 hm1 hwf1 (fun a ha => by rw [List.length_set]; exact hL a ha) hq (b := b') (o := o') (c := c') (v := .poss 35 29 qs') (own := false) hk (fun g hg => by
      simp only [refB, List.mem_cons] at hg
      rcases hg with rfl | hg
      · exact .inr ⟨hown.1, fun a ba ha => fun he => (hnk a ba ha).1 (hm.mok.inj a i ba _ (hnk a ba ha).2 hb he), hxd⟩
      · refine .inl ((hsq g).2 ?_)
        by_cases h0 : σ n' = 0
        · simp [h0] at hg
        · simp [h0] at hg; exact ⟨h0, hg⟩) hslot (by
      by_cases h0 : b' = 0
      · exact .inl h0
      · rcases hfr h0 with h1 | h1
        · simp only [refB, List.mem_cons] at h1
          rcases h1 with h1 | h1
          · exact (hrj'.ne h0 h1).elim
          · refine .inr (.inl ((hsq _).2 ?_))
            by_cases h0 : σ n' = 0
            · simp [h0] at h1
            · simp [h0] at h1; exact ⟨h0, h1⟩
        · exact .inr (.inr ⟨h1, hrj'.lt h0⟩))
  obtain ⟨x', g2, gB⟩ := g1
  have hσi : updS σ (mem.set i none).length b' o' c' (SlV.poss 35 29 qs').len i = σ i := updS_lt (by simpa using hilt)
  rw [List.length_set] at g2 hσi
  have hset : (mem.set i none ++ [none, none, none, none]).set i (some ⟨[.os mem.length, .v (.int .i64 (bt' : Nat))], 42⟩) = mem.set i (some ⟨[.os mem.length, .v (.int .i64 (bt' : Nat))], 42⟩) ++ [none, none, none, none] := by
    rw [List.set_append_left _ _ (by simpa using hilt), List.set_set]
  have hJx : σ i ∉ x'.B := fun hmm => by
    rcases gB _ hmm with h1 | h1
    · exact hxd h1
    · have := hown.2
      omega
  have g3 := g2.mok.told (i := i) (by simp; omega) (b := some ⟨[.os mem.length, .v (.int .i64 (bt' : Nat))], 42⟩) fun b0 hb0 => by
    injection hb0 with hb0
    subst hb0
    rw [hσi]
    refine ⟨?_, hJx, hown.1, fun a ba hai ha he => ?_⟩
    · rw [hrj'.box]
      simp [A.den, oad, refN, updS, SlV.len]
    · by_cases hal : a < mem.length
      · rw [List.getElem?_append_left (by simpa using hal)] at ha
        obtain ⟨h1, h2⟩ := hnk a ba ha
        rw [updS_lt hal] at he
        exact h1 (hm.mok.inj a i ba _ h2 hb he)
      · rw [List.getElem?_append_right (by simpa using hal)] at ha
        have := List.mem_of_getElem? ha
        simp at this
  rw [hset] at g3
  refine ⟨_, rfl, updS σ mem.length b' o' c' (SlV.poss 35 29 qs').len, fun v hv => ?_, ⟨x', g2.fam, fun n hn => ?_, g2.owns, g3⟩, fun a ha => (updS_lt ha).symm, hk.mono fun g hg => ?_⟩
  · injection hv with hv
    subst hv
    exact ⟨(hrd _).symm, fun q k off hh => (hep q k off hh).elim⟩
  · have := g2.nm n hn
    simpa [CR.mem] using this
  · simp only [refB, List.mem_cons] at hg
    simp only [CR.kept, if_true]
    rcases hg with rfl | hg
    · exact List.mem_append_right _ (by simp)
    · refine List.mem_append_left _ ?_
      by_cases h0 : σ n' = 0
      · simp [h0] at hg
      · simp [h0] at hg; rw [hg]; exact hmem h0
end Go.Proofs.Ytglbhabpenkpdaa.Sx
