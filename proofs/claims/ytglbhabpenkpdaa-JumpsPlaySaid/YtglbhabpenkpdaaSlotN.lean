/-
  Slices for the reckoner: a slot more, slots under other names; All. Conditions: stated at each theorem.
-/
import Derived.Test.YtglbhabpenkpdaaSlotA
set_option linter.unusedSimpArgs false
set_option linter.unusedVariables false
namespace Go.Proofs.Ytglbhabpenkpdaa.Sx
open Go.RowKit Go.Proofs.Ytglbhabpenkpdaa

/-- One slot more. -/
theorem slot_add {E : Nat → Row} {L0 : List Nat} {w0 : WM} {σ : Nat → Nat} {k at_ : Nat} {nm0 : List Nat} {ps : List (Int × Int)} {m : Nat} {xs : List Int} {sl : List Sl} {mem : List (Option Blk)} {x : Ext} {w w' : World} (hm : Mx E (famJ slotY) L0 w0 σ ⟨nm0, k, ps, at_, ⟨m, xs, sl⟩⟩ mem x w)
    (hwf : memWf mem = true) (hL : ∀ i, i < L0.length → i < mem.length) {b o c : Nat} {v : SlV} {own : Bool} (kk : Keep [] w w')
    (hok : SlotOK w' (updS σ mem.length b o c v.len) ⟨mem.length, own, v⟩) (hb : b = 0 ∨ (w.heap.size ≤ b - 1 ∧ b - 1 < w'.heap.size)) :
    Mo E (famJ slotY) L0 w0 (updS σ mem.length b o c v.len) ⟨nm0 ++ [mem.length, mem.length + 1, mem.length + 2, mem.length + 3], k, ps, at_, ⟨m, xs, sl ++ [⟨mem.length, own, v⟩]⟩⟩ (mem ++ [none, none, none, none]) w' := by
  obtain ⟨z, rfl, hin, hd, hnme, hre⟩ := slot_split hm
  have hnall : ∀ n, n ∈ nm0 → n < mem.length := hm.nm
  generalize hgt : Gh.tl ⟨nm0, k, ps, at_, ⟨m, xs, sl⟩⟩ = nm at *
  generalize hgp : Gh.pre ⟨nm0, k, ps, at_, ⟨m, xs, sl⟩⟩ = pre at *
  have hnme : nm0 = pre ++ nm := hnme
  have hnm : ∀ n, n ∈ nm → n < mem.length := fun n hn => hnall n (by rw [hnme]; exact List.mem_append_right _ hn)
  generalize hs' : updS σ mem.length b o c v.len = σ' at *
  have hag : ∀ n, n < mem.length → σ n = σ' n := fun n hn => by rw [← hs']; exact (updS_lt hn).symm
  generalize hnm' : nm ++ [mem.length, mem.length + 1, mem.length + 2, mem.length + 3] = nm' at *
  have hsub : ∀ n, n ∈ nm → n ∈ nm' := fun n hn => by rw [← hnm']; exact List.mem_append_left _ hn
  -- names of the elder slots
  have hold : ∀ q2, q2 ∈ sl → ∀ d, d < 4 → res nm' σ' (q2.nm + d) = res nm σ (q2.nm + d) := fun q2 h2 d hd' => by
    have := hin.names q2 h2 d hd'
    rw [res_in this, res_in (hsub _ this), hag _ (hnm _ this)]
  have holdb : ∀ q2, q2 ∈ sl → oad (res nm' σ') q2.nm = oad (res nm σ) q2.nm := fun q2 h2 => by
    have e0 := hold q2 h2 0 (by omega)
    have e1 := hold q2 h2 1 (by omega)
    simp only [Nat.add_zero] at e0
    simp only [oad, e0, e1]
  have hsblk : ∀ q2, q2 ∈ sl → sblk (res nm' σ') q2 = sblk (res nm σ) q2 := fun q2 h2 => by simp only [sblk, holdb q2 h2]
  have hnew : ∀ d, d < 4 → mem.length + d ∈ nm' := fun d hd' => by
    rw [← hnm']
    refine List.mem_append_right _ ?_
    have : d = 0 ∨ d = 1 ∨ d = 2 ∨ d = 3 := by omega
    rcases this with rfl | rfl | rfl | rfl <;> simp
  have hnewn : ∀ d, d < 4 → res nm' σ' (mem.length + d) = σ' (mem.length + d) := fun d hd' => res_in (hnew d hd')
  have hoadn : oad (res nm' σ') mem.length = oad σ' mem.length := by
    have e0 := hnewn 0 (by omega)
    have e1 := hnewn 1 (by omega)
    simp only [Nat.add_zero] at e0
    simp only [oad, e0, e1]
  have hσm : σ' mem.length = b := by rw [← hs']; simp [updS]
  have hsn : ∀ g, g ∈ sblk (res nm' σ') ⟨mem.length, own, v⟩ → b ≠ 0 ∧ g = b - 1 := fun g hg => by
    have hg : g ∈ ((oad (res nm' σ') mem.length).map (·.block)).toList := hg
    rw [hoadn] at hg
    simp only [oad, hσm] at hg
    by_cases hb0 : b = 0
    · simp [hb0] at hg
    · simp [hb0] at hg
      exact ⟨hb0, hg⟩
  have hBlt : ∀ q2, q2 ∈ sl → ∀ g, g ∈ sblk (res nm σ) q2 → g < w.heap.size := fun q2 h2 g hg => hm.mok.extB g (List.mem_append_right _ (List.mem_flatMap.2 ⟨q2, h2, hg⟩))
  have hX : ∀ q2, q2 ∈ sl ++ [⟨mem.length, own, v⟩] → SlotOK w' (res nm' σ') q2 := fun q2 h2 => by
    rcases List.mem_append.1 h2 with h3 | h2
    rotate_left
    · obtain rfl := List.mem_singleton.1 h2
      refine ⟨fun ho => ?_, fun j' v' hv' => ?_, ?_, ?_, hok.small, hok.ty⟩
      · have := hok.own ho
        rw [← hoadn, ← hnewn 2 (by omega)] at this
        exact this
      · have := hok.cell j' v' hv'
        rw [← hoadn] at this
        exact this
      · rw [hnewn 3 (by omega)]; exact hok.len
      · rw [hnewn 2 (by omega)]; exact hok.cap
    · have hok2 : SlotOK w (res nm σ) q2 := hm.mok.ext.2 q2 h3
      have hok3 := hok2.st (w' := w') (fun g hg => kk.block g (hBlt q2 h3 g hg) (by simp))
      refine ⟨fun ho => ?_, fun j' v' hv' => ?_, ?_, ?_, hok3.small, hok3.ty⟩
      · rw [holdb q2 h3, hold q2 h3 2 (by omega)]; exact hok3.own ho
      · rw [holdb q2 h3]; exact hok3.cell j' v' hv'
      · rw [hold q2 h3 3 (by omega)]; exact hok3.len
      · rw [hold q2 h3 2 (by omega)]; exact hok3.cap
  have hsw : ∀ b', b' ∈ z.B ++ (slotsX (res nm σ) sl).B ↔ b' ∈ (slotsX (res nm σ) sl).B ++ z.B := fun b' => by simp only [List.mem_append, or_comm]
  obtain ⟨g1, g2, g3, g4⟩ := eff (a' := slotsX (res nm' σ') (sl ++ [(⟨mem.length, own, v⟩ : Sl)])) hm.mok.swap (fun b' hb' => hm.owns b' ((hsw b').2 hb')) (fun b' hb' hb'' => hd b' hb'' hb') kk (fun g hg => by cases hg) hX (fun g hg => by
    obtain ⟨q2, h2, hg⟩ := List.mem_flatMap.1 hg
    rcases List.mem_append.1 h2 with h3 | h2
    · rw [hsblk q2 h3] at hg
      exact .inl (List.mem_flatMap.2 ⟨q2, h3, hg⟩)
    · obtain rfl := List.mem_singleton.1 h2
      obtain ⟨hb0, rfl⟩ := hsn g hg
      rcases hb with hb | hb
      · exact (hb0 hb).elim
      · exact .inr hb)
  have hpre : ∀ n, n ∈ pre → σ n = σ' n := fun n hn => hag n (hnall n (by rw [hnme]; exact List.mem_append_left _ hn))
  have hfam : famJ slotY ⟨nm0 ++ [mem.length, mem.length + 1, mem.length + 2, mem.length + 3], k, ps, at_, ⟨m, xs, sl ++ [⟨mem.length, own, v⟩]⟩⟩ (res (nm0 ++ [mem.length, mem.length + 1, mem.length + 2, mem.length + 3]) σ') (z.and (slotsX (res nm' σ') (sl ++ [⟨mem.length, own, v⟩]))) := by
    rw [show nm0 ++ [mem.length, mem.length + 1, mem.length + 2, mem.length + 3] = pre ++ nm' by rw [hnme, ← hnm', List.append_assoc]]
    refine hre nm' ⟨m, xs, sl ++ [⟨mem.length, own, v⟩]⟩ σ' hpre (fun b' hb' hb'' => g3 b' hb'' hb') ⟨fun q2 h2 d hd' => ?_, ?_⟩
    · rcases List.mem_append.1 h2 with h3 | h2
      · exact hsub _ (hin.names q2 h3 d hd')
      · obtain rfl := List.mem_singleton.1 h2
        exact hnew d hd'
    · refine List.pairwise_append.2 ⟨hin.apart.imp_of_mem fun {a b} ha hb' h => by rw [hsblk a ha, hsblk b hb']; exact h, by simp, fun q2 h2 q3 h3 g hg hg' => ?_⟩
      obtain rfl := List.mem_singleton.1 h3
      obtain ⟨hb0, rfl⟩ := hsn g hg'
      rcases hb with hb | hb
      · exact hb0 hb
      · rw [hsblk q2 h2] at hg
        have := hBlt q2 h2 _ hg
        omega
  refine ⟨_, hfam, fun n hn => ?_, ?_, ?_⟩
  · rcases List.mem_append.1 hn with hn | hn
    · have := hnall n hn
      simp; omega
    · simp at hn ⊢; omega
  · exact fun b' hb' => g2 b' (by simpa [Ext.and, or_comm] using hb')
  · exact g1.swap.more hwf hag hL (fun b' hb' => by simpa using hb')

theorem posT : SlT (.poss 35 29 []) := ⟨⟨16, _, elt35, by decide⟩, (TyOK.sizeOf (P := Try.prog) (t := 29) ty29_ok)⟩
theorem posT' (ps : List Pos) : SlT (.poss 35 29 ps) := ⟨posT.elt, posT.sz⟩
theorem elt34 : Elt Try.prog 34 3 1 8 (.int .i64 0) := ⟨Try.underlying34, by kernel_rfl, rfl, by simp [Value.cells, Value.oneCell'], by decide, by decide⟩
theorem intT (xs : List Int) : SlT (.ints 34 3 .i64 xs) := ⟨⟨8, _, elt34, by decide⟩, sz3⟩

/-- All: the places, in a slot. -/
def allS (i : Nat) : List SV → List (Option Blk) → Gh → Option CRR
  | [.c (.one (.ptr i' 0))], mem, ⟨i'' :: nm, k + 1, ps, at_, ⟨m, xs, sl⟩⟩ =>
    if Nat.beq i i' = true then if Nat.beq i i'' = true then if memWf mem = true then some (.one ⟨some (.tup [.one (.os mem.length), .one (.v (.int .i64 (at_ : Nat)))]), [none, none, none, none], ⟨i'' :: (nm ++ [mem.length, mem.length + 1, mem.length + 2, mem.length + 3]), k + 1, ps, at_, ⟨m, xs, sl ++ [⟨mem.length, true, .poss 35 29 ps⟩]⟩⟩, false, none⟩) else none else none else none
  | _, _, _ => none

theorem allS_ok {L0 : List Nat} (i : Nat) : CallOK Try.prog (famJ slotY) L0 11 (allS i) := by
  refine ⟨_, Try.func11, by kernel_rfl, by kernel_rfl, fun args mem gh cr hcr _ E σ w0 x w hm hL => ?_⟩
  unfold allS at hcr
  split at hcr
  · rename_i i' i'' nm k ps at_ m xs sl
    split at hcr
    · rename_i e1
      split at hcr
      · rename_i e2
        split at hcr
        · rename_i hwf
          injection hcr with hcr
          subst hcr
          have e1 := Nat.eq_of_beq_eq_true e1
          have e2 := Nat.eq_of_beq_eq_true e2
          subst e1
          subst e2
          obtain ⟨p, r, yy, hxe, hd, h1, h2, hy, hj⟩ := famJ_some hm
          have := all11 (σ i) p r ps at_ w hj (by omega)
          refine Calls.mono (R := _) (by simpa [SV.den, CV.den, A.den] using this) ?_
          rintro e w' ⟨a, c, rfl, ho, hk⟩
          have hlen0 : (SlV.poss 35 29 ps).len = ps.length := rfl
          obtain ⟨b, hbo, hbr⟩ : ∃ b, (a = if b = 0 then none else some ⟨b - 1, 0, none⟩) ∧ (b = 0 ∨ (w.heap.size ≤ b - 1 ∧ b - 1 < w'.heap.size)) := by
            rcases ho.2 with ⟨h, _⟩ | ⟨g, cap, cur, h, hb, hh, _⟩
            · injection h with h
              exact ⟨0, by simp [h], .inl rfl⟩
            · injection h with h
              exact ⟨g + 1, by simp [h], .inr ⟨by simpa using hb, by simpa using blk_lt hh⟩⟩
          have hown : w'.ownsRow 0 29 2 (.slice a ps.length c) ps.length (posV ps) := ⟨ho.1, ho.2.imp id (fun ⟨g, cap, cur, a, b, c⟩ => ⟨g, cap, cur, a, by omega, c⟩)⟩
          have hoad : oad (updS σ mem.length b 0 c (SlV.poss 35 29 ps).len) mem.length = a := by rw [hbo]; simp [oad, updS]
          have hcap : ps.length ≤ c := by
            rcases ho.2 with ⟨_, h⟩ | ⟨g, cap, cur, h, _, _, h4, _⟩
            · omega
            · injection h with _ _ h; omega
          have hS2 : SlotOK w' (updS σ mem.length b 0 c (SlV.poss 35 29 ps).len) ⟨mem.length, true, .poss 35 29 ps⟩ := by
            refine ⟨fun _ => ?_, fun j v hv => ?_, by simp [updS], ?_, by show ps.length ≤ 1000000; omega, posT' ps⟩
            · show w'.ownsRow 0 29 2 (.slice (oad (updS σ mem.length b 0 c (SlV.poss 35 29 ps).len) mem.length) ps.length (updS σ mem.length b 0 c (SlV.poss 35 29 ps).len (mem.length + 2))) ps.length (posV ps)
              rw [hoad]
              simpa [updS] using hown
            · have hv : (posV ps)[j]? = some v := hv
              have hn : 0 < ps.length := by
                have := (List.getElem?_eq_some_iff.1 hv).1
                rw [posV_len] at this
                omega
              obtain ⟨g, hg, _, _, hcl⟩ := own_cells hown hn
              exact ⟨g, 0, by show oad _ mem.length = _; rw [hoad, hg], hcl j v hv⟩
            · show ps.length ≤ updS σ mem.length b 0 c (SlV.poss 35 29 ps).len (mem.length + 2)
              simpa [updS] using hcap
          have g1 := slot_add hm hwf hL hk hS2 hbr
          refine ⟨_, rfl, updS σ mem.length b 0 c (SlV.poss 35 29 ps).len, fun v hv => ?_, g1, fun i hi => (updS_lt hi).symm, hk⟩
          injection hv with hv
          subst hv
          refine ⟨?_, fun _ _ _ hh => by cases hh⟩
          simp only [SV.den, CV.den, A.den, List.map_cons, List.map_nil, hoad]
          simp [updS, hlen0]
        · cases hcr
      · cases hcr
    · cases hcr
  · cases hcr

/-- The slots under other names. -/
theorem slots_named {E : Nat → Row} {w0 : WM} {σ σ' : Nat → Nat} {i k at_ i' : Nat} {nm nm' : List Nat} {ps : List (Int × Int)} {m : Nat} {xs : List Int} {sl sl' : List Sl} {mem mem' : List (Option Blk)} {w : World} (h : Mo E (famJ slotY) [] w0 σ ⟨i :: nm, k + 1, ps, at_, ⟨m, xs, sl⟩⟩ mem w)
    (hi : σ' i' = σ i) (hmem : ∀ b, b ∈ mem' → b = none) (hlen : ∀ n, n ∈ i' :: nm' → n < mem'.length) (hn : ∀ q, q ∈ sl' → ∀ d, d < 4 → q.nm + d ∈ nm')
    (hsrc : ∀ q', q' ∈ sl' → (∃ q, q ∈ sl ∧ q.v = q'.v ∧ (q'.own = true → q.own = true) ∧ ∀ d, d < 4 → σ' (q'.nm + d) = σ (q.nm + d)) ∨ (q'.v.len = 0 ∧ SlT q'.v ∧ σ' q'.nm = 0 ∧ σ' (q'.nm + 2) = 0 ∧ σ' (q'.nm + 3) = 0))
    (hap : sl.Pairwise (fun a b => ∀ g, g ∈ sblk σ a → g ∉ sblk σ b) → sl'.Pairwise (fun a b => ∀ g, g ∈ sblk σ' a → g ∉ sblk σ' b)) :
    Mo E (famJ slotY) [] w0 σ' ⟨i' :: nm', k + 1, ps, at_, ⟨m, xs, sl'⟩⟩ mem' w := by
  obtain ⟨x, hm⟩ := h
  obtain ⟨p, r, y, rfl, hd, h4, h5, ⟨rfl, hin⟩, hj⟩ := famJ_some hm
  have hold : ∀ q, q ∈ sl → ∀ d, d < 4 → res nm σ (q.nm + d) = σ (q.nm + d) := fun q hq d hd => res_in (hin.names q hq d hd)
  have hnew : ∀ q, q ∈ sl' → ∀ d, d < 4 → res nm' σ' (q.nm + d) = σ' (q.nm + d) := fun q hq d hd => res_in (hn q hq d hd)
  have ho : ∀ q, q ∈ sl → oad (res nm σ) q.nm = oad σ q.nm := fun q hq => by
    have e0 := hold q hq 0 (by omega)
    have e1 := hold q hq 1 (by omega)
    simp only [Nat.add_zero] at e0
    simp only [oad, e0, e1]
  have ho' : ∀ q, q ∈ sl' → oad (res nm' σ') q.nm = oad σ' q.nm := fun q hq => by
    have e0 := hnew q hq 0 (by omega)
    have e1 := hnew q hq 1 (by omega)
    simp only [Nat.add_zero] at e0
    simp only [oad, e0, e1]
  have hb1 : ∀ q, q ∈ sl → sblk (res nm σ) q = sblk σ q := fun q hq => by simp only [sblk, ho q hq]
  have hb2 : ∀ q, q ∈ sl' → sblk (res nm' σ') q = sblk σ' q := fun q hq => by simp only [sblk, ho' q hq]
  have hsub : ∀ g, g ∈ (slotsX (res nm' σ') sl').B → g ∈ (slotsX (res nm σ) sl).B := fun g hg => by
    obtain ⟨q', hq', hg⟩ := List.mem_flatMap.1 hg
    rw [hb2 q' hq'] at hg
    rcases hsrc q' hq' with ⟨q, hq, _, _, he⟩ | ⟨_, _, h0, _⟩
    · refine List.mem_flatMap.2 ⟨q, hq, ?_⟩
      rw [hb1 q hq]
      have e0 := he 0 (by omega)
      have e1 := he 1 (by omega)
      simp only [Nat.add_zero] at e0
      simpa only [sblk, oad, e0, e1] using hg
    · simp [sblk, oad, h0] at hg
  have hX : ∀ q', q' ∈ sl' → SlotOK w (res nm' σ') q' := fun q' hq' => by
    rcases hsrc q' hq' with ⟨q, hq, hv, how, he⟩ | ⟨hl0, hT, h0, h2, h3⟩
    · have hq2 := hm.mok.ext.2 q hq
      have e0 := he 0 (by omega)
      have e1 := he 1 (by omega)
      simp only [Nat.add_zero] at e0
      have ea : oad (res nm' σ') q'.nm = oad (res nm σ) q.nm := by rw [ho' q' hq', ho q hq]; simp only [oad, e0, e1]
      have e2 : res nm' σ' (q'.nm + 2) = res nm σ (q.nm + 2) := by rw [hnew q' hq' 2 (by omega), hold q hq 2 (by omega), he 2 (by omega)]
      have e3 : res nm' σ' (q'.nm + 3) = res nm σ (q.nm + 3) := by rw [hnew q' hq' 3 (by omega), hold q hq 3 (by omega), he 3 (by omega)]
      refine ⟨fun hh => ?_, fun j v hj => ?_, ?_, ?_, by rw [← hv]; exact hq2.small, by rw [← hv]; exact hq2.ty⟩
      · rw [← hv, ea, e2]; exact hq2.own (how hh)
      · rw [← hv] at hj; rw [ea]; exact hq2.cell j v hj
      · rw [← hv, e3]; exact hq2.len
      · rw [← hv, e2]; exact hq2.cap
    · have ea : oad (res nm' σ') q'.nm = none := by rw [ho' q' hq']; simp [oad, h0]
      have e2 : res nm' σ' (q'.nm + 2) = 0 := by rw [hnew q' hq' 2 (by omega), h2]
      have e3 : res nm' σ' (q'.nm + 3) = 0 := by rw [hnew q' hq' 3 (by omega), h3]
      have hv0 : q'.v.vals = [] := List.eq_nil_of_length_eq_zero (by rw [vals_len, hl0]; simp)
      refine ⟨fun hh => ?_, fun j v hj => ?_, ?_, ?_, by omega, hT⟩
      · rw [ea, e2, hl0, hv0]
        exact World.ownsRow_nil _ _ _ _
      · rw [hv0] at hj; simp at hj
      · rw [e3, hl0]
      · omega
  refine ⟨_, ⟨σ' i', p, r, slotsX (res nm' σ') sl', by simp [res], rfl, ?_, h4, h5, ?_⟩, hlen, fun b hb => ?_, ?_⟩
  · rw [hi]
    exact fun b hb hb' => hd b hb (hsub b hb')
  · show slotY nm' _ (res nm' (res (i' :: nm') σ')) _
    rw [res_res (fun n hn => List.mem_cons_of_mem _ hn)]
    refine ⟨rfl, hn, ?_⟩
    refine (hap (hin.apart.imp_of_mem fun {a b} ha hb' h => by rw [← hb1 a ha, ← hb1 b hb']; exact h)).imp_of_mem fun {a b} ha hb' h => by rw [hb2 a ha, hb2 b hb']; exact h
  · rw [hi] at hb
    rcases List.mem_append.1 hb with hb | hb
    · exact hm.owns b (List.mem_append_left _ hb)
    · exact hm.owns b (List.mem_append_right _ (hsub b hb))
  · rw [hi]
    have hno : ∀ j b, mem'[j]? ≠ some (some b) := fun j b hj => by cases hmem _ (List.mem_of_getElem? hj)
    refine ⟨fun j b hj => (hno j b hj).elim, fun j k bj bk hj => (hno j bj hj).elim, fun j b hj => (hno j b hj).elim, fun j b hj => by simp at hj, hm.mok.keep, hm.mok.rows, ⟨hm.mok.ext.1, hX⟩, fun b hb => ?_, fun j b hj => (hno j b hj).elim⟩
    rcases List.mem_append.1 hb with hb | hb
    · exact hm.mok.extB b (List.mem_append_left _ hb)
    · exact hm.mok.extB b (List.mem_append_right _ (hsub b hb))
end Go.Proofs.Ytglbhabpenkpdaa.Sx
