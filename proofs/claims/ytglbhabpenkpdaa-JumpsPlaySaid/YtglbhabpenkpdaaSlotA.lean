/-
  Slices for the reckoner: append, and what is cut off in front. Conditions: stated at each theorem.
-/
import Derived.Test.YtglbhabpenkpdaaSlot
set_option linter.unusedSimpArgs false
set_option linter.unusedVariables false
namespace Go.Proofs.Ytglbhabpenkpdaa.Sx
open Go.RowKit Go.Proofs.Ytglbhabpenkpdaa

def setSl (j : Nat) (new : Sl) : List Sl → List Sl
  | [] => []
  | q :: r => if Nat.beq q.nm j = true then new :: r else q :: setSl j new r

theorem setSl_mem {R : Sl → Sl → Prop} {j : Nat} {new q : Sl} : ∀ {l : List Sl}, l.Pairwise R → getSl j l = some q → ∀ q2, q2 ∈ setSl j new l → q2 = new ∨ (q2 ∈ l ∧ (R q q2 ∨ R q2 q))
  | [], _, h => by cases h
  | x :: r, hp, h => by
    rw [List.pairwise_cons] at hp
    intro q2 hq2
    unfold getSl at h
    unfold setSl at hq2
    by_cases e : Nat.beq x.nm j = true
    · rw [if_pos e] at h hq2
      injection h with h
      subst h
      rcases List.mem_cons.1 hq2 with rfl | hq2
      · exact .inl rfl
      · exact .inr ⟨List.mem_cons_of_mem _ hq2, .inl (hp.1 _ hq2)⟩
    · rw [if_neg e] at h hq2
      rcases List.mem_cons.1 hq2 with rfl | hq2
      · exact .inr ⟨List.mem_cons_self, .inr (hp.1 _ (getSl_some h).1)⟩
      · rcases setSl_mem hp.2 h q2 hq2 with h1 | ⟨h1, h2⟩
        · exact .inl h1
        · exact .inr ⟨List.mem_cons_of_mem _ h1, h2⟩

theorem setSl_pair {R : Sl → Sl → Prop} {j : Nat} {new q : Sl} : ∀ {l : List Sl}, l.Pairwise R → getSl j l = some q → (∀ q2, q2 ∈ l → (R q q2 → R new q2) ∧ (R q2 q → R q2 new)) → (setSl j new l).Pairwise R
  | [], _, h, _ => by cases h
  | x :: r, hp, h, hn => by
    rw [List.pairwise_cons] at hp
    unfold getSl at h
    unfold setSl
    by_cases e : Nat.beq x.nm j = true
    · rw [if_pos e] at h ⊢
      injection h with h
      subst h
      exact List.pairwise_cons.2 ⟨fun q2 hq2 => (hn q2 (List.mem_cons_of_mem _ hq2)).1 (hp.1 q2 hq2), hp.2⟩
    · rw [if_neg e] at h ⊢
      refine List.pairwise_cons.2 ⟨fun q2 hq2 => ?_, setSl_pair hp.2 h fun q2 hq2 => hn q2 (List.mem_cons_of_mem _ hq2)⟩
      rcases setSl_mem hp.2 h q2 hq2 with rfl | ⟨h1, _⟩
      · exact (hn x List.mem_cons_self).2 (hp.1 _ (getSl_some h).1)
      · exact hp.1 _ h1

def updS (σ : Nat → Nat) (m b o c l : Nat) : Nat → Nat := fun i => if i = m then b else if i = m + 1 then o else if i = m + 2 then c else if i = m + 3 then l else σ i
theorem updS_lt {σ : Nat → Nat} {m b o c l i : Nat} (h : i < m) : updS σ m b o c l i = σ i := by
  unfold updS
  rw [if_neg (by omega), if_neg (by omega), if_neg (by omega), if_neg (by omega)]

theorem own_cells {w : World} {e sz : Nat} {a : Option Addr} {n c : Nat} {xs : List Value} (h : w.ownsRow 0 e sz (.slice a n c) n xs) (hn : 0 < n) : ∃ g, a = some ⟨g, 0, none⟩ ∧ n ≤ c ∧ g < w.heap.size ∧ ∀ j v, xs[j]? = some v → w.cell? ⟨g, 0 + j, none⟩ = some v := by
  rcases h.2 with ⟨_, h0⟩ | ⟨g, cap, cur, hv, _, hh, h1, _, h3, h4⟩
  · omega
  · injection hv with e1 e2 e3
    subst e1 e3
    refine ⟨g, rfl, h1, blk_lt hh, fun j v hv => ?_⟩
    rw [← h4, List.getElem?_take] at hv
    split at hv
    · rw [blk_cell hh, Nat.zero_add, ← Array.getElem?_toList]
      exact hv
    · cases hv

/-- One slot was changed for another. -/
theorem slot_next {E : Nat → Row} {L0 : List Nat} {w0 : WM} {σ : Nat → Nat} {k at_ j : Nat} {nm0 : List Nat} {ps : List (Int × Int)} {m : Nat} {xs : List Int} {sl : List Sl} {mem : List (Option Blk)} {x : Ext} {w w' : World} (hm : Mx E (famJ slotY) L0 w0 σ ⟨nm0, k, ps, at_, ⟨m, xs, sl⟩⟩ mem x w)
    (hwf : memWf mem = true) (hL : ∀ i, i < L0.length → i < mem.length) {q : Sl} (hq : getSl j sl = some q) {b o c : Nat} {v : SlV} {own : Bool} {S : List Nat} (kk : Keep S w w') (hS : ∀ g, g ∈ S → g ∈ sblk σ q)
    (hok : SlotOK w' (updS σ mem.length b o c v.len) ⟨mem.length, own, v⟩) (hb : b = 0 ∨ (b - 1 ∈ sblk σ q ∨ (w.heap.size ≤ b - 1 ∧ b - 1 < w'.heap.size))) :
    Mo E (famJ slotY) L0 w0 (updS σ mem.length b o c v.len) ⟨nm0 ++ [mem.length, mem.length + 1, mem.length + 2, mem.length + 3], k, ps, at_, ⟨m, xs, setSl j ⟨mem.length, own, v⟩ sl⟩⟩ (mem ++ [none, none, none, none]) w' ∧ Keep x.B w w' := by
  obtain ⟨z, rfl, hin, hd, hnme, hre⟩ := slot_split hm
  have hnall : ∀ n, n ∈ nm0 → n < mem.length := hm.nm
  generalize hgt : Gh.tl ⟨nm0, k, ps, at_, ⟨m, xs, sl⟩⟩ = nm at *
  generalize hgp : Gh.pre ⟨nm0, k, ps, at_, ⟨m, xs, sl⟩⟩ = pre at *
  have hnme : nm0 = pre ++ nm := hnme
  have hnm : ∀ n, n ∈ nm → n < mem.length := fun n hn => hnall n (by rw [hnme]; exact List.mem_append_right _ hn)
  have hq1 := (getSl_some hq).1
  generalize hs' : updS σ mem.length b o c v.len = σ' at *
  have hag : ∀ n, n < mem.length → σ n = σ' n := fun n hn => by rw [← hs']; exact (updS_lt hn).symm
  generalize hnm' : nm ++ [mem.length, mem.length + 1, mem.length + 2, mem.length + 3] = nm' at *
  have hsub : ∀ n, n ∈ nm → n ∈ nm' := fun n hn => by rw [← hnm']; exact List.mem_append_left _ hn
  -- names of the elder slots
  have hold : ∀ q2, q2 ∈ sl → ∀ d, d < 4 → res nm' σ' (q2.nm + d) = res nm σ (q2.nm + d) := fun q2 h2 d hd' => by
    have := hin.names q2 h2 d hd'
    rw [res_in this, res_in (hsub _ this), hag _ (hnm _ this)]
  have holdb : ∀ q2, q2 ∈ sl → oad (res nm' σ') q2.nm = oad (res nm σ) q2.nm := fun q2 h2 => by
    have e0 := hold q2 h2 0 (by omega)
    have e1 := hold q2 h2 1 (by omega)
    simp only [Nat.add_zero] at e0
    simp only [oad, e0, e1]
  have hsblk : ∀ q2, q2 ∈ sl → sblk (res nm' σ') q2 = sblk (res nm σ) q2 := fun q2 h2 => by simp only [sblk, holdb q2 h2]
  have hsq : sblk (res nm σ) q = sblk σ q := by
    have e0 := res_in (σ := σ) (hin.names q hq1 0 (by omega))
    have e1 := res_in (σ := σ) (hin.names q hq1 1 (by omega))
    simp only [Nat.add_zero] at e0
    simp only [sblk, oad, e0, e1]
  have hnew : ∀ d, d < 4 → mem.length + d ∈ nm' := fun d hd' => by
    rw [← hnm']
    refine List.mem_append_right _ ?_
    have : d = 0 ∨ d = 1 ∨ d = 2 ∨ d = 3 := by omega
    rcases this with rfl | rfl | rfl | rfl <;> simp
  have hnewn : ∀ d, d < 4 → res nm' σ' (mem.length + d) = σ' (mem.length + d) := fun d hd' => res_in (hnew d hd')
  have hoadn : oad (res nm' σ') mem.length = oad σ' mem.length := by
    have e0 := hnewn 0 (by omega)
    have e1 := hnewn 1 (by omega)
    simp only [Nat.add_zero] at e0
    simp only [oad, e0, e1]
  have hσm : σ' mem.length = b := by rw [← hs']; simp [updS]
  have hsn : ∀ g, g ∈ sblk (res nm' σ') ⟨mem.length, own, v⟩ → b ≠ 0 ∧ g = b - 1 := fun g hg => by
    have hg : g ∈ ((oad (res nm' σ') mem.length).map (·.block)).toList := hg
    rw [hoadn] at hg
    simp only [oad, hσm] at hg
    by_cases hb0 : b = 0
    · simp [hb0] at hg
    · simp [hb0] at hg
      exact ⟨hb0, hg⟩
  have hBlt : ∀ q2, q2 ∈ sl → ∀ g, g ∈ sblk (res nm σ) q2 → g < w.heap.size := fun q2 h2 g hg => hm.mok.extB g (List.mem_append_right _ (List.mem_flatMap.2 ⟨q2, h2, hg⟩))
  have hX : ∀ q2, q2 ∈ setSl j ⟨mem.length, own, v⟩ sl → SlotOK w' (res nm' σ') q2 := fun q2 h2 => by
    rcases setSl_mem hin.apart hq q2 h2 with rfl | ⟨h3, h6⟩
    · refine ⟨fun ho => ?_, fun j' v' hv' => ?_, ?_, ?_, hok.small, hok.ty⟩
      · have := hok.own ho
        rw [← hoadn, ← hnewn 2 (by omega)] at this
        exact this
      · have := hok.cell j' v' hv'
        rw [← hoadn] at this
        exact this
      · rw [hnewn 3 (by omega)]; exact hok.len
      · rw [hnewn 2 (by omega)]; exact hok.cap
    · have hok2 : SlotOK w (res nm σ) q2 := hm.mok.ext.2 q2 h3
      have hok3 := hok2.st (w' := w') (fun g hg => kk.block g (hBlt q2 h3 g hg) (fun hgS => by
        have := hS g hgS
        rw [← hsq] at this
        rcases h6 with h6 | h6
        · exact h6 g this hg
        · exact h6 g hg this))
      refine ⟨fun ho => ?_, fun j' v' hv' => ?_, ?_, ?_, hok3.small, hok3.ty⟩
      · rw [holdb q2 h3, hold q2 h3 2 (by omega)]; exact hok3.own ho
      · rw [holdb q2 h3]; exact hok3.cell j' v' hv'
      · rw [hold q2 h3 3 (by omega)]; exact hok3.len
      · rw [hold q2 h3 2 (by omega)]; exact hok3.cap
  have hsw : ∀ b', b' ∈ z.B ++ (slotsX (res nm σ) sl).B ↔ b' ∈ (slotsX (res nm σ) sl).B ++ z.B := fun b' => by simp only [List.mem_append, or_comm]
  obtain ⟨g1, g2, g3, g4⟩ := eff (a' := slotsX (res nm' σ') (setSl j ⟨mem.length, own, v⟩ sl)) hm.mok.swap (fun b' hb' => hm.owns b' ((hsw b').2 hb')) (fun b' hb' hb'' => hd b' hb'' hb') kk (fun g hg => List.mem_flatMap.2 ⟨q, hq1, by rw [hsq]; exact hS g hg⟩) hX (fun g hg => by
    obtain ⟨q2, h2, hg⟩ := List.mem_flatMap.1 hg
    rcases setSl_mem hin.apart hq q2 h2 with rfl | ⟨h3, _⟩
    · obtain ⟨hb0, rfl⟩ := hsn g hg
      rcases hb with hb | hb | hb
      · exact (hb0 hb).elim
      · exact .inl (List.mem_flatMap.2 ⟨q, hq1, by rw [hsq]; exact hb⟩)
      · exact .inr hb
    · rw [hsblk q2 h3] at hg
      exact .inl (List.mem_flatMap.2 ⟨q2, h3, hg⟩))
  have hpre : ∀ n, n ∈ pre → σ n = σ' n := fun n hn => hag n (hnall n (by rw [hnme]; exact List.mem_append_left _ hn))
  have hfam : famJ slotY ⟨nm0 ++ [mem.length, mem.length + 1, mem.length + 2, mem.length + 3], k, ps, at_, ⟨m, xs, setSl j ⟨mem.length, own, v⟩ sl⟩⟩ (res (nm0 ++ [mem.length, mem.length + 1, mem.length + 2, mem.length + 3]) σ') (z.and (slotsX (res nm' σ') (setSl j ⟨mem.length, own, v⟩ sl))) := by
    rw [show nm0 ++ [mem.length, mem.length + 1, mem.length + 2, mem.length + 3] = pre ++ nm' by rw [hnme, ← hnm', List.append_assoc]]
    refine hre nm' ⟨m, xs, setSl j ⟨mem.length, own, v⟩ sl⟩ σ' hpre (fun b' hb' hb'' => g3 b' hb'' hb') ⟨fun q2 h2 d hd' => ?_, ?_⟩
    · rcases setSl_mem hin.apart hq q2 h2 with rfl | ⟨h3, _⟩
      · exact hnew d hd'
      · exact hsub _ (hin.names q2 h3 d hd')
    · refine setSl_pair (q := q) (hin.apart.imp_of_mem fun {a b} ha hb' h => by rw [hsblk a ha, hsblk b hb']; exact h) hq fun q2 h2 => ⟨fun h g hg hg' => ?_, fun h g hg hg' => ?_⟩
      · obtain ⟨hb0, rfl⟩ := hsn g hg
        rcases hb with hb | hb | hb
        · exact hb0 hb
        · refine h _ ?_ hg'
          rw [hsblk q hq1, hsq]; exact hb
        · rw [hsblk q2 h2] at hg'
          have := hBlt q2 h2 _ hg'
          omega
      · obtain ⟨hb0, rfl⟩ := hsn g hg'
        rcases hb with hb | hb | hb
        · exact hb0 hb
        · refine h _ hg ?_
          rw [hsblk q hq1, hsq]; exact hb
        · rw [hsblk q2 h2] at hg
          have := hBlt q2 h2 _ hg
          omega
  refine ⟨⟨_, hfam, fun n hn => ?_, ?_, ?_⟩, g4.mono (fun b' hb' => (hsw b').2 hb')⟩
  · rcases List.mem_append.1 hn with hn | hn
    · have := hnall n hn
      simp; omega
    · simp at hn ⊢; omega
  · exact fun b' hb' => g2 b' (by simpa [Ext.and, or_comm] using hb')
  · exact g1.swap.more hwf hag hL (fun b' hb' => by simpa using hb')

/-- What is appended. -/
def SlV.add : SlV → List A → Option SlV
  | .ints S e .i64 xs, [.v (.int .i64 x)] => some (.ints S e .i64 (xs ++ [x]))
  | .poss S e ps, [.v (.int .i64 z), .v (.int .i64 y)] => some (.poss S e (ps ++ [(z, y)]))
  | _, _ => none

def SlV.rest : SlV → SlV
  | .ints S e k xs => .ints S e k (xs.drop 1)
  | .poss S e ps => .poss S e (ps.drop 1)

theorem SlV.add_some {v v' : SlV} {l : List A} (h : v.add l = some v') (E : Nat → Row) (σ : Nat → Nat) : v'.S = v.S ∧ v'.e = v.e ∧ v'.sz = v.sz ∧ v'.len = v.len + 1 ∧ v'.vals = v.vals ++ l.map (A.den E σ) ∧ l.length = v.sz ∧ ∀ y, y ∈ l.map (A.den E σ) → y.oneCell' = true := by
  unfold SlV.add at h
  split at h
  · injection h with h
    subst h
    exact ⟨rfl, rfl, rfl, by simp [SlV.len], by simp [SlV.vals, A.den], rfl, by simp [A.den, Value.oneCell']⟩
  · injection h with h
    subst h
    exact ⟨rfl, rfl, rfl, by simp [SlV.len], by simp [SlV.vals, posV_app, posV, A.den], rfl, by simp [A.den, Value.oneCell']⟩
  · cases h

def slotA : Op → List (Nat × SV) → List (Option Blk) → Gh → Option CRR
  | .call { callee := .builtin .append, args := ⟨[d, s]⟩, argTypes := ⟨[S, S']⟩ }, tmps, mem, ⟨nm, k, ps, at_, ⟨m, xs, sl⟩⟩ => match evO tmps d, evO tmps s with
    | some (.c (.one (.os j))), some (.c (.one (.bsl b 1))) => match getSl j sl, mem[b]? with
      | some ⟨n', true, v⟩, some (some ⟨cells, e'⟩) => match v.add cells with
        | some v' => if Nat.beq v.S S = true then if Nat.beq v.S S' = true then if memWf mem = true then
            some (.test (decide (v'.len ≤ 1000000)) ⟨some (.c (.one (.os mem.length))), [none, none, none, none], ⟨nm ++ [mem.length, mem.length + 1, mem.length + 2, mem.length + 3], k, ps, at_, ⟨m, xs, setSl j ⟨mem.length, true, v'⟩ sl⟩⟩, true, none⟩)
          else none else none else none
        | none => none
      | _, _ => none
    | _, _ => none
  | _, _, _, _ => none

theorem wp_yields2 {P : Program} {a : Act} {w w' : World} {o : Oper} {v : Value} {K : Act → World → Prop} {Qk : Exit → Act → World → Prop} (h : (execOp a.eval o).run P w = .ok (.value v) w') (hK : K (a.put o.dst v) w') : o.wp P a w K Qk := by
  unfold Oper.wp
  rw [h, Oper.upon_value]
  exact hK

theorem slotA_ok {L0 : List Nat} : OpOK Try.prog (famJ slotY) L0 slotA := by
  intro op tmps mem gh cr hcr hok E σ w0 x a w hm hL V o ho Qk
  unfold slotA at hcr
  split at hcr
  · rename_i d s S S' nm k ps at_ m xs sl
    split at hcr
    · rename_i j b hj hbv
      split at hcr
      · rename_i n' v cells e' hq hb
        split at hcr
        · rename_i v' hadd
          split at hcr
          · rename_i e1
            split at hcr
            · rename_i e2
              split at hcr
              · rename_i hwf
                injection hcr with hcr
                subst hcr
                have e1 := Nat.eq_of_beq_eq_true e1
                have e2 := Nat.eq_of_beq_eq_true e2
                have hsm : v'.len ≤ 1000000 := of_decide_eq_true hok
                obtain ⟨a1, a2, a3, a4, a5, a6, a7⟩ := SlV.add_some hadd E σ
                obtain ⟨hs, hn, hin⟩ := slot_of (gh := ⟨nm, k, ps, at_, ⟨m, xs, sl⟩⟩) hm hq
                obtain ⟨by_, z, helt, hby⟩ := hs.ty.elt
                have hn : n' = j := hn
                subst hn
                have hown : w.ownsRow 0 v.e v.sz (.slice (oad σ n') v.len (σ (n' + 2))) v.len v.vals := hs.own rfl
                have hlen : σ (n' + 3) = v.len := hs.len
                have helt : Elt Try.prog v.S v.e v.sz by_ z := helt
                have ev1 := evO_sound V hj
                have ev2 := evO_sound V hbv
                simp only [SV.den, CV.den, A.den, hlen] at ev1 ev2
                have hblk := hm.mok.blk b ⟨cells, e'⟩ hb
                have hsz : 0 < v.sz := helt.pos
                have harg : Arg w v.sz (.slice (some ⟨σ b, 0, none⟩) 1 1) 1 (cells.map (A.den E σ)) none :=
                  ⟨by rw [List.length_map, a6]; omega, a7, .inr ⟨by omega, σ b, 0, 1, rfl, fun j v hv => by rw [blk_cell hblk, Nat.zero_add]; simpa using hv, by simp⟩⟩
                obtain ⟨a', c', w', hrun, hown', hkeep, hblk'⟩ := app_mem helt w (oad σ n') v.len (σ (n' + 2)) v.vals hown _ 1 _ none harg (by
                  have : (v.len + 1) * by_ ≤ 1000000 * 64 := Nat.mul_le_mul (by omega) hby
                  omega)
                obtain ⟨g, rfl, hc', hg, hcl⟩ := own_cells hown' (by omega)
                have hS2 : SlotOK w' (updS σ mem.length (g + 1) 0 c' v'.len) ⟨mem.length, true, v'⟩ := by
                  have ho' : oad (updS σ mem.length (g + 1) 0 c' v'.len) mem.length = some ⟨g, 0, none⟩ := by simp [oad, updS]
                  refine ⟨fun _ => ?_, fun j v hv => ?_, by simp [updS], ?_, hsm, ⟨by_, z, ?_, hby⟩, ?_⟩
                  · show w'.ownsRow 0 v'.e v'.sz (.slice (oad (updS σ mem.length (g + 1) 0 c' v'.len) mem.length) v'.len (updS σ mem.length (g + 1) 0 c' v'.len (mem.length + 2))) v'.len v'.vals
                    rw [ho', a2, a3, a5, a4]
                    simpa [updS] using hown'
                  · have hv : v'.vals[j]? = some v := hv
                    rw [a5] at hv
                    exact ⟨g, 0, ho', hcl j v hv⟩
                  · show v'.len ≤ updS σ mem.length (g + 1) 0 c' v'.len (mem.length + 2)
                    rw [a4]
                    simpa [updS] using hc'
                  · show Elt Try.prog v'.S v'.e v'.sz by_ z
                    rw [a1, a2, a3]; exact helt
                  · show ∀ w, (sizeOf v'.e).run Try.prog w = .ok v'.sz w
                    rw [a2, a3]; exact hs.ty.sz
                obtain ⟨g1, g2⟩ := slot_next hm hwf hL hq (S := ((oad σ n').map (fun x : Addr => x.block)).toList) hkeep (fun g hg => hg) hS2 (by
                  refine .inr ?_
                  rw [Nat.add_sub_cancel]
                  rcases hblk' with h | h
                  · left
                    have : (oad σ n').map (·.block) = some g := by rw [← h]; rfl
                    simp [sblk, this]
                  · right
                    injection h with h
                    have h : g = w.heap.size := h
                    exact ⟨by omega, hg⟩)
                have hrun2 : (execOp a.eval o).run Try.prog w = .ok (.value (.slice (some ⟨g, 0, none⟩) (v.len + 1) c')) w' := by
                  have hr := hrun o.type
                  rw [← e1, ← e2] at ho
                  have hr' : (Builtin.append_ (⟨[v.S, v.S]⟩ : Array TypeId) o.type #[.slice (oad σ n') v.len (σ (n' + 2)), .slice (some ⟨σ b, 0, none⟩) 1 1]).run Try.prog w = .ok (.slice (some ⟨g, 0, none⟩) (v.len + 1) c') w' := hr
                  simp [execOp, ho, resolve, invoke, builtin, ev1, ev2, hr', Result.andThen]
                refine wp_yields2 hrun2 ⟨_, rfl, updS σ mem.length (g + 1) 0 c' v'.len, fun v2 hv2 => ?_, g1, fun i hi => (updS_lt hi).symm, g2.mono (fun b hb => by simpa [CR.kept] using hb)⟩
                injection hv2 with hv2
                subst hv2
                exact ⟨by simp [SV.den, CV.den, A.den, oad, updS, a4], fun _ _ _ hh => by cases hh⟩
              · cases hcr
            · cases hcr
          · cases hcr
        · cases hcr
      · cases hcr
    · cases hcr
  · cases hcr

def slotC : Op → List (Nat × SV) → List (Option Blk) → Gh → Option CRR
  | .slice S x (some lo) none none, tmps, mem, ⟨nm, k, ps, at_, ⟨m, xs, sl⟩⟩ => match evO tmps x, evO tmps lo with
    | some (.c (.one (.os j))), some (.c (.one (.v (.int kk 1)))) => match getSl j sl with
      | some ⟨n', own, v⟩ => if Nat.beq v.S S = true then if memWf mem = true then
            some (.test (decide (1 ≤ v.len)) ⟨some (.c (.one (.os mem.length))), [none, none, none, none], ⟨nm ++ [mem.length, mem.length + 1, mem.length + 2, mem.length + 3], k, ps, at_, ⟨m, xs, setSl j ⟨mem.length, false, v.rest⟩ sl⟩⟩, false, none⟩)
          else none else none
      | none => none
    | _, _ => none
  | _, _, _, _ => none

theorem SlV.rest_eq (v : SlV) : v.rest.S = v.S ∧ v.rest.e = v.e ∧ v.rest.sz = v.sz ∧ v.rest.len = v.len - 1 ∧ v.rest.vals = v.vals.drop v.sz := by
  cases v with
  | ints S e k xs => exact ⟨rfl, rfl, rfl, by simp [SlV.rest, SlV.len], by simp [SlV.rest, SlV.vals, SlV.sz]⟩
  | poss S e ps => exact ⟨rfl, rfl, rfl, by simp [SlV.rest, SlV.len], by simp only [SlV.rest, SlV.vals, SlV.sz]; rw [posV_drop]⟩

theorem run_cut {P : Program} {t e sz : Nat} {kk : IntKind} {a : Option Addr} {n c : Nat} (hu : P.underlying t = some (.slice e)) (hs : ∀ w, (sizeOf e).run P w = .ok sz w) (h1 : 1 ≤ n) (w : World) :
    (Instr.sliceAt t (.slice a n c) (some (.int kk 1)) none none).run P w = .ok (.slice (if c = 1 then a else a.map (·.add (1 * sz))) (n - 1) (c - 1)) w := by
  have he : P.elem t = e := by unfold Program.elem; rw [hu]
  rw [run_sliceAt_slice (h := by rw [he]; exact hu)]
  unfold Instr.slice Instr.sliceBounds
  have hb := run_sliceBound (P := P) w kk 1 n .sliceB (by decide) (by omega)
  simp [Sem.run_bind, run_underlying hu, hb, hs, Result.andThen]

theorem slotC_ok {L0 : List Nat} : OpOK Try.prog (famJ slotY) L0 slotC := by
  intro op tmps mem gh cr hcr hok E σ w0 x a w hm hL V o ho Qk
  unfold slotC at hcr
  split at hcr
  · rename_i S xo lo nm k ps at_ m xs sl
    split at hcr
    · rename_i j kk hj hlo
      split at hcr
      · rename_i n' own v hq
        split at hcr
        · rename_i e1
          split at hcr
          · rename_i hwf
            injection hcr with hcr
            subst hcr
            have e1 := Nat.eq_of_beq_eq_true e1
            have h1 : 1 ≤ v.len := of_decide_eq_true hok
            obtain ⟨a1, a2, a3, a4, a5⟩ := SlV.rest_eq v
            obtain ⟨hs, hn, hin⟩ := slot_of (gh := ⟨nm, k, ps, at_, ⟨m, xs, sl⟩⟩) hm hq
            obtain ⟨by_, z, helt, hby⟩ := hs.ty.elt
            have hn : n' = j := hn
            subst hn
            have hlen : σ (n' + 3) = v.len := hs.len
            have hcap : v.len ≤ σ (n' + 2) := hs.cap
            have helt : Elt Try.prog v.S v.e v.sz by_ z := helt
            have ev1 := evO_sound V hj
            have ev2 := evO_sound V hlo
            simp only [SV.den, CV.den, A.den, hlen] at ev1 ev2
            obtain ⟨b, o', hb⟩ := hs.at_ (k := 0) h1
            have hb : oad σ n' = some ⟨b, o', none⟩ := hb
            have hsm : v.len ≤ 1000000 := hs.small
            have hS2 : SlotOK w (updS σ mem.length (b + 1) (if σ (n' + 2) = 1 then o' else o' + v.sz) (σ (n' + 2) - 1) v.rest.len) ⟨mem.length, false, v.rest⟩ := by
              have ho' : oad (updS σ mem.length (b + 1) (if σ (n' + 2) = 1 then o' else o' + v.sz) (σ (n' + 2) - 1) v.rest.len) mem.length = some ⟨b, if σ (n' + 2) = 1 then o' else o' + v.sz, none⟩ := by simp [oad, updS]
              refine ⟨fun h => (by cases h), fun j v2 hv => ?_, by simp [updS], ?_, ?_, ⟨by_, z, ?_, hby⟩, ?_⟩
              · have hv : v.rest.vals[j]? = some v2 := hv
                rw [a5, List.getElem?_drop] at hv
                obtain ⟨b2, o2, h3, h4⟩ := hs.cell (v.sz + j) v2 hv
                rw [show oad σ (⟨n', own, v⟩ : Sl).nm = oad σ n' from rfl, hb] at h3
                injection h3 with h3
                injection h3 with h5 h6
                subst h5 h6
                refine ⟨b, _, ho', ?_⟩
                have hj2 := (List.getElem?_eq_some_iff.1 hv).1
                have hvl := vals_len v
                by_cases hc1 : σ (n' + 2) = 1
                · exfalso
                  have : v.len = 1 := by omega
                  rw [this] at hvl
                  omega
                · rw [if_neg hc1, Nat.add_assoc]
                  exact h4
              · show v.rest.len ≤ updS σ mem.length _ _ _ _ (mem.length + 2)
                rw [a4]
                simp [updS]
                omega
              · show v.rest.len ≤ 1000000
                rw [a4]; omega
              · show Elt Try.prog v.rest.S v.rest.e v.rest.sz by_ z
                rw [a1, a2, a3]; exact helt
              · show ∀ w, (sizeOf v.rest.e).run Try.prog w = .ok v.rest.sz w
                rw [a2, a3]; exact hs.ty.sz
            obtain ⟨g1, g2⟩ := slot_next hm hwf hL hq (S := []) (Keep.refl [] w) (fun g hg => by cases hg) hS2 (by
              refine .inr (.inl ?_)
              rw [Nat.add_sub_cancel]
              simp [sblk, hb])
            have hrun := run_cut (P := Try.prog) (kk := kk) (a := oad σ n') (n := v.len) (c := σ (n' + 2)) helt.und hs.ty.sz h1 w
            have hrun2 : (execOp a.eval o).run Try.prog w = .ok (.value (.slice (some ⟨b, if σ (n' + 2) = 1 then o' else o' + v.sz, none⟩) (v.len - 1) (σ (n' + 2) - 1))) w := by
              rw [← e1] at ho
              have hval : (if σ (n' + 2) = 1 then oad σ n' else (oad σ n').map (·.add (1 * v.sz))) = some ⟨b, if σ (n' + 2) = 1 then o' else o' + v.sz, none⟩ := by
                rw [hb]
                split
                · rfl
                · simp [addr_add]
              rw [show (1 * SlV.sz (⟨n', own, v⟩ : Sl).v) = 1 * v.sz from rfl, hval] at hrun
              simp [execOp, ho, ev1, ev2, hrun, Result.andThen]
            refine wp_yields2 hrun2 ⟨_, rfl, updS σ mem.length (b + 1) (if σ (n' + 2) = 1 then o' else o' + v.sz) (σ (n' + 2) - 1) v.rest.len, fun v2 hv2 => ?_, g1, fun i hi => (updS_lt hi).symm, Keep.refl _ _⟩
            injection hv2 with hv2
            subst hv2
            exact ⟨by simp [SV.den, CV.den, A.den, oad, updS, a4], fun _ _ _ hh => by cases hh⟩
          · cases hcr
        · cases hcr
      · cases hcr
    · cases hcr
  · cases hcr

/-- One word or the other. -/
def orW (φ ψ : Op → List (Nat × SV) → List (Option Blk) → Gh → Option CRR) : Op → List (Nat × SV) → List (Option Blk) → Gh → Option CRR := fun op tmps mem gh => match φ op tmps mem gh with | some c => some c | none => ψ op tmps mem gh
theorem orW_ok {P : Program} {X : Fam} {L0 : List Nat} {φ ψ : Op → List (Nat × SV) → List (Option Blk) → Gh → Option CRR} (h1 : OpOK P X L0 φ) (h2 : OpOK P X L0 ψ) : OpOK P X L0 (orW φ ψ) := by
  intro op tmps mem gh cr hcr
  unfold orW at hcr
  split at hcr
  · rename_i c hc
    rw [hcr] at hc
    exact h1 op tmps mem gh cr hc
  · exact h2 op tmps mem gh cr hcr
def slotW : Op → List (Nat × SV) → List (Option Blk) → Gh → Option CRR := orW slotR (orW slotA slotC)
theorem slotW_ok {L0 : List Nat} : OpOK Try.prog (famJ slotY) L0 slotW := orW_ok slotR_ok (orW_ok slotA_ok slotC_ok)
end Go.Proofs.Ytglbhabpenkpdaa.Sx
