/-
  Slices for the reckoner: how a world with slots goes on. Conditions: stated at each theorem.
-/
import Derived.Test.YtloaehlgcgpieaaSlot
set_option linter.all false
namespace Go.Proofs.Ytloaehlgcgpieaa.Sx
open Go.RowKit Go.Proofs.Ytloaehlgcgpieaa

def setSl (j : Nat) (new : Sl) : List Sl → List Sl
  | [] => []
  | q :: r => if Nat.beq q.nm j = true then new :: r else q :: setSl j new r

theorem setSl_mem {R : Sl → Sl → Prop} {j : Nat} {new q : Sl} : ∀ {l : List Sl}, l.Pairwise R → getSl j l = some q → ∀ q2, q2 ∈ setSl j new l → q2 = new ∨ (q2 ∈ l ∧ (R q q2 ∨ R q2 q))
  | [], _, h => by cases h
  | x :: r, hp, h => by
    rw [List.pairwise_cons] at hp
    intro q2 hq2
    unfold getSl at h
    unfold setSl at hq2
    by_cases e : Nat.beq x.nm j = true
    · rw [if_pos e] at h hq2
      injection h with h
      subst h
      rcases List.mem_cons.1 hq2 with rfl | hq2
      · exact .inl rfl
      · exact .inr ⟨List.mem_cons_of_mem _ hq2, .inl (hp.1 _ hq2)⟩
    · rw [if_neg e] at h hq2
      rcases List.mem_cons.1 hq2 with rfl | hq2
      · exact .inr ⟨List.mem_cons_self, .inr (hp.1 _ (getSl_some h).1)⟩
      · rcases setSl_mem hp.2 h q2 hq2 with h1 | ⟨h1, h2⟩
        · exact .inl h1
        · exact .inr ⟨List.mem_cons_of_mem _ h1, h2⟩

theorem setSl_pair {R R' : Sl → Sl → Prop} {j : Nat} {new q : Sl} : ∀ {l : List Sl}, l.Pairwise R → getSl j l = some q → (∀ a b, a ∈ l → b ∈ l → R a b → R' a b) → (∀ q2, q2 ∈ l → (R q q2 → R' new q2) ∧ (R q2 q → R' q2 new)) → (setSl j new l).Pairwise R'
  | [], _, h, _, _ => by cases h
  | x :: r, hp, h, hR, hn => by
    rw [List.pairwise_cons] at hp
    unfold getSl at h
    unfold setSl
    by_cases e : Nat.beq x.nm j = true
    · rw [if_pos e] at h ⊢
      injection h with h
      subst h
      exact List.pairwise_cons.2 ⟨fun q2 hq2 => (hn q2 (List.mem_cons_of_mem _ hq2)).1 (hp.1 q2 hq2), hp.2.imp_of_mem fun {a b} ha hb h => hR a b (List.mem_cons_of_mem _ ha) (List.mem_cons_of_mem _ hb) h⟩
    · rw [if_neg e] at h ⊢
      refine List.pairwise_cons.2 ⟨fun q2 hq2 => ?_, setSl_pair hp.2 h (fun a b ha hb => hR a b (List.mem_cons_of_mem _ ha) (List.mem_cons_of_mem _ hb)) fun q2 hq2 => hn q2 (List.mem_cons_of_mem _ hq2)⟩
      rcases setSl_mem hp.2 h q2 hq2 with rfl | ⟨h1, _⟩
      · exact (hn x List.mem_cons_self).2 (hp.1 _ (getSl_some h).1)
      · exact hR x q2 List.mem_cons_self (List.mem_cons_of_mem _ h1) (hp.1 _ h1)

variable {E : Nat → Row} {L0 : List Nat} {w0 : WM} {σ σ' : Nat → Nat} {gh : Gh} {mem : List (Option Blk)} {x : Ext} {w w' : World}

/-- The slots behind an effect. -/
theorem slots_next (hm : Mx E famB L0 w0 σ gh mem x w) (hwf : memWf mem = true) (hL : ∀ i, i < L0.length → i < mem.length) (hag : ∀ i, i < mem.length → σ i = σ' i)
    {S : List Nat} (kk : Keep S w w') (hS : ∀ g, g ∈ S → ∃ q, q ∈ gh.sl ∧ q.own = true ∧ g ∈ sblk σ q) {nm' : List Nat} {sl' : List Sl} {new : List (Option Blk)} (hnew : ∀ b, b ∈ new → b = none)
    (hnm : ∀ n, n ∈ nm' → n < mem.length + new.length) (hn : ∀ q, q ∈ sl' → ∀ d, d < 4 → q.nm + d ∈ nm') (hX : ∀ q, q ∈ sl' → SlotOK w' σ' q) (hap : sl'.Pairwise (Apart σ'))
    (hB : ∀ q, q ∈ sl' → ∀ g, g ∈ sblk σ' q → (∃ q0, q0 ∈ gh.sl ∧ g ∈ sblk σ q0) ∨ (w.heap.size ≤ g ∧ g < w'.heap.size))
    (hW : ∀ q, q ∈ sl' → q.own = true → ∀ g, g ∈ sblk σ' q → (∃ q0, q0 ∈ gh.sl ∧ q0.own = true ∧ g ∈ sblk σ q0) ∨ w.heap.size ≤ g) :
    Mo E famB L0 w0 σ' ⟨nm', sl'⟩ (mem ++ new) w' ∧ Keep x.W w w' := by
  obtain ⟨rfl, hin⟩ := hm.fam
  have h1 : ∀ q, q ∈ gh.sl → sblk (res gh.nm σ) q = sblk σ q := fun q hq => sblk_names (oad_res (hin.names q hq)).2
  have h2 : ∀ q, q ∈ sl' → sblk (res nm' σ') q = sblk σ' q := fun q hq => sblk_names (oad_res (hn q hq)).2
  have hlt : ∀ q, q ∈ gh.sl → ∀ g, g ∈ sblk σ q → g < w.heap.size := fun q hq => slot_lt hm hq
  have hSW : ∀ g, g ∈ S → g ∈ (slotsX (res gh.nm σ) gh.sl).W := fun g hg => by
    obtain ⟨q, hq, ho, hg⟩ := hS g hg
    exact mem_W.2 ⟨q, hq, ho, by rw [h1 q hq]; exact hg⟩
  have hw0 := hm.mok.keep.size
  have m1 : MOK E (slotsX (res nm' σ') sl') L0 w0 σ mem w' := by
    refine hm.mok.call kk (fun g hg => hm.owns g (hSW g hg)) (fun i b hi hg => hm.mok.extd i b hi ((slotsX (res gh.nm σ) gh.sl).sub _ (hSW _ hg))) (fun q hq => (hX q hq).names (oad_res (hn q hq)).2) (fun g hg => ?_) (fun i b hi hg => ?_)
    · obtain ⟨q, hq, hg⟩ := mem_B.1 hg
      rw [h2 q hq] at hg
      rcases hB q hq g hg with ⟨q0, hq0, hg⟩ | h
      · exact Nat.lt_of_lt_of_le (hlt q0 hq0 g hg) kk.size
      · exact h.2
    · obtain ⟨q, hq, hg⟩ := mem_B.1 hg
      rw [h2 q hq] at hg
      rcases hB q hq _ hg with ⟨q0, hq0, hg⟩ | h
      · exact hm.mok.extd i b hi (mem_B.2 ⟨q0, hq0, by rw [h1 q0 hq0]; exact hg⟩)
      · have := (hm.mok.own i b hi).2
        omega
  refine ⟨⟨slotsX (res nm' σ') sl', ⟨rfl, hn, hap.imp_of_mem fun {a b} ha hb h ho g hg hg' => ?_⟩, fun n hn => ?_, fun g hg => ?_, m1.more hwf hag hL hnew⟩, kk.mono hSW⟩
  · have ha' := h2 a ha
    have hb' := h2 b hb
    exact h ho g (ha' ▸ hg) (hb' ▸ hg')
  · rw [List.length_append]
    exact hnm n hn
  · obtain ⟨q, hq, ho, hg⟩ := mem_W.1 hg
    rw [h2 q hq] at hg
    rcases hW q hq ho g hg with ⟨q0, hq0, ho, hg⟩ | h
    · exact hm.owns g (mem_W.2 ⟨q0, hq0, ho, by rw [h1 q0 hq0]; exact hg⟩)
    · exact .inr (Nat.le_trans hw0 h)

theorem slot_apart (hm : Mx E famB L0 w0 σ gh mem x w) : gh.sl.Pairwise (Apart σ) := by
  obtain ⟨rfl, hin⟩ := hm.fam
  exact hin.apart.imp_of_mem fun {a b} ha hb h ho g hg hg' => h ho g (by rw [sblk_names (oad_res (hin.names a ha)).2]; exact hg) (by rw [sblk_names (oad_res (hin.names b hb)).2]; exact hg')
theorem slot_ok (hm : Mx E famB L0 w0 σ gh mem x w) {q : Sl} (hq : q ∈ gh.sl) : SlotOK w σ q := by
  obtain ⟨rfl, hin⟩ := hm.fam
  exact (hm.mok.ext q hq).names fun d hd => ((oad_res (hin.names q hq)).2 d hd).symm
theorem slot_nm (hm : Mx E famB L0 w0 σ gh mem x w) {q : Sl} (hq : q ∈ gh.sl) : ∀ d, d < 4 → q.nm + d ∈ gh.nm ∧ q.nm + d < mem.length := fun d hd => by
  obtain ⟨rfl, hin⟩ := hm.fam
  exact ⟨hin.names q hq d hd, hm.nm _ (hin.names q hq d hd)⟩

/-- One slot was changed for another. -/
theorem slots_put (hm : Mx E famB L0 w0 σ gh mem x w) (hwf : memWf mem = true) (hL : ∀ i, i < L0.length → i < mem.length) (hag : ∀ i, i < mem.length → σ i = σ' i) {j : Nat} {q new : Sl} (hq : getSl j gh.sl = some q)
    {S : List Nat} (kk : Keep S w w') (hS : ∀ g, g ∈ S → q.own = true ∧ g ∈ sblk σ q) {nm' : List Nat} {ms : List (Option Blk)} (hms : ∀ b, b ∈ ms → b = none)
    (hsub : ∀ n, n ∈ gh.nm → n ∈ nm') (hnm : ∀ n, n ∈ nm' → n < mem.length + ms.length) (hn : ∀ d, d < 4 → new.nm + d ∈ nm') (hX : SlotOK w' σ' new)
    (hb : ∀ g, g ∈ sblk σ' new → (g ∈ sblk σ q ∧ (new.own = true → q.own = true)) ∨ (w.heap.size ≤ g ∧ g < w'.heap.size)) :
    Mo E famB L0 w0 σ' ⟨nm', setSl j new gh.sl⟩ (mem ++ ms) w' ∧ Keep x.W w w' := by
  have hq1 := (getSl_some hq).1
  have hap := slot_apart hm
  have hs : ∀ q2, q2 ∈ gh.sl → sblk σ' q2 = sblk σ q2 := fun q2 h2 => sblk_names fun d hd => (hag _ (slot_nm hm h2 d hd).2).symm
  have hmem : ∀ q2, q2 ∈ setSl j new gh.sl → q2 = new ∨ (q2 ∈ gh.sl ∧ (Apart σ q q2 ∨ Apart σ q2 q)) := fun q2 h2 => setSl_mem hap hq q2 h2
  refine slots_next hm hwf hL hag kk (fun g hg => ⟨q, hq1, (hS g hg).1, (hS g hg).2⟩) hms hnm (fun q2 h2 d hd => ?_) (fun q2 h2 => ?_) ?_ (fun q2 h2 g hg => ?_) (fun q2 h2 ho g hg => ?_)
  · rcases hmem q2 h2 with rfl | ⟨h3, _⟩
    · exact hn d hd
    · exact hsub _ (slot_nm hm h3 d hd).1
  · rcases hmem q2 h2 with rfl | ⟨h3, h4⟩
    · exact hX
    · refine ((slot_ok hm h3).st (w' := w') fun g hg => kk.block g (slot_lt hm h3 g hg) fun hgS => ?_).names fun d hd => (hag _ (slot_nm hm h3 d hd).2).symm
      obtain ⟨ho, hgq⟩ := hS g hgS
      rcases h4 with h4 | h4
      · exact h4 (.inl ho) g hgq hg
      · exact h4 (.inr ho) g hg hgq
  · have key : ∀ q2, q2 ∈ gh.sl → Apart σ q q2 → Apart σ' new q2 := fun q2 h2 h ho g hg hg' => by
      rw [hs q2 h2] at hg'
      rcases hb g hg with ⟨h3, h4⟩ | h3
      · exact h (ho.imp h4 id) g h3 hg'
      · have := slot_lt hm h2 g hg'
        omega
    exact setSl_pair hap hq (fun a b ha hb' h ho g hg hg' => h ho g (hs a ha ▸ hg) (hs b hb' ▸ hg')) fun q2 h2 => ⟨key q2 h2, fun h => (key q2 h2 h.symm).symm⟩
  · rcases hmem q2 h2 with rfl | ⟨h3, _⟩
    · rcases hb g hg with ⟨h4, _⟩ | h4
      · exact .inl ⟨q, hq1, h4⟩
      · exact .inr h4
    · rw [hs q2 h3] at hg
      exact .inl ⟨q2, h3, hg⟩
  · rcases hmem q2 h2 with rfl | ⟨h3, _⟩
    · rcases hb g hg with ⟨h4, h5⟩ | h4
      · exact .inl ⟨q, hq1, h5 ho, h4⟩
      · exact .inr h4.1
    · rw [hs q2 h3] at hg
      exact .inl ⟨q2, h3, ho, hg⟩

/-- One slot more. -/
theorem slots_add (hm : Mx E famB L0 w0 σ gh mem x w) (hwf : memWf mem = true) (hL : ∀ i, i < L0.length → i < mem.length) (hag : ∀ i, i < mem.length → σ i = σ' i) {new : Sl}
    (kk : Keep [] w w') {nm' : List Nat} {ms : List (Option Blk)} (hms : ∀ b, b ∈ ms → b = none)
    (hsub : ∀ n, n ∈ gh.nm → n ∈ nm') (hnm : ∀ n, n ∈ nm' → n < mem.length + ms.length) (hn : ∀ d, d < 4 → new.nm + d ∈ nm') (hX : SlotOK w' σ' new)
    (hb : ∀ g, g ∈ sblk σ' new → w.heap.size ≤ g ∧ g < w'.heap.size) :
    Mo E famB L0 w0 σ' ⟨nm', gh.sl ++ [new]⟩ (mem ++ ms) w' := by
  have hap := slot_apart hm
  have hs : ∀ q2, q2 ∈ gh.sl → sblk σ' q2 = sblk σ q2 := fun q2 h2 => sblk_names fun d hd => (hag _ (slot_nm hm h2 d hd).2).symm
  have hmem : ∀ q2, q2 ∈ gh.sl ++ [new] → q2 = new ∨ q2 ∈ gh.sl := fun q2 h2 => by
    rcases List.mem_append.1 h2 with h | h
    · exact .inr h
    · exact .inl (List.mem_singleton.1 h)
  refine (slots_next hm hwf hL hag kk (fun g hg => by cases hg) hms hnm (fun q2 h2 d hd => ?_) (fun q2 h2 => ?_) ?_ (fun q2 h2 g hg => ?_) (fun q2 h2 ho g hg => ?_)).1
  · rcases hmem q2 h2 with rfl | h3
    · exact hn d hd
    · exact hsub _ (slot_nm hm h3 d hd).1
  · rcases hmem q2 h2 with rfl | h3
    · exact hX
    · exact ((slot_ok hm h3).st (w' := w') fun g hg => kk.block g (slot_lt hm h3 g hg) fun hgS => by cases hgS).names fun d hd => (hag _ (slot_nm hm h3 d hd).2).symm
  · refine List.pairwise_append.2 ⟨hap.imp_of_mem fun {a b} ha hb' h ho g hg hg' => h ho g (hs a ha ▸ hg) (hs b hb' ▸ hg'), List.pairwise_singleton _ _, fun q2 h2 q3 h3 ho g hg hg' => ?_⟩
    obtain rfl := List.mem_singleton.1 h3
    rw [hs q2 h2] at hg
    have := slot_lt hm h2 g hg
    have := (hb g hg').1
    omega
  · rcases hmem q2 h2 with rfl | h3
    · exact .inr (hb g hg)
    · rw [hs q2 h3] at hg
      exact .inl ⟨q2, h3, hg⟩
  · rcases hmem q2 h2 with rfl | h3
    · exact .inr (hb g hg).1
    · rw [hs q2 h3] at hg
      exact .inl ⟨q2, h3, ho, hg⟩

/-- Names for a new slot. -/
def updS (σ : Nat → Nat) (m b o c l : Nat) : Nat → Nat := fun i => if i = m then b else if i = m + 1 then o else if i = m + 2 then c else if i = m + 3 then l else σ i
theorem updS_lt {σ : Nat → Nat} {m b o c l i : Nat} (h : i < m) : updS σ m b o c l i = σ i := by
  unfold updS
  rw [if_neg (by omega), if_neg (by omega), if_neg (by omega), if_neg (by omega)]
theorem updS_oad {σ : Nat → Nat} {m b o c l : Nat} : oad (updS σ m b o c l) m = if b = 0 then none else some ⟨b - 1, o, none⟩ := by
  simp [oad, updS]
def four (m : Nat) : List Nat := [m, m + 1, m + 2, m + 3]
theorem four_mem {m d : Nat} (hd : d < 4) : m + d ∈ four m := by
  have : d = 0 ∨ d = 1 ∨ d = 2 ∨ d = 3 := by omega
  unfold four
  rcases this with rfl | rfl | rfl | rfl <;> simp
theorem four_lt {m n : Nat} (h : n ∈ four m) : n < m + 4 := by
  unfold four at h
  simp at h
  omega
def nones4 : List (Option Blk) := [none, none, none, none]
theorem nones4_none : ∀ b, b ∈ nones4 → b = none := fun b hb => by
  unfold nones4 at hb
  simp at hb
  exact hb

/-- A row of one's own, as the names of a new slot. -/
theorem own_slot {v : SlV} {a : Option Addr} {c m : Nat} (h : w'.ownsRow 0 v.e 1 (.slice a v.len c) v.len v.vals) (hsm : v.len ≤ 1000000) (hT : SlT v) :
    ∃ b, (a = if b = 0 then none else some ⟨b - 1, 0, none⟩) ∧ SlotOK w' (updS σ m b 0 c v.len) ⟨m, true, v⟩ ∧ (∀ g, g ∈ sblk (updS σ m b 0 c v.len) ⟨m, true, v⟩ → a.map (·.block) = some g ∧ g < w'.heap.size) := by
  obtain ⟨b, hbo⟩ : ∃ b, (a = if b = 0 then none else some ⟨b - 1, 0, none⟩) := by
    rcases h.2 with ⟨h, _⟩ | ⟨g, cap, cur, h, _⟩
    · injection h with h
      exact ⟨0, by simp [h]⟩
    · injection h with h
      exact ⟨g + 1, by simp [h]⟩
  have hoad : oad (updS σ m b 0 c v.len) m = a := by rw [updS_oad, hbo]
  refine ⟨b, hbo, ⟨fun _ => ?_, fun j y hv => ?_, fun hn => ?_, by simp [updS], ?_, hsm, hT⟩, fun g hg => ?_⟩
  · show w'.ownsRow 0 v.e 1 (.slice (oad (updS σ m b 0 c v.len) m) v.len (updS σ m b 0 c v.len (m + 2))) v.len v.vals
    rw [hoad]
    simpa [updS] using h
  · have hv : v.vals[j]? = some y := hv
    have hn : 0 < v.len := by
      have := (List.getElem?_eq_some_iff.1 hv).1
      rw [vals_len] at this
      omega
    obtain ⟨g, hg⟩ := own_addr h hn
    subst hg
    exact ⟨g, 0, hoad, by rw [Nat.zero_add]; exact own_cell h hv⟩
  · show updS σ m b 0 c v.len (m + 2) = 0
    have hn : oad (updS σ m b 0 c v.len) m = none := hn
    rw [hoad] at hn
    rcases h.2 with ⟨h, _⟩ | ⟨g, cap, cur, h, _⟩
    · injection h with _ _ h
      simpa [updS] using h
    · rw [hn] at h
      cases h
  · show v.len ≤ updS σ m b 0 c v.len (m + 2)
    simp [updS]
    rcases h.2 with ⟨_, h⟩ | ⟨g, cap, cur, h, _, _, h4, _⟩
    · omega
    · injection h with _ _ h; omega
  · have hg : g ∈ ((oad (updS σ m b 0 c v.len) m).map (·.block)).toList := hg
    rw [hoad] at hg
    have hg : a.map (·.block) = some g := by simpa using hg
    exact ⟨hg, own_lt h g hg⟩
end Go.Proofs.Ytloaehlgcgpieaa.Sx
