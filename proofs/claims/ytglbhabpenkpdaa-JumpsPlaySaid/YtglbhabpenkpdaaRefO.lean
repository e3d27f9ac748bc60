/-
  The reference's object in memory, and the reckoner's start over it. Conditions: stated at each theorem.
-/
import Derived.Test.YtglbhabpenkpdaaRefT
set_option linter.unusedSimpArgs false
set_option linter.unusedVariables false
namespace Go.Proofs.Ytglbhabpenkpdaa.Sx
open Go.RowKit Go.Proofs.Ytglbhabpenkpdaa

/-- Names: the object's block, then the four of its slice. -/
def refN (J b o c l : Nat) : Nat → Nat := fun i => if i = 0 then J else if i = 1 then b else if i = 2 then o else if i = 3 then c else if i = 4 then l else 0

structure RJ (w : World) (J b o c : Nat) (own : Bool) (qs : List Pos) (bt : Int) : Prop where
  box : w.heap[J]? = some (.cells #[.slice (oad (refN J b o c qs.length) 1) qs.length c, .int .i64 bt] 42 (0, 0))
  slot : SlotOK w (refN J b o c qs.length) ⟨1, own, .poss 35 29 qs⟩
  ne : b ≠ 0 → b - 1 ≠ J
  lt : b ≠ 0 → b - 1 < w.heap.size

abbrev refG (own : Bool) (qs : List Pos) : Gh := ⟨[1, 2, 3, 4], 0, [], 0, ⟨0, [], [⟨1, own, .poss 35 29 qs⟩]⟩⟩
abbrev refM (bt : Int) : List (Option Blk) := [some ⟨[.os 1, .v (.int .i64 bt)], 42⟩, none, none, none, none]

theorem ref_start {w : World} {J b o c : Nat} {own : Bool} {qs : List Pos} {bt : Int} (h : RJ w J b o c own qs bt) (M : List Nat) (hJ : J ∈ M) (hM : b ≠ 0 → b - 1 ∈ M) : Mo noRows (famJ slotY) [J] ⟨w, M⟩ (refN J b o c qs.length) (refG own qs) (refM bt) w := by
  have hr : ∀ d, d < 4 → res [1, 2, 3, 4] (refN J b o c qs.length) (1 + d) = refN J b o c qs.length (1 + d) := fun d hd => res_in (by
    have : d = 0 ∨ d = 1 ∨ d = 2 ∨ d = 3 := by omega
    rcases this with rfl | rfl | rfl | rfl <;> simp)
  have ho : oad (res [1, 2, 3, 4] (refN J b o c qs.length)) 1 = oad (refN J b o c qs.length) 1 := by simp [oad, res]
  have hblk : ∀ g, g ∈ (slotsX (res [1, 2, 3, 4] (refN J b o c qs.length)) [⟨1, own, .poss 35 29 qs⟩]).B → b ≠ 0 ∧ g = b - 1 := fun g hg => by
    have hg : g ∈ [(⟨1, own, .poss 35 29 qs⟩ : Sl)].flatMap (sblk (res [1, 2, 3, 4] (refN J b o c qs.length))) := hg
    simp only [List.flatMap_cons, List.flatMap_nil, List.append_nil, sblk, ho] at hg
    simp only [oad, refN] at hg
    by_cases hb : b = 0
    · simp [hb] at hg
    · simp [hb] at hg
      exact ⟨hb, hg⟩
  have hs : SlotOK w (res [1, 2, 3, 4] (refN J b o c qs.length)) ⟨1, own, .poss 35 29 qs⟩ := by
    have := h.slot
    refine ⟨fun hh => ?_, fun j v hv => ?_, ?_, ?_, this.small, this.ty⟩
    · have h2 := this.own hh
      rw [← ho] at h2
      rw [show res [1, 2, 3, 4] (refN J b o c qs.length) (1 + 2) = refN J b o c qs.length (1 + 2) from hr 2 (by omega)]
      exact h2
    · have h2 := this.cell j v hv
      rw [← ho] at h2
      exact h2
    · exact (hr 3 (by omega)).trans this.len
    · exact Nat.le_trans this.cap (Nat.le_of_eq (hr 2 (by omega)).symm)
  have kn : ∀ i bb, (refM bt)[i]? = some (some bb) → i = 0 ∧ bb = ⟨[.os 1, .v (.int .i64 bt)], 42⟩ := fun i bb hi => by
    match i, hi with
    | 0, hi => simp [refM] at hi; exact ⟨rfl, hi.symm⟩
    | 1, hi => simp [refM] at hi
    | 2, hi => simp [refM] at hi
    | 3, hi => simp [refM] at hi
    | 4, hi => simp [refM] at hi
    | i + 5, hi => simp [refM] at hi
  refine ⟨Ext.nil.and (slotsX (res [1, 2, 3, 4] (refN J b o c qs.length)) [⟨1, own, .poss 35 29 qs⟩]), ⟨_, rfl, ?_, ?_, ?_⟩, ?_, ?_, ?_⟩
  · rw [res_res fun i hi => hi]
  · intro q hq d hd
    simp at hq
    subst hq
    have : d = 0 ∨ d = 1 ∨ d = 2 ∨ d = 3 := by omega
    rcases this with rfl | rfl | rfl | rfl <;> simp
  · exact List.pairwise_singleton _ _
  · intro i hi
    simp at hi
    rcases hi with rfl | rfl | rfl | rfl <;> simp
  · intro g hg
    obtain ⟨hb, rfl⟩ := hblk g hg
    exact .inl (hM hb)
  · refine ⟨fun i bb hi => ?_, fun i j bi bj hi hj _ => by rw [(kn i bi hi).1, (kn j bj hj).1], fun i bb hi => ?_, fun i bb hi => ?_, Keep.refl _ _, noRows_ok, ⟨trivial, fun q hq => by simp at hq; subst hq; exact hs⟩, fun g hg => ?_, fun i bb hi hm => ?_⟩
    · obtain ⟨rfl, rfl⟩ := kn i bb hi
      have := h.box
      simpa [A.den, refN] using this
    · obtain ⟨rfl, rfl⟩ := kn i bb hi
      exact ⟨.inl hJ, blk_lt h.box⟩
    · match i, hi with
      | 0, hi => simpa [refN] using hi
      | i + 1, hi => simp at hi
    · obtain ⟨hb, rfl⟩ := hblk g hg
      exact h.lt hb
    · obtain ⟨rfl, rfl⟩ := kn i bb hi
      obtain ⟨hb, he⟩ := hblk _ hm
      exact h.ne hb he.symm

/-- How the object stands at a way's end. -/
theorem ref_done {E : Nat → Row} {w0 : WM} {σ : Nat → Nat} {J i m at_ : Nat} {nm : List Nat} {ps : List (Int × Int)} {xs : List Int} {own : Bool} {qs : List Pos} {bt : Int} {mem : List (Option Blk)} {w : World} (h : Mo E (famJ slotY) [J] w0 σ ⟨nm, 0, ps, at_, ⟨m, xs, [⟨i, own, .poss 35 29 qs⟩]⟩⟩ mem w) (h0 : mem[0]? = some (some ⟨[.os i, .v (.int .i64 bt)], 42⟩)) :
    RJ w J (σ i) (σ (i + 1)) (σ (i + 2)) own qs bt ∧ (σ i ≠ 0 → σ i - 1 ∈ w0.M ∨ w0.w.heap.size ≤ σ i - 1) := by
  obtain ⟨x, hm⟩ := h
  obtain ⟨hs, _, _⟩ := slot_of (j := i) (q := ⟨i, own, .poss 35 29 qs⟩) hm (by simp [getSl])
  obtain ⟨z, rfl, hin, hd, _, _⟩ := slot_split hm
  have hJ : σ 0 = J := hm.mok.init 0 J rfl
  have hb := hm.mok.blk 0 _ h0
  have hxd := hm.mok.extd 0 _ h0
  rw [hJ] at hb hxd
  have hoad : oad (refN J (σ i) (σ (i + 1)) (σ (i + 2)) qs.length) 1 = oad σ i := by simp [oad, refN]
  have hlen : σ (i + 3) = qs.length := hs.len
  have hmem : σ i ≠ 0 → σ i - 1 ∈ (z.and (slotsX (res (Gh.tl ⟨nm, 0, ps, at_, ⟨m, xs, [⟨i, own, .poss 35 29 qs⟩]⟩⟩) σ) [⟨i, own, .poss 35 29 qs⟩])).B := fun hne => by
    refine List.mem_append_right _ (List.mem_flatMap.2 ⟨_, List.mem_singleton.2 rfl, ?_⟩)
    have e0 := res_in (σ := σ) (hin.names ⟨i, own, .poss 35 29 qs⟩ (List.mem_singleton.2 rfl) 0 (by omega))
    have e0 : res (Gh.tl ⟨nm, 0, ps, at_, ⟨m, xs, [⟨i, own, .poss 35 29 qs⟩]⟩⟩) σ i = σ i := e0
    simp [sblk, oad, e0, hne]
  refine ⟨⟨?_, ⟨fun hh => ?_, fun j v hv => ?_, rfl, hs.cap, hs.small, hs.ty⟩, fun hne he => ?_, fun hne => ?_⟩, fun hne => ?_⟩
  · rw [hb, hoad]
    simp [A.den, hlen]
  · have := hs.own hh
    rw [← hoad] at this
    exact this
  · have := hs.cell j v hv
    rw [← hoad] at this
    exact this
  · exact hxd (he ▸ hmem hne)
  · exact hm.mok.extB _ (hmem hne)
  · exact hm.owns _ (hmem hne)
end Go.Proofs.Ytglbhabpenkpdaa.Sx
