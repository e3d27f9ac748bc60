/-
  jumps.List as one object for the reckoner: what its methods say, and what becomes of it. Conditions: stated at each theorem.
-/
import Derived.Test.YtglbhabpenkpdaaOlderL
import Derived.Test.YtglbhabpenkpdaaNewer
import Derived.Test.YtglbhabpenkpdaaAllL
set_option linter.unusedSimpArgs false
set_option linter.unusedVariables false
namespace Go.Proofs.Ytglbhabpenkpdaa.Sx
open Go.RowKit Go.Proofs.Ytglbhabpenkpdaa

def Ext.and (a b : Ext) : Ext := ⟨a.B ++ b.B, fun w => a.X w ∧ b.X w, fun w w' h hb hs => ⟨a.st w w' h.1 (fun i hi => hb i (List.mem_append_left _ hi)) hs, b.st w w' h.2 (fun i hi => hb i (List.mem_append_right _ hi)) hs⟩⟩

def jX (L p : Nat) (r : Option Nat) (ps : List Pos) (at_ : Int) : Ext := ⟨L :: p :: r.toList, fun w => JL w L p r ps at_, fun w w' h hb hs => ⟨(hb L (by simp)).trans h.box, (vecX 65 29 2 p r ps.length (posV ps)).st w w' h.vec (fun b hb' => hb b (List.mem_cons_of_mem _ hb')) hs, h.ne, h.nr⟩⟩

/-- One part of what hangs on the ghost was written. -/
theorem eff {E : Nat → Row} {L0 : List Nat} {w0 : WM} {σ : Nat → Nat} {mem : List (Option Blk)} {a y a' : Ext} {w w' : World} {S : List Nat} (h : MOK E (a.and y) L0 w0 σ mem w) (ho : Own w0 (a.and y)) (hd : ∀ b, b ∈ a.B → b ∉ y.B) (k : Keep S w w') (hS : ∀ b, b ∈ S → b ∈ a.B)
    (hx : a'.X w') (hB : ∀ b, b ∈ a'.B → b ∈ a.B ∨ (w.heap.size ≤ b ∧ b < w'.heap.size)) :
    MOK E (a'.and y) L0 w0 σ mem w' ∧ Own w0 (a'.and y) ∧ (∀ b, b ∈ a'.B → b ∉ y.B) ∧ Keep (a.and y).B w w' := by
  have hlt := h.extB
  have hsz := k.size
  have hw0 := h.keep.size
  have hy : ∀ b, b ∈ y.B → b < w.heap.size := fun b hb => hlt b (List.mem_append_right _ hb)
  have ha : ∀ b, b ∈ a.B → b < w.heap.size := fun b hb => hlt b (List.mem_append_left _ hb)
  have hxy : (a'.and y).X w' := ⟨hx, y.st _ _ h.ext.2 (fun b hb => k.block b (hy b hb) (fun hm => hd b (hS b hm) hb)) hsz⟩
  have hkA : Keep (a.and y).B w w' := k.mono (fun b hb => List.mem_append_left _ (hS b hb))
  refine ⟨h.call k (fun b hb => ho b (List.mem_append_left _ (hS b hb))) (fun i b hb hm => h.extd i b hb (List.mem_append_left _ (hS _ hm))) hxy (fun b hb => ?_) (fun i b hb hm => ?_), fun b hb => ?_, fun b hb hm => ?_, hkA⟩
  · rcases List.mem_append.1 hb with hb | hb
    · rcases hB b hb with hb | hb
      · exact Nat.lt_of_lt_of_le (ha b hb) hsz
      · exact hb.2
    · exact Nat.lt_of_lt_of_le (hy b hb) hsz
  · have hi := (h.own i b hb).2
    rcases List.mem_append.1 hm with hm | hm
    · rcases hB _ hm with hm | hm
      · exact h.extd i b hb (List.mem_append_left _ hm)
      · omega
    · exact h.extd i b hb (List.mem_append_right _ hm)
  · rcases List.mem_append.1 hb with hb | hb
    · rcases hB b hb with hb | hb
      · exact ho b (List.mem_append_left _ hb)
      · exact .inr (Nat.le_trans hw0 hb.1)
    · exact ho b (List.mem_append_right _ hb)
  · rcases hB b hb with hb | hb
    · exact hd b hb hm
    · have := hy b hm
      omega

/-- Where a list stands, if there is one; 'Y' says what else there is. -/
abbrev Side := List Nat → Rest → (Nat → Nat) → Ext → Prop
def famJ (Y : Side) : Fam := fun gh s x => match gh.k with
  | 0 => ∃ y, x = Ext.nil.and y ∧ Y gh.nm gh.r (res gh.nm s) y
  | _ + 1 => ∃ L p r y, gh.nm[0]?.map s = some L ∧ x = (jX L p r gh.ps gh.at_).and y ∧ (∀ b, b ∈ L :: p :: r.toList → b ∉ y.B) ∧ gh.at_ ≤ gh.ps.length ∧ gh.ps.length ≤ 16 ∧ Y gh.nm.tail gh.r (res gh.nm.tail s) y

abbrev posA (q : Pos) : CV := .agg [.v (.int .i64 q.1), .v (.int .i64 q.2)]

def olderS (ps : List Pos) (at_ : Nat) (q : Pos) (n : Int) : Pos × Bool × List Pos × Nat :=
  if 1 ≤ n ∧ n ≤ at_ then
    if at_ < ps.length then (ps.getD (at_ - n.toNat) (0, 0), true, ps, at_ - n.toNat)
    else ((pushL ps q).getD ((pushL ps q).length - 1 - n.toNat) (0, 0), true, pushL ps q, (pushL ps q).length - 1 - n.toNat)
  else ((0, 0), false, ps, at_)

def newerS (ps : List Pos) (at_ : Nat) (n : Int) : Pos × Bool × Nat :=
  if 1 ≤ n ∧ at_ + n < ps.length then (ps.getD (at_ + n.toNat) (0, 0), true, at_ + n.toNat) else ((0, 0), false, at_)

def pushW (i : Nat) : List SV → List (Option Blk) → Gh → Option CRR
  | [.c (.one (.ptr i' 0)), .c (.agg [.v (.int .i64 z), .v (.int .i64 y)])], _, ⟨i'' :: nm, k + 1, ps, at_, rr⟩ =>
    if Nat.beq i i' = true then if Nat.beq i i'' = true then some (.one ⟨some (.tup []), [], ⟨i'' :: nm, k + 1, pushL ps (z, y), (pushL ps (z, y)).length, rr⟩, true, none⟩) else none else none
  | _, _, _ => none

theorem famJ_some {Y : Side} {E : Nat → Row} {L0 : List Nat} {w0 : WM} {σ : Nat → Nat} {i k at_ : Nat} {nm : List Nat} {ps : List (Int × Int)} {rr : Rest} {mem : List (Option Blk)} {x : Ext} {w : World} (h : Mx E (famJ Y) L0 w0 σ ⟨i :: nm, k + 1, ps, at_, rr⟩ mem x w) :
    ∃ p r y, x = (jX (σ i) p r ps at_).and y ∧ (∀ b, b ∈ σ i :: p :: r.toList → b ∉ y.B) ∧ at_ ≤ ps.length ∧ ps.length ≤ 16 ∧ Y nm rr (res nm σ) y ∧ JL w (σ i) p r ps at_ := by
  obtain ⟨L, p, r, y, h1, rfl, h3, h4, h5, h6⟩ := h.fam
  simp [res] at h1
  subst h1
  exact ⟨p, r, y, rfl, h3, h4, h5, by rw [← res_res (l := nm) (l' := i :: nm) (fun i hi => List.mem_cons_of_mem _ hi)]; exact h6, h.mok.ext.1⟩

/-- The list went on. -/
theorem jl_next {Y : Side} {E : Nat → Row} {L0 : List Nat} {w0 : WM} {σ : Nat → Nat} {i k at_ : Nat} {nm : List Nat} {ps : List (Int × Int)} {rr : Rest} {mem : List (Option Blk)} {x : Ext} {w w' : World} (h : Mx E (famJ Y) L0 w0 σ ⟨i :: nm, k + 1, ps, at_, rr⟩ mem x w)
    {p : Nat} {r : Option Nat} {y : Ext} (hx : x = (jX (σ i) p r ps at_).and y) (hd : ∀ b, b ∈ σ i :: p :: r.toList → b ∉ y.B) (hy : Y nm rr (res nm σ) y) {ps' : List Pos} {at_' : Nat} (h1 : at_' ≤ ps'.length) (h2 : ps'.length ≤ 16) (hp : JPost w (σ i) p r ps' at_' w') :
    Mo E (famJ Y) L0 w0 σ ⟨i :: nm, k + 1, ps', at_', rr⟩ mem w' ∧ Keep x.B w w' := by
  obtain ⟨r', hj, kk, hr⟩ := hp
  subst hx
  have hlt := hj.lt
  obtain ⟨g1, g2, g3, g4⟩ := eff (a' := jX (σ i) p r' ps' at_') h.mok h.owns hd kk (fun b hb => hb) hj (fun b hb => by
    have hb : b ∈ σ i :: p :: r'.toList := hb
    rcases hr with rfl | ⟨k', rfl, hle⟩
    · exact .inl hb
    · by_cases e : b = k'
      · subst e
        exact .inr ⟨hle, hlt b (by simp)⟩
      · refine .inl ?_
        show b ∈ σ i :: p :: r.toList
        simp at hb ⊢
        rcases hb with h | h | h
        · exact .inl h
        · exact .inr (.inl h)
        · exact absurd h.symm (by intro hh; exact e hh.symm))
  exact ⟨⟨_, ⟨σ i, p, r', y, by simp [res], rfl, g3, h1, h2, by rw [← res_res (l := nm) (l' := i :: nm) (fun i hi => List.mem_cons_of_mem _ hi)] at hy; exact hy⟩, h.nm, g2, g1⟩, g4⟩

theorem jpost_of {w w' : World} {L p : Nat} {r : Option Nat} {ps : List Pos} {at_ : Int} {S : List Nat} (h : JL w' L p r ps at_) (k : Keep S w w') (hS : ∀ b, b ∈ S → b = L) : JPost w L p r ps at_ w' :=
  ⟨r, h, k.mono (fun b hb => by rw [hS b hb]; simp), .inl rfl⟩

theorem pushW_ok {Y : Side} {L0 : List Nat} (i : Nat) : CallOK Try.prog (famJ Y) L0 8 (pushW i) := by
  refine ⟨_, Try.func8, by kernel_rfl, by kernel_rfl, fun args mem gh cr hcr _ E σ w0 x w hm hL => ?_⟩
  unfold pushW at hcr
  split at hcr
  · rename_i i' z y i'' nm k ps at_ rr
    split at hcr
    · rename_i e1
      split at hcr
      · rename_i e2
        injection hcr with hcr
        subst hcr
        have e1 := Nat.eq_of_beq_eq_true e1
        have e2 := Nat.eq_of_beq_eq_true e2
        subst e1
        subst e2
        obtain ⟨p, r, yy, rfl, hd, h1, h2, hy, hj⟩ := famJ_some hm
        have hpl := pushL_len ps (z, y) h2
        have := push8 (σ i) p r ps at_ (z, y) w hj h1 h2
        refine Calls.mono (R := _) (by simpa [SV.den, CV.den, A.den, posAgg] using this) ?_
        rintro e w' ⟨rfl, hp⟩
        obtain ⟨g1, g2⟩ := jl_next hm rfl hd hy (Nat.le_refl _) hpl.2 hp
        refine ⟨_, rfl, σ, fun v hv => ?_, ?_, fun _ _ => rfl, g2.mono (fun b hb => by simpa [CR.kept] using hb)⟩
        · injection hv with hv
          subst hv
          exact ⟨rfl, fun _ _ _ hh => by cases hh⟩
        · rw [CR.mem_nil]
          exact g1
      · cases hcr
    · cases hcr
  · cases hcr

/-- Older, whatever the case. -/
theorem older_all (L p : Nat) (r : Option Nat) (ps : List Pos) (at_ : Nat) (q : Pos) (n : Int) (w : World) (h : JL w L p r ps at_) (hat : at_ ≤ ps.length) (hlen : ps.length ≤ 16) :
    Calls Try.prog 9 #[.pointer (some ⟨L, 0, none⟩), posAgg q, .int .i64 n] w fun e w' => e = .returned (.tuple #[posAgg (olderS ps at_ q n).1, .bool (olderS ps at_ q n).2.1]) ∧ JPost w L p r (olderS ps at_ q n).2.2.1 ((olderS ps at_ q n).2.2.2 : Nat) w' := by
  unfold olderS
  by_cases hin : 1 ≤ n ∧ n ≤ at_
  · rw [if_pos hin]
    obtain ⟨k, rfl⟩ : ∃ k : Nat, n = k := ⟨n.toNat, by omega⟩
    rw [Int.toNat_natCast]
    by_cases hl : at_ < ps.length
    · rw [if_pos hl]
      have hi : at_ - k < ps.length := by omega
      refine (older_in L p r ps at_ k q (ps.getD (at_ - k) (0, 0)) w h hlen (by omega) (by omega) hl (by rw [List.getD_eq_getElem?_getD, List.getElem?_eq_getElem hi]; rfl)).mono fun e w' hh => ⟨hh.1, jpost_of hh.2.1 hh.2.2 (by simp)⟩
    · rw [if_neg hl]
      have he : at_ = ps.length := by omega
      subst he
      have hm := pushL_len ps q hlen
      have hi : (pushL ps q).length - 1 - k < (pushL ps q).length := by omega
      exact older_last L p r ps k q _ w h hlen (by omega) (by omega) (by rw [List.getD_eq_getElem?_getD, List.getElem?_eq_getElem hi]; rfl)
  · rw [if_neg hin]
    exact (older_no L p r ps at_ q n w h (by omega)).mono fun e w' hh => ⟨hh.1, jpost_of (h.keep hh.2 (by simp)) hh.2 (by simp)⟩

theorem olderS_ok (ps : List Pos) (at_ : Nat) (q : Pos) (n : Int) (hat : at_ ≤ ps.length) (hlen : ps.length ≤ 16) : (olderS ps at_ q n).2.2.2 ≤ (olderS ps at_ q n).2.2.1.length ∧ (olderS ps at_ q n).2.2.1.length ≤ 16 := by
  have hm := pushL_len ps q hlen
  unfold olderS
  split
  · split
    · exact ⟨by simp only; omega, hlen⟩
    · exact ⟨by simp only; omega, hm.2⟩
  · exact ⟨hat, hlen⟩

theorem newer_all (L p : Nat) (r : Option Nat) (ps : List Pos) (at_ : Nat) (n : Int) (w : World) (h : JL w L p r ps at_) (hat : at_ ≤ ps.length) (hlen : ps.length ≤ 16) :
    Calls Try.prog 10 #[.pointer (some ⟨L, 0, none⟩), .int .i64 n] w fun e w' => e = .returned (.tuple #[posAgg (newerS ps at_ n).1, .bool (newerS ps at_ n).2.1]) ∧ JPost w L p r ps ((newerS ps at_ n).2.2 : Nat) w' := by
  unfold newerS
  by_cases hin : 1 ≤ n ∧ at_ + n < ps.length
  · rw [if_pos hin]
    obtain ⟨k, rfl⟩ : ∃ k : Nat, n = k := ⟨n.toNat, by omega⟩
    rw [Int.toNat_natCast]
    have hi : at_ + k < ps.length := by omega
    exact (newer_yes L p r ps at_ k (ps.getD (at_ + k) (0, 0)) w h hlen (by omega) (by rw [List.getD_eq_getElem?_getD, List.getElem?_eq_getElem hi]; rfl)).mono fun e w' hh => ⟨hh.1, jpost_of hh.2.1 hh.2.2 (by simp)⟩
  · rw [if_neg hin]
    exact (newer_no L p r ps at_ n w h hat hlen (by omega)).mono fun e w' hh => ⟨hh.1, jpost_of (h.keep hh.2 (by simp)) hh.2 (by simp)⟩

theorem newerS_ok (ps : List Pos) (at_ : Nat) (n : Int) (hat : at_ ≤ ps.length) : (newerS ps at_ n).2.2 ≤ ps.length := by
  unfold newerS
  split
  · simp only; omega
  · exact hat

def olderW (i : Nat) : List SV → List (Option Blk) → Gh → Option CRR
  | [.c (.one (.ptr i' 0)), .c (.agg [.v (.int .i64 z), .v (.int .i64 y)]), .c (.one (.v (.int .i64 n)))], _, ⟨i'' :: nm, k + 1, ps, at_, rr⟩ =>
    if Nat.beq i i' = true then if Nat.beq i i'' = true then some (.one ⟨some (.tup [posA (olderS ps at_ (z, y) n).1, .one (.v (.bool (olderS ps at_ (z, y) n).2.1))]), [], ⟨i'' :: nm, k + 1, (olderS ps at_ (z, y) n).2.2.1, (olderS ps at_ (z, y) n).2.2.2, rr⟩, true, none⟩) else none else none
  | _, _, _ => none

theorem olderW_ok {Y : Side} {L0 : List Nat} (i : Nat) : CallOK Try.prog (famJ Y) L0 9 (olderW i) := by
  refine ⟨_, Try.func9, by kernel_rfl, by kernel_rfl, fun args mem gh cr hcr _ E σ w0 x w hm hL => ?_⟩
  unfold olderW at hcr
  split at hcr
  · rename_i i' z y n i'' nm k ps at_ rr
    split at hcr
    · rename_i e1
      split at hcr
      · rename_i e2
        injection hcr with hcr
        subst hcr
        have e1 := Nat.eq_of_beq_eq_true e1
        have e2 := Nat.eq_of_beq_eq_true e2
        subst e1
        subst e2
        obtain ⟨p, r, yy, rfl, hd, h1, h2, hy, hj⟩ := famJ_some hm
        have hpl := olderS_ok ps at_ (z, y) n h1 h2
        have := older_all (σ i) p r ps at_ (z, y) n w hj h1 h2
        refine Calls.mono (R := _) (by simpa [SV.den, CV.den, A.den, posAgg] using this) ?_
        rintro e w' ⟨rfl, hp⟩
        obtain ⟨g1, g2⟩ := jl_next hm rfl hd hy hpl.1 hpl.2 hp
        refine ⟨_, rfl, σ, fun v hv => ?_, ?_, fun _ _ => rfl, g2.mono (fun b hb => by simpa [CR.kept] using hb)⟩
        · injection hv with hv
          subst hv
          exact ⟨rfl, fun _ _ _ hh => by cases hh⟩
        · rw [CR.mem_nil]
          exact g1
      · cases hcr
    · cases hcr
  · cases hcr

def newerW (i : Nat) : List SV → List (Option Blk) → Gh → Option CRR
  | [.c (.one (.ptr i' 0)), .c (.one (.v (.int .i64 n)))], _, ⟨i'' :: nm, k + 1, ps, at_, rr⟩ =>
    if Nat.beq i i' = true then if Nat.beq i i'' = true then some (.one ⟨some (.tup [posA (newerS ps at_ n).1, .one (.v (.bool (newerS ps at_ n).2.1))]), [], ⟨i'' :: nm, k + 1, ps, (newerS ps at_ n).2.2, rr⟩, true, none⟩) else none else none
  | _, _, _ => none

theorem newerW_ok {Y : Side} {L0 : List Nat} (i : Nat) : CallOK Try.prog (famJ Y) L0 10 (newerW i) := by
  refine ⟨_, Try.func10, by kernel_rfl, by kernel_rfl, fun args mem gh cr hcr _ E σ w0 x w hm hL => ?_⟩
  unfold newerW at hcr
  split at hcr
  · rename_i i' n i'' nm k ps at_ rr
    split at hcr
    · rename_i e1
      split at hcr
      · rename_i e2
        injection hcr with hcr
        subst hcr
        have e1 := Nat.eq_of_beq_eq_true e1
        have e2 := Nat.eq_of_beq_eq_true e2
        subst e1
        subst e2
        obtain ⟨p, r, yy, rfl, hd, h1, h2, hy, hj⟩ := famJ_some hm
        have := newer_all (σ i) p r ps at_ n w hj h1 h2
        refine Calls.mono (R := _) (by simpa [SV.den, CV.den, A.den, posAgg] using this) ?_
        rintro e w' ⟨rfl, hp⟩
        obtain ⟨g1, g2⟩ := jl_next hm rfl hd hy (newerS_ok ps at_ n h1) h2 hp
        refine ⟨_, rfl, σ, fun v hv => ?_, ?_, fun _ _ => rfl, g2.mono (fun b hb => by simpa [CR.kept] using hb)⟩
        · injection hv with hv
          subst hv
          exact ⟨rfl, fun _ _ _ hh => by cases hh⟩
        · rw [CR.mem_nil]
          exact g1
      · cases hcr
    · cases hcr
  · cases hcr

/-- A list is made. -/
def newW : List SV → List (Option Blk) → Gh → Option CRR
  | [], mem, ⟨[], 0, _, _, rr⟩ => if memWf mem = true then some (.one ⟨some (.c (.one (.ptr mem.length 0))), [none], ⟨[mem.length], 1, [], 0, rr⟩, false, none⟩) else none
  | _, _, _ => none

theorem newW_ok {Y : Side} {L0 : List Nat} : CallOK Try.prog (famJ Y) L0 7 newW := by
  refine ⟨_, Try.func7, by kernel_rfl, by kernel_rfl, fun args mem gh cr hcr _ E σ w0 x w hm hL => ?_⟩
  unfold newW at hcr
  split at hcr
  · rename_i ps0 at0 rr
    split at hcr
    · rename_i hwf
      injection hcr with hcr
      subst hcr
      refine (newL w).mono ?_
      rintro e w' ⟨L, p, r, rfl, hj, hk, hge⟩
      have hlt := hj.lt
      obtain ⟨y, rfl, hy⟩ : ∃ y, x = Ext.nil.and y ∧ Y [] rr (res [] (res [] σ)) y := hm.fam
      have hw0 := hm.mok.keep.size
      have hm1 := hm.mok.mono hk
      have hxB : ∀ b, b ∈ y.B → b < w.heap.size := fun b hb => hm.mok.extB b hb
      have hdis : ∀ b, b ∈ L :: p :: r.toList → b ∉ y.B := fun b hb hx => by
        have := hge b hb
        have := hxB b hx
        omega
      have hown : ∀ i bi, mem[i]? = some (some bi) → σ i < w.heap.size := fun i bi hi => (hm.mok.own i bi hi).2
      have hL1 := hge L (by simp)
      have hm2 : MOK E ((jX L p r [] (0 : Nat)).and y) L0 w0 (upd σ mem.length L) (mem ++ [none]) w' := by
        refine hm1.name (X' := (jX L p r [] (0 : Nat)).and y) hwf (n := L) (b := none) (fun i bi hi e => ?_) (.inr (Nat.le_trans hw0 hL1)) (hlt L (by simp)) hL (fun b' hb' => by cases hb') ⟨hj, hm1.ext.2⟩ (fun b hb => ?_) (fun i b hb hh => ?_)
        · have := hown i bi hi; omega
        · rcases List.mem_append.1 hb with hb | hb
          · exact hlt b hb
          · exact Nat.lt_of_lt_of_le (hxB b hb) hk.size
        · have hi := (List.getElem?_eq_some_iff.1 hb).1
          rcases List.mem_append.1 hh with hh | hh
          · have h1 := hge _ hh
            have h2 := hown i b hb
            omega
          · exact hm.mok.extd i b hb hh
      refine ⟨_, rfl, upd σ mem.length L, fun v hv => ?_, ⟨_, ⟨L, p, r, y, by simp [res, upd_self], rfl, hdis, Nat.le_refl _, by simp, by rw [show res [] (res [] σ) = res ([] : List Nat) (res [mem.length] (upd σ mem.length L)) from rfl] at hy; exact hy⟩, fun i hi => by simp at hi; simp [hi, CR.mem], fun b hb => ?_, hm2⟩, fun i hi => (upd_lt hi).symm, hk⟩
      · injection hv with hv
        subst hv
        exact ⟨by simp [SV.den, CV.den, A.den, upd_self], fun _ _ _ hh => by cases hh⟩
      · rcases List.mem_append.1 hb with hb | hb
        · exact .inr (Nat.le_trans hw0 (hge b hb))
        · exact hm.owns b hb
    · cases hcr
  · cases hcr

/-- All: only how many there are is kept in mind. -/
def allW (i : Nat) : List SV → List (Option Blk) → Gh → Option CRR
  | [.c (.one (.ptr i' 0))], _, ⟨i'' :: nm, k + 1, ps, at_, rr⟩ =>
    if Nat.beq i i' = true then if Nat.beq i i'' = true then some (.any fun a n => ⟨some (.tup [.one (.v (.slice a ps.length n)), .one (.v (.int .i64 (at_ : Nat)))]), [], ⟨i'' :: nm, k + 1, ps, at_, rr⟩, false, none⟩) else none else none
  | _, _, _ => none

theorem allW_ok {Y : Side} {L0 : List Nat} (i : Nat) : CallOK Try.prog (famJ Y) L0 11 (allW i) := by
  refine ⟨_, Try.func11, by kernel_rfl, by kernel_rfl, fun args mem gh cr hcr _ E σ w0 x w hm hL => ?_⟩
  unfold allW at hcr
  split at hcr
  · rename_i i' i'' nm k ps at_ rr
    split at hcr
    · rename_i e1
      split at hcr
      · rename_i e2
        injection hcr with hcr
        subst hcr
        have e1 := Nat.eq_of_beq_eq_true e1
        have e2 := Nat.eq_of_beq_eq_true e2
        subst e1
        subst e2
        obtain ⟨p, r, yy, rfl, hd, h1, h2, hy, hj⟩ := famJ_some hm
        have := all11 (σ i) p r ps at_ w hj (by omega)
        refine Calls.mono (R := _) (by simpa [SV.den, CV.den, A.den] using this) ?_
        rintro e w' ⟨a, c, rfl, ho, hk⟩
        refine ⟨a, c, _, rfl, σ, fun v hv => ?_, ?_, fun _ _ => rfl, hk⟩
        · injection hv with hv
          subst hv
          exact ⟨rfl, fun _ _ _ hh => by cases hh⟩
        · rw [CR.mem_nil]
          exact (show Mo E (famJ Y) L0 w0 σ _ mem w from ⟨_, hm⟩).mono hk
      · cases hcr
    · cases hcr
  · cases hcr

/-- The table for code that works on the list at name i. -/
noncomputable def tbJ (fs : List (Nat × Func)) (i : Nat) : Tab := { tb with fn := fs, call := [(7, newW), (8, pushW i), (9, olderW i), (10, newerW i), (11, allW i)] }
theorem tbJ_ok {Y : Side} {L0 : List Nat} {i : Nat} {fs : List (Nat × Func)} (hf : ∀ q, q ∈ fs → Try.prog.funcs[q.1]? = some q.2 ∧ q.2.body.isSome = true ∧ (q.2.name == "runtime.NumGoroutine") = false) : TabOK Try.prog (famJ Y) L0 (tbJ fs i) :=
  (tbok.fns fs hf).calls _ (List.forall_mem_cons.2 ⟨newW_ok, List.forall_mem_cons.2 ⟨pushW_ok i, List.forall_mem_cons.2 ⟨olderW_ok i, List.forall_mem_cons.2 ⟨newerW_ok i, List.forall_mem_cons.2 ⟨allW_ok i, fun _ h => by cases h⟩⟩⟩⟩⟩)
end Go.Proofs.Ytglbhabpenkpdaa.Sx
