/-
  JumpsPlay for the reckoner: words on Adjust, on the reference, on Places; its table. Conditions: stated at each theorem.
-/
import Derived.Test.YtglbhabpenkpdaaAdjL
set_option linter.all false
namespace Go.Proofs.Ytglbhabpenkpdaa.Sx
open Go.RowKit Go.Proofs.Ytglbhabpenkpdaa

theorem adjL_len (ps : List Pos) (a o n : Int) : (adjL ps a o n).length ≤ ps.length := by
  unfold adjL
  rw [List.length_map]
  exact List.length_filter_le _ _
theorem adjAt_le (ps : List Pos) (at_ : Nat) (a o n : Int) : adjAt ps at_ a o n ≤ (adjL ps a o n).length := by
  unfold adjAt adjL
  rw [List.length_map]
  exact ((List.take_sublist at_ ps).filter _).length_le

def adjustW (i : Nat) : List SV → List (Option Blk) → Gh → Option CRR
  | [.c (.one (.ptr i' 0)), .c (.one (.v (.int .i64 a))), .c (.one (.v (.int .i64 o))), .c (.one (.v (.int .i64 n)))], _, ⟨i'' :: nm, k + 1, ps, at_, rr⟩ =>
    if Nat.beq i i' = true then if Nat.beq i i'' = true then some (.one ⟨some (.tup []), [], ⟨i'' :: nm, k + 1, adjL ps a o n, adjAt ps at_ a o n, rr⟩, true, none⟩) else none else none
  | _, _, _ => none

theorem adjustW_ok {Y : Side} {L0 : List Nat} (i : Nat) : CallOK Try.prog (famJ Y) L0 15 (adjustW i) := by
  refine ⟨_, Try.func15, by kernel_rfl, by kernel_rfl, fun args mem gh cr hcr _ E σ w0 x w hm hL => ?_⟩
  unfold adjustW at hcr
  split at hcr
  · rename_i i' a o n i'' nm k ps at_ rr
    split at hcr
    · rename_i e1
      split at hcr
      · rename_i e2
        injection hcr with hcr
        subst hcr
        have e1 := Nat.eq_of_beq_eq_true e1
        have e2 := Nat.eq_of_beq_eq_true e2
        subst e1
        subst e2
        obtain ⟨p, r, yy, rfl, hd, h1, h2, hy, hj⟩ := famJ_some hm
        have := adjust15 (σ i) p r ps at_ a o n w hj h1 (by omega)
        refine Calls.mono (R := _) (by simpa [SV.den, CV.den, A.den] using this) ?_
        rintro e w' ⟨rfl, hj', hk⟩
        obtain ⟨g1, g2⟩ := jl_next hm rfl hd hy (adjAt_le ps at_ a o n) (Nat.le_trans (adjL_len ps a o n) h2) ⟨r, hj', hk, .inl rfl⟩
        refine ⟨_, rfl, σ, fun v hv => ?_, ?_, fun _ _ => rfl, g2.mono (fun b hb => by simpa [CR.kept] using hb)⟩
        · injection hv with hv
          subst hv
          exact ⟨rfl, fun _ _ _ hh => by cases hh⟩
        · rw [CR.mem_nil]
          exact g1
      · cases hcr
    · cases hcr
  · cases hcr

def olderF : RefF := fun args qs bt => match args with
  | [.c (.agg [.v (.int .i64 z), .v (.int .i64 y)]), .c (.one (.v (.int .i64 n)))] => some (.tup [posA (olderS qs bt (z, y) n).1, .one (.v (.bool (olderS qs bt (z, y) n).2.1))], (olderS qs bt (z, y) n).2.2.1, (olderS qs bt (z, y) n).2.2.2)
  | _ => none
theorem olderF_ok {L0 : List Nat} (i : Nat) : CallOK Try.prog (famJ slotY) L0 13 (refW i olderF) := by
  refine refW_ok i olderF fn13_ok fun args qs bt r qs' bt' h => ?_
  unfold olderF at h
  split at h
  · rename_i z y n
    injection h with h
    injection h with h1 h
    injection h with h2 h3
    subst h1 h2 h3
    refine ⟨fun q k off hh => (by cases hh), fun E σ => ⟨fun _ => rfl, fun J b o c w hr hl hb => ?_⟩⟩
    exact refOlder J b o c qs bt (z, y) n w hr hb hl
  · cases h
def newerF : RefF := fun args qs bt => match args with
  | [.c (.one (.v (.int .i64 n)))] => some (.tup [posA (newerS qs bt n).1, .one (.v (.bool (newerS qs bt n).2.1))], qs, (newerS qs bt n).2.2)
  | _ => none
theorem newerF_ok {L0 : List Nat} (i : Nat) : CallOK Try.prog (famJ slotY) L0 14 (refW i newerF) := by
  refine refW_ok i newerF fn14_ok fun args qs bt r qs' bt' h => ?_
  unfold newerF at h
  split at h
  · rename_i n
    injection h with h
    injection h with h1 h
    injection h with h2 h3
    subst h1 h2 h3
    refine ⟨fun q k off hh => (by cases hh), fun E σ => ⟨fun _ => rfl, fun J b o c w hr hl hb => ?_⟩⟩
    exact refNewer J b o c qs bt n w hr hb hl
  · cases h
def adjF : RefF := fun args qs bt => match args with
  | [.c (.one (.v (.int .i64 a))), .c (.one (.v (.int .i64 o))), .c (.one (.v (.int .i64 n)))] => some (.tup [], adjL qs a o n, adjAt qs bt a o n)
  | _ => none
theorem adjF_ok {L0 : List Nat} (i : Nat) : CallOK Try.prog (famJ slotY) L0 16 (refW i adjF) := by
  refine refW_ok i adjF fn16_ok fun args qs bt r qs' bt' h => ?_
  unfold adjF at h
  split at h
  · rename_i a o n
    injection h with h
    injection h with h1 h
    injection h with h2 h3
    subst h1 h2 h3
    refine ⟨fun q k off hh => (by cases hh), fun E σ => ⟨fun _ => rfl, fun J b oo c w hr hl hb => ?_⟩⟩
    exact refAdjust J b oo c qs bt a o n w hr hb hl
  · cases h

theorem slot_row {w : World} {σ : Nat → Nat} {j : Nat} {own : Bool} {S e : Nat} {ps : List Pos} (h : SlotOK w σ ⟨j, own, .poss S e ps⟩) : RowOK w [] (rowP (oad σ j) (σ (j + 2)) ps) := by
  refine ⟨fun hn => ?_, fun k hk => rfl, h.cap⟩
  have hn : 0 < ps.length := hn
  have hl : 0 < (posV ps).length := by rw [posV_len]; omega
  obtain ⟨b, o, ha, hc⟩ := h.cell 0 _ (List.getElem?_eq_getElem hl)
  have ha : oad σ j = some ⟨b, o, none⟩ := ha
  have hcell : ∀ k v, (posV ps)[k]? = some v → w.cell? ⟨b, o + k, none⟩ = some v := fun k v hv => by
    obtain ⟨b2, o2, h1, h2⟩ := h.cell k v hv
    have h1 : oad σ j = some ⟨b2, o2, none⟩ := h1
    rw [ha] at h1
    injection h1 with h1
    injection h1 with h3 h4
    subst h3 h4
    exact h2
  refine ⟨b, o, ha, ?_, by simp, fun k hk d hd => ?_⟩
  · unfold World.cell? at hc
    cases hb : w.heap[b]? with
    | none => simp [hb] at hc
    | some o => exact (Array.getElem?_eq_some_iff.1 hb).1
  · have hd : d < 2 := hd
    have hk : k < ps.length := hk
    have hd : d = 0 ∨ d = 1 := by omega
    rcases hd with rfl | rfl
    · exact (hcell (k * 2) (.int .i64 (ps.getD k (0, 0)).1) (by rw [posV_get0]; simp [List.getElem?_eq_getElem hk, List.getD_eq_getElem?_getD])).trans rfl
    · exact (hcell (k * 2 + 1) (.int .i64 (ps.getD k (0, 0)).2) (by rw [posV_get1]; simp [List.getElem?_eq_getElem hk, List.getD_eq_getElem?_getD])).trans rfl

def placesW : List SV → List (Option Blk) → Gh → Option CRR
  | [.c (.one (.os i)), .c (.one (.os j))], _, ⟨nm, k, ps, at_, ⟨m, xs, sl⟩⟩ => match getSl i sl, getSl j sl with
    | some ⟨_, _, .poss _ _ p1⟩, some ⟨_, _, .poss _ _ p2⟩ => some (.one ⟨some (bV (decide (p1 = p2))), [], ⟨nm, k, ps, at_, ⟨m, xs, sl⟩⟩, false, none⟩)
    | _, _ => none
  | _, _, _ => none
theorem placesW_ok {L0 : List Nat} : CallOK Try.prog (famJ slotY) L0 17 placesW := by
  refine ⟨_, fn17_ok.1, fn17_ok.2.1, fn17_ok.2.2, fun args mem gh cr hcr _ E σ w0 x w hm hL => ?_⟩
  unfold placesW at hcr
  split at hcr
  · rename_i i j nm k ps at_ m xs sl
    split at hcr
    · rename_i n1 o1 S1 e1 p1 n2 o2 S2 e2 p2 hq1 hq2
      injection hcr with hcr
      subst hcr
      obtain ⟨hs1, hn1, _⟩ := slot_of hm hq1
      obtain ⟨hs2, hn2, _⟩ := slot_of hm hq2
      have hn1 : n1 = i := hn1
      have hn2 : n2 = j := hn2
      subst hn1 hn2
      have hl1 : σ (n1 + 3) = p1.length := hs1.len
      have hl2 : σ (n2 + 3) = p2.length := hs2.len
      have := places17 (oad σ n1) (σ (n1 + 2)) p1 (oad σ n2) (σ (n2 + 2)) p2 w (slot_row hs1) (slot_row hs2) hs1.small
      refine Calls.mono (R := _) (by simpa [SV.den, CV.den, A.den, hl1, hl2] using this) ?_
      rintro e w' ⟨rfl, hk⟩
      refine ⟨_, rfl, σ, fun v hv => ?_, ?_, fun _ _ => rfl, hk⟩
      · injection hv with hv
        subst hv
        exact ⟨rfl, fun _ _ _ hh => by cases hh⟩
      · rw [CR.mem_nil]
        exact (show Mo E (famJ slotY) L0 w0 σ _ mem w from ⟨_, hm⟩).mono hk
    · cases hcr
  · cases hcr

noncomputable def tbY : Tab := { tb with fn := [(5, Try.f5)], op := slotW, call := [(6, pureW knownW), (7, newW), (8, pushW 0), (9, olderW 0), (10, newerW 0), (11, allS 0), (12, refW 1 pushF), (13, refW 1 olderF), (14, refW 1 newerF), (15, adjustW 0), (16, refW 1 adjF), (17, placesW)] }
theorem tbY_ok {L0 : List Nat} : TabOK Try.prog (famJ slotY) L0 tbY :=
  ((tbok.fns [(5, Try.f5)] (List.forall_mem_cons.2 ⟨fn5_ok, fun _ h => by cases h⟩)).ops slotW slotW_ok).calls _
    (List.forall_mem_cons.2 ⟨knownW_ok, List.forall_mem_cons.2 ⟨newW_ok, List.forall_mem_cons.2 ⟨pushW_ok 0, List.forall_mem_cons.2 ⟨olderW_ok 0, List.forall_mem_cons.2 ⟨newerW_ok 0, List.forall_mem_cons.2 ⟨allS_ok 0, List.forall_mem_cons.2 ⟨pushF_ok 1, List.forall_mem_cons.2 ⟨olderF_ok 1, List.forall_mem_cons.2 ⟨newerF_ok 1, List.forall_mem_cons.2 ⟨adjustW_ok 0, List.forall_mem_cons.2 ⟨adjF_ok 1, List.forall_mem_cons.2 ⟨placesW_ok, fun _ h => by cases h⟩⟩⟩⟩⟩⟩⟩⟩⟩⟩⟩⟩)

/-- One step of a script. -/
structure Act7 where
  what : Int
  z : Int
  y : Int
  n : Int
  a : Int
  o : Int
  w : Int
def Act7.cells (x : Act7) : List Value := [.int .u8 x.what, .int .i64 x.z, .int .i64 x.y, .int .i64 x.n, .int .i64 x.a, .int .i64 x.o, .int .i64 x.w]
def rowY (ad : Option Addr) (c n : Nat) (f : Nat → Act7) : Nat → Row := fun _ => ⟨ad, n, c, 7, fun k => (f k).cells⟩
end Go.Proofs.Ytglbhabpenkpdaa.Sx
