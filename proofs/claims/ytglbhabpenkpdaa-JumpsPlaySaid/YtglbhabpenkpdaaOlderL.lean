/-
  jumps.List's Older from behind the last place: the place is laid down first. Conditions: stated at each theorem.
-/
import Derived.Test.YtglbhabpenkpdaaLen
set_option linter.unusedSimpArgs false
set_option linter.unusedVariables false
namespace Go.Proofs.Ytglbhabpenkpdaa.Sx
open Go.RowKit Go.Proofs.Ytglbhabpenkpdaa

abbrev jBlk (at_ : Int) : Blk := ⟨[.ptr 1 0, .v (.int .i64 at_)], 51⟩
abbrev jL (L p : Nat) : List Nat := [L, p]

theorem mok_of_jl {w : World} {L p : Nat} {r : Option Nat} {ps : List Pos} {at_ : Int} (h : JL w L p r ps at_) : MOK noRows (vX p r ps.length (posV ps)) (jL L p) ⟨w, L :: p :: r.toList⟩ (fun i => (jL L p).getD i 0) [some (jBlk at_), none] w := by
  have hlt := h.lt
  refine mok_start rfl (by simp; exact h.ne) (fun b hb => hlt b (by simp at hb; rcases hb with rfl | rfl <;> simp)) (fun b hb => by simp at hb; rcases hb with rfl | rfl <;> simp) noRows_ok h.vec (fun b hb => hlt b (List.mem_cons_of_mem _ hb)) (fun i b hi => ?_) (fun i b hi => ?_)
  · match i, hi with
    | 0, hi =>
      simp [jL, vX, vecX]
      exact ⟨h.ne, fun hh => h.nr hh⟩
    | 1, hi => simp at hi
    | i + 2, hi => simp at hi
  · match i, hi with
    | 0, hi =>
      simp at hi
      subst hi
      exact h.box
    | 1, hi => simp at hi
    | i + 2, hi => simp at hi

theorem jl_of_mok {E : Nat → Row} {w : World} {w0 : WM} {σ : Nat → Nat} {L p n : Nat} {r : Option Nat} {ps : List Pos} {at_ : Int} {rest : List (Option Blk)} (hn : n = ps.length) (h : MOK E (vX p r n (posV ps)) (jL L p) w0 σ (some (jBlk at_) :: none :: rest) w) : JL w L p r ps at_ := by
  subst hn
  have h0 : σ 0 = L := h.init 0 L rfl
  have h1 : σ 1 = p := h.init 1 p rfl
  have hb := h.blk 0 _ rfl
  have hd := h.extd 0 _ rfl
  rw [h0] at hb hd
  simp [vX, vecX] at hd
  refine ⟨?_, h.ext, fun e => ?_, fun e => hd.2 (by rw [e])⟩
  · rw [hb]
    simp [A.den, h1]
  · exact hd.1 e

theorem wrap_small {n : Int} (h1 : -9223372036854775808 ≤ n) (h2 : n ≤ 9223372036854775807) : IntKind.i64.wrap n = n := by rw [IntKind.wrap_i64]; omega

theorem tbO_ok {p : Nat} {r : Option Nat} {ps : List Pos} {L0 : List Nat} (hL : L0[1]? = some p) : TabOK Try.prog (Fam.one (vX p r ps.length (posV ps))) L0 (tbV [(9, Try.f9)] ps) := tbV_ok (fs := [(9, Try.f9)]) hL (List.forall_mem_cons.2 ⟨fn9_ok, fun _ h => by cases h⟩)

theorem older_ev1 (ps : List Pos) (z y k : Int) : ev (tbV [(9, Try.f9)] ps) noRows 400 [.c 9 [], .f 9 1 [] (some 0)] .normal ⟨60, argTmps 0 [.c (.one (.ptr 0 0)), .c (.agg [.v (.int .i64 z), .v (.int .i64 y)]), iV .i64 k], [some ⟨[.ptr 1 0, .v (.int .i64 ps.length)], 51⟩, none], gh0⟩ =
  cond (decide (k < 1))
    (.leaf [] .normal ⟨1, [(0, .tup [.agg [.v (.int .i64 0), .v (.int .i64 0)], .one (.v (.bool false))])], [some ⟨[.ptr 1 0, .v (.int .i64 ((↑ps.length : Int)))], 51⟩, none, some ⟨[.v (.int .i64 (z)), .v (.int .i64 (y))], 29⟩, some ⟨[.v (.int .i64 0), .v (.int .i64 0)], 29⟩], gh0⟩)
    (cond (decide (k > (↑ps.length : Int)))
      (.leaf [] .normal ⟨1, [(0, .tup [.agg [.v (.int .i64 0), .v (.int .i64 0)], .one (.v (.bool false))])], [some ⟨[.ptr 1 0, .v (.int .i64 ((↑ps.length : Int)))], 51⟩, none, some ⟨[.v (.int .i64 (z)), .v (.int .i64 (y))], 29⟩, some ⟨[.v (.int .i64 0), .v (.int .i64 0)], 29⟩], gh0⟩)
      (cond ((↑ps.length : Int) == (↑ps.length : Int))
        (.leaf [.o 9 [0, 0, 1, 0, 1, 1] [2], .c 9 [1, 0, 1, 0, 1, 1], .c 9 [1, 1, 1], .f 9 1 [] (some 0)] .normal ⟨60, [(30, .c (.agg [.v (.int .i64 (z)), .v (.int .i64 (y))])), (29, .c (.one (.ptr 0 0))), (7, .c (.one (.v (.bool false)))), (6, .c (.one (.ptr 3 0))), (4, .c (.one (.ptr 2 0))), (0, .c (.one (.ptr 0 0))), (1, .c (.agg [.v (.int .i64 (z)), .v (.int .i64 (y))])), (2, .c (.one (.v (.int .i64 (k)))))], [some ⟨[.ptr 1 0, .v (.int .i64 ((↑ps.length : Int)))], 51⟩, none, some ⟨[.v (.int .i64 (z)), .v (.int .i64 (y))], 29⟩, some ⟨[.v (.int .i64 0), .v (.int .i64 0)], 29⟩], gh0⟩)
        (.leaf [.d 9 [0, 1, 1, 1, 1] 2 [true, true, true, true, true, true, true, true, true, true, true, false, false] [0, 2, 3], .c 9 [1, 1, 1, 1, 1], .f 9 1 [] (some 0)] .normal ⟨60, [(59, .c (.one (.v (.bool (pIn ps (if 0 > IntKind.i64.wrap ((↑ps.length : Int) - k) then 0 else IntKind.i64.wrap ((↑ps.length : Int) - k))))))), (58, .c (.agg [.v (.int .i64 ((pGet ps (if 0 > IntKind.i64.wrap ((↑ps.length : Int) - k) then 0 else IntKind.i64.wrap ((↑ps.length : Int) - k))).fst)), .v (.int .i64 ((pGet ps (if 0 > IntKind.i64.wrap ((↑ps.length : Int) - k) then 0 else IntKind.i64.wrap ((↑ps.length : Int) - k))).snd))])), (57, .tup [.agg [.v (.int .i64 ((pGet ps (if 0 > IntKind.i64.wrap ((↑ps.length : Int) - k) then 0 else IntKind.i64.wrap ((↑ps.length : Int) - k))).fst)), .v (.int .i64 ((pGet ps (if 0 > IntKind.i64.wrap ((↑ps.length : Int) - k) then 0 else IntKind.i64.wrap ((↑ps.length : Int) - k))).snd))], .one (.v (.bool (pIn ps (if 0 > IntKind.i64.wrap ((↑ps.length : Int) - k) then 0 else IntKind.i64.wrap ((↑ps.length : Int) - k)))))]), (56, .c (.one (.v (.int .i64 (if 0 > IntKind.i64.wrap ((↑ps.length : Int) - k) then 0 else IntKind.i64.wrap ((↑ps.length : Int) - k)))))), (55, .c (.one (.ptr 0 1))), (54, .c (.one (.ptr 0 0))), (53, .c (.one (.ptr 0 0))), (52, .c (.one (.ptr 1 0))), (51, .c (.one (.ptr 0 0))), (50, .c (.one (.ptr 0 0))), (49, .c (.one (.ptr 0 0))), (7, .c (.one (.v (.bool false)))), (6, .c (.one (.ptr 3 0))), (4, .c (.one (.ptr 2 0))), (0, .c (.one (.ptr 0 0))), (1, .c (.agg [.v (.int .i64 (z)), .v (.int .i64 (y))])), (2, .c (.one (.v (.int .i64 (k)))))], [some ⟨[.ptr 1 0, .v (.int .i64 (if 0 > IntKind.i64.wrap ((↑ps.length : Int) - k) then 0 else IntKind.i64.wrap ((↑ps.length : Int) - k)))], 51⟩, none, some ⟨[.v (.int .i64 (z)), .v (.int .i64 (y))], 29⟩, some ⟨[.v (.int .i64 0), .v (.int .i64 0)], 29⟩], gh0⟩))) := by kernel_rfl

theorem older_ev2 (vs : List Pos) (z y k : Int) : ev { tbV [(9, Try.f9)] vs with thaw := [(9, [(7, [3])])] } noRows 400 [.o 9 [0, 0, 1, 0, 1, 1] [], .c 9 [1, 0, 1, 0, 1, 1], .c 9 [1, 1, 1], .f 9 1 [] (some 0)] .normal ⟨60, [(31, .tup []), (30, .c (.agg [.v (.int .i64 z), .v (.int .i64 y)])), (29, .c (.one (.ptr 0 0))), (7, .c (.one (.v (.bool false)))), (6, .c (.one (.ptr 3 0))), (4, .c (.one (.ptr 2 0))), (0, .c (.one (.ptr 0 0))), (1, .c (.agg [.v (.int .i64 z), .v (.int .i64 y)])), (2, .c (.one (.v (.int .i64 k))))], [some ⟨[.ptr 1 0, .v (.int .i64 vs.length)], 51⟩, none, some ⟨[.v (.int .i64 z), .v (.int .i64 y)], 29⟩, some ⟨[.v (.int .i64 0), .v (.int .i64 0)], 29⟩], gh0⟩ =
  .leaf [] .normal ⟨1, [(0, .tup [.agg [.v (.int .i64 ((pGet vs     (if 0 > IntKind.i64.wrap (IntKind.i64.wrap ((↑vs.length : Int) - 1) - k) then 0     else IntKind.i64.wrap (IntKind.i64.wrap ((↑vs.length : Int) - 1) - k))).fst)), .v (.int .i64 ((pGet vs     (if 0 > IntKind.i64.wrap (IntKind.i64.wrap ((↑vs.length : Int) - 1) - k) then 0     else IntKind.i64.wrap (IntKind.i64.wrap ((↑vs.length : Int) - 1) - k))).snd))], .one (.v (.bool (pIn vs   (if 0 > IntKind.i64.wrap (IntKind.i64.wrap ((↑vs.length : Int) - 1) - k) then 0   else IntKind.i64.wrap (IntKind.i64.wrap ((↑vs.length : Int) - 1) - k)))))])], [some ⟨[.ptr 1 0, .v (.int .i64 (if 0 > IntKind.i64.wrap (IntKind.i64.wrap ((↑vs.length : Int) - 1) - k) then 0 else IntKind.i64.wrap (IntKind.i64.wrap ((↑vs.length : Int) - 1) - k)))], 51⟩, none, some ⟨[.v (.int .i64 (z)), .v (.int .i64 (y))], 29⟩, some ⟨[.v (.int .i64 ((pGet vs     (if 0 > IntKind.i64.wrap (IntKind.i64.wrap ((↑vs.length : Int) - 1) - k) then 0     else IntKind.i64.wrap (IntKind.i64.wrap ((↑vs.length : Int) - 1) - k))).fst)), .v (.int .i64 ((pGet vs     (if 0 > IntKind.i64.wrap (IntKind.i64.wrap ((↑vs.length : Int) - 1) - k) then 0     else IntKind.i64.wrap (IntKind.i64.wrap ((↑vs.length : Int) - 1) - k))).snd))], 29⟩], gh0⟩ := by kernel_rfl

theorem pGet_at {ps : List Pos} {i : Nat} {q : Pos} (h : ps[i]? = some q) : pGet ps (i : Int) = q ∧ pIn ps (i : Int) = true := by
  have hlt := (List.getElem?_eq_some_iff.1 h).1
  have : (0 : Int) ≤ (i : Int) ∧ (i : Int) < (ps.length : Int) := by omega
  unfold pGet pIn
  rw [if_pos this]
  simp [List.getD, h]
  exact hlt

theorem older_out (L p : Nat) (r : Option Nat) (ps : List Pos) (k : Nat) (z y : Int) (q : Pos) (w : World) (vs : List Pos) (h : JL w L p r ps (ps.length : Nat)) (hlen : ps.length ≤ 16) (hk : 1 ≤ k) (hka : k ≤ ps.length) (hq : vs[vs.length - 1 - k]? = some q)
    (hml : 1 ≤ vs.length ∧ vs.length ≤ 16) (hvs : vs = pushL ps (z, y)) :
    OutOK Try.prog (tbV [(9, Try.f9)] ps) noRows (Fam.one (vX p r ps.length (posV ps))) (fun _ _ _ => False) (EndQ fun e w' => e = .returned (.tuple #[posAgg q, .bool true]) ∧ JPost w L p r vs ((vs.length - 1 - k : Nat) : Int) w') (jL L p) ⟨w, L :: p :: r.toList⟩
      (ev (tbV [(9, Try.f9)] ps) noRows 400 [.c 9 [], .f 9 1 [] (some 0)] .normal ⟨Try.f9.ntmps, argTmps 0 [.c (.one (.ptr 0 0)), .c (.agg [.v (.int .i64 z), .v (.int .i64 y)]), iV .i64 k], [some (jBlk (ps.length : Nat)), none], gh0⟩) := by
  rw [show Try.f9.ntmps = 60 from rfl, older_ev1 ps z y k]
  refine OutOK_cond.2 ⟨fun hh => ?_, fun _ => OutOK_cond.2 ⟨fun hh => ?_, fun _ => OutOK_cond.2 ⟨fun _ => ?_, fun hh => ?_⟩⟩⟩
  · exfalso; simp at hh; omega
  · exfalso; simp at hh; omega
  rotate_left
  · exfalso; simp at hh
  refine at_call (g := 8) (dst := some 31) (vs := [.c (.one (.ptr 0 0)), .c (.agg [.v (.int .i64 z), .v (.int .i64 y)])]) (by kernel_rfl) fn8_ok fun σ w1 hmo => ?_
  obtain ⟨x, hmx⟩ := hmo
  cases hmx.fam
  have hm := hmx.mok
  have hj := jl_of_mok rfl hm
  have h0 : σ 0 = L := hm.init 0 L rfl
  have h1 : σ 1 = p := hm.init 1 p rfl
  have hp := push8 L p r ps ps.length (z, y) w1 hj (Nat.le_refl _) hlen
  rw [← hvs] at hp
  refine Calls.mono (R := _) (by simpa [SV.den, CV.den, A.den, posAgg, h0] using hp) ?_
  rintro e w2 ⟨rfl, r1, hj1, k1, hf1⟩
  have hsz := hm.keep.size
  have hlt := h.lt
  have hown : ∀ x, x ∈ L :: p :: r.toList → x ∈ L :: p :: r.toList ∨ w.heap.size ≤ x := fun x hx => .inl hx
  have hfr : ∀ i, (2 ≤ i) → i < 4 → σ i ∉ L :: p :: r.toList := fun i hi hi4 hmm => by
    have hk : ∃ b, ([some (jBlk (ps.length : Nat)), none, some ⟨[.v (.int .i64 z), .v (.int .i64 y)], 29⟩, some ⟨[.v (.int .i64 0), .v (.int .i64 0)], 29⟩] : List (Option Blk))[i]? = some (some b) := by
      have : i = 2 ∨ i = 3 := by omega
      rcases this with rfl | rfl
      · exact ⟨_, rfl⟩
      · exact ⟨_, rfl⟩
    obtain ⟨b, hb⟩ := hk
    rcases (hm.own i b hb).1 with h2 | h2
    · have hx := hm.extd i b hb
      simp [vX, vecX] at hx
      simp at hmm
      rcases hmm with e | e | e
      · have := hm.inj i 0 b _ hb rfl (by rw [h0, e])
        omega
      · exact hx.1 e
      · exact hx.2 e
    · have := hlt (σ i) hmm
      have : w.heap.size ≤ σ i := h2
      omega
  have hm2 : MOK noRows (vX p r1 vs.length (posV vs)) (jL L p) ⟨w, L :: p :: r.toList⟩ σ [none, none, some ⟨[.v (.int .i64 z), .v (.int .i64 y)], 29⟩, some ⟨[.v (.int .i64 0), .v (.int .i64 0)], 29⟩] w2 := by
    refine (hm.told (i := 0) (b := none) (by simp) (fun b' hb => by cases hb)).call k1 hown (fun i b hb => ?_) hj1.vec (fun b hb => hj1.lt b (List.mem_cons_of_mem _ hb)) (fun i b hb => ?_)
    · match i, hb with
      | 0, hb => simp at hb
      | 1, hb => simp at hb
      | 2, _ => exact hfr 2 (by omega) (by omega)
      | 3, _ => exact hfr 3 (by omega) (by omega)
    · have hnew : ∀ g, r1 = some g → g ∈ r.toList ∨ w1.heap.size ≤ g := fun g hg => by
        rcases hf1 with e | ⟨k', e, hle⟩
        · rw [← e, hg]; exact .inl (by simp)
        · rw [hg] at e; injection e with e; subst e; exact .inr hle
      have hbx : ∀ i, i < 4 → 2 ≤ i → σ i ∉ p :: r1.toList := fun i hi h2 hmm => by
        have hn := hfr i h2 hi
        have hk : ∃ b, ([some (jBlk (ps.length : Nat)), none, some ⟨[.v (.int .i64 z), .v (.int .i64 y)], 29⟩, some ⟨[.v (.int .i64 0), .v (.int .i64 0)], 29⟩] : List (Option Blk))[i]? = some (some b) := by
          have : i = 2 ∨ i = 3 := by omega
          rcases this with rfl | rfl
          · exact ⟨_, rfl⟩
          · exact ⟨_, rfl⟩
        obtain ⟨b, hb⟩ := hk
        have hl := (hm.own i b hb).2
        simp at hmm hn
        rcases hmm with e | e
        · exact hn.2.1 e
        · rcases hnew _ e with e2 | e2
          · exact hn.2.2 (by simpa using e2)
          · omega
      match i, hb with
      | 0, hb => simp at hb
      | 1, hb => simp at hb
      | 2, _ => exact hbx 2 (by omega) (by omega)
      | 3, _ => exact hbx 3 (by omega) (by omega)
  have hm3 : MOK noRows (vX p r1 vs.length (posV vs)) (jL L p) ⟨w, L :: p :: r.toList⟩ σ [some (jBlk vs.length), none, some ⟨[.v (.int .i64 z), .v (.int .i64 y)], 29⟩, some ⟨[.v (.int .i64 0), .v (.int .i64 0)], 29⟩] w2 := by
    refine hm2.told (i := 0) (by simp) (b := some (jBlk vs.length)) fun b' hb' => ?_
    injection hb' with hb'
    subst hb'
    rw [h0]
    refine ⟨by rw [hj1.box]; simp [A.den, h1], ?_, .inl (by simp), fun j bj hj0 hj => ?_⟩
    · simp [vX, vecX]
      exact ⟨hj1.ne, fun hh => hj1.nr hh⟩
    · match j, hj with
      | 0, _ => exact (hj0 rfl).elim
      | 1, hj => simp at hj
      | 2, _ => exact fun e => hfr 2 (by omega) (by omega) (by rw [e]; simp)
      | 3, _ => exact fun e => hfr 3 (by omega) (by omega) (by rw [e]; simp)
  have hown3 : Own ⟨w, L :: p :: r.toList⟩ (vX p r1 vs.length (posV vs)) := fun b hb => by
    rcases List.mem_cons.1 hb with rfl | hb
    · exact .inl (by simp)
    · have hb : r1 = some b := by simpa using hb
      rcases hf1 with e | ⟨k', e, hle⟩
      · exact .inl (by rw [← e, hb]; simp)
      · rw [hb] at e; injection e with e; subst e; exact .inr (Nat.le_trans hsz hle)
  refine ⟨.tup [], σ, _, gh0, Fam.one (vX p r1 vs.length (posV vs)), { tbV [(9, Try.f9)] vs with thaw := [(9, [(7, [3])])] }, ⟨60, [(31, .tup []), (30, .c (.agg [.v (.int .i64 z), .v (.int .i64 y)])), (29, .c (.one (.ptr 0 0))), (7, .c (.one (.v (.bool false)))), (6, .c (.one (.ptr 3 0))), (4, .c (.one (.ptr 2 0))), (0, .c (.one (.ptr 0 0))), (1, .c (.agg [.v (.int .i64 z), .v (.int .i64 y)])), (2, .c (.one (.v (.int .i64 k))))], [some (jBlk vs.length), none, some ⟨[.v (.int .i64 z), .v (.int .i64 y)], 29⟩, some ⟨[.v (.int .i64 0), .v (.int .i64 0)], 29⟩], gh0⟩, rfl, (fun _ _ _ hh => by cases hh), ⟨_, rfl, fun _ hh => (by cases hh), hown3, hm3⟩, Nat.le_refl 4, .inl rfl, rfl, by kernel_rfl, ?_⟩
  refine ev_sound (TabOK.thaws (tbO_ok rfl) _) endQ_panic 400 _ _ _ ?_
  rw [older_ev2 vs z y k]
  have e1 : IntKind.i64.wrap ((vs.length : Int) - 1) = (vs.length : Int) - 1 := wrap_small (by omega) (by omega)
  have e2 : IntKind.i64.wrap ((vs.length : Int) - 1 - (k : Int)) = (vs.length : Int) - 1 - (k : Int) := wrap_small (by omega) (by omega)
  have e3 : (if 0 > (vs.length : Int) - 1 - (k : Int) then 0 else (vs.length : Int) - 1 - (k : Int)) = ((vs.length - 1 - k : Nat) : Int) := by split <;> omega
  obtain ⟨g1, g2⟩ := pGet_at hq
  rw [e1, e2, e3, g1, g2]
  refine leaf_end fun σ' w3 hmo4 => ?_
  obtain ⟨x4, hmx4⟩ := hmo4
  cases hmx4.fam
  have hm4 := hmx4.mok
  have hj4 := jl_of_mok rfl hm4
  refine ⟨rfl, r1, hj4, hm4.keep, ?_⟩
  rcases hf1 with e | ⟨k', e, hle⟩
  · exact .inl e
  · exact .inr ⟨k', e, Nat.le_trans hsz hle⟩
/-- Older from behind the last: the place is laid down first. -/
theorem older_last (L p : Nat) (r : Option Nat) (ps : List Pos) (k : Nat) (q0 q : Pos) (w : World) (h : JL w L p r ps (ps.length : Nat)) (hlen : ps.length ≤ 16) (hk : 1 ≤ k) (hka : k ≤ ps.length) (hq : (pushL ps q0)[(pushL ps q0).length - 1 - k]? = some q) :
    Calls Try.prog 9 #[.pointer (some ⟨L, 0, none⟩), posAgg q0, .int .i64 k] w fun e w' => e = .returned (.tuple #[posAgg q, .bool true]) ∧ JPost w L p r (pushL ps q0) (((pushL ps q0).length - 1 - k : Nat) : Int) w' := by
  obtain ⟨z, y⟩ := q0
  obtain ⟨vs, hvs⟩ : ∃ vs, vs = pushL ps (z, y) := ⟨_, rfl⟩
  have hml := pushL_len ps (z, y) hlen
  rw [← hvs] at hq hml ⊢
  have key : Calls Try.prog 9 (([.c (.one (.ptr 0 0)), .c (.agg [.v (.int .i64 z), .v (.int .i64 y)]), iV .i64 k] : List SV).map (SV.den noRows (fun i => (jL L p).getD i 0))).toArray w (fun e w' => e = .returned (.tuple #[posAgg q, .bool true]) ∧ JPost w L p r vs ((vs.length - 1 - k : Nat) : Int) w') := by
    refine calls_of_ev (Jt := fun _ _ _ => False) (tbO_ok (L0 := jL L p) rfl) (f := 9) (fn := Try.f9) rfl (gh := gh0) ⟨_, rfl, fun _ hh => (by cases hh), fun b hb => .inl (List.mem_cons_of_mem _ hb), mok_of_jl h⟩ (Nat.le_refl 2) (show 3 ≤ 60 by omega) (fun v hv => by simp at hv; rcases hv with rfl | rfl | rfl <;> exact (fun _ _ _ hh => by cases hh)) (n := 400) ?_
    exact older_out L p r ps k z y q w vs h hlen hk hka hq hml hvs
  exact key

end Go.Proofs.Ytglbhabpenkpdaa.Sx
