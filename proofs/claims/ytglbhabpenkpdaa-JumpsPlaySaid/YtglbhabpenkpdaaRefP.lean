/-
  The reference's Push. Conditions: stated at each theorem.
-/
import Derived.Test.YtglbhabpenkpdaaRen
set_option linter.all false
namespace Go.Proofs.Ytglbhabpenkpdaa.Sx
open Go.RowKit Go.Proofs.Ytglbhabpenkpdaa

theorem rp_ev1 (qs : List (Int × Int)) (bt z y : Int) : ev { tbR [(12, Try.f12)] with thaw := [] } noRows 400 [.c 12 [], .f 12 1 [] (some 0)] .normal ⟨54, argTmps 0 [.c (.one (.ptr 0 0)), .c (.agg [.v (.int .i64 z), .v (.int .i64 y)])], refM bt, refG false qs⟩ =
  .leaf [.c 12 [0, 1, 0, 1, 1], .b 0, .c 12 [1, 1, 1], .f 12 1 [] (some 0)] .normal ⟨54, [(5, .c (.one (.v (.int .i64 0)))), (4, .c (.one (.v (.slice none 0 0)))), (3, .c (.one (.ptr 5 0))), (0, .c (.one (.ptr 0 0))), (1, .c (.agg [.v (.int .i64 (z)), .v (.int .i64 (y))]))], [some ⟨[.os 1, .v (.int .i64 (bt))], 42⟩, none, none, none, none, some ⟨[.v (.int .i64 (z)), .v (.int .i64 (y))], 29⟩], ⟨[1, 2, 3, 4], 0, [], 0, ⟨0, ([]), [⟨1, false, .poss 35 29 (qs)⟩]⟩⟩⟩ := by kernel_rfl


theorem rp_ev2 (qs vs : List (Int × Int)) (bt z y : Int) (k : Nat) : ev { tbR [(12, Try.f12)] with thaw := [] } noRows 400 [.c 12 [0, 0, 1, 0, 1, 1], .j 0, .b 0, .c 12 [1, 1, 1], .f 12 1 [] (some 0)] .normal ⟨54, [(0, .c (.one (.ptr 0 0))), (3, .c (.one (.ptr 5 0))), (4, .c (.one (.os 6))), (5, .c (.one (.v (.int .i64 (k : Nat)))))], [some ⟨[.os 1, .v (.int .i64 bt)], 42⟩, none, none, none, none, some ⟨[.v (.int .i64 z), .v (.int .i64 y)], 29⟩, none, none, none, none], ⟨[1, 2, 3, 4, 6, 7, 8, 9], 0, [], 0, ⟨0, [], [⟨1, false, .poss 35 29 qs⟩, ⟨6, true, .poss 35 29 vs⟩]⟩⟩⟩ =
  cond (decide ((↑k : Int) < (↑qs.length : Int)))
    (cond (decide (0 ≤ (↑k : Int) ∧ (↑k : Int) < (↑qs.length : Int)))
      (cond (decide ((↑k : Int).toNat < qs.length))
        (cond (decide ((↑k : Int).toNat < qs.length))
          (cond ((qs.getD (↑k : Int).toNat (0, 0)).fst != z)
            (cond (decide (0 ≤ (↑k : Int) ∧ (↑k : Int) < (↑qs.length : Int)))
              (cond (decide ((↑k : Int).toNat < qs.length))
                (cond (decide ((vs ++ [((qs.getD (↑k : Int).toNat (0, 0)).fst, (qs.getD (↑k : Int).toNat (0, 0)).snd)]).length ≤ 1000000))
                  (.leaf [.j 0, .b 0, .c 12 [1, 1, 1], .f 12 1 [] (some 0)] .normal ⟨54, [(5, .c (.one (.v (.int .i64 (IntKind.i64.wrap ((↑k : Int) + 1)))))), (14, .c (.one (.v (.int .i64 (IntKind.i64.wrap ((↑k : Int) + 1)))))), (13, .c (.one (.v (.int .i64 ((↑k : Int)))))), (4, .c (.one (.os 11))), (0, .c (.one (.ptr 0 0))), (3, .c (.one (.ptr 5 0)))], [some ⟨[.os 1, .v (.int .i64 (bt))], 42⟩, none, none, none, none, some ⟨[.v (.int .i64 (z)), .v (.int .i64 (y))], 29⟩, none, none, none, none, some ⟨[.v (.int .i64 ((qs.getD (↑k : Int).toNat (0, 0)).fst)), .v (.int .i64 ((qs.getD (↑k : Int).toNat (0, 0)).snd))], 29⟩, none, none, none, none], ⟨[1, 2, 3, 4, 6, 7, 8, 9, 11, 12, 13, 14], 0, [], 0, ⟨0, ([]), [⟨1, false, .poss 35 29 (qs)⟩, ⟨11, true, .poss 35 29 (vs ++ [((qs.getD (↑k : Int).toNat (0, 0)).fst, (qs.getD (↑k : Int).toNat (0, 0)).snd)])⟩]⟩⟩⟩)
                  (.leaf [.o 12 [0, 1, 0, 0, 1, 0, 0, 1, 0, 1, 1] [9, 10], .b 1, .c 12 [1, 1, 0, 0, 1, 0, 1, 1], .j 0, .b 0, .c 12 [1, 1, 1], .f 12 1 [] (some 0)] .normal ⟨54, [(34, .c (.one (.bsl 10 1))), (33, .c (.agg [.v (.int .i64 ((qs.getD (↑k : Int).toNat (0, 0)).fst)), .v (.int .i64 ((qs.getD (↑k : Int).toNat (0, 0)).snd))])), (32, .c (.one (.oe 1 ((↑k : Int).toNat) 2 0))), (31, .c (.one (.v (.int .i64 ((↑k : Int)))))), (30, .c (.one (.os 1))), (29, .c (.one (.ptr 0 0))), (28, .c (.one (.ptr 0 0))), (27, .c (.one (.ptr 0 0))), (26, .c (.one (.os 6))), (0, .c (.one (.ptr 0 0))), (3, .c (.one (.ptr 5 0))), (4, .c (.one (.os 6))), (5, .c (.one (.v (.int .i64 ((↑k : Int))))))], [some ⟨[.os 1, .v (.int .i64 (bt))], 42⟩, none, none, none, none, some ⟨[.v (.int .i64 (z)), .v (.int .i64 (y))], 29⟩, none, none, none, none, some ⟨[.v (.int .i64 ((qs.getD (↑k : Int).toNat (0, 0)).fst)), .v (.int .i64 ((qs.getD (↑k : Int).toNat (0, 0)).snd))], 29⟩], ⟨[1, 2, 3, 4, 6, 7, 8, 9], 0, [], 0, ⟨0, ([]), [⟨1, false, .poss 35 29 (qs)⟩, ⟨6, true, .poss 35 29 (vs)⟩]⟩⟩⟩))
                (.leaf [.o 12 [0, 1, 0, 0, 1, 0, 0, 1, 0, 1, 1] [7, 8, 9, 10], .b 1, .c 12 [1, 1, 0, 0, 1, 0, 1, 1], .j 0, .b 0, .c 12 [1, 1, 1], .f 12 1 [] (some 0)] .normal ⟨54, [(32, .c (.one (.oe 1 ((↑k : Int).toNat) 2 0))), (31, .c (.one (.v (.int .i64 ((↑k : Int)))))), (30, .c (.one (.os 1))), (29, .c (.one (.ptr 0 0))), (28, .c (.one (.ptr 0 0))), (27, .c (.one (.ptr 0 0))), (26, .c (.one (.os 6))), (0, .c (.one (.ptr 0 0))), (3, .c (.one (.ptr 5 0))), (4, .c (.one (.os 6))), (5, .c (.one (.v (.int .i64 ((↑k : Int))))))], [some ⟨[.os 1, .v (.int .i64 (bt))], 42⟩, none, none, none, none, some ⟨[.v (.int .i64 (z)), .v (.int .i64 (y))], 29⟩, none, none, none, none], ⟨[1, 2, 3, 4, 6, 7, 8, 9], 0, [], 0, ⟨0, ([]), [⟨1, false, .poss 35 29 (qs)⟩, ⟨6, true, .poss 35 29 (vs)⟩]⟩⟩⟩))
              (.leaf [.o 12 [0, 1, 0, 0, 1, 0, 0, 1, 0, 1, 1] [6, 7, 8, 9, 10], .b 1, .c 12 [1, 1, 0, 0, 1, 0, 1, 1], .j 0, .b 0, .c 12 [1, 1, 1], .f 12 1 [] (some 0)] .normal ⟨54, [(31, .c (.one (.v (.int .i64 ((↑k : Int)))))), (30, .c (.one (.os 1))), (29, .c (.one (.ptr 0 0))), (28, .c (.one (.ptr 0 0))), (27, .c (.one (.ptr 0 0))), (26, .c (.one (.os 6))), (0, .c (.one (.ptr 0 0))), (3, .c (.one (.ptr 5 0))), (4, .c (.one (.os 6))), (5, .c (.one (.v (.int .i64 ((↑k : Int))))))], [some ⟨[.os 1, .v (.int .i64 (bt))], 42⟩, none, none, none, none, some ⟨[.v (.int .i64 (z)), .v (.int .i64 (y))], 29⟩, none, none, none, none], ⟨[1, 2, 3, 4, 6, 7, 8, 9], 0, [], 0, ⟨0, ([]), [⟨1, false, .poss 35 29 (qs)⟩, ⟨6, true, .poss 35 29 (vs)⟩]⟩⟩⟩))
            (.leaf [.j 0, .b 0, .c 12 [1, 1, 1], .f 12 1 [] (some 0)] .normal ⟨54, [(5, .c (.one (.v (.int .i64 (IntKind.i64.wrap ((↑k : Int) + 1)))))), (14, .c (.one (.v (.int .i64 (IntKind.i64.wrap ((↑k : Int) + 1)))))), (13, .c (.one (.v (.int .i64 ((↑k : Int)))))), (0, .c (.one (.ptr 0 0))), (3, .c (.one (.ptr 5 0))), (4, .c (.one (.os 6)))], [some ⟨[.os 1, .v (.int .i64 (bt))], 42⟩, none, none, none, none, some ⟨[.v (.int .i64 (z)), .v (.int .i64 (y))], 29⟩, none, none, none, none], ⟨[1, 2, 3, 4, 6, 7, 8, 9], 0, [], 0, ⟨0, ([]), [⟨1, false, .poss 35 29 (qs)⟩, ⟨6, true, .poss 35 29 (vs)⟩]⟩⟩⟩))
          (.leaf [.d 12 [0, 0, 0, 1, 0, 0, 1, 0, 1, 1] 2 [true, true, true, true, true, true, true, false, true, true, false] [0, 5], .c 12 [1, 0, 0, 1, 0, 0, 1, 0, 1, 1], .b 1, .c 12 [1, 1, 0, 0, 1, 0, 1, 1], .j 0, .b 0, .c 12 [1, 1, 1], .f 12 1 [] (some 0)] .normal ⟨54, [(21, .c (.one (.oe 1 ((↑k : Int).toNat) 2 0))), (20, .c (.one (.oe 1 ((↑k : Int).toNat) 2 0))), (24, .c (.one (.v (.int .i64 (z))))), (23, .c (.one (.ptr 5 0))), (19, .c (.one (.v (.int .i64 ((↑k : Int)))))), (18, .c (.one (.os 1))), (17, .c (.one (.ptr 0 0))), (16, .c (.one (.ptr 0 0))), (15, .c (.one (.ptr 0 0))), (0, .c (.one (.ptr 0 0))), (3, .c (.one (.ptr 5 0))), (4, .c (.one (.os 6))), (5, .c (.one (.v (.int .i64 ((↑k : Int))))))], [some ⟨[.os 1, .v (.int .i64 (bt))], 42⟩, none, none, none, none, some ⟨[.v (.int .i64 (z)), .v (.int .i64 (y))], 29⟩, none, none, none, none], ⟨[1, 2, 3, 4, 6, 7, 8, 9], 0, [], 0, ⟨0, ([]), [⟨1, false, .poss 35 29 (qs)⟩, ⟨6, true, .poss 35 29 (vs)⟩]⟩⟩⟩))
        (.leaf [.d 12 [0, 0, 0, 1, 0, 0, 1, 0, 1, 1] 3 [true, true, true, true, true, true, false, false, true, true, false] [0, 5], .c 12 [1, 0, 0, 1, 0, 0, 1, 0, 1, 1], .b 1, .c 12 [1, 1, 0, 0, 1, 0, 1, 1], .j 0, .b 0, .c 12 [1, 1, 1], .f 12 1 [] (some 0)] .normal ⟨54, [(20, .c (.one (.oe 1 ((↑k : Int).toNat) 2 0))), (24, .c (.one (.v (.int .i64 (z))))), (23, .c (.one (.ptr 5 0))), (19, .c (.one (.v (.int .i64 ((↑k : Int)))))), (18, .c (.one (.os 1))), (17, .c (.one (.ptr 0 0))), (16, .c (.one (.ptr 0 0))), (15, .c (.one (.ptr 0 0))), (0, .c (.one (.ptr 0 0))), (3, .c (.one (.ptr 5 0))), (4, .c (.one (.os 6))), (5, .c (.one (.v (.int .i64 ((↑k : Int))))))], [some ⟨[.os 1, .v (.int .i64 (bt))], 42⟩, none, none, none, none, some ⟨[.v (.int .i64 (z)), .v (.int .i64 (y))], 29⟩, none, none, none, none], ⟨[1, 2, 3, 4, 6, 7, 8, 9], 0, [], 0, ⟨0, ([]), [⟨1, false, .poss 35 29 (qs)⟩, ⟨6, true, .poss 35 29 (vs)⟩]⟩⟩⟩))
      (.leaf [.d 12 [0, 0, 0, 1, 0, 0, 1, 0, 1, 1] 4 [true, true, true, true, true, false, false, false, true, true, false] [0, 5], .c 12 [1, 0, 0, 1, 0, 0, 1, 0, 1, 1], .b 1, .c 12 [1, 1, 0, 0, 1, 0, 1, 1], .j 0, .b 0, .c 12 [1, 1, 1], .f 12 1 [] (some 0)] .normal ⟨54, [(24, .c (.one (.v (.int .i64 (z))))), (23, .c (.one (.ptr 5 0))), (19, .c (.one (.v (.int .i64 ((↑k : Int)))))), (18, .c (.one (.os 1))), (17, .c (.one (.ptr 0 0))), (16, .c (.one (.ptr 0 0))), (15, .c (.one (.ptr 0 0))), (0, .c (.one (.ptr 0 0))), (3, .c (.one (.ptr 5 0))), (4, .c (.one (.os 6))), (5, .c (.one (.v (.int .i64 ((↑k : Int))))))], [some ⟨[.os 1, .v (.int .i64 (bt))], 42⟩, none, none, none, none, some ⟨[.v (.int .i64 (z)), .v (.int .i64 (y))], 29⟩, none, none, none, none], ⟨[1, 2, 3, 4, 6, 7, 8, 9], 0, [], 0, ⟨0, ([]), [⟨1, false, .poss 35 29 (qs)⟩, ⟨6, true, .poss 35 29 (vs)⟩]⟩⟩⟩))
    (cond (decide ((vs ++ [(z, y)]).length ≤ 1000000))
      (cond (decide ((↑(vs ++ [(z, y)]).length : Int) > 16))
        (cond (decide (1 ≤ (vs ++ [(z, y)]).length))
          (.leaf [] .normal ⟨1, [(0, .tup [])], [some ⟨[.os 15, .v (.int .i64 ((↑(List.drop 1 (vs ++ [(z, y)])).length : Int)))], 42⟩, none, none, none, none, some ⟨[.v (.int .i64 (z)), .v (.int .i64 (y))], 29⟩, none, none, none, none, some ⟨[.v (.int .i64 (z)), .v (.int .i64 (y))], 29⟩, none, none, none, none, none, none, none, none], ⟨[1, 2, 3, 4, 6, 7, 8, 9, 11, 12, 13, 14, 15, 16, 17, 18], 0, [], 0, ⟨0, ([]), [⟨1, false, .poss 35 29 (qs)⟩, ⟨15, false, .poss 35 29 (List.drop 1 (vs ++ [(z, y)]))⟩]⟩⟩⟩)
          (.leaf [.o 12 [0, 1, 0, 1, 1, 1, 1] [1, 2], .c 12 [1, 1, 1, 1, 1], .f 12 1 [] (some 0)] .normal ⟨54, [(43, .c (.one (.os 11))), (4, .c (.one (.os 11))), (0, .c (.one (.ptr 0 0))), (3, .c (.one (.ptr 5 0))), (5, .c (.one (.v (.int .i64 ((↑k : Int))))))], [some ⟨[.os 1, .v (.int .i64 (bt))], 42⟩, none, none, none, none, some ⟨[.v (.int .i64 (z)), .v (.int .i64 (y))], 29⟩, none, none, none, none, some ⟨[.v (.int .i64 (z)), .v (.int .i64 (y))], 29⟩, none, none, none, none], ⟨[1, 2, 3, 4, 6, 7, 8, 9, 11, 12, 13, 14], 0, [], 0, ⟨0, ([]), [⟨1, false, .poss 35 29 (qs)⟩, ⟨11, true, .poss 35 29 (vs ++ [(z, y)])⟩]⟩⟩⟩))
        (.leaf [] .normal ⟨1, [(0, .tup [])], [some ⟨[.os 11, .v (.int .i64 ((↑(vs ++ [(z, y)]).length : Int)))], 42⟩, none, none, none, none, some ⟨[.v (.int .i64 (z)), .v (.int .i64 (y))], 29⟩, none, none, none, none, some ⟨[.v (.int .i64 (z)), .v (.int .i64 (y))], 29⟩, none, none, none, none], ⟨[1, 2, 3, 4, 6, 7, 8, 9, 11, 12, 13, 14], 0, [], 0, ⟨0, ([]), [⟨1, false, .poss 35 29 (qs)⟩, ⟨11, true, .poss 35 29 (vs ++ [(z, y)])⟩]⟩⟩⟩))
      (.leaf [.o 12 [0, 1, 1, 1] [3, 4], .c 12 [1, 1, 1, 1], .f 12 1 [] (some 0)] .normal ⟨54, [(38, .c (.one (.bsl 10 1))), (37, .c (.agg [.v (.int .i64 (z)), .v (.int .i64 (y))])), (36, .c (.one (.os 6))), (0, .c (.one (.ptr 0 0))), (3, .c (.one (.ptr 5 0))), (4, .c (.one (.os 6))), (5, .c (.one (.v (.int .i64 ((↑k : Int))))))], [some ⟨[.os 1, .v (.int .i64 (bt))], 42⟩, none, none, none, none, some ⟨[.v (.int .i64 (z)), .v (.int .i64 (y))], 29⟩, none, none, none, none, some ⟨[.v (.int .i64 (z)), .v (.int .i64 (y))], 29⟩], ⟨[1, 2, 3, 4, 6, 7, 8, 9], 0, [], 0, ⟨0, ([]), [⟨1, false, .poss 35 29 (qs)⟩, ⟨6, true, .poss 35 29 (vs)⟩]⟩⟩⟩)) := by kernel_rfl


theorem RJ.less {w : World} {J b o c : Nat} {own : Bool} {qs : List Pos} {bt : Int} (h : RJ w J b o c own qs bt) : RJ w J b o c false qs bt :=
  ⟨h.box, ⟨fun hh => (by cases hh), h.slot.cell, h.slot.len, h.slot.cap, h.slot.small, h.slot.ty⟩, h.ne, h.lt⟩

/-- How the object stands at a way's end, whatever other slots there are. -/
theorem ref_done2 {E : Nat → Row} {w0 : WM} {σ : Nat → Nat} {J i : Nat} {gh : Gh} {own : Bool} {qs : List Pos} {bt : Int} {mem : List (Option Blk)} {w : World} (h : Mo E (famJ slotY) [J] w0 σ gh mem w) (hk : gh.k = 0) (hq : getSl i gh.r.sl = some ⟨i, own, .poss 35 29 qs⟩) (h0 : mem[0]? = some (some ⟨[.os i, .v (.int .i64 bt)], 42⟩)) :
    RJ w J (σ i) (σ (i + 1)) (σ (i + 2)) own qs bt ∧ (σ i ≠ 0 → σ i - 1 ∈ w0.M ∨ w0.w.heap.size ≤ σ i - 1) := by
  obtain ⟨x, hm⟩ := h
  obtain ⟨hs, _, hin0⟩ := slot_of hm hq
  obtain ⟨z, rfl, hin, hd, _, _⟩ := slot_split hm
  have hJ : σ 0 = J := hm.mok.init 0 J rfl
  have hb := hm.mok.blk 0 _ h0
  have hxd := hm.mok.extd 0 _ h0
  rw [hJ] at hb hxd
  have hoad : oad (refN J (σ i) (σ (i + 1)) (σ (i + 2)) qs.length) 1 = oad σ i := by simp [oad, refN]
  have hlen : σ (i + 3) = qs.length := hs.len
  have hmem : σ i ≠ 0 → σ i - 1 ∈ (z.and (slotsX (res gh.tl σ) gh.r.sl)).B := fun hne => by
    refine List.mem_append_right _ (List.mem_flatMap.2 ⟨_, hin0, ?_⟩)
    have e0 := res_in (σ := σ) (hin.names _ hin0 0 (by omega))
    have e0 : res gh.tl σ i = σ i := e0
    simp [sblk, oad, e0, hne]
  refine ⟨⟨?_, ⟨fun hh => ?_, fun j v hv => ?_, rfl, hs.cap, hs.small, hs.ty⟩, fun hne he => ?_, fun hne => ?_⟩, fun hne => ?_⟩
  · rw [hb, hoad]
    simp [A.den, hlen]
  · have := hs.own hh
    rw [← hoad] at this
    exact this
  · have := hs.cell j v hv
    rw [← hoad] at this
    exact this
  · exact hxd (he ▸ hmem hne)
  · exact hm.mok.extB _ (hmem hne)
  · exact hm.owns _ (hmem hne)

abbrev rpS (qs vs : List Pos) (bt : Int) (z y : Int) (k : Nat) : St := ⟨54, [(0, .c (.one (.ptr 0 0))), (3, .c (.one (.ptr 5 0))), (4, .c (.one (.os 6))), (5, .c (.one (.v (.int .i64 (k : Nat)))))], [some ⟨[.os 1, .v (.int .i64 bt)], 42⟩, none, none, none, none, some ⟨[.v (.int .i64 z), .v (.int .i64 y)], 29⟩, none, none, none, none], ⟨[1, 2, 3, 4, 6, 7, 8, 9], 0, [], 0, ⟨0, [], [⟨1, false, .poss 35 29 qs⟩, ⟨6, true, .poss 35 29 vs⟩]⟩⟩⟩

theorem filt_take {α : Type} (f : α → Bool) (l : List α) (d : α) (k : Nat) (hk : k < l.length) : (l.take (k + 1)).filter f = (l.take k).filter f ++ (if f (l.getD k d) then [l.getD k d] else []) := by
  rw [List.take_succ_eq_append_getElem hk, List.filter_append, List.getD_eq_getElem?_getD, List.getElem?_eq_getElem hk]
  congr 1
  rw [List.filter_cons, List.filter_nil]
  rfl

theorem pushL_eq (qs : List Pos) (q : Pos) (hl : qs.length ≤ 16) : pushL qs q = if 16 < (qs.filter (otherLine q.1) ++ [q]).length then (qs.filter (otherLine q.1) ++ [q]).drop 1 else qs.filter (otherLine q.1) ++ [q] := by
  have := List.length_filter_le (otherLine q.1) qs
  unfold pushL
  split
  · congr 1
    simp only [List.length_append, List.length_singleton] at *
    omega
  · rw [show (qs.filter (otherLine q.1) ++ [q]).length - 16 = 0 by omega]
    rfl

theorem refPush (J b o c : Nat) (qs : List Pos) (bt : Int) (q : Pos) (w : World) (h : RJ w J b o c false qs bt) (hl : qs.length ≤ 16) :
    Calls Try.prog 12 #[.pointer (some ⟨J, 0, none⟩), posAgg q] w fun e w' => e = .returned (.tuple #[]) ∧ RPost w J b false (pushL qs q) (pushL qs q).length w' := by
  obtain ⟨z, y⟩ := q
  have key : Calls Try.prog 12 (([.c (.one (.ptr 0 0)), .c (.agg [.v (.int .i64 z), .v (.int .i64 y)])] : List SV).map (SV.den noRows (refN J b o c qs.length))).toArray w (fun e w' => e = .returned (.tuple #[]) ∧ RPost w J b false (pushL qs (z, y)) (pushL qs (z, y)).length w') := by
    have tok := fun L => tbR_ok (L0 := L) (fs := [(12, Try.f12)]) (List.forall_mem_cons.2 ⟨fn12_ok, fun _ h => by cases h⟩)
    refine calls_of_ev (Jt := fun _ _ _ => False) (X := famJ slotY) (gh := refG false qs) (w0 := ⟨w, refB J b⟩) (tok [J]) (f := 12) (fn := Try.f12) rfl (mem := refM bt) (ref_start h _ (by simp [refB]) (fun hb => by simp [refB, hb])) (by simp) (show 2 ≤ 54 by omega) (fun v hv => by simp at hv; rcases hv with rfl | rfl <;> exact (fun _ _ _ hh => by cases hh)) (n := 400) ?_
    have e0 := rp_ev1 qs bt z y
    rw [show Try.f12.ntmps = 54 from rfl]
    rw [show (tbR [(12, Try.f12)]) = { tbR [(12, Try.f12)] with thaw := [] } from rfl, e0]
    have fin : ∀ (Jt : Nat → Act → World → Prop) (i : Nat) (own : Bool) (gh : Gh) (mem : List (Option Blk)), gh.k = 0 → getSl i gh.r.sl = some ⟨i, own, .poss 35 29 (pushL qs (z, y))⟩ → mem[0]? = some (some ⟨[.os i, .v (.int .i64 ((pushL qs (z, y)).length : Nat))], 42⟩) → OutOK Try.prog { tbR [(12, Try.f12)] with thaw := [] } noRows (famJ slotY) Jt (EndQ fun e w' => e = .returned (.tuple #[]) ∧ RPost w J b false (pushL qs (z, y)) (pushL qs (z, y)).length w') [J] ⟨w, refB J b⟩ (.leaf [] .normal ⟨1, [(0, .tup [])], mem, gh⟩) := fun Jt i own gh mem hk hq hb =>
      leaf_end fun σ w' hm => by
        obtain ⟨g1, g2⟩ := ref_done2 hm hk hq hb
        obtain ⟨x, hm⟩ := hm
        exact ⟨rfl, ⟨_, _, _, g1.less, g2⟩, hm.mok.keep⟩
    refine safe_ren [some 0, some 1, some 2, some 3, some 4, some 5, none, none, none, none] (rpS qs [] bt z y 0) (by kernel_rfl) ⟨rfl, ⟨by kernel_rfl, by kernel_rfl⟩, ⟨by kernel_rfl, by kernel_rfl, by kernel_rfl⟩, ⟨by kernel_rfl, by kernel_rfl, by kernel_rfl⟩, ⟨rfl, rfl, rfl⟩, ⟨rfl, by kernel_rfl⟩, ⟨rfl, by kernel_rfl, by kernel_rfl⟩, by kernel_rfl, by kernel_rfl⟩ (fun q hq => by simp at hq; rcases hq with rfl | rfl <;> exact posT' _) ?_
    refine at_loop (by kernel_rfl) 0 (by kernel_rfl) (by kernel_rfl) (α := { k : Nat // k ≤ qs.length }) (fun k => rpS qs ((qs.take k.1).filter (otherLine z)) bt z y k.1) (fun _ => famJ slotY) (fun _ => { tbR [(12, Try.f12)] with thaw := [] }) (fun _ => rfl) (fun k => qs.length - k.1) ?_ ⟨0, Nat.zero_le _⟩
    rintro ⟨k, hk⟩ J2 hJ2
    refine ev_sound (tok _) endQ_panic 400 _ _ _ ?_
    show OutOK _ _ _ _ _ _ _ _ (ev { tbR [(12, Try.f12)] with thaw := [] } noRows 400 [.c 12 [0, 0, 1, 0, 1, 1], .j 0, .b 0, .c 12 [1, 1, 1], .f 12 1 [] (some 0)] .normal (rpS qs ((qs.take k).filter (otherLine z)) bt z y k))
    rw [rp_ev2]
    have hfl : ((qs.take k).filter (otherLine z)).length ≤ k := Nat.le_trans (List.length_filter_le _ _) (List.length_take_le _ _)
    refine OutOK_cond.2 ⟨fun hlt => ?_, fun hge => ?_⟩
    · have hlt : k < qs.length := by have := of_decide_eq_true hlt; omega
      have ht := filt_take (otherLine z) qs (0, 0) k hlt
      have e1 : IntKind.i64.wrap ((k : Int) + 1) = ((k + 1 : Nat) : Int) := by rw [wrap_small (by omega) (by omega)]; omega
      have t1 : decide (0 ≤ (k : Int) ∧ (k : Int) < (qs.length : Int)) = true := decide_eq_true (by omega)
      have t2 : decide (k < qs.length) = true := decide_eq_true hlt
      simp only [Int.toNat_natCast, t1, t2, cond_true, e1]
      refine OutOK_cond.2 ⟨fun hne => ?_, fun heq => ?_⟩
      · have ho : otherLine z (qs.getD k (0, 0)) = true := hne
        rw [if_pos ho] at ht
        refine ok_t (decide_eq_true (by simp only [List.length_append, List.length_singleton]; omega)) ?_
        refine safe_jj fun σ a w1 hc => hJ2 ⟨k + 1, hlt⟩ (by show qs.length - (k + 1) < qs.length - k; omega) _ a w1 (conc_ren (r := [some 0, some 1, some 2, some 3, some 4, some 5, some 11, some 12, some 13, some 14]) hc ?_ (fun q hq => by simp at hq; rcases hq with rfl | rfl <;> exact posT' _))
        show StRen _ _ _ (rpS qs ((qs.take (k + 1)).filter (otherLine z)) bt z y (k + 1))
        rw [ht]
        exact ⟨rfl, ⟨by kernel_rfl, by kernel_rfl⟩, ⟨by kernel_rfl, by kernel_rfl, by kernel_rfl⟩, ⟨by kernel_rfl, by kernel_rfl, by kernel_rfl⟩, ⟨rfl, rfl, rfl⟩, ⟨rfl, by kernel_rfl⟩, ⟨rfl, by kernel_rfl, by kernel_rfl⟩, by kernel_rfl, by kernel_rfl⟩
      · have ho : ¬ otherLine z (qs.getD k (0, 0)) = true := by simp only [otherLine, heq]; simp
        rw [if_neg ho, List.append_nil] at ht
        refine safe_jj fun σ a w1 hc => hJ2 ⟨k + 1, hlt⟩ (by show qs.length - (k + 1) < qs.length - k; omega) _ a w1 (conc_ren (r := [some 0, some 1, some 2, some 3, some 4, some 5, some 6, some 7, some 8, some 9]) hc ?_ (fun q hq => by simp at hq; rcases hq with rfl | rfl <;> exact posT' _))
        show StRen _ _ _ (rpS qs ((qs.take (k + 1)).filter (otherLine z)) bt z y (k + 1))
        rw [ht]
        exact ⟨rfl, ⟨by kernel_rfl, by kernel_rfl⟩, ⟨by kernel_rfl, by kernel_rfl, by kernel_rfl⟩, ⟨by kernel_rfl, by kernel_rfl, by kernel_rfl⟩, ⟨rfl, rfl, rfl⟩, ⟨rfl, by kernel_rfl⟩, ⟨rfl, by kernel_rfl, by kernel_rfl⟩, by kernel_rfl, by kernel_rfl⟩
    · have hke : k = qs.length := by have := of_decide_eq_false hge; omega
      have htk : qs.take k = qs := List.take_of_length_le (by omega)
      rw [htk] at hfl ⊢
      have hp := pushL_eq qs (z, y) hl
      refine ok_t (decide_eq_true (by simp only [List.length_append, List.length_singleton]; omega)) (OutOK_cond.2 ⟨fun hgt => ?_, fun hng => ?_⟩)
      · have hgt : 16 < (qs.filter (otherLine z) ++ [(z, y)]).length := by have := of_decide_eq_true hgt; omega
        rw [if_pos hgt] at hp
        refine ok_t (decide_eq_true (by omega)) ?_
        rw [← hp]
        exact fin _ 15 false _ _ rfl rfl rfl
      · have hng : ¬ 16 < (qs.filter (otherLine z) ++ [(z, y)]).length := by have := of_decide_eq_false hng; omega
        rw [if_neg hng] at hp
        rw [← hp]
        exact fin _ 11 true _ _ rfl rfl rfl
  exact key
end Go.Proofs.Ytglbhabpenkpdaa.Sx
