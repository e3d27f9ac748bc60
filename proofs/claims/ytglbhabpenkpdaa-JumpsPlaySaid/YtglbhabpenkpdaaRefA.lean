/-
  The reference's Older and Adjust. Conditions: stated at each theorem.
-/
import Derived.Test.YtglbhabpenkpdaaRefT2
set_option linter.all false
namespace Go.Proofs.Ytglbhabpenkpdaa.Sx
open Go.RowKit Go.Proofs.Ytglbhabpenkpdaa

theorem ro_ev1 (qs : List (Int × Int)) (bt : Nat) (z y n : Int) : ev tbR2 noRows 400 [.c 13 [], .f 13 1 [] (some 0)] .normal ⟨59, argTmps 0 [.c (.one (.ptr 0 0)), .c (.agg [.v (.int .i64 z), .v (.int .i64 y)]), iV .i64 n], refM bt, refG false qs⟩ =
  cond (decide (n < 1))
    (.leaf [] .normal ⟨1, [(0, .tup [.agg [.v (.int .i64 0), .v (.int .i64 0)], .one (.v (.bool false))])], [some ⟨[.os 1, .v (.int .i64 ((↑bt : Int)))], 42⟩, none, none, none, none, some ⟨[.v (.int .i64 (z)), .v (.int .i64 (y))], 29⟩, some ⟨[.v (.int .i64 0), .v (.int .i64 0)], 29⟩], ⟨[1, 2, 3, 4], 0, [], 0, ⟨0, ([]), [⟨1, false, .poss 35 29 (qs)⟩]⟩⟩⟩)
    (cond (decide (n > (↑bt : Int)))
      (.leaf [] .normal ⟨1, [(0, .tup [.agg [.v (.int .i64 0), .v (.int .i64 0)], .one (.v (.bool false))])], [some ⟨[.os 1, .v (.int .i64 ((↑bt : Int)))], 42⟩, none, none, none, none, some ⟨[.v (.int .i64 (z)), .v (.int .i64 (y))], 29⟩, some ⟨[.v (.int .i64 0), .v (.int .i64 0)], 29⟩], ⟨[1, 2, 3, 4], 0, [], 0, ⟨0, ([]), [⟨1, false, .poss 35 29 (qs)⟩]⟩⟩⟩)
      (cond ((↑bt : Int) == (↑qs.length : Int))
        (cond (decide (qs.length ≤ 16 ∧ 0 ≤ (↑bt : Int) ∧ (↑bt : Int) ≤ (↑qs.length : Int)))
          (cond (decide   ((0 ≤       if 0 > IntKind.i64.wrap (IntKind.i64.wrap ((↑(pushL qs (z, y)).length : Int) - 1) - n) then 0       else IntKind.i64.wrap (IntKind.i64.wrap ((↑(pushL qs (z, y)).length : Int) - 1) - n)) ∧     (if 0 > IntKind.i64.wrap (IntKind.i64.wrap ((↑(pushL qs (z, y)).length : Int) - 1) - n) then 0       else IntKind.i64.wrap (IntKind.i64.wrap ((↑(pushL qs (z, y)).length : Int) - 1) - n)) <       (↑(pushL qs (z, y)).length : Int)))
            (cond (decide   ((if 0 > IntKind.i64.wrap (IntKind.i64.wrap ((↑(pushL qs (z, y)).length : Int) - 1) - n) then 0       else IntKind.i64.wrap (IntKind.i64.wrap ((↑(pushL qs (z, y)).length : Int) - 1) - n)).toNat <     (pushL qs (z, y)).length))
              (.leaf [] .normal ⟨1, [(0, .tup [.agg [.v (.int .i64 (((pushL qs (z, y)).getD     (if 0 > IntKind.i64.wrap (IntKind.i64.wrap ((↑(pushL qs (z, y)).length : Int) - 1) - n) then 0       else IntKind.i64.wrap (IntKind.i64.wrap ((↑(pushL qs (z, y)).length : Int) - 1) - n)).toNat     (0, 0)).fst)), .v (.int .i64 (((pushL qs (z, y)).getD     (if 0 > IntKind.i64.wrap (IntKind.i64.wrap ((↑(pushL qs (z, y)).length : Int) - 1) - n) then 0       else IntKind.i64.wrap (IntKind.i64.wrap ((↑(pushL qs (z, y)).length : Int) - 1) - n)).toNat     (0, 0)).snd))], .one (.v (.bool true))])], [some ⟨[.os 7, .v (.int .i64 (if 0 > IntKind.i64.wrap (IntKind.i64.wrap ((↑(pushL qs (z, y)).length : Int) - 1) - n) then 0 else IntKind.i64.wrap (IntKind.i64.wrap ((↑(pushL qs (z, y)).length : Int) - 1) - n)))], 42⟩, none, none, none, none, some ⟨[.v (.int .i64 (z)), .v (.int .i64 (y))], 29⟩, some ⟨[.v (.int .i64 (((pushL qs (z, y)).getD     (if 0 > IntKind.i64.wrap (IntKind.i64.wrap ((↑(pushL qs (z, y)).length : Int) - 1) - n) then 0       else IntKind.i64.wrap (IntKind.i64.wrap ((↑(pushL qs (z, y)).length : Int) - 1) - n)).toNat     (0, 0)).fst)), .v (.int .i64 (((pushL qs (z, y)).getD     (if 0 > IntKind.i64.wrap (IntKind.i64.wrap ((↑(pushL qs (z, y)).length : Int) - 1) - n) then 0       else IntKind.i64.wrap (IntKind.i64.wrap ((↑(pushL qs (z, y)).length : Int) - 1) - n)).toNat     (0, 0)).snd))], 29⟩, none, none, none, none], ⟨[1, 2, 3, 4, 7, 8, 9, 10], 0, [], 0, ⟨0, ([]), [⟨7, false, .poss 35 29 (pushL qs (z, y))⟩]⟩⟩⟩)
              (.leaf [.d 13 [0, 1, 1, 1, 1] 3 [true, true, true, true, true, true, true, true, true, false, false, false] [0, 5], .c 13 [1, 1, 1, 1, 1], .f 13 1 [] (some 0)] .normal ⟨59, [(57, .c (.one (.oe 7 ((if 0 > IntKind.i64.wrap (IntKind.i64.wrap ((↑(pushL qs (z, y)).length : Int) - 1) - n) then 0   else IntKind.i64.wrap (IntKind.i64.wrap ((↑(pushL qs (z, y)).length : Int) - 1) - n)).toNat) 2 0))), (56, .c (.one (.v (.int .i64 (if 0 > IntKind.i64.wrap (IntKind.i64.wrap ((↑(pushL qs (z, y)).length : Int) - 1) - n) then 0 else IntKind.i64.wrap (IntKind.i64.wrap ((↑(pushL qs (z, y)).length : Int) - 1) - n)))))), (55, .c (.one (.ptr 0 1))), (54, .c (.one (.ptr 0 0))), (53, .c (.one (.ptr 0 0))), (52, .c (.one (.os 7))), (51, .c (.one (.ptr 0 0))), (50, .c (.one (.ptr 0 0))), (49, .c (.one (.ptr 0 0))), (7, .c (.one (.v (.bool false)))), (6, .c (.one (.ptr 6 0))), (4, .c (.one (.ptr 5 0))), (0, .c (.one (.ptr 0 0))), (1, .c (.agg [.v (.int .i64 (z)), .v (.int .i64 (y))])), (2, .c (.one (.v (.int .i64 (n)))))], [some ⟨[.os 7, .v (.int .i64 (if 0 > IntKind.i64.wrap (IntKind.i64.wrap ((↑(pushL qs (z, y)).length : Int) - 1) - n) then 0 else IntKind.i64.wrap (IntKind.i64.wrap ((↑(pushL qs (z, y)).length : Int) - 1) - n)))], 42⟩, none, none, none, none, some ⟨[.v (.int .i64 (z)), .v (.int .i64 (y))], 29⟩, some ⟨[.v (.int .i64 0), .v (.int .i64 0)], 29⟩, none, none, none, none], ⟨[1, 2, 3, 4, 7, 8, 9, 10], 0, [], 0, ⟨0, ([]), [⟨7, false, .poss 35 29 (pushL qs (z, y))⟩]⟩⟩⟩))
            (.leaf [.d 13 [0, 1, 1, 1, 1] 4 [true, true, true, true, true, true, true, true, false, false, false, false] [0, 5], .c 13 [1, 1, 1, 1, 1], .f 13 1 [] (some 0)] .normal ⟨59, [(56, .c (.one (.v (.int .i64 (if 0 > IntKind.i64.wrap (IntKind.i64.wrap ((↑(pushL qs (z, y)).length : Int) - 1) - n) then 0 else IntKind.i64.wrap (IntKind.i64.wrap ((↑(pushL qs (z, y)).length : Int) - 1) - n)))))), (55, .c (.one (.ptr 0 1))), (54, .c (.one (.ptr 0 0))), (53, .c (.one (.ptr 0 0))), (52, .c (.one (.os 7))), (51, .c (.one (.ptr 0 0))), (50, .c (.one (.ptr 0 0))), (49, .c (.one (.ptr 0 0))), (7, .c (.one (.v (.bool false)))), (6, .c (.one (.ptr 6 0))), (4, .c (.one (.ptr 5 0))), (0, .c (.one (.ptr 0 0))), (1, .c (.agg [.v (.int .i64 (z)), .v (.int .i64 (y))])), (2, .c (.one (.v (.int .i64 (n)))))], [some ⟨[.os 7, .v (.int .i64 (if 0 > IntKind.i64.wrap (IntKind.i64.wrap ((↑(pushL qs (z, y)).length : Int) - 1) - n) then 0 else IntKind.i64.wrap (IntKind.i64.wrap ((↑(pushL qs (z, y)).length : Int) - 1) - n)))], 42⟩, none, none, none, none, some ⟨[.v (.int .i64 (z)), .v (.int .i64 (y))], 29⟩, some ⟨[.v (.int .i64 0), .v (.int .i64 0)], 29⟩, none, none, none, none], ⟨[1, 2, 3, 4, 7, 8, 9, 10], 0, [], 0, ⟨0, ([]), [⟨7, false, .poss 35 29 (pushL qs (z, y))⟩]⟩⟩⟩))
          (.leaf [.o 13 [0, 0, 1, 0, 1, 1] [2], .c 13 [1, 0, 1, 0, 1, 1], .c 13 [1, 1, 1], .f 13 1 [] (some 0)] .normal ⟨59, [(30, .c (.agg [.v (.int .i64 (z)), .v (.int .i64 (y))])), (29, .c (.one (.ptr 0 0))), (7, .c (.one (.v (.bool false)))), (6, .c (.one (.ptr 6 0))), (4, .c (.one (.ptr 5 0))), (0, .c (.one (.ptr 0 0))), (1, .c (.agg [.v (.int .i64 (z)), .v (.int .i64 (y))])), (2, .c (.one (.v (.int .i64 (n)))))], [some ⟨[.os 1, .v (.int .i64 ((↑bt : Int)))], 42⟩, none, none, none, none, some ⟨[.v (.int .i64 (z)), .v (.int .i64 (y))], 29⟩, some ⟨[.v (.int .i64 0), .v (.int .i64 0)], 29⟩], ⟨[1, 2, 3, 4], 0, [], 0, ⟨0, ([]), [⟨1, false, .poss 35 29 (qs)⟩]⟩⟩⟩))
        (cond (decide   ((0 ≤ if 0 > IntKind.i64.wrap ((↑bt : Int) - n) then 0 else IntKind.i64.wrap ((↑bt : Int) - n)) ∧     (if 0 > IntKind.i64.wrap ((↑bt : Int) - n) then 0 else IntKind.i64.wrap ((↑bt : Int) - n)) < (↑qs.length : Int)))
          (cond (decide ((if 0 > IntKind.i64.wrap ((↑bt : Int) - n) then 0 else IntKind.i64.wrap ((↑bt : Int) - n)).toNat < qs.length))
            (.leaf [] .normal ⟨1, [(0, .tup [.agg [.v (.int .i64 ((qs.getD (if 0 > IntKind.i64.wrap ((↑bt : Int) - n) then 0 else IntKind.i64.wrap ((↑bt : Int) - n)).toNat (0, 0)).fst)), .v (.int .i64 ((qs.getD (if 0 > IntKind.i64.wrap ((↑bt : Int) - n) then 0 else IntKind.i64.wrap ((↑bt : Int) - n)).toNat (0, 0)).snd))], .one (.v (.bool true))])], [some ⟨[.os 1, .v (.int .i64 (if 0 > IntKind.i64.wrap ((↑bt : Int) - n) then 0 else IntKind.i64.wrap ((↑bt : Int) - n)))], 42⟩, none, none, none, none, some ⟨[.v (.int .i64 (z)), .v (.int .i64 (y))], 29⟩, some ⟨[.v (.int .i64 ((qs.getD (if 0 > IntKind.i64.wrap ((↑bt : Int) - n) then 0 else IntKind.i64.wrap ((↑bt : Int) - n)).toNat (0, 0)).fst)), .v (.int .i64 ((qs.getD (if 0 > IntKind.i64.wrap ((↑bt : Int) - n) then 0 else IntKind.i64.wrap ((↑bt : Int) - n)).toNat (0, 0)).snd))], 29⟩], ⟨[1, 2, 3, 4], 0, [], 0, ⟨0, ([]), [⟨1, false, .poss 35 29 (qs)⟩]⟩⟩⟩)
            (.leaf [.d 13 [0, 1, 1, 1, 1] 3 [true, true, true, true, true, true, true, true, true, false, false, false] [0, 5], .c 13 [1, 1, 1, 1, 1], .f 13 1 [] (some 0)] .normal ⟨59, [(57, .c (.one (.oe 1 ((if 0 > IntKind.i64.wrap ((↑bt : Int) - n) then 0 else IntKind.i64.wrap ((↑bt : Int) - n)).toNat) 2 0))), (56, .c (.one (.v (.int .i64 (if 0 > IntKind.i64.wrap ((↑bt : Int) - n) then 0 else IntKind.i64.wrap ((↑bt : Int) - n)))))), (55, .c (.one (.ptr 0 1))), (54, .c (.one (.ptr 0 0))), (53, .c (.one (.ptr 0 0))), (52, .c (.one (.os 1))), (51, .c (.one (.ptr 0 0))), (50, .c (.one (.ptr 0 0))), (49, .c (.one (.ptr 0 0))), (7, .c (.one (.v (.bool false)))), (6, .c (.one (.ptr 6 0))), (4, .c (.one (.ptr 5 0))), (0, .c (.one (.ptr 0 0))), (1, .c (.agg [.v (.int .i64 (z)), .v (.int .i64 (y))])), (2, .c (.one (.v (.int .i64 (n)))))], [some ⟨[.os 1, .v (.int .i64 (if 0 > IntKind.i64.wrap ((↑bt : Int) - n) then 0 else IntKind.i64.wrap ((↑bt : Int) - n)))], 42⟩, none, none, none, none, some ⟨[.v (.int .i64 (z)), .v (.int .i64 (y))], 29⟩, some ⟨[.v (.int .i64 0), .v (.int .i64 0)], 29⟩], ⟨[1, 2, 3, 4], 0, [], 0, ⟨0, ([]), [⟨1, false, .poss 35 29 (qs)⟩]⟩⟩⟩))
          (.leaf [.d 13 [0, 1, 1, 1, 1] 4 [true, true, true, true, true, true, true, true, false, false, false, false] [0, 5], .c 13 [1, 1, 1, 1, 1], .f 13 1 [] (some 0)] .normal ⟨59, [(56, .c (.one (.v (.int .i64 (if 0 > IntKind.i64.wrap ((↑bt : Int) - n) then 0 else IntKind.i64.wrap ((↑bt : Int) - n)))))), (55, .c (.one (.ptr 0 1))), (54, .c (.one (.ptr 0 0))), (53, .c (.one (.ptr 0 0))), (52, .c (.one (.os 1))), (51, .c (.one (.ptr 0 0))), (50, .c (.one (.ptr 0 0))), (49, .c (.one (.ptr 0 0))), (7, .c (.one (.v (.bool false)))), (6, .c (.one (.ptr 6 0))), (4, .c (.one (.ptr 5 0))), (0, .c (.one (.ptr 0 0))), (1, .c (.agg [.v (.int .i64 (z)), .v (.int .i64 (y))])), (2, .c (.one (.v (.int .i64 (n)))))], [some ⟨[.os 1, .v (.int .i64 (if 0 > IntKind.i64.wrap ((↑bt : Int) - n) then 0 else IntKind.i64.wrap ((↑bt : Int) - n)))], 42⟩, none, none, none, none, some ⟨[.v (.int .i64 (z)), .v (.int .i64 (y))], 29⟩, some ⟨[.v (.int .i64 0), .v (.int .i64 0)], 29⟩], ⟨[1, 2, 3, 4], 0, [], 0, ⟨0, ([]), [⟨1, false, .poss 35 29 (qs)⟩]⟩⟩⟩)))) := by kernel_rfl


theorem ra_ev1 (qs : List (Int × Int)) (bt : Nat) (a o n : Int) : ev tbR3 noRows 400 [.c 16 [], .f 16 1 [] (some 0)] .normal ⟨67, argTmps 0 [.c (.one (.ptr 0 0)), iV .i64 a, iV .i64 o, iV .i64 n], refM bt, refG false qs⟩ =
  .leaf [.c 16 [0, 1, 0, 1, 1], .b 0, .c 16 [1, 1, 1], .f 16 1 [] (some 0)] .normal ⟨67, [(10, .c (.one (.v (.int .i64 0)))), (9, .c (.one (.v (.int .i64 ((↑bt : Int)))))), (8, .c (.one (.v (.slice none 0 0)))), (0, .c (.one (.ptr 0 0))), (1, .c (.one (.v (.int .i64 (a))))), (2, .c (.one (.v (.int .i64 (o))))), (3, .c (.one (.v (.int .i64 (n)))))], [some ⟨[.os 1, .v (.int .i64 ((↑bt : Int)))], 42⟩, none, none, none, none], ⟨[1, 2, 3, 4], 0, [], 0, ⟨0, ([]), [⟨1, false, .poss 35 29 (qs)⟩]⟩⟩⟩ := by kernel_rfl


theorem ra_ev2 (qs vs : List (Int × Int)) (bt : Nat) (a o n t : Int) (i : Nat) : ev tbR3 noRows 400 [.c 16 [0, 0, 1, 0, 1, 1], .j 0, .b 0, .c 16 [1, 1, 1], .f 16 1 [] (some 0)] .normal ⟨67, [(0, .c (.one (.ptr 0 0))), (1, .c (.one (.v (.int .i64 a)))), (2, .c (.one (.v (.int .i64 o)))), (3, .c (.one (.v (.int .i64 n)))), (8, .c (.one (.os 5))), (9, .c (.one (.v (.int .i64 t)))), (10, .c (.one (.v (.int .i64 (i : Nat)))))], [some ⟨[.os 1, .v (.int .i64 (bt : Nat))], 42⟩, none, none, none, none, none, none, none, none], ⟨[1, 2, 3, 4, 5, 6, 7, 8], 0, [], 0, ⟨0, [], [⟨1, false, .poss 35 29 qs⟩, ⟨5, true, .poss 35 29 vs⟩]⟩⟩⟩ =
  cond (decide ((↑i : Int) < (↑qs.length : Int)))
    (cond (decide (0 ≤ (↑i : Int) ∧ (↑i : Int) < (↑qs.length : Int)))
      (cond (decide ((↑i : Int).toNat < qs.length))
        (cond (!(shiftS (qs.getD (↑i : Int).toNat (0, 0)).fst a o n).snd)
          (cond (decide ((↑i : Int) < (↑bt : Int)))
            (.leaf [.j 0, .b 0, .c 16 [1, 1, 1], .f 16 1 [] (some 0)] .normal ⟨67, [(10, .c (.one (.v (.int .i64 (IntKind.i64.wrap ((↑i : Int) + 1)))))), (26, .c (.one (.v (.int .i64 (IntKind.i64.wrap ((↑i : Int) + 1)))))), (25, .c (.one (.v (.int .i64 ((↑i : Int)))))), (9, .c (.one (.v (.int .i64 (IntKind.i64.wrap (t - 1)))))), (13, .c (.one (.v (.bool ((shiftS (qs.getD (↑i : Int).toNat (0, 0)).fst a o n).snd))))), (12, .c (.one (.v (.int .i64 ((shiftS (qs.getD (↑i : Int).toNat (0, 0)).fst a o n).fst))))), (11, .c (.one (.ptr 9 0))), (0, .c (.one (.ptr 0 0))), (1, .c (.one (.v (.int .i64 (a))))), (2, .c (.one (.v (.int .i64 (o))))), (3, .c (.one (.v (.int .i64 (n))))), (8, .c (.one (.os 5)))], [some ⟨[.os 1, .v (.int .i64 ((↑bt : Int)))], 42⟩, none, none, none, none, none, none, none, none, some ⟨[.v (.int .i64 ((qs.getD (↑i : Int).toNat (0, 0)).fst)), .v (.int .i64 ((qs.getD (↑i : Int).toNat (0, 0)).snd))], 29⟩], ⟨[1, 2, 3, 4, 5, 6, 7, 8], 0, [], 0, ⟨0, ([]), [⟨1, false, .poss 35 29 (qs)⟩, ⟨5, true, .poss 35 29 (vs)⟩]⟩⟩⟩)
            (.leaf [.j 0, .b 0, .c 16 [1, 1, 1], .f 16 1 [] (some 0)] .normal ⟨67, [(10, .c (.one (.v (.int .i64 (IntKind.i64.wrap ((↑i : Int) + 1)))))), (26, .c (.one (.v (.int .i64 (IntKind.i64.wrap ((↑i : Int) + 1)))))), (25, .c (.one (.v (.int .i64 ((↑i : Int)))))), (13, .c (.one (.v (.bool ((shiftS (qs.getD (↑i : Int).toNat (0, 0)).fst a o n).snd))))), (12, .c (.one (.v (.int .i64 ((shiftS (qs.getD (↑i : Int).toNat (0, 0)).fst a o n).fst))))), (11, .c (.one (.ptr 9 0))), (0, .c (.one (.ptr 0 0))), (1, .c (.one (.v (.int .i64 (a))))), (2, .c (.one (.v (.int .i64 (o))))), (3, .c (.one (.v (.int .i64 (n))))), (8, .c (.one (.os 5))), (9, .c (.one (.v (.int .i64 (t)))))], [some ⟨[.os 1, .v (.int .i64 ((↑bt : Int)))], 42⟩, none, none, none, none, none, none, none, none, some ⟨[.v (.int .i64 ((qs.getD (↑i : Int).toNat (0, 0)).fst)), .v (.int .i64 ((qs.getD (↑i : Int).toNat (0, 0)).snd))], 29⟩], ⟨[1, 2, 3, 4, 5, 6, 7, 8], 0, [], 0, ⟨0, ([]), [⟨1, false, .poss 35 29 (qs)⟩, ⟨5, true, .poss 35 29 (vs)⟩]⟩⟩⟩))
          (cond (decide   ((vs ++ [((shiftS (qs.getD (↑i : Int).toNat (0, 0)).fst a o n).fst, (qs.getD (↑i : Int).toNat (0, 0)).snd)]).length ≤     1000000))
            (.leaf [.j 0, .b 0, .c 16 [1, 1, 1], .f 16 1 [] (some 0)] .normal ⟨67, [(10, .c (.one (.v (.int .i64 (IntKind.i64.wrap ((↑i : Int) + 1)))))), (26, .c (.one (.v (.int .i64 (IntKind.i64.wrap ((↑i : Int) + 1)))))), (25, .c (.one (.v (.int .i64 ((↑i : Int)))))), (8, .c (.one (.os 11))), (13, .c (.one (.v (.bool ((shiftS (qs.getD (↑i : Int).toNat (0, 0)).fst a o n).snd))))), (12, .c (.one (.v (.int .i64 ((shiftS (qs.getD (↑i : Int).toNat (0, 0)).fst a o n).fst))))), (11, .c (.one (.ptr 9 0))), (0, .c (.one (.ptr 0 0))), (1, .c (.one (.v (.int .i64 (a))))), (2, .c (.one (.v (.int .i64 (o))))), (3, .c (.one (.v (.int .i64 (n))))), (9, .c (.one (.v (.int .i64 (t)))))], [some ⟨[.os 1, .v (.int .i64 ((↑bt : Int)))], 42⟩, none, none, none, none, none, none, none, none, some ⟨[.v (.int .i64 ((shiftS (qs.getD (↑i : Int).toNat (0, 0)).fst a o n).fst)), .v (.int .i64 ((qs.getD (↑i : Int).toNat (0, 0)).snd))], 29⟩, some ⟨[.v (.int .i64 ((shiftS (qs.getD (↑i : Int).toNat (0, 0)).fst a o n).fst)), .v (.int .i64 ((qs.getD (↑i : Int).toNat (0, 0)).snd))], 29⟩, none, none, none, none], ⟨[1, 2, 3, 4, 5, 6, 7, 8, 11, 12, 13, 14], 0, [], 0, ⟨0, ([]), [⟨1, false, .poss 35 29 (qs)⟩, ⟨11, true, .poss 35 29 (vs ++ [((shiftS (qs.getD (↑i : Int).toNat (0, 0)).fst a o n).fst, (qs.getD (↑i : Int).toNat (0, 0)).snd)])⟩]⟩⟩⟩)
            (.leaf [.o 16 [1, 1, 1, 1, 0, 0, 1, 0, 0, 1, 0, 1, 1] [3, 4], .b 1, .c 16 [1, 1, 0, 0, 1, 0, 1, 1], .j 0, .b 0, .c 16 [1, 1, 1], .f 16 1 [] (some 0)] .normal ⟨67, [(57, .c (.one (.bsl 10 1))), (56, .c (.agg [.v (.int .i64 ((shiftS (qs.getD (↑i : Int).toNat (0, 0)).fst a o n).fst)), .v (.int .i64 ((qs.getD (↑i : Int).toNat (0, 0)).snd))])), (55, .c (.one (.os 5))), (13, .c (.one (.v (.bool ((shiftS (qs.getD (↑i : Int).toNat (0, 0)).fst a o n).snd))))), (12, .c (.one (.v (.int .i64 ((shiftS (qs.getD (↑i : Int).toNat (0, 0)).fst a o n).fst))))), (11, .c (.one (.ptr 9 0))), (0, .c (.one (.ptr 0 0))), (1, .c (.one (.v (.int .i64 (a))))), (2, .c (.one (.v (.int .i64 (o))))), (3, .c (.one (.v (.int .i64 (n))))), (8, .c (.one (.os 5))), (9, .c (.one (.v (.int .i64 (t))))), (10, .c (.one (.v (.int .i64 ((↑i : Int))))))], [some ⟨[.os 1, .v (.int .i64 ((↑bt : Int)))], 42⟩, none, none, none, none, none, none, none, none, some ⟨[.v (.int .i64 ((shiftS (qs.getD (↑i : Int).toNat (0, 0)).fst a o n).fst)), .v (.int .i64 ((qs.getD (↑i : Int).toNat (0, 0)).snd))], 29⟩, some ⟨[.v (.int .i64 ((shiftS (qs.getD (↑i : Int).toNat (0, 0)).fst a o n).fst)), .v (.int .i64 ((qs.getD (↑i : Int).toNat (0, 0)).snd))], 29⟩], ⟨[1, 2, 3, 4, 5, 6, 7, 8], 0, [], 0, ⟨0, ([]), [⟨1, false, .poss 35 29 (qs)⟩, ⟨5, true, .poss 35 29 (vs)⟩]⟩⟩⟩)))
        (.leaf [.o 16 [0, 0, 0, 1, 0, 0, 1, 0, 1, 1] [6, 7, 8], .c 16 [1, 0, 0, 1, 0, 0, 1, 0, 1, 1], .b 1, .c 16 [1, 1, 0, 0, 1, 0, 1, 1], .j 0, .b 0, .c 16 [1, 1, 1], .f 16 1 [] (some 0)] .normal ⟨67, [(32, .c (.one (.oe 1 ((↑i : Int).toNat) 2 0))), (31, .c (.one (.v (.int .i64 ((↑i : Int)))))), (30, .c (.one (.os 1))), (29, .c (.one (.ptr 0 0))), (28, .c (.one (.ptr 0 0))), (27, .c (.one (.ptr 0 0))), (0, .c (.one (.ptr 0 0))), (1, .c (.one (.v (.int .i64 (a))))), (2, .c (.one (.v (.int .i64 (o))))), (3, .c (.one (.v (.int .i64 (n))))), (8, .c (.one (.os 5))), (9, .c (.one (.v (.int .i64 (t))))), (10, .c (.one (.v (.int .i64 ((↑i : Int))))))], [some ⟨[.os 1, .v (.int .i64 ((↑bt : Int)))], 42⟩, none, none, none, none, none, none, none, none], ⟨[1, 2, 3, 4, 5, 6, 7, 8], 0, [], 0, ⟨0, ([]), [⟨1, false, .poss 35 29 (qs)⟩, ⟨5, true, .poss 35 29 (vs)⟩]⟩⟩⟩))
      (.leaf [.o 16 [0, 0, 0, 1, 0, 0, 1, 0, 1, 1] [5, 6, 7, 8], .c 16 [1, 0, 0, 1, 0, 0, 1, 0, 1, 1], .b 1, .c 16 [1, 1, 0, 0, 1, 0, 1, 1], .j 0, .b 0, .c 16 [1, 1, 1], .f 16 1 [] (some 0)] .normal ⟨67, [(31, .c (.one (.v (.int .i64 ((↑i : Int)))))), (30, .c (.one (.os 1))), (29, .c (.one (.ptr 0 0))), (28, .c (.one (.ptr 0 0))), (27, .c (.one (.ptr 0 0))), (0, .c (.one (.ptr 0 0))), (1, .c (.one (.v (.int .i64 (a))))), (2, .c (.one (.v (.int .i64 (o))))), (3, .c (.one (.v (.int .i64 (n))))), (8, .c (.one (.os 5))), (9, .c (.one (.v (.int .i64 (t))))), (10, .c (.one (.v (.int .i64 ((↑i : Int))))))], [some ⟨[.os 1, .v (.int .i64 ((↑bt : Int)))], 42⟩, none, none, none, none, none, none, none, none], ⟨[1, 2, 3, 4, 5, 6, 7, 8], 0, [], 0, ⟨0, ([]), [⟨1, false, .poss 35 29 (qs)⟩, ⟨5, true, .poss 35 29 (vs)⟩]⟩⟩⟩))
    (.leaf [] .normal ⟨1, [(0, .tup [])], [some ⟨[.os 5, .v (.int .i64 (t))], 42⟩, none, none, none, none, none, none, none, none], ⟨[1, 2, 3, 4, 5, 6, 7, 8], 0, [], 0, ⟨0, ([]), [⟨1, false, .poss 35 29 (qs)⟩, ⟨5, true, .poss 35 29 (vs)⟩]⟩⟩⟩) := by kernel_rfl


theorem refOlder (J b o c : Nat) (qs : List Pos) (bt : Nat) (q : Pos) (n : Int) (w : World) (h : RJ w J b o c false qs bt) (hle : bt ≤ qs.length) (hl : qs.length ≤ 16) :
    Calls Try.prog 13 #[.pointer (some ⟨J, 0, none⟩), posAgg q, .int .i64 n] w fun e w' => e = .returned (.tuple #[posAgg (olderS qs bt q n).1, .bool (olderS qs bt q n).2.1]) ∧ RPost w J b false (olderS qs bt q n).2.2.1 ((olderS qs bt q n).2.2.2 : Nat) w' := by
  obtain ⟨z, y⟩ := q
  have key : Calls Try.prog 13 (([.c (.one (.ptr 0 0)), .c (.agg [.v (.int .i64 z), .v (.int .i64 y)]), iV .i64 n] : List SV).map (SV.den noRows (refN J b o c qs.length))).toArray w (fun e w' => e = .returned (.tuple #[posAgg (olderS qs bt (z, y) n).1, .bool (olderS qs bt (z, y) n).2.1]) ∧ RPost w J b false (olderS qs bt (z, y) n).2.2.1 ((olderS qs bt (z, y) n).2.2.2 : Nat) w') := by
    refine calls_of_ev (Jt := fun _ _ _ => False) (X := famJ slotY) (gh := refG false qs) (w0 := ⟨w, refB J b⟩) (tbR2_ok (L0 := [J])) (f := 13) (fn := Try.f13) rfl (mem := refM bt) (ref_start h _ (by simp [refB]) (fun hb => by simp [refB, hb])) (by simp) (show 3 ≤ 59 by omega) (fun v hv => by simp at hv; rcases hv with rfl | rfl | rfl <;> exact (fun _ _ _ hh => by cases hh)) (n := 400) ?_
    rw [show Try.f13.ntmps = 59 from rfl, ro_ev1]
    have fin : ∀ (p : Pos) (f : Bool) (qs' : List Pos) (bt' i : Nat) (own : Bool) (gh : Gh) (mem : List (Option Blk)), olderS qs bt (z, y) n = (p, f, qs', bt') → gh.k = 0 → getSl i gh.r.sl = some ⟨i, own, .poss 35 29 qs'⟩ → mem[0]? = some (some ⟨[.os i, .v (.int .i64 (bt' : Nat))], 42⟩) → OutOK Try.prog tbR2 noRows (famJ slotY) (fun _ _ _ => False) (EndQ fun e w' => e = .returned (.tuple #[posAgg (olderS qs bt (z, y) n).1, .bool (olderS qs bt (z, y) n).2.1]) ∧ RPost w J b false (olderS qs bt (z, y) n).2.2.1 ((olderS qs bt (z, y) n).2.2.2 : Nat) w') [J] ⟨w, refB J b⟩ (.leaf [] .normal ⟨1, [(0, .tup [.agg [.v (.int .i64 p.1), .v (.int .i64 p.2)], .one (.v (.bool f))])], mem, gh⟩) := fun p f qs' bt' i own gh mem he hk hq hb =>
      leaf_end fun σ w' hm => by
        rw [he]
        obtain ⟨g1, g2⟩ := ref_done2 hm hk hq hb
        obtain ⟨x, hm⟩ := hm
        exact ⟨rfl, ⟨_, _, _, g1.less, g2⟩, hm.mok.keep⟩
    have hm := pushL_len qs (z, y) hl
    refine OutOK_cond.2 ⟨fun h1 => ?_, fun h1 => OutOK_cond.2 ⟨fun h2 => ?_, fun h2 => ?_⟩⟩
    · have := of_decide_eq_true h1
      exact fin (0, 0) false qs bt 1 _ _ _ (by unfold olderS; rw [if_neg (by omega)]) rfl rfl rfl
    · have := of_decide_eq_true h2
      exact fin (0, 0) false qs bt 1 _ _ _ (by unfold olderS; rw [if_neg (by omega)]) rfl rfl rfl
    · have h1 := of_decide_eq_false h1
      have h2 := of_decide_eq_false h2
      have hin : 1 ≤ n ∧ n ≤ bt := by omega
      have hS : olderS qs bt (z, y) n = if bt < qs.length then (qs.getD (bt - n.toNat) (0, 0), true, qs, bt - n.toNat) else ((pushL qs (z, y)).getD ((pushL qs (z, y)).length - 1 - n.toNat) (0, 0), true, pushL qs (z, y), (pushL qs (z, y)).length - 1 - n.toNat) := by
        unfold olderS
        rw [if_pos hin]
      refine OutOK_cond.2 ⟨fun he => ?_, fun hne => ?_⟩
      · have he : bt = qs.length := by
          have he : ((bt : Int) == (qs.length : Int)) = true := he
          have := eq_of_beq he
          omega
        rw [if_neg (by omega)] at hS
        have hpl := hm
        have e1 : IntKind.i64.wrap (((pushL qs (z, y)).length : Int) - 1) = ((pushL qs (z, y)).length : Int) - 1 := wrap_small (by omega) (by omega)
        have e2 : IntKind.i64.wrap (((pushL qs (z, y)).length : Int) - 1 - n) = ((pushL qs (z, y)).length : Int) - 1 - n := wrap_small (by omega) (by omega)
        have e3 : (if 0 > ((pushL qs (z, y)).length : Int) - 1 - n then 0 else ((pushL qs (z, y)).length : Int) - 1 - n) = (((pushL qs (z, y)).length - 1 - n.toNat : Nat) : Int) := by split <;> omega
        rw [e1, e2, e3]
        simp only [Int.toNat_natCast]
        refine ok_t (decide_eq_true (by omega)) (ok_t (decide_eq_true (by omega)) (ok_t (decide_eq_true (by omega)) ?_))
        exact fin _ true _ _ 7 false _ _ hS rfl rfl rfl
      · have hne : bt ≠ qs.length := by
          have hne : ((bt : Int) == (qs.length : Int)) = false := hne
          intro e
          rw [e] at hne
          simp at hne
        rw [if_pos (by omega)] at hS
        have e2 : IntKind.i64.wrap ((bt : Int) - n) = ((bt - n.toNat : Nat) : Int) := by rw [wrap_small (by omega) (by omega)]; omega
        have e3 : (if 0 > ((bt - n.toNat : Nat) : Int) then 0 else ((bt - n.toNat : Nat) : Int)) = ((bt - n.toNat : Nat) : Int) := by split <;> omega
        rw [e2, e3]
        simp only [Int.toNat_natCast]
        refine ok_t (decide_eq_true (by omega)) (ok_t (decide_eq_true (by omega)) ?_)
        exact fin _ true _ _ 1 false _ _ hS rfl rfl rfl
  exact key

/-- What Adjust leaves. -/
def kpS (a o n : Int) (p : Pos) : Bool := (shiftS p.1 a o n).2
def mvS (a o n : Int) (p : Pos) : Pos := ((shiftS p.1 a o n).1, p.2)
def adjL (qs : List Pos) (a o n : Int) : List Pos := (qs.filter (kpS a o n)).map (mvS a o n)
def adjAt (qs : List Pos) (bt : Nat) (a o n : Int) : Nat := ((qs.take bt).filter (kpS a o n)).length
def adjT (qs : List Pos) (bt : Nat) (a o n : Int) (i : Nat) : Nat := (((qs.take bt).take i).filter (kpS a o n)).length + (bt - i)

abbrev raS (qs vs : List Pos) (bt : Nat) (a o n t : Int) (i : Nat) : St := ⟨67, [(0, .c (.one (.ptr 0 0))), (1, .c (.one (.v (.int .i64 a)))), (2, .c (.one (.v (.int .i64 o)))), (3, .c (.one (.v (.int .i64 n)))), (8, .c (.one (.os 5))), (9, .c (.one (.v (.int .i64 t)))), (10, .c (.one (.v (.int .i64 (i : Nat)))))], [some ⟨[.os 1, .v (.int .i64 (bt : Nat))], 42⟩, none, none, none, none, none, none, none, none], ⟨[1, 2, 3, 4, 5, 6, 7, 8], 0, [], 0, ⟨0, [], [⟨1, false, .poss 35 29 qs⟩, ⟨5, true, .poss 35 29 vs⟩]⟩⟩⟩

theorem refAdjust (J b o c : Nat) (qs : List Pos) (bt : Nat) (a od n : Int) (w : World) (h : RJ w J b o c false qs bt) (hle : bt ≤ qs.length) (hl : qs.length ≤ 16) :
    Calls Try.prog 16 #[.pointer (some ⟨J, 0, none⟩), .int .i64 a, .int .i64 od, .int .i64 n] w fun e w' => e = .returned (.tuple #[]) ∧ RPost w J b false (adjL qs a od n) (adjAt qs bt a od n : Nat) w' := by
  have key : Calls Try.prog 16 (([.c (.one (.ptr 0 0)), iV .i64 a, iV .i64 od, iV .i64 n] : List SV).map (SV.den noRows (refN J b o c qs.length))).toArray w (fun e w' => e = .returned (.tuple #[]) ∧ RPost w J b false (adjL qs a od n) (adjAt qs bt a od n : Nat) w') := by
    refine calls_of_ev (Jt := fun _ _ _ => False) (X := famJ slotY) (gh := refG false qs) (w0 := ⟨w, refB J b⟩) (tbR3_ok (L0 := [J])) (f := 16) (fn := Try.f16) rfl (mem := refM bt) (ref_start h _ (by simp [refB]) (fun hb => by simp [refB, hb])) (by simp) (show 4 ≤ 67 by omega) (fun v hv => by simp at hv; rcases hv with rfl | rfl | rfl | rfl <;> exact (fun _ _ _ hh => by cases hh)) (n := 400) ?_
    rw [show Try.f16.ntmps = 67 from rfl, ra_ev1]
    refine safe_ren [some 0, some 1, some 2, some 3, some 4, none, none, none, none] (raS qs [] bt a od n bt 0) (by kernel_rfl) ⟨rfl, ⟨by kernel_rfl, by kernel_rfl⟩, ⟨by kernel_rfl, by kernel_rfl, by kernel_rfl⟩, ⟨by kernel_rfl, by kernel_rfl, by kernel_rfl⟩, ⟨rfl, rfl, rfl⟩, ⟨rfl, by kernel_rfl⟩, ⟨rfl, by kernel_rfl, by kernel_rfl⟩, by kernel_rfl, by kernel_rfl⟩ (fun q hq => by simp at hq; rcases hq with rfl | rfl <;> exact posT' _) ?_
    have hT0 : ((adjT qs bt a od n 0 : Nat) : Int) = (bt : Int) := by simp [adjT]
    refine at_loop (by kernel_rfl) 0 (by kernel_rfl) (by kernel_rfl) (α := { k : Nat × List Pos × Int // k.1 ≤ qs.length ∧ k.2.1 = ((qs.take k.1).filter (kpS a od n)).map (mvS a od n) ∧ k.2.2 = ((adjT qs bt a od n k.1 : Nat) : Int) }) (fun k => raS qs k.1.2.1 bt a od n k.1.2.2 k.1.1) (fun _ => famJ slotY) (fun _ => tbR3) (fun _ => rfl) (fun k => qs.length - k.1.1) ?_ ⟨(0, [], (bt : Int)), Nat.zero_le _, rfl, hT0.symm⟩
    rintro ⟨⟨k, vs, t⟩, hk, hvs, ht⟩ J2 hJ2
    refine ev_sound tbR3_ok endQ_panic 400 _ _ _ ?_
    show OutOK _ _ _ _ _ _ _ _ (ev tbR3 noRows 400 [.c 16 [0, 0, 1, 0, 1, 1], .j 0, .b 0, .c 16 [1, 1, 1], .f 16 1 [] (some 0)] .normal (raS qs vs bt a od n t k))
    rw [ra_ev2]
    simp only at hk hvs ht
    have hfl : vs.length ≤ k := by rw [hvs, List.length_map]; exact Nat.le_trans (List.length_filter_le _ _) (List.length_take_le _ _)
    refine OutOK_cond.2 ⟨fun hlt => ?_, fun hge => ?_⟩
    · have hlt : k < qs.length := by have := of_decide_eq_true hlt; omega
      have htk := filt_take (kpS a od n) qs (0, 0) k hlt
      have e1 : IntKind.i64.wrap ((k : Int) + 1) = ((k + 1 : Nat) : Int) := by rw [wrap_small (by omega) (by omega)]; omega
      have t1 : decide (0 ≤ (k : Int) ∧ (k : Int) < (qs.length : Int)) = true := decide_eq_true (by omega)
      have t2 : decide (k < qs.length) = true := decide_eq_true hlt
      have hTs : adjT qs bt a od n (k + 1) + (if k < bt ∧ kpS a od n (qs.getD k (0, 0)) = false then 1 else 0) = adjT qs bt a od n k := by
        unfold adjT
        by_cases hkb : k < bt
        · have hl2 : k < (qs.take bt).length := by rw [List.length_take]; omega
          have h3 := congrArg List.length (filt_take (kpS a od n) (qs.take bt) (0, 0) k hl2)
          have h4 : (qs.take bt).getD k (0, 0) = qs.getD k (0, 0) := by simp [List.getD_eq_getElem?_getD, List.getElem?_take, hkb]
          rw [h4, List.length_append] at h3
          rw [h3]
          cases hkk : kpS a od n (qs.getD k (0, 0))
          · simp only [hkb, and_self, if_true, Bool.false_eq_true, if_false, List.length_nil]; omega
          · simp only [hkb, Bool.true_eq_false, and_false, if_false, if_true, List.length_singleton]; omega
        · have h5 : (qs.take bt).take (k + 1) = qs.take bt := List.take_of_length_le (by rw [List.length_take]; omega)
          have h6 : (qs.take bt).take k = qs.take bt := List.take_of_length_le (by rw [List.length_take]; omega)
          rw [h5, h6, if_neg (by omega)]
          omega
      simp only [Int.toNat_natCast, t1, t2, cond_true, e1]
      refine OutOK_cond.2 ⟨fun hno => ?_, fun hyes => ?_⟩
      · have ho : kpS a od n (qs.getD k (0, 0)) = false := by simpa [kpS] using hno
        rw [if_neg (by rw [ho]; simp), List.append_nil] at htk
        refine OutOK_cond.2 ⟨fun hkb => ?_, fun hkb => ?_⟩
        · have hkb : k < bt := by have := of_decide_eq_true hkb; omega
          rw [if_pos ⟨hkb, ho⟩] at hTs
          have e3 : IntKind.i64.wrap (t - 1) = t - 1 := by
            have : adjT qs bt a od n k ≤ bt + bt := by
              unfold adjT
              have := List.length_filter_le (kpS a od n) ((qs.take bt).take k)
              have := List.length_take_le k (qs.take bt)
              have := List.length_take_le bt qs
              have : ((qs.take bt).take k).length ≤ (qs.take bt).length := by rw [List.length_take]; omega
              omega
            exact wrap_small (by omega) (by omega)
          rw [e3]
          exact safe_jj fun σ a' w1 hc => hJ2 ⟨(k + 1, vs, t - 1), hlt, by rw [hvs, htk], by simp only; omega⟩ (by show qs.length - (k + 1) < qs.length - k; omega) _ a' w1 (conc_ren (r := [some 0, some 1, some 2, some 3, some 4, some 5, some 6, some 7, some 8]) hc ⟨rfl, ⟨by kernel_rfl, by kernel_rfl⟩, ⟨by kernel_rfl, by kernel_rfl, by kernel_rfl⟩, ⟨by kernel_rfl, by kernel_rfl, by kernel_rfl⟩, ⟨rfl, rfl, rfl⟩, ⟨rfl, by kernel_rfl⟩, ⟨rfl, by kernel_rfl, by kernel_rfl⟩, by kernel_rfl, by kernel_rfl⟩ (fun q hq => by simp at hq; rcases hq with rfl | rfl <;> exact posT' _))
        · have hkb : ¬ k < bt := by have := of_decide_eq_false hkb; omega
          rw [if_neg (fun hh => hkb hh.1)] at hTs
          exact safe_jj fun σ a' w1 hc => hJ2 ⟨(k + 1, vs, t), hlt, by rw [hvs, htk], by simp only; omega⟩ (by show qs.length - (k + 1) < qs.length - k; omega) _ a' w1 (conc_ren (r := [some 0, some 1, some 2, some 3, some 4, some 5, some 6, some 7, some 8]) hc ⟨rfl, ⟨by kernel_rfl, by kernel_rfl⟩, ⟨by kernel_rfl, by kernel_rfl, by kernel_rfl⟩, ⟨by kernel_rfl, by kernel_rfl, by kernel_rfl⟩, ⟨rfl, rfl, rfl⟩, ⟨rfl, by kernel_rfl⟩, ⟨rfl, by kernel_rfl, by kernel_rfl⟩, by kernel_rfl, by kernel_rfl⟩ (fun q hq => by simp at hq; rcases hq with rfl | rfl <;> exact posT' _))
      · have ho : kpS a od n (qs.getD k (0, 0)) = true := by simpa [kpS] using hyes
        rw [if_pos ho] at htk
        rw [if_neg (fun hh => by rw [ho] at hh; cases hh.2)] at hTs
        refine ok_t (decide_eq_true (by simp only [List.length_append, List.length_singleton]; omega)) ?_
        exact safe_jj fun σ a' w1 hc => hJ2 ⟨(k + 1, vs ++ [((shiftS (qs.getD k (0, 0)).fst a od n).fst, (qs.getD k (0, 0)).snd)], t), hlt, by simp only; rw [htk, List.map_append, ← hvs]; rfl, by simp only; omega⟩ (by show qs.length - (k + 1) < qs.length - k; omega) _ a' w1 (conc_ren (r := [some 0, some 1, some 2, some 3, some 4, some 11, some 12, some 13, some 14]) hc ⟨rfl, ⟨by kernel_rfl, by kernel_rfl⟩, ⟨by kernel_rfl, by kernel_rfl, by kernel_rfl⟩, ⟨by kernel_rfl, by kernel_rfl, by kernel_rfl⟩, ⟨rfl, rfl, rfl⟩, ⟨rfl, by kernel_rfl⟩, ⟨rfl, by kernel_rfl, by kernel_rfl⟩, by kernel_rfl, by kernel_rfl⟩ (fun q hq => by simp at hq; rcases hq with rfl | rfl <;> exact posT' _))
    · have hke : k = qs.length := by have := of_decide_eq_false hge; omega
      have hv : vs = adjL qs a od n := by rw [hvs, List.take_of_length_le (by omega)]; rfl
      have htt : t = ((adjAt qs bt a od n : Nat) : Int) := by
        rw [ht]
        unfold adjT adjAt
        rw [List.take_of_length_le (l := qs.take bt) (by rw [List.length_take]; omega)]
        omega
      rw [hv, htt]
      refine leaf_end fun σ w' hm => ?_
      obtain ⟨g1, g2⟩ := ref_done2 hm rfl (i := 5) rfl rfl
      obtain ⟨x, hm⟩ := hm
      exact ⟨rfl, ⟨_, _, _, g1.less, g2⟩, hm.mok.keep⟩
  exact key
end Go.Proofs.Ytglbhabpenkpdaa.Sx
