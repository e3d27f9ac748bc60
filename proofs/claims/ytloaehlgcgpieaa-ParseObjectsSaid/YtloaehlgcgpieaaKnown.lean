/-
  The laws' example holds. Conditions: stated at each theorem.
-/
import Derived.Test.YtloaehlgcgpieaaFed
set_option linter.all false
namespace Go.Proofs.Ytloaehlgcgpieaa.Sx
open Go.RowKit Go.Proofs.Ytloaehlgcgpieaa
set_option maxHeartbeats 4000000
set_option maxRecDepth 100000
theorem kn_ev1 (_ : Unit) : ev (tbL feedS) noRows 100 [.c 11 [], .f 11 1 [] (some 0)] .normal ⟨76, [], [], gh0⟩ =
  .leaf [.c 11 [0, 1, 0, 1, 1, 1, 1], .b 0, .c 11 [1, 1, 1, 1, 1], .f 11 1 [] (some 0)] .normal ⟨76, [(3, .c (.one (.v (.int .i64 0)))), (2, .c (.one (.os 1))), (1, .c (.one (.ptr 0 0))), (0, .c (.one (.v (.bool false))))], [some ⟨[.v (.int .i64 0), .v (.bool false), .v (.bool false), .v (.bool false), .v (.int .u8 0), .v (.int .i64 0), .v (.string ((⟨#[]⟩ : ByteArray))), .v (.string ((⟨#[]⟩ : ByteArray))), .v (.int .u8 0), .v (.string ((⟨#[]⟩ : ByteArray))), .v (.int .i64 0), .v (.bool false), .v (.int .i64 0), .v (.bool false)], 54⟩, none, none, none, none], ⟨[1, 2, 3, 4], [⟨1, false, .ints 22 5 .u8 [50, 100, 51, 119]⟩]⟩⟩ := by kernel_rfl


theorem kn_e0 (_ : Unit) : ev (tbL feedS) noRows 100 [.c 11 [0, 0, 1, 0, 1, 1, 1, 1], .j 0, .b 0, .c 11 [1, 1, 1, 1, 1], .f 11 1 [] (some 0)] .normal (knS ps0 0) =
  cond (preF   { st := 0, op := false, vi := false, fi := false, reg := 0, cnt := 0, opr := (⟨#[]⟩ : ByteArray), name := (⟨#[]⟩ : ByteArray),     arg := 0, text := (⟨#[]⟩ : ByteArray), an := 0, aa := false, bn := 0, ba := false }   ([50, 100, 51, 119].getD (↑0 : Int).toNat 0))
    (.leaf [.j 0, .b 0, .c 11 [1, 1, 1, 1, 1], .f 11 1 [] (some 0)] .normal ⟨76, [(3, .c (.one (.v (.int .i64 1)))), (18, .c (.one (.v (.int .i64 1)))), (17, .c (.one (.v (.int .i64 0)))), (4, .c (.one (.v (.int .i64 0)))), (5, .c (.one (.ptr 5 0))), (0, .c (.one (.v (.bool false)))), (1, .c (.one (.ptr 0 0))), (2, .c (.one (.os 1)))], [some ⟨[.v (.int .i64 0), .v (.bool true), .v (.bool false), .v (.bool true), .v (.int .u8 0), .v (.int .i64 0), .v (.string ((⟨#[]⟩ : ByteArray))), .v (.string ((⟨#[]⟩ : ByteArray))), .v (.int .u8 0), .v (.string ((⟨#[]⟩ : ByteArray))), .v (.int .i64 2), .v (.bool true), .v (.int .i64 0), .v (.bool false)], 54⟩, none, none, none, none, some ⟨[.v (.int .u8 0), .v (.int .i64 0), .v (.string ((⟨#[]⟩ : ByteArray))), .v (.string ((⟨#[]⟩ : ByteArray))), .v (.int .u8 0), .v (.string ((⟨#[]⟩ : ByteArray)))], 33⟩], ⟨[1, 2, 3, 4], [⟨1, false, .ints 22 5 .u8 [50, 100, 51, 119]⟩]⟩⟩)
    (.leaf [.o 11 [0, 0, 0, 1, 0, 0, 1, 0, 1, 1, 1, 1] [5, 6, 7, 8, 9, 10, 11], .c 11 [1, 0, 0, 1, 0, 0, 1, 0, 1, 1, 1, 1], .b 1, .c 11 [1, 1, 0, 0, 1, 0, 1, 1, 1, 1], .j 0, .b 0, .c 11 [1, 1, 1, 1, 1], .f 11 1 [] (some 0)] .normal ⟨76, [(24, .c (.one (.v (.int .u8 50)))), (23, .c (.one (.oe 1 0 1 0))), (22, .c (.one (.v (.int .i64 0)))), (21, .c (.one (.os 1))), (20, .c (.one (.ptr 0 0))), (0, .c (.one (.v (.bool false)))), (1, .c (.one (.ptr 0 0))), (2, .c (.one (.os 1))), (3, .c (.one (.v (.int .i64 0))))], [some ⟨[.v (.int .i64 0), .v (.bool false), .v (.bool false), .v (.bool false), .v (.int .u8 0), .v (.int .i64 0), .v (.string ((⟨#[]⟩ : ByteArray))), .v (.string ((⟨#[]⟩ : ByteArray))), .v (.int .u8 0), .v (.string ((⟨#[]⟩ : ByteArray))), .v (.int .i64 0), .v (.bool false), .v (.int .i64 0), .v (.bool false)], 54⟩, none, none, none, none], ⟨[1, 2, 3, 4], [⟨1, false, .ints 22 5 .u8 [50, 100, 51, 119]⟩]⟩⟩) := by kernel_rfl


theorem kn_e1 (_ : Unit) : ev (tbL feedS) noRows 100 [.c 11 [0, 0, 1, 0, 1, 1, 1, 1], .j 0, .b 0, .c 11 [1, 1, 1, 1, 1], .f 11 1 [] (some 0)] .normal (knS kS1 1) =
  cond (preF   { st := 0, op := true, vi := false, fi := true, reg := 0, cnt := 0, opr := (⟨#[]⟩ : ByteArray), name := (⟨#[]⟩ : ByteArray),     arg := 0, text := (⟨#[]⟩ : ByteArray), an := 2, aa := true, bn := 0, ba := false }   ([50, 100, 51, 119].getD (↑1 : Int).toNat 0))
    (.leaf [.j 0, .b 0, .c 11 [1, 1, 1, 1, 1], .f 11 1 [] (some 0)] .normal ⟨76, [(3, .c (.one (.v (.int .i64 2)))), (18, .c (.one (.v (.int .i64 2)))), (17, .c (.one (.v (.int .i64 1)))), (4, .c (.one (.v (.int .i64 0)))), (5, .c (.one (.ptr 5 0))), (0, .c (.one (.v (.bool false)))), (1, .c (.one (.ptr 0 0))), (2, .c (.one (.os 1)))], [some ⟨[.v (.int .i64 3), .v (.bool true), .v (.bool false), .v (.bool false), .v (.int .u8 0), .v (.int .i64 0), .v (.string (strOfNums [[50, 100, 51, 119].getD (↑1 : Int).toNat 0])), .v (.string ((⟨#[]⟩ : ByteArray))), .v (.int .u8 0), .v (.string ((⟨#[]⟩ : ByteArray))), .v (.int .i64 2), .v (.bool true), .v (.int .i64 0), .v (.bool false)], 54⟩, none, none, none, none, some ⟨[.v (.int .u8 0), .v (.int .i64 0), .v (.string ((⟨#[]⟩ : ByteArray))), .v (.string ((⟨#[]⟩ : ByteArray))), .v (.int .u8 0), .v (.string ((⟨#[]⟩ : ByteArray)))], 33⟩], ⟨[1, 2, 3, 4], [⟨1, false, .ints 22 5 .u8 [50, 100, 51, 119]⟩]⟩⟩)
    (.leaf [.o 11 [0, 0, 0, 1, 0, 0, 1, 0, 1, 1, 1, 1] [5, 6, 7, 8, 9, 10, 11], .c 11 [1, 0, 0, 1, 0, 0, 1, 0, 1, 1, 1, 1], .b 1, .c 11 [1, 1, 0, 0, 1, 0, 1, 1, 1, 1], .j 0, .b 0, .c 11 [1, 1, 1, 1, 1], .f 11 1 [] (some 0)] .normal ⟨76, [(24, .c (.one (.v (.int .u8 100)))), (23, .c (.one (.oe 1 1 1 0))), (22, .c (.one (.v (.int .i64 1)))), (21, .c (.one (.os 1))), (20, .c (.one (.ptr 0 0))), (0, .c (.one (.v (.bool false)))), (1, .c (.one (.ptr 0 0))), (2, .c (.one (.os 1))), (3, .c (.one (.v (.int .i64 1))))], [some ⟨[.v (.int .i64 0), .v (.bool true), .v (.bool false), .v (.bool true), .v (.int .u8 0), .v (.int .i64 0), .v (.string ((⟨#[]⟩ : ByteArray))), .v (.string ((⟨#[]⟩ : ByteArray))), .v (.int .u8 0), .v (.string ((⟨#[]⟩ : ByteArray))), .v (.int .i64 2), .v (.bool true), .v (.int .i64 0), .v (.bool false)], 54⟩, none, none, none, none], ⟨[1, 2, 3, 4], [⟨1, false, .ints 22 5 .u8 [50, 100, 51, 119]⟩]⟩⟩) := by kernel_rfl


theorem kn_e2 (_ : Unit) : ev (tbL feedS) noRows 100 [.c 11 [0, 0, 1, 0, 1, 1, 1, 1], .j 0, .b 0, .c 11 [1, 1, 1, 1, 1], .f 11 1 [] (some 0)] .normal (knS kS2 2) =
  cond (preF   { st := 3, op := true, vi := false, fi := false, reg := 0, cnt := 0, opr := (⟨#[100]⟩ : ByteArray),     name := (⟨#[]⟩ : ByteArray), arg := 0, text := (⟨#[]⟩ : ByteArray), an := 2, aa := true, bn := 0, ba := false }   ([50, 100, 51, 119].getD (↑2 : Int).toNat 0))
    (.leaf [.j 0, .b 0, .c 11 [1, 1, 1, 1, 1], .f 11 1 [] (some 0)] .normal ⟨76, [(3, .c (.one (.v (.int .i64 3)))), (18, .c (.one (.v (.int .i64 3)))), (17, .c (.one (.v (.int .i64 2)))), (4, .c (.one (.v (.int .i64 0)))), (5, .c (.one (.ptr 5 0))), (0, .c (.one (.v (.bool false)))), (1, .c (.one (.ptr 0 0))), (2, .c (.one (.os 1)))], [some ⟨[.v (.int .i64 3), .v (.bool true), .v (.bool false), .v (.bool false), .v (.int .u8 0), .v (.int .i64 0), .v (.string ((⟨#[100]⟩ : ByteArray))), .v (.string ((⟨#[]⟩ : ByteArray))), .v (.int .u8 0), .v (.string ((⟨#[]⟩ : ByteArray))), .v (.int .i64 2), .v (.bool true), .v (.int .i64 3), .v (.bool true)], 54⟩, none, none, none, none, some ⟨[.v (.int .u8 0), .v (.int .i64 0), .v (.string ((⟨#[]⟩ : ByteArray))), .v (.string ((⟨#[]⟩ : ByteArray))), .v (.int .u8 0), .v (.string ((⟨#[]⟩ : ByteArray)))], 33⟩], ⟨[1, 2, 3, 4], [⟨1, false, .ints 22 5 .u8 [50, 100, 51, 119]⟩]⟩⟩)
    (.leaf [.o 11 [0, 0, 0, 1, 0, 0, 1, 0, 1, 1, 1, 1] [5, 6, 7, 8, 9, 10, 11], .c 11 [1, 0, 0, 1, 0, 0, 1, 0, 1, 1, 1, 1], .b 1, .c 11 [1, 1, 0, 0, 1, 0, 1, 1, 1, 1], .j 0, .b 0, .c 11 [1, 1, 1, 1, 1], .f 11 1 [] (some 0)] .normal ⟨76, [(24, .c (.one (.v (.int .u8 51)))), (23, .c (.one (.oe 1 2 1 0))), (22, .c (.one (.v (.int .i64 2)))), (21, .c (.one (.os 1))), (20, .c (.one (.ptr 0 0))), (0, .c (.one (.v (.bool false)))), (1, .c (.one (.ptr 0 0))), (2, .c (.one (.os 1))), (3, .c (.one (.v (.int .i64 2))))], [some ⟨[.v (.int .i64 3), .v (.bool true), .v (.bool false), .v (.bool false), .v (.int .u8 0), .v (.int .i64 0), .v (.string ((⟨#[100]⟩ : ByteArray))), .v (.string ((⟨#[]⟩ : ByteArray))), .v (.int .u8 0), .v (.string ((⟨#[]⟩ : ByteArray))), .v (.int .i64 2), .v (.bool true), .v (.int .i64 0), .v (.bool false)], 54⟩, none, none, none, none], ⟨[1, 2, 3, 4], [⟨1, false, .ints 22 5 .u8 [50, 100, 51, 119]⟩]⟩⟩) := by kernel_rfl


theorem kn_e3 (_ : Unit) : ev (tbL feedS) noRows 100 [.c 11 [0, 0, 1, 0, 1, 1, 1, 1], .j 0, .b 0, .c 11 [1, 1, 1, 1, 1], .f 11 1 [] (some 0)] .normal (knS kS3 3) =
  cond (preF   { st := 3, op := true, vi := false, fi := false, reg := 0, cnt := 0, opr := (⟨#[100]⟩ : ByteArray),     name := (⟨#[]⟩ : ByteArray), arg := 0, text := (⟨#[]⟩ : ByteArray), an := 2, aa := true, bn := 3, ba := true }   ([50, 100, 51, 119].getD (Int.toNat 3) 0))
    (cond (preF   { st := 0, op := false, vi := false, fi := false, reg := 0, cnt := 0, opr := (⟨#[]⟩ : ByteArray), name := (⟨#[]⟩ : ByteArray),     arg := 0, text := (⟨#[]⟩ : ByteArray), an := 0, aa := false, bn := 0, ba := false }   122)
      (.leaf [] .normal ⟨1, [(0, .c (.one (.v (.bool true))))], [some ⟨[.v (.int .i64 0), .v (.bool false), .v (.bool false), .v (.bool false), .v (.int .u8 0), .v (.int .i64 0), .v (.string ((⟨#[]⟩ : ByteArray))), .v (.string ((⟨#[]⟩ : ByteArray))), .v (.int .u8 0), .v (.string ((⟨#[]⟩ : ByteArray))), .v (.int .i64 0), .v (.bool false), .v (.int .i64 0), .v (.bool false)], 54⟩, none, none, none, none, some ⟨[.v (.int .u8 0), .v (.int .i64 6), .v (.string ((⟨#[100]⟩ : ByteArray))), .v (.string (strOfNums [[50, 100, 51, 119].getD (Int.toNat 3) 0])), .v (.int .u8 0), .v (.string ((⟨#[]⟩ : ByteArray)))], 33⟩, some ⟨[.v (.int .u8 0), .v (.int .i64 0), .v (.string ((⟨#[]⟩ : ByteArray))), .v (.string ((⟨#[]⟩ : ByteArray))), .v (.int .u8 0), .v (.string ((⟨#[]⟩ : ByteArray)))], 33⟩], ⟨[1, 2, 3, 4], [⟨1, false, .ints 22 5 .u8 [50, 100, 51, 119]⟩]⟩⟩)
      (.leaf [.o 11 [0, 1, 1, 1, 1, 1, 1] [1, 2, 3, 4, 5, 6, 7], .c 11 [1, 1, 1, 1, 1, 1, 1], .f 11 1 [] (some 0)] .normal ⟨76, [(49, .c (.one (.ptr 0 0))), (6, .c (.one (.v (.int .i64 1)))), (7, .c (.one (.ptr 5 0))), (0, .c (.one (.v (.bool false)))), (1, .c (.one (.ptr 0 0))), (2, .c (.one (.os 1))), (3, .c (.one (.v (.int .i64 3))))], [some ⟨[.v (.int .i64 0), .v (.bool false), .v (.bool false), .v (.bool false), .v (.int .u8 0), .v (.int .i64 0), .v (.string ((⟨#[]⟩ : ByteArray))), .v (.string ((⟨#[]⟩ : ByteArray))), .v (.int .u8 0), .v (.string ((⟨#[]⟩ : ByteArray))), .v (.int .i64 0), .v (.bool false), .v (.int .i64 0), .v (.bool false)], 54⟩, none, none, none, none, some ⟨[.v (.int .u8 0), .v (.int .i64 6), .v (.string ((⟨#[100]⟩ : ByteArray))), .v (.string (strOfNums [[50, 100, 51, 119].getD (Int.toNat 3) 0])), .v (.int .u8 0), .v (.string ((⟨#[]⟩ : ByteArray)))], 33⟩], ⟨[1, 2, 3, 4], [⟨1, false, .ints 22 5 .u8 [50, 100, 51, 119]⟩]⟩⟩))
    (.leaf [.o 11 [0, 1, 1, 1, 1, 1] [4, 5, 6, 7, 8, 9, 10], .c 11 [1, 1, 1, 1, 1, 1], .f 11 1 [] (some 0)] .normal ⟨76, [(44, .c (.one (.v (.int .u8 119)))), (43, .c (.one (.oe 1 3 1 0))), (42, .c (.one (.os 1))), (41, .c (.one (.ptr 0 0))), (0, .c (.one (.v (.bool false)))), (1, .c (.one (.ptr 0 0))), (2, .c (.one (.os 1))), (3, .c (.one (.v (.int .i64 3))))], [some ⟨[.v (.int .i64 3), .v (.bool true), .v (.bool false), .v (.bool false), .v (.int .u8 0), .v (.int .i64 0), .v (.string ((⟨#[100]⟩ : ByteArray))), .v (.string ((⟨#[]⟩ : ByteArray))), .v (.int .u8 0), .v (.string ((⟨#[]⟩ : ByteArray))), .v (.int .i64 2), .v (.bool true), .v (.int .i64 3), .v (.bool true)], 54⟩, none, none, none, none], ⟨[1, 2, 3, 4], [⟨1, false, .ints 22 5 .u8 [50, 100, 51, 119]⟩]⟩⟩) := by kernel_rfl


def kS : Nat → PS
  | 0 => ps0
  | 1 => kS1
  | 2 => kS2
  | _ => kS3

theorem known11 (w : World) : Calls Try.prog 11 #[] w fun e w' => e = .returned (.bool true) ∧ Keep [] w w' := by
  have key := calls_of_ev (X := famB) (Jt := fun _ _ _ => False) (gh := gh0) (σ := argσ []) (w0 := ⟨w, []⟩) (tbL_ok (L0 := [])) (f := 11) (fn := Try.f11) rfl (vs := [])
    (R := fun e w' => e = .returned (.bool true) ∧ Keep [] w w') (mem := [])
    (entry (fun q hq => by cases hq) (fun q hq => by cases hq) (fun n hn => by cases hn) (fun b hb => by cases hb)) (by simp) (Nat.zero_le _) (fun v hv => by cases hv) (n := 100) (by
    rw [show Try.f11.ntmps = 76 from by kernel_rfl]
    have e0 := kn_ev1 ()
    simp only [argTmps] at e0 ⊢
    rw [e0]
    refine safe_ren [some 0, some 1, some 2, some 3, some 4] (knS ps0 0) (by kernel_rfl) ⟨rfl, ⟨by kernel_rfl, by kernel_rfl⟩, ⟨by kernel_rfl, by kernel_rfl, by kernel_rfl⟩, ⟨by kernel_rfl, by kernel_rfl, by kernel_rfl⟩, ⟨by kernel_rfl, by kernel_rfl⟩, by kernel_rfl, by kernel_rfl⟩ (fun q hq => by simp at hq; subst hq; exact bytesT _) ?_
    refine at_loop (by kernel_rfl) 0 (by kernel_rfl) (by kernel_rfl) (α := { k : Nat // k ≤ 3 }) (fun k => knS (kS k.1) k.1) (fun _ => famB) (fun _ => tbL feedS) (fun _ => rfl) (fun k => 3 - k.1) ?_ ⟨0, Nat.zero_le _⟩
    rintro ⟨i, hi⟩ J hJ
    refine ev_sound tbL_ok endQ_panic 100 _ _ _ ?_
    show OutOK _ _ _ _ _ _ _ _ (ev (tbL feedS) noRows 100 [.c 11 [0, 0, 1, 0, 1, 1, 1, 1], .j 0, .b 0, .c 11 [1, 1, 1, 1, 1], .f 11 1 [] (some 0)] .normal (knS (kS i) i))
    have h0 : okB ps0 := okB_0
    have h1 : okB kS1 := ⟨by decide, by decide, by decide, by decide, by decide⟩
    have h2 : okB kS2 := ⟨by decide, by decide, by decide, by decide, by decide⟩
    have h3 : okB kS3 := ⟨by decide, by decide, by decide, by decide, by decide⟩
    have next : ∀ st k, (h : k + 1 ≤ 3) → k = i → StRen [] [some 0, some 1, some 2, some 3, some 4] st (knS (kS (k + 1)) (k + 1)) →
        Safe Try.prog (tbL feedS) noRows famB (updJ (fun _ _ _ => False) 0 J) (EndQ fun e w' => e = .returned (.bool true) ∧ Keep [] w w') [] ⟨w, []⟩ [.j 0, .b 0, .c 11 [1, 1, 1, 1, 1], .f 11 1 [] (some 0)] .normal st := fun st k h hk hst =>
      safe_jj fun σ a w1 hc => hJ ⟨k + 1, h⟩ (by show 3 - (k + 1) < 3 - i; omega) _ a w1 (conc_ren hc hst (fun q hq => by simp at hq; subst hq; exact bytesT _))
    have hc : i = 0 ∨ i = 1 ∨ i = 2 ∨ i = 3 := by omega
    rcases hc with rfl | rfl | rfl | rfl
    · rw [show kS 0 = ps0 from rfl, kn_e0 ()]
      refine ok_t (preF_of (And.intro h0 (by decide))) (next _ 0 (by omega) rfl ⟨rfl, ⟨by kernel_rfl, by kernel_rfl⟩, ⟨by kernel_rfl, by kernel_rfl, by kernel_rfl⟩, ⟨by kernel_rfl, by kernel_rfl, by kernel_rfl⟩, ⟨by kernel_rfl, by kernel_rfl⟩, by kernel_rfl, by kernel_rfl⟩)
    · rw [show kS 1 = kS1 from rfl, kn_e1 ()]
      refine ok_t (preF_of (And.intro h1 (by decide))) (next _ 1 (by omega) rfl ⟨rfl, ⟨by kernel_rfl, by kernel_rfl⟩, ⟨by kernel_rfl, by kernel_rfl, by kernel_rfl⟩, ⟨by kernel_rfl, by kernel_rfl, by kernel_rfl⟩, ⟨by kernel_rfl, by kernel_rfl⟩, by kernel_rfl, by kernel_rfl⟩)
    · rw [show kS 2 = kS2 from rfl, kn_e2 ()]
      refine ok_t (preF_of (And.intro h2 (by decide))) (next _ 2 (by omega) rfl ⟨rfl, ⟨by kernel_rfl, by kernel_rfl⟩, ⟨by kernel_rfl, by kernel_rfl, by kernel_rfl⟩, ⟨by kernel_rfl, by kernel_rfl, by kernel_rfl⟩, ⟨by kernel_rfl, by kernel_rfl⟩, by kernel_rfl, by kernel_rfl⟩)
    · rw [show kS 3 = kS3 from rfl, kn_e3 ()]
      refine ok_t (preF_of (And.intro h3 (by decide))) (ok_t (preF_of (And.intro h0 (by decide))) ?_)
      exact leaf_end fun σ w' hm => by
        obtain ⟨x, hm⟩ := hm
        exact ⟨rfl, hm.mok.keep⟩)
  exact key

def knownW : List SV → List (Option Blk) → Option SV := fun args _ => match args with
  | [] => some (.c (.one (.v (.bool true))))
  | _ => none
theorem c11 {X : Fam} {L0 : List Nat} : CallOK Try.prog X L0 11 (pureW knownW) := by
  refine pureW_ok ⟨_, fn11_ok.1, fn11_ok.2.1, fn11_ok.2.2, fun args mem r hr => ?_⟩
  unfold knownW at hr
  split at hr
  · injection hr with hr
    subst hr
    exact ⟨fun _ _ _ hh => (by cases hh), fun E σ w gh ns x _ _ _ _ _ => known11 w⟩
  · cases hr
end Go.Proofs.Ytloaehlgcgpieaa.Sx
