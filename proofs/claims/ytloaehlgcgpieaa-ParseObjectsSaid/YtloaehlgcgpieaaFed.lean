/-
  fed: keys fed to a new parser. Conditions: stated at each theorem.
-/
import Derived.Test.YtloaehlgcgpieaaLawT
import Derived.Test.YtloaehlgcgpieaaEntry
set_option linter.all false
namespace Go.Proofs.Ytloaehlgcgpieaa.Sx
open Go.RowKit Go.Proofs.Ytloaehlgcgpieaa
set_option maxHeartbeats 4000000
set_option maxRecDepth 100000

section
variable {P : Program} {tb : Tab} {E : Nat → Row} {X : Fam} {Jt : Nat → Act → World → Prop} {Q : Exit → Act → World → Prop} {L0 : List Nat} {w0 : WM}
theorem safe_jj {k : Nat} {K : List It} {st : St} (h : ∀ σ a w, Conc E X L0 w0 σ st a w → Jt k a w) : Safe P tb E X Jt Q L0 w0 (.j k :: K) .normal st := fun σ a w hc => h σ a w hc
theorem ok_t {b : Bool} {x y : Out} (hb : b = true) (h : OutOK P tb E X Jt Q L0 w0 x) : OutOK P tb E X Jt Q L0 w0 (cond b x y) := by subst hb; exact h
theorem ok_f {b : Bool} {x y : Out} (hb : b = false) (h : OutOK P tb E X Jt Q L0 w0 y) : OutOK P tb E X Jt Q L0 w0 (cond b x y) := by subst hb; exact h
theorem ok_b {x y : Out} (hx : OutOK P tb E X Jt Q L0 w0 x) (hy : OutOK P tb E X Jt Q L0 w0 y) : OutOK P tb E X Jt Q L0 w0 (.both x y) := ⟨hx, hy⟩
end

theorem wrap_s {x : Int} (h1 : -9223372036854775808 ≤ x) (h2 : x ≤ 9223372036854775807) : IntKind.i64.wrap x = x := wrap_sm h1 h2
theorem den_v (E : Nat → Row) (σ : Nat → Nat) (x : Value) : (A.v x).den E σ = x := rfl

def fedL (v : Bool) : PS → Int × Cmd → List Int → Int × Cmd
  | _, r, [] => r
  | s, _, c :: cs => if (feedS s c v).1.1 ≠ 0 ∧ cs ≠ [] then (-1, cmd0) else fedL v (feedS s c v).2 (feedS s c v).1 cs
def fedS (xs : List Int) (v : Bool) : Int × Cmd := fedL v ps0 (0, cmd0) xs
def byteOK (x : Int) : Prop := 0 ≤ x ∧ x ≤ 255
def bytesOK (xs : List Int) : Bool := xs.all fun x => decide (0 ≤ x ∧ x ≤ 255)
theorem bytesOK_at {xs : List Int} (h : bytesOK xs = true) {i : Nat} (hi : i < xs.length) : 0 ≤ xs.getD i 0 ∧ xs.getD i 0 ≤ 255 := by
  have := List.all_eq_true.1 h _ (List.getElem_mem hi)
  rw [List.getD_eq_getElem?_getD, List.getElem?_eq_getElem hi]
  exact of_decide_eq_true this

/-- fed, as a word; what is fed stays folded. -/
abbrev FedFn := List Int → Bool → Int × Cmd
def fedF (ψ : FedFn) : SlF := fun sv args => match sv, args with
  | .ints 22 5 .u8 xs, [.c (.one (.v (.bool v)))] => some (bytesOK xs, .tup [.one (.v (.int .i64 (ψ xs v).1)), (ψ xs v).2.cv])
  | _, _ => none

theorem fe_ev1 (φ : FeedFn) (xs : List Int) (v : Bool) : ev (tbL φ) noRows 100 [.c 24 [], .f 24 1 [] (some 0)] .normal ⟨40, argTmps 0 [.c (.one (.os 0)), .c (.one (.v (.bool v)))], [none, none, none, none], ⟨[0, 1, 2, 3], [⟨0, false, bytesV xs⟩]⟩⟩ =
  .leaf [.c 24 [0, 1, 0, 1, 1, 1], .b 0, .c 24 [1, 1, 1, 1], .f 24 1 [] (some 0)] .normal ⟨40, [(9, .c (.one (.v (.int .i64 0)))), (7, .c (.one (.v (.int .i64 0)))), (8, .c (.one (.ptr 6 0))), (6, .c (.one (.ptr 5 0))), (5, .c (.one (.ptr 4 0))), (4, .c (.one (.v (.int .i64 0)))), (0, .c (.one (.os 0))), (1, .c (.one (.v (.bool (v)))))], [none, none, none, none, some ⟨[.v (.int .u8 0), .v (.int .i64 0), .v (.string ((⟨#[]⟩ : ByteArray))), .v (.string ((⟨#[]⟩ : ByteArray))), .v (.int .u8 0), .v (.string ((⟨#[]⟩ : ByteArray)))], 33⟩, some ⟨[.v (.int .i64 0), .v (.bool false), .v (.bool false), .v (.bool false), .v (.int .u8 0), .v (.int .i64 0), .v (.string ((⟨#[]⟩ : ByteArray))), .v (.string ((⟨#[]⟩ : ByteArray))), .v (.int .u8 0), .v (.string ((⟨#[]⟩ : ByteArray))), .v (.int .i64 0), .v (.bool false), .v (.int .i64 0), .v (.bool false)], 54⟩, some ⟨[.v (.int .u8 0), .v (.int .i64 0), .v (.string ((⟨#[]⟩ : ByteArray))), .v (.string ((⟨#[]⟩ : ByteArray))), .v (.int .u8 0), .v (.string ((⟨#[]⟩ : ByteArray)))], 33⟩], ⟨[0, 1, 2, 3], ([{ nm := 0, own := false, v := bytesV xs }])⟩⟩ := by kernel_rfl


theorem fe_ev2 (φ : FeedFn) (xs : List Int) (v : Bool) (s : PS) (r : Int × Cmd) (i : Nat) : ev (tbL φ) noRows 100 [.c 24 [0, 0, 1, 0, 1, 1, 1], .j 0, .b 0, .c 24 [1, 1, 1, 1], .f 24 1 [] (some 0)] .normal (feS xs v s r i) =
  cond (decide ((↑i : Int) < (↑xs.length : Int)))
    (cond (decide (0 ≤ (↑i : Int) ∧ (↑i : Int) < (↑xs.length : Int)))
      (cond (decide ((↑i : Int).toNat < xs.length))
        (cond (preF   s   (xs.getD (↑i : Int).toNat 0))
          (cond ((φ         s         (xs.getD (↑i : Int).toNat 0) v).fst.fst !=   0)
            (cond (decide ((↑i : Int) < IntKind.i64.wrap ((↑xs.length : Int) - 1)))
              (.leaf [] .normal ⟨1, [(0, .tup [.one (.v (.int .i64 (-1))), .agg [.v (.int .u8 0), .v (.int .i64 0), .v (.string ((⟨#[]⟩ : ByteArray))), .v (.string ((⟨#[]⟩ : ByteArray))), .v (.int .u8 0), .v (.string ((⟨#[]⟩ : ByteArray)))]])], [none, none, none, none, some ⟨[.v (.int .u8 0), .v (.int .i64 0), .v (.string ((⟨#[]⟩ : ByteArray))), .v (.string ((⟨#[]⟩ : ByteArray))), .v (.int .u8 0), .v (.string ((⟨#[]⟩ : ByteArray)))], 33⟩, some ⟨[.v (.int .i64 ((φ       s       (xs.getD (↑i : Int).toNat 0) v).snd.st)), .v (.bool ((φ       s       (xs.getD (↑i : Int).toNat 0) v).snd.op)), .v (.bool ((φ       s       (xs.getD (↑i : Int).toNat 0) v).snd.vi)), .v (.bool ((φ       s       (xs.getD (↑i : Int).toNat 0) v).snd.fi)), .v (.int .u8 ((φ       s       (xs.getD (↑i : Int).toNat 0) v).snd.reg)), .v (.int .i64 ((φ       s       (xs.getD (↑i : Int).toNat 0) v).snd.cnt)), .v (.string ((φ       s       (xs.getD (↑i : Int).toNat 0) v).snd.opr)), .v (.string ((φ       s       (xs.getD (↑i : Int).toNat 0) v).snd.name)), .v (.int .u8 ((φ       s       (xs.getD (↑i : Int).toNat 0) v).snd.arg)), .v (.string ((φ       s       (xs.getD (↑i : Int).toNat 0) v).snd.text)), .v (.int .i64 ((φ       s       (xs.getD (↑i : Int).toNat 0) v).snd.an)), .v (.bool ((φ       s       (xs.getD (↑i : Int).toNat 0) v).snd.aa)), .v (.int .i64 ((φ       s       (xs.getD (↑i : Int).toNat 0) v).snd.bn)), .v (.bool ((φ       s       (xs.getD (↑i : Int).toNat 0) v).snd.ba))], 54⟩, some ⟨[.v (.int .u8 ((φ         s         (xs.getD (↑i : Int).toNat 0) v).fst.snd.reg)), .v (.int .i64 ((φ         s         (xs.getD (↑i : Int).toNat 0) v).fst.snd.count)), .v (.string ((φ         s         (xs.getD (↑i : Int).toNat 0) v).fst.snd.opr)), .v (.string ((φ         s         (xs.getD (↑i : Int).toNat 0) v).fst.snd.name)), .v (.int .u8 ((φ         s         (xs.getD (↑i : Int).toNat 0) v).fst.snd.arg)), .v (.string ((φ         s         (xs.getD (↑i : Int).toNat 0) v).fst.snd.text))], 33⟩], ⟨[0, 1, 2, 3], ([{ nm := 0, own := false, v := bytesV xs }])⟩⟩)
              (.leaf [.j 0, .b 0, .c 24 [1, 1, 1, 1], .f 24 1 [] (some 0)] .normal ⟨40, [(9, .c (.one (.v (.int .i64 (IntKind.i64.wrap ((↑i : Int) + 1)))))), (17, .c (.one (.v (.int .i64 (IntKind.i64.wrap ((↑i : Int) + 1)))))), (16, .c (.one (.v (.int .i64 ((↑i : Int)))))), (7, .c (.one (.v (.int .i64 ((φ       s       (xs.getD (↑i : Int).toNat 0) v).fst.fst))))), (0, .c (.one (.os 0))), (1, .c (.one (.v (.bool (v))))), (4, .c (.one (.v (.int .i64 0)))), (5, .c (.one (.ptr 4 0))), (6, .c (.one (.ptr 5 0))), (8, .c (.one (.ptr 6 0)))], [none, none, none, none, some ⟨[.v (.int .u8 0), .v (.int .i64 0), .v (.string ((⟨#[]⟩ : ByteArray))), .v (.string ((⟨#[]⟩ : ByteArray))), .v (.int .u8 0), .v (.string ((⟨#[]⟩ : ByteArray)))], 33⟩, some ⟨[.v (.int .i64 ((φ       s       (xs.getD (↑i : Int).toNat 0) v).snd.st)), .v (.bool ((φ       s       (xs.getD (↑i : Int).toNat 0) v).snd.op)), .v (.bool ((φ       s       (xs.getD (↑i : Int).toNat 0) v).snd.vi)), .v (.bool ((φ       s       (xs.getD (↑i : Int).toNat 0) v).snd.fi)), .v (.int .u8 ((φ       s       (xs.getD (↑i : Int).toNat 0) v).snd.reg)), .v (.int .i64 ((φ       s       (xs.getD (↑i : Int).toNat 0) v).snd.cnt)), .v (.string ((φ       s       (xs.getD (↑i : Int).toNat 0) v).snd.opr)), .v (.string ((φ       s       (xs.getD (↑i : Int).toNat 0) v).snd.name)), .v (.int .u8 ((φ       s       (xs.getD (↑i : Int).toNat 0) v).snd.arg)), .v (.string ((φ       s       (xs.getD (↑i : Int).toNat 0) v).snd.text)), .v (.int .i64 ((φ       s       (xs.getD (↑i : Int).toNat 0) v).snd.an)), .v (.bool ((φ       s       (xs.getD (↑i : Int).toNat 0) v).snd.aa)), .v (.int .i64 ((φ       s       (xs.getD (↑i : Int).toNat 0) v).snd.bn)), .v (.bool ((φ       s       (xs.getD (↑i : Int).toNat 0) v).snd.ba))], 54⟩, some ⟨[.v (.int .u8 ((φ         s         (xs.getD (↑i : Int).toNat 0) v).fst.snd.reg)), .v (.int .i64 ((φ         s         (xs.getD (↑i : Int).toNat 0) v).fst.snd.count)), .v (.string ((φ         s         (xs.getD (↑i : Int).toNat 0) v).fst.snd.opr)), .v (.string ((φ         s         (xs.getD (↑i : Int).toNat 0) v).fst.snd.name)), .v (.int .u8 ((φ         s         (xs.getD (↑i : Int).toNat 0) v).fst.snd.arg)), .v (.string ((φ         s         (xs.getD (↑i : Int).toNat 0) v).fst.snd.text))], 33⟩], ⟨[0, 1, 2, 3], ([{ nm := 0, own := false, v := bytesV xs }])⟩⟩))
            (.leaf [.j 0, .b 0, .c 24 [1, 1, 1, 1], .f 24 1 [] (some 0)] .normal ⟨40, [(9, .c (.one (.v (.int .i64 (IntKind.i64.wrap ((↑i : Int) + 1)))))), (17, .c (.one (.v (.int .i64 (IntKind.i64.wrap ((↑i : Int) + 1)))))), (16, .c (.one (.v (.int .i64 ((↑i : Int)))))), (7, .c (.one (.v (.int .i64 ((φ       s       (xs.getD (↑i : Int).toNat 0) v).fst.fst))))), (0, .c (.one (.os 0))), (1, .c (.one (.v (.bool (v))))), (4, .c (.one (.v (.int .i64 0)))), (5, .c (.one (.ptr 4 0))), (6, .c (.one (.ptr 5 0))), (8, .c (.one (.ptr 6 0)))], [none, none, none, none, some ⟨[.v (.int .u8 0), .v (.int .i64 0), .v (.string ((⟨#[]⟩ : ByteArray))), .v (.string ((⟨#[]⟩ : ByteArray))), .v (.int .u8 0), .v (.string ((⟨#[]⟩ : ByteArray)))], 33⟩, some ⟨[.v (.int .i64 ((φ       s       (xs.getD (↑i : Int).toNat 0) v).snd.st)), .v (.bool ((φ       s       (xs.getD (↑i : Int).toNat 0) v).snd.op)), .v (.bool ((φ       s       (xs.getD (↑i : Int).toNat 0) v).snd.vi)), .v (.bool ((φ       s       (xs.getD (↑i : Int).toNat 0) v).snd.fi)), .v (.int .u8 ((φ       s       (xs.getD (↑i : Int).toNat 0) v).snd.reg)), .v (.int .i64 ((φ       s       (xs.getD (↑i : Int).toNat 0) v).snd.cnt)), .v (.string ((φ       s       (xs.getD (↑i : Int).toNat 0) v).snd.opr)), .v (.string ((φ       s       (xs.getD (↑i : Int).toNat 0) v).snd.name)), .v (.int .u8 ((φ       s       (xs.getD (↑i : Int).toNat 0) v).snd.arg)), .v (.string ((φ       s       (xs.getD (↑i : Int).toNat 0) v).snd.text)), .v (.int .i64 ((φ       s       (xs.getD (↑i : Int).toNat 0) v).snd.an)), .v (.bool ((φ       s       (xs.getD (↑i : Int).toNat 0) v).snd.aa)), .v (.int .i64 ((φ       s       (xs.getD (↑i : Int).toNat 0) v).snd.bn)), .v (.bool ((φ       s       (xs.getD (↑i : Int).toNat 0) v).snd.ba))], 54⟩, some ⟨[.v (.int .u8 ((φ         s         (xs.getD (↑i : Int).toNat 0) v).fst.snd.reg)), .v (.int .i64 ((φ         s         (xs.getD (↑i : Int).toNat 0) v).fst.snd.count)), .v (.string ((φ         s         (xs.getD (↑i : Int).toNat 0) v).fst.snd.opr)), .v (.string ((φ         s         (xs.getD (↑i : Int).toNat 0) v).fst.snd.name)), .v (.int .u8 ((φ         s         (xs.getD (↑i : Int).toNat 0) v).fst.snd.arg)), .v (.string ((φ         s         (xs.getD (↑i : Int).toNat 0) v).fst.snd.text))], 33⟩], ⟨[0, 1, 2, 3], ([{ nm := 0, own := false, v := bytesV xs }])⟩⟩))
          (.leaf [.o 24 [0, 0, 0, 1, 0, 0, 1, 0, 1, 1, 1] [6, 7, 8, 9, 10, 11], .c 24 [1, 0, 0, 1, 0, 0, 1, 0, 1, 1, 1], .b 1, .c 24 [1, 1, 0, 0, 1, 0, 1, 1, 1], .j 0, .b 0, .c 24 [1, 1, 1, 1], .f 24 1 [] (some 0)] .normal ⟨40, [(24, .c (.one (.v (.bool (v))))), (23, .c (.one (.v (.int .u8 (xs.getD (↑i : Int).toNat 0))))), (22, .c (.one (.oe 0 ((↑i : Int).toNat) 1 0))), (21, .c (.one (.v (.int .i64 ((↑i : Int)))))), (20, .c (.one (.os 0))), (19, .c (.one (.ptr 5 0))), (0, .c (.one (.os 0))), (1, .c (.one (.v (.bool (v))))), (4, .c (.one (.v (.int .i64 0)))), (5, .c (.one (.ptr 4 0))), (6, .c (.one (.ptr 5 0))), (7, .c (.one (.v (.int .i64 (r.fst))))), (8, .c (.one (.ptr 6 0))), (9, .c (.one (.v (.int .i64 ((↑i : Int))))))], [none, none, none, none, some ⟨[.v (.int .u8 0), .v (.int .i64 0), .v (.string ((⟨#[]⟩ : ByteArray))), .v (.string ((⟨#[]⟩ : ByteArray))), .v (.int .u8 0), .v (.string ((⟨#[]⟩ : ByteArray)))], 33⟩, some ⟨[.v (.int .i64 (s.st)), .v (.bool (s.op)), .v (.bool (s.vi)), .v (.bool (s.fi)), .v (.int .u8 (s.reg)), .v (.int .i64 (s.cnt)), .v (.string (s.opr)), .v (.string (s.name)), .v (.int .u8 (s.arg)), .v (.string (s.text)), .v (.int .i64 (s.an)), .v (.bool (s.aa)), .v (.int .i64 (s.bn)), .v (.bool (s.ba))], 54⟩, some ⟨[.v (.int .u8 (r.snd.reg)), .v (.int .i64 (r.snd.count)), .v (.string (r.snd.opr)), .v (.string (r.snd.name)), .v (.int .u8 (r.snd.arg)), .v (.string (r.snd.text))], 33⟩], ⟨[0, 1, 2, 3], ([{ nm := 0, own := false, v := bytesV xs }])⟩⟩))
        (.leaf [.o 24 [0, 0, 0, 1, 0, 0, 1, 0, 1, 1, 1] [4, 5, 6, 7, 8, 9, 10, 11], .c 24 [1, 0, 0, 1, 0, 0, 1, 0, 1, 1, 1], .b 1, .c 24 [1, 1, 0, 0, 1, 0, 1, 1, 1], .j 0, .b 0, .c 24 [1, 1, 1, 1], .f 24 1 [] (some 0)] .normal ⟨40, [(22, .c (.one (.oe 0 ((↑i : Int).toNat) 1 0))), (21, .c (.one (.v (.int .i64 ((↑i : Int)))))), (20, .c (.one (.os 0))), (19, .c (.one (.ptr 5 0))), (0, .c (.one (.os 0))), (1, .c (.one (.v (.bool (v))))), (4, .c (.one (.v (.int .i64 0)))), (5, .c (.one (.ptr 4 0))), (6, .c (.one (.ptr 5 0))), (7, .c (.one (.v (.int .i64 (r.fst))))), (8, .c (.one (.ptr 6 0))), (9, .c (.one (.v (.int .i64 ((↑i : Int))))))], [none, none, none, none, some ⟨[.v (.int .u8 0), .v (.int .i64 0), .v (.string ((⟨#[]⟩ : ByteArray))), .v (.string ((⟨#[]⟩ : ByteArray))), .v (.int .u8 0), .v (.string ((⟨#[]⟩ : ByteArray)))], 33⟩, some ⟨[.v (.int .i64 (s.st)), .v (.bool (s.op)), .v (.bool (s.vi)), .v (.bool (s.fi)), .v (.int .u8 (s.reg)), .v (.int .i64 (s.cnt)), .v (.string (s.opr)), .v (.string (s.name)), .v (.int .u8 (s.arg)), .v (.string (s.text)), .v (.int .i64 (s.an)), .v (.bool (s.aa)), .v (.int .i64 (s.bn)), .v (.bool (s.ba))], 54⟩, some ⟨[.v (.int .u8 (r.snd.reg)), .v (.int .i64 (r.snd.count)), .v (.string (r.snd.opr)), .v (.string (r.snd.name)), .v (.int .u8 (r.snd.arg)), .v (.string (r.snd.text))], 33⟩], ⟨[0, 1, 2, 3], ([{ nm := 0, own := false, v := bytesV xs }])⟩⟩))
      (.leaf [.o 24 [0, 0, 0, 1, 0, 0, 1, 0, 1, 1, 1] [3, 4, 5, 6, 7, 8, 9, 10, 11], .c 24 [1, 0, 0, 1, 0, 0, 1, 0, 1, 1, 1], .b 1, .c 24 [1, 1, 0, 0, 1, 0, 1, 1, 1], .j 0, .b 0, .c 24 [1, 1, 1, 1], .f 24 1 [] (some 0)] .normal ⟨40, [(21, .c (.one (.v (.int .i64 ((↑i : Int)))))), (20, .c (.one (.os 0))), (19, .c (.one (.ptr 5 0))), (0, .c (.one (.os 0))), (1, .c (.one (.v (.bool (v))))), (4, .c (.one (.v (.int .i64 0)))), (5, .c (.one (.ptr 4 0))), (6, .c (.one (.ptr 5 0))), (7, .c (.one (.v (.int .i64 (r.fst))))), (8, .c (.one (.ptr 6 0))), (9, .c (.one (.v (.int .i64 ((↑i : Int))))))], [none, none, none, none, some ⟨[.v (.int .u8 0), .v (.int .i64 0), .v (.string ((⟨#[]⟩ : ByteArray))), .v (.string ((⟨#[]⟩ : ByteArray))), .v (.int .u8 0), .v (.string ((⟨#[]⟩ : ByteArray)))], 33⟩, some ⟨[.v (.int .i64 (s.st)), .v (.bool (s.op)), .v (.bool (s.vi)), .v (.bool (s.fi)), .v (.int .u8 (s.reg)), .v (.int .i64 (s.cnt)), .v (.string (s.opr)), .v (.string (s.name)), .v (.int .u8 (s.arg)), .v (.string (s.text)), .v (.int .i64 (s.an)), .v (.bool (s.aa)), .v (.int .i64 (s.bn)), .v (.bool (s.ba))], 54⟩, some ⟨[.v (.int .u8 (r.snd.reg)), .v (.int .i64 (r.snd.count)), .v (.string (r.snd.opr)), .v (.string (r.snd.name)), .v (.int .u8 (r.snd.arg)), .v (.string (r.snd.text))], 33⟩], ⟨[0, 1, 2, 3], ([{ nm := 0, own := false, v := bytesV xs }])⟩⟩))
    (.leaf [] .normal ⟨1, [(0, .tup [.one (.v (.int .i64 (r.fst))), .agg [.v (.int .u8 (r.snd.reg)), .v (.int .i64 (r.snd.count)), .v (.string (r.snd.opr)), .v (.string (r.snd.name)), .v (.int .u8 (r.snd.arg)), .v (.string (r.snd.text))]])], [none, none, none, none, some ⟨[.v (.int .u8 (r.snd.reg)), .v (.int .i64 (r.snd.count)), .v (.string (r.snd.opr)), .v (.string (r.snd.name)), .v (.int .u8 (r.snd.arg)), .v (.string (r.snd.text))], 33⟩, some ⟨[.v (.int .i64 (s.st)), .v (.bool (s.op)), .v (.bool (s.vi)), .v (.bool (s.fi)), .v (.int .u8 (s.reg)), .v (.int .i64 (s.cnt)), .v (.string (s.opr)), .v (.string (s.name)), .v (.int .u8 (s.arg)), .v (.string (s.text)), .v (.int .i64 (s.an)), .v (.bool (s.aa)), .v (.int .i64 (s.bn)), .v (.bool (s.ba))], 54⟩, some ⟨[.v (.int .u8 (r.snd.reg)), .v (.int .i64 (r.snd.count)), .v (.string (r.snd.opr)), .v (.string (r.snd.name)), .v (.int .u8 (r.snd.arg)), .v (.string (r.snd.text))], 33⟩], ⟨[0, 1, 2, 3], ([{ nm := 0, own := false, v := bytesV xs }])⟩⟩) := by kernel_rfl


theorem fed24 : SlFOK 24 (fedF fedS) := by
  intro sv args b r hr hb
  unfold fedF at hr
  split at hr
  · rename_i xs v
    injection hr with hr
    injection hr with h1 h2
    subst h1 h2
    refine ⟨fun _ _ _ hh => (by cases hh), fun E σ u w hR => ?_⟩
    have key := calls_of_ev (X := famB) (Jt := fun _ _ _ => False) (gh := ⟨[0, 1, 2, 3], [⟨0, false, bytesV xs⟩]⟩) (σ := argσ [u]) (w0 := ⟨w, []⟩) (tbL_ok (L0 := [])) (f := 24) (fn := Try.f24) rfl (vs := [.c (.one (.os 0)), .c (.one (.v (.bool v)))])
      (R := fun e w' => e = .returned (SV.den noRows (argσ [u]) (.tup [.one (.v (.int .i64 (fedS xs v).1)), (fedS xs v).2.cv])) ∧ Keep [] w w') (mem := [none, none, none, none])
      (entry (fun q hq => by simp at hq; subst hq; exact ⟨rfl, 0, u, rfl, rfl, hR⟩) (fun q hq d hd => by simp at hq; subst hq; simp; omega) (fun n hn => by simp at hn ⊢; omega) (fun b hb => by simp at hb; exact hb)) (by simp) (show 2 ≤ 40 by omega) (fun v hv => by simp at hv; rcases hv with rfl | rfl <;> exact (fun _ _ _ hh => by cases hh)) (n := 100) (by
      rw [show Try.f24.ntmps = 40 from by kernel_rfl, fe_ev1 feedS xs v]
      refine safe_ren [some 0, some 1, some 2, some 3, some 4, some 5, some 6] (feS xs v ps0 (0, cmd0) 0) (by kernel_rfl) ⟨rfl, ⟨by kernel_rfl, by kernel_rfl⟩, ⟨by kernel_rfl, by kernel_rfl, by kernel_rfl⟩, ⟨by kernel_rfl, by kernel_rfl, by kernel_rfl⟩, ⟨by kernel_rfl, by kernel_rfl⟩, by kernel_rfl, by kernel_rfl⟩ (fun q hq => by simp at hq; subst hq; exact bytesT _) ?_
      refine at_loop (by kernel_rfl) 0 (by kernel_rfl) (by kernel_rfl) (α := { k : Nat × PS × Int × Cmd // k.1 ≤ xs.length ∧ okB k.2.1 ∧ fedL v k.2.1 k.2.2 (xs.drop k.1) = fedS xs v }) (fun k => feS xs v k.1.2.1 k.1.2.2 k.1.1) (fun _ => famB) (fun _ => tbL feedS) (fun _ => rfl) (fun k => xs.length - k.1.1) ?_ ⟨(0, ps0, 0, cmd0), Nat.zero_le _, okB_0, rfl⟩
      rintro ⟨⟨i, s, r⟩, hi, hs, hf⟩ J hJ
      refine ev_sound tbL_ok endQ_panic 100 _ _ _ ?_
      show OutOK _ _ _ _ _ _ _ _ (ev (tbL feedS) noRows 100 [.c 24 [0, 0, 1, 0, 1, 1, 1], .j 0, .b 0, .c 24 [1, 1, 1, 1], .f 24 1 [] (some 0)] .normal (feS xs v s r i))
      simp only at hi hs hf
      rw [fe_ev2]
      have hsm := hR.small
      have hsm : xs.length ≤ 1000000 := hsm
      refine OutOK_cond.2 ⟨fun hlt => ?_, fun hge => ?_⟩
      · have hlt : i < xs.length := by have := of_decide_eq_true hlt; omega
        have hbt := bytesOK_at hb hlt
        rw [List.drop_eq_getElem_cons hlt] at hf
        have hg : xs[i] = xs.getD i 0 := by rw [List.getD_eq_getElem?_getD, List.getElem?_eq_getElem hlt]; rfl
        rw [hg, fedL] at hf
        have hne : xs.drop (i + 1) ≠ [] ↔ i + 1 < xs.length := by
          rw [ne_eq, List.drop_eq_nil_iff]; omega
        refine ok_t (decide_eq_true (by omega)) (ok_t (decide_eq_true (by simpa using hlt)) ?_)
        simp only [Int.toNat_natCast]
        refine ok_t (preF_of ⟨hs, hbt⟩) ?_
        have e1 : IntKind.i64.wrap ((i : Int) + 1) = ((i + 1 : Nat) : Int) := by rw [wrap_s (by omega) (by omega)]; omega
        have e2 : IntKind.i64.wrap ((xs.length : Int) - 1) = (xs.length : Int) - 1 := wrap_s (by omega) (by omega)
        rw [e1, e2]
        have next : ∀ st, fedL v (feedS s (xs.getD i 0) v).2 (feedS s (xs.getD i 0) v).1 (xs.drop (i + 1)) = fedS xs v → StRen [] [some 0, some 1, some 2, some 3, some 4, some 5, some 6] st (feS xs v (feedS s (xs.getD i 0) v).2 (feedS s (xs.getD i 0) v).1 (i + 1)) →
            Safe Try.prog (tbL feedS) noRows famB (updJ (fun _ _ _ => False) 0 J) (EndQ fun e w' => e = .returned (SV.den noRows (argσ [u]) (.tup [.one (.v (.int .i64 (fedS xs v).1)), (fedS xs v).2.cv])) ∧ Keep [] w w') [] ⟨w, []⟩ [.j 0, .b 0, .c 24 [1, 1, 1, 1], .f 24 1 [] (some 0)] .normal st := fun st hfl hst =>
          safe_jj fun σ a w1 hc => hJ ⟨(i + 1, (feedS s (xs.getD i 0) v).2, (feedS s (xs.getD i 0) v).1), hlt, feedS_ok hs hbt, hfl⟩ (by show xs.length - (i + 1) < xs.length - i; omega) _ a w1 (conc_ren hc hst (fun q hq => by simp at hq; subst hq; exact bytesT _))
        refine OutOK_cond.2 ⟨fun hn => OutOK_cond.2 ⟨fun hl => ?_, fun hl => ?_⟩, fun hn => ?_⟩
        · have hl := of_decide_eq_true hl
          rw [if_pos ⟨bne_iff_ne.1 hn, hne.2 (by omega)⟩] at hf
          rw [← hf]
          exact leaf_end fun σ w' hm => by
            obtain ⟨x, hm⟩ := hm
            exact ⟨rfl, hm.mok.keep⟩
        · have hl := of_decide_eq_false hl
          rw [if_neg (fun h => by have := hne.1 h.2; omega)] at hf
          exact next _ hf ⟨rfl, ⟨by kernel_rfl, by kernel_rfl⟩, ⟨by kernel_rfl, by kernel_rfl, by kernel_rfl⟩, ⟨by kernel_rfl, by kernel_rfl, by kernel_rfl⟩, ⟨by kernel_rfl, by kernel_rfl⟩, by kernel_rfl, by kernel_rfl⟩
        · rw [if_neg (fun h => h.1 (bne_eq_false_iff_eq.1 hn))] at hf
          exact next _ hf ⟨rfl, ⟨by kernel_rfl, by kernel_rfl⟩, ⟨by kernel_rfl, by kernel_rfl, by kernel_rfl⟩, ⟨by kernel_rfl, by kernel_rfl, by kernel_rfl⟩, ⟨by kernel_rfl, by kernel_rfl⟩, by kernel_rfl, by kernel_rfl⟩
      · have hge := of_decide_eq_false hge
        rw [List.drop_of_length_le (by omega), fedL] at hf
        rw [← hf]
        exact leaf_end fun σ w' hm => by
          obtain ⟨x, hm⟩ := hm
          exact ⟨rfl, hm.mok.keep⟩)
    have hu := (arg_slot (us := [u]) (i := 0) rfl hR).2.2
    simpa [SV.den, CV.den, hu, Cmd.cv, den_v] using key
  · cases hr
theorem c24 {L0 : List Nat} {ψ : FedFn} (h : ψ = fedS) : CallOK Try.prog famB L0 24 (slF (fedF ψ)) := by
  subst h
  exact slF_ok fn24_ok fed24
end Go.Proofs.Ytloaehlgcgpieaa.Sx
