/-
  The parser's smaller methods. Conditions: stated at each theorem.
-/
import Derived.Test.YtloaehlgcgpieaaSpec
set_option linter.all false
namespace Go.Proofs.Ytloaehlgcgpieaa.Sx
open Go.RowKit Go.Proofs.Ytloaehlgcgpieaa
set_option maxHeartbeats 4000000

theorem nm_ev (s : PS) (c : Int) : ev tbA noRows 400 [.c 39 [], .f 39 1 [] (some 0)] .normal ⟨37, argTmps 0 [.c (.one (.ptr 0 0)), iV .u8 c], [some s.blk], gh0⟩ =
  cond (decide (c ≥ 97))
    (cond (decide (c ≤ 122))
      (.leaf [] .normal ⟨1, [(0, .c (.one (.v (.int .i64 0))))], [some ⟨[.v (.int .i64 0), .v (.bool (s.op)), .v (.bool (s.vi)), .v (.bool (s.fi)), .v (.int .u8 (c)), .v (.int .i64 (s.cnt)), .v (.string (s.opr)), .v (.string (s.name)), .v (.int .u8 (s.arg)), .v (.string (s.text)), .v (.int .i64 (s.an)), .v (.bool (s.aa)), .v (.int .i64 (s.bn)), .v (.bool (s.ba))], 54⟩], ⟨[], []⟩⟩)
      (cond (decide (c ≥ 65))
        (cond (decide (c ≤ 90))
          (.leaf [] .normal ⟨1, [(0, .c (.one (.v (.int .i64 0))))], [some ⟨[.v (.int .i64 0), .v (.bool (s.op)), .v (.bool (s.vi)), .v (.bool (s.fi)), .v (.int .u8 (c)), .v (.int .i64 (s.cnt)), .v (.string (s.opr)), .v (.string (s.name)), .v (.int .u8 (s.arg)), .v (.string (s.text)), .v (.int .i64 (s.an)), .v (.bool (s.aa)), .v (.int .i64 (s.bn)), .v (.bool (s.ba))], 54⟩], ⟨[], []⟩⟩)
          (cond (decide (c ≥ 48))
            (cond (decide (c ≤ 57))
              (.leaf [] .normal ⟨1, [(0, .c (.one (.v (.int .i64 0))))], [some ⟨[.v (.int .i64 0), .v (.bool (s.op)), .v (.bool (s.vi)), .v (.bool (s.fi)), .v (.int .u8 (c)), .v (.int .i64 (s.cnt)), .v (.string (s.opr)), .v (.string (s.name)), .v (.int .u8 (s.arg)), .v (.string (s.text)), .v (.int .i64 (s.an)), .v (.bool (s.aa)), .v (.int .i64 (s.bn)), .v (.bool (s.ba))], 54⟩], ⟨[], []⟩⟩)
              (cond (c == 45)
                (.leaf [] .normal ⟨1, [(0, .c (.one (.v (.int .i64 0))))], [some ⟨[.v (.int .i64 0), .v (.bool (s.op)), .v (.bool (s.vi)), .v (.bool (s.fi)), .v (.int .u8 (c)), .v (.int .i64 (s.cnt)), .v (.string (s.opr)), .v (.string (s.name)), .v (.int .u8 (s.arg)), .v (.string (s.text)), .v (.int .i64 (s.an)), .v (.bool (s.aa)), .v (.int .i64 (s.bn)), .v (.bool (s.ba))], 54⟩], ⟨[], []⟩⟩)
                (cond (c == 95)
                  (.leaf [] .normal ⟨1, [(0, .c (.one (.v (.int .i64 0))))], [some ⟨[.v (.int .i64 0), .v (.bool (s.op)), .v (.bool (s.vi)), .v (.bool (s.fi)), .v (.int .u8 (c)), .v (.int .i64 (s.cnt)), .v (.string (s.opr)), .v (.string (s.name)), .v (.int .u8 (s.arg)), .v (.string (s.text)), .v (.int .i64 (s.an)), .v (.bool (s.aa)), .v (.int .i64 (s.bn)), .v (.bool (s.ba))], 54⟩], ⟨[], []⟩⟩)
                  (cond (c == 34)
                    (.leaf [] .normal ⟨1, [(0, .c (.one (.v (.int .i64 0))))], [some ⟨[.v (.int .i64 0), .v (.bool (s.op)), .v (.bool (s.vi)), .v (.bool (s.fi)), .v (.int .u8 (c)), .v (.int .i64 (s.cnt)), .v (.string (s.opr)), .v (.string (s.name)), .v (.int .u8 (s.arg)), .v (.string (s.text)), .v (.int .i64 (s.an)), .v (.bool (s.aa)), .v (.int .i64 (s.bn)), .v (.bool (s.ba))], 54⟩], ⟨[], []⟩⟩)
                    (.leaf [] .normal ⟨1, [(0, .c (.one (.v (.int .i64 2))))], [some ⟨[.v (.int .i64 (s.st)), .v (.bool (s.op)), .v (.bool (s.vi)), .v (.bool (s.fi)), .v (.int .u8 (s.reg)), .v (.int .i64 (s.cnt)), .v (.string (s.opr)), .v (.string (s.name)), .v (.int .u8 (s.arg)), .v (.string (s.text)), .v (.int .i64 (s.an)), .v (.bool (s.aa)), .v (.int .i64 (s.bn)), .v (.bool (s.ba))], 54⟩], ⟨[], []⟩⟩)))))
            (cond (c == 45)
              (.leaf [] .normal ⟨1, [(0, .c (.one (.v (.int .i64 0))))], [some ⟨[.v (.int .i64 0), .v (.bool (s.op)), .v (.bool (s.vi)), .v (.bool (s.fi)), .v (.int .u8 (c)), .v (.int .i64 (s.cnt)), .v (.string (s.opr)), .v (.string (s.name)), .v (.int .u8 (s.arg)), .v (.string (s.text)), .v (.int .i64 (s.an)), .v (.bool (s.aa)), .v (.int .i64 (s.bn)), .v (.bool (s.ba))], 54⟩], ⟨[], []⟩⟩)
              (cond (c == 95)
                (.leaf [] .normal ⟨1, [(0, .c (.one (.v (.int .i64 0))))], [some ⟨[.v (.int .i64 0), .v (.bool (s.op)), .v (.bool (s.vi)), .v (.bool (s.fi)), .v (.int .u8 (c)), .v (.int .i64 (s.cnt)), .v (.string (s.opr)), .v (.string (s.name)), .v (.int .u8 (s.arg)), .v (.string (s.text)), .v (.int .i64 (s.an)), .v (.bool (s.aa)), .v (.int .i64 (s.bn)), .v (.bool (s.ba))], 54⟩], ⟨[], []⟩⟩)
                (cond (c == 34)
                  (.leaf [] .normal ⟨1, [(0, .c (.one (.v (.int .i64 0))))], [some ⟨[.v (.int .i64 0), .v (.bool (s.op)), .v (.bool (s.vi)), .v (.bool (s.fi)), .v (.int .u8 (c)), .v (.int .i64 (s.cnt)), .v (.string (s.opr)), .v (.string (s.name)), .v (.int .u8 (s.arg)), .v (.string (s.text)), .v (.int .i64 (s.an)), .v (.bool (s.aa)), .v (.int .i64 (s.bn)), .v (.bool (s.ba))], 54⟩], ⟨[], []⟩⟩)
                  (.leaf [] .normal ⟨1, [(0, .c (.one (.v (.int .i64 2))))], [some ⟨[.v (.int .i64 (s.st)), .v (.bool (s.op)), .v (.bool (s.vi)), .v (.bool (s.fi)), .v (.int .u8 (s.reg)), .v (.int .i64 (s.cnt)), .v (.string (s.opr)), .v (.string (s.name)), .v (.int .u8 (s.arg)), .v (.string (s.text)), .v (.int .i64 (s.an)), .v (.bool (s.aa)), .v (.int .i64 (s.bn)), .v (.bool (s.ba))], 54⟩], ⟨[], []⟩⟩))))))
        (cond (decide (c ≥ 48))
          (cond (decide (c ≤ 57))
            (.leaf [] .normal ⟨1, [(0, .c (.one (.v (.int .i64 0))))], [some ⟨[.v (.int .i64 0), .v (.bool (s.op)), .v (.bool (s.vi)), .v (.bool (s.fi)), .v (.int .u8 (c)), .v (.int .i64 (s.cnt)), .v (.string (s.opr)), .v (.string (s.name)), .v (.int .u8 (s.arg)), .v (.string (s.text)), .v (.int .i64 (s.an)), .v (.bool (s.aa)), .v (.int .i64 (s.bn)), .v (.bool (s.ba))], 54⟩], ⟨[], []⟩⟩)
            (cond (c == 45)
              (.leaf [] .normal ⟨1, [(0, .c (.one (.v (.int .i64 0))))], [some ⟨[.v (.int .i64 0), .v (.bool (s.op)), .v (.bool (s.vi)), .v (.bool (s.fi)), .v (.int .u8 (c)), .v (.int .i64 (s.cnt)), .v (.string (s.opr)), .v (.string (s.name)), .v (.int .u8 (s.arg)), .v (.string (s.text)), .v (.int .i64 (s.an)), .v (.bool (s.aa)), .v (.int .i64 (s.bn)), .v (.bool (s.ba))], 54⟩], ⟨[], []⟩⟩)
              (cond (c == 95)
                (.leaf [] .normal ⟨1, [(0, .c (.one (.v (.int .i64 0))))], [some ⟨[.v (.int .i64 0), .v (.bool (s.op)), .v (.bool (s.vi)), .v (.bool (s.fi)), .v (.int .u8 (c)), .v (.int .i64 (s.cnt)), .v (.string (s.opr)), .v (.string (s.name)), .v (.int .u8 (s.arg)), .v (.string (s.text)), .v (.int .i64 (s.an)), .v (.bool (s.aa)), .v (.int .i64 (s.bn)), .v (.bool (s.ba))], 54⟩], ⟨[], []⟩⟩)
                (cond (c == 34)
                  (.leaf [] .normal ⟨1, [(0, .c (.one (.v (.int .i64 0))))], [some ⟨[.v (.int .i64 0), .v (.bool (s.op)), .v (.bool (s.vi)), .v (.bool (s.fi)), .v (.int .u8 (c)), .v (.int .i64 (s.cnt)), .v (.string (s.opr)), .v (.string (s.name)), .v (.int .u8 (s.arg)), .v (.string (s.text)), .v (.int .i64 (s.an)), .v (.bool (s.aa)), .v (.int .i64 (s.bn)), .v (.bool (s.ba))], 54⟩], ⟨[], []⟩⟩)
                  (.leaf [] .normal ⟨1, [(0, .c (.one (.v (.int .i64 2))))], [some ⟨[.v (.int .i64 (s.st)), .v (.bool (s.op)), .v (.bool (s.vi)), .v (.bool (s.fi)), .v (.int .u8 (s.reg)), .v (.int .i64 (s.cnt)), .v (.string (s.opr)), .v (.string (s.name)), .v (.int .u8 (s.arg)), .v (.string (s.text)), .v (.int .i64 (s.an)), .v (.bool (s.aa)), .v (.int .i64 (s.bn)), .v (.bool (s.ba))], 54⟩], ⟨[], []⟩⟩)))))
          (cond (c == 45)
            (.leaf [] .normal ⟨1, [(0, .c (.one (.v (.int .i64 0))))], [some ⟨[.v (.int .i64 0), .v (.bool (s.op)), .v (.bool (s.vi)), .v (.bool (s.fi)), .v (.int .u8 (c)), .v (.int .i64 (s.cnt)), .v (.string (s.opr)), .v (.string (s.name)), .v (.int .u8 (s.arg)), .v (.string (s.text)), .v (.int .i64 (s.an)), .v (.bool (s.aa)), .v (.int .i64 (s.bn)), .v (.bool (s.ba))], 54⟩], ⟨[], []⟩⟩)
            (cond (c == 95)
              (.leaf [] .normal ⟨1, [(0, .c (.one (.v (.int .i64 0))))], [some ⟨[.v (.int .i64 0), .v (.bool (s.op)), .v (.bool (s.vi)), .v (.bool (s.fi)), .v (.int .u8 (c)), .v (.int .i64 (s.cnt)), .v (.string (s.opr)), .v (.string (s.name)), .v (.int .u8 (s.arg)), .v (.string (s.text)), .v (.int .i64 (s.an)), .v (.bool (s.aa)), .v (.int .i64 (s.bn)), .v (.bool (s.ba))], 54⟩], ⟨[], []⟩⟩)
              (cond (c == 34)
                (.leaf [] .normal ⟨1, [(0, .c (.one (.v (.int .i64 0))))], [some ⟨[.v (.int .i64 0), .v (.bool (s.op)), .v (.bool (s.vi)), .v (.bool (s.fi)), .v (.int .u8 (c)), .v (.int .i64 (s.cnt)), .v (.string (s.opr)), .v (.string (s.name)), .v (.int .u8 (s.arg)), .v (.string (s.text)), .v (.int .i64 (s.an)), .v (.bool (s.aa)), .v (.int .i64 (s.bn)), .v (.bool (s.ba))], 54⟩], ⟨[], []⟩⟩)
                (.leaf [] .normal ⟨1, [(0, .c (.one (.v (.int .i64 2))))], [some ⟨[.v (.int .i64 (s.st)), .v (.bool (s.op)), .v (.bool (s.vi)), .v (.bool (s.fi)), .v (.int .u8 (s.reg)), .v (.int .i64 (s.cnt)), .v (.string (s.opr)), .v (.string (s.name)), .v (.int .u8 (s.arg)), .v (.string (s.text)), .v (.int .i64 (s.an)), .v (.bool (s.aa)), .v (.int .i64 (s.bn)), .v (.bool (s.ba))], 54⟩], ⟨[], []⟩⟩)))))))
    (cond (decide (c ≥ 65))
      (cond (decide (c ≤ 90))
        (.leaf [] .normal ⟨1, [(0, .c (.one (.v (.int .i64 0))))], [some ⟨[.v (.int .i64 0), .v (.bool (s.op)), .v (.bool (s.vi)), .v (.bool (s.fi)), .v (.int .u8 (c)), .v (.int .i64 (s.cnt)), .v (.string (s.opr)), .v (.string (s.name)), .v (.int .u8 (s.arg)), .v (.string (s.text)), .v (.int .i64 (s.an)), .v (.bool (s.aa)), .v (.int .i64 (s.bn)), .v (.bool (s.ba))], 54⟩], ⟨[], []⟩⟩)
        (cond (decide (c ≥ 48))
          (cond (decide (c ≤ 57))
            (.leaf [] .normal ⟨1, [(0, .c (.one (.v (.int .i64 0))))], [some ⟨[.v (.int .i64 0), .v (.bool (s.op)), .v (.bool (s.vi)), .v (.bool (s.fi)), .v (.int .u8 (c)), .v (.int .i64 (s.cnt)), .v (.string (s.opr)), .v (.string (s.name)), .v (.int .u8 (s.arg)), .v (.string (s.text)), .v (.int .i64 (s.an)), .v (.bool (s.aa)), .v (.int .i64 (s.bn)), .v (.bool (s.ba))], 54⟩], ⟨[], []⟩⟩)
            (cond (c == 45)
              (.leaf [] .normal ⟨1, [(0, .c (.one (.v (.int .i64 0))))], [some ⟨[.v (.int .i64 0), .v (.bool (s.op)), .v (.bool (s.vi)), .v (.bool (s.fi)), .v (.int .u8 (c)), .v (.int .i64 (s.cnt)), .v (.string (s.opr)), .v (.string (s.name)), .v (.int .u8 (s.arg)), .v (.string (s.text)), .v (.int .i64 (s.an)), .v (.bool (s.aa)), .v (.int .i64 (s.bn)), .v (.bool (s.ba))], 54⟩], ⟨[], []⟩⟩)
              (cond (c == 95)
                (.leaf [] .normal ⟨1, [(0, .c (.one (.v (.int .i64 0))))], [some ⟨[.v (.int .i64 0), .v (.bool (s.op)), .v (.bool (s.vi)), .v (.bool (s.fi)), .v (.int .u8 (c)), .v (.int .i64 (s.cnt)), .v (.string (s.opr)), .v (.string (s.name)), .v (.int .u8 (s.arg)), .v (.string (s.text)), .v (.int .i64 (s.an)), .v (.bool (s.aa)), .v (.int .i64 (s.bn)), .v (.bool (s.ba))], 54⟩], ⟨[], []⟩⟩)
                (cond (c == 34)
                  (.leaf [] .normal ⟨1, [(0, .c (.one (.v (.int .i64 0))))], [some ⟨[.v (.int .i64 0), .v (.bool (s.op)), .v (.bool (s.vi)), .v (.bool (s.fi)), .v (.int .u8 (c)), .v (.int .i64 (s.cnt)), .v (.string (s.opr)), .v (.string (s.name)), .v (.int .u8 (s.arg)), .v (.string (s.text)), .v (.int .i64 (s.an)), .v (.bool (s.aa)), .v (.int .i64 (s.bn)), .v (.bool (s.ba))], 54⟩], ⟨[], []⟩⟩)
                  (.leaf [] .normal ⟨1, [(0, .c (.one (.v (.int .i64 2))))], [some ⟨[.v (.int .i64 (s.st)), .v (.bool (s.op)), .v (.bool (s.vi)), .v (.bool (s.fi)), .v (.int .u8 (s.reg)), .v (.int .i64 (s.cnt)), .v (.string (s.opr)), .v (.string (s.name)), .v (.int .u8 (s.arg)), .v (.string (s.text)), .v (.int .i64 (s.an)), .v (.bool (s.aa)), .v (.int .i64 (s.bn)), .v (.bool (s.ba))], 54⟩], ⟨[], []⟩⟩)))))
          (cond (c == 45)
            (.leaf [] .normal ⟨1, [(0, .c (.one (.v (.int .i64 0))))], [some ⟨[.v (.int .i64 0), .v (.bool (s.op)), .v (.bool (s.vi)), .v (.bool (s.fi)), .v (.int .u8 (c)), .v (.int .i64 (s.cnt)), .v (.string (s.opr)), .v (.string (s.name)), .v (.int .u8 (s.arg)), .v (.string (s.text)), .v (.int .i64 (s.an)), .v (.bool (s.aa)), .v (.int .i64 (s.bn)), .v (.bool (s.ba))], 54⟩], ⟨[], []⟩⟩)
            (cond (c == 95)
              (.leaf [] .normal ⟨1, [(0, .c (.one (.v (.int .i64 0))))], [some ⟨[.v (.int .i64 0), .v (.bool (s.op)), .v (.bool (s.vi)), .v (.bool (s.fi)), .v (.int .u8 (c)), .v (.int .i64 (s.cnt)), .v (.string (s.opr)), .v (.string (s.name)), .v (.int .u8 (s.arg)), .v (.string (s.text)), .v (.int .i64 (s.an)), .v (.bool (s.aa)), .v (.int .i64 (s.bn)), .v (.bool (s.ba))], 54⟩], ⟨[], []⟩⟩)
              (cond (c == 34)
                (.leaf [] .normal ⟨1, [(0, .c (.one (.v (.int .i64 0))))], [some ⟨[.v (.int .i64 0), .v (.bool (s.op)), .v (.bool (s.vi)), .v (.bool (s.fi)), .v (.int .u8 (c)), .v (.int .i64 (s.cnt)), .v (.string (s.opr)), .v (.string (s.name)), .v (.int .u8 (s.arg)), .v (.string (s.text)), .v (.int .i64 (s.an)), .v (.bool (s.aa)), .v (.int .i64 (s.bn)), .v (.bool (s.ba))], 54⟩], ⟨[], []⟩⟩)
                (.leaf [] .normal ⟨1, [(0, .c (.one (.v (.int .i64 2))))], [some ⟨[.v (.int .i64 (s.st)), .v (.bool (s.op)), .v (.bool (s.vi)), .v (.bool (s.fi)), .v (.int .u8 (s.reg)), .v (.int .i64 (s.cnt)), .v (.string (s.opr)), .v (.string (s.name)), .v (.int .u8 (s.arg)), .v (.string (s.text)), .v (.int .i64 (s.an)), .v (.bool (s.aa)), .v (.int .i64 (s.bn)), .v (.bool (s.ba))], 54⟩], ⟨[], []⟩⟩))))))
      (cond (decide (c ≥ 48))
        (cond (decide (c ≤ 57))
          (.leaf [] .normal ⟨1, [(0, .c (.one (.v (.int .i64 0))))], [some ⟨[.v (.int .i64 0), .v (.bool (s.op)), .v (.bool (s.vi)), .v (.bool (s.fi)), .v (.int .u8 (c)), .v (.int .i64 (s.cnt)), .v (.string (s.opr)), .v (.string (s.name)), .v (.int .u8 (s.arg)), .v (.string (s.text)), .v (.int .i64 (s.an)), .v (.bool (s.aa)), .v (.int .i64 (s.bn)), .v (.bool (s.ba))], 54⟩], ⟨[], []⟩⟩)
          (cond (c == 45)
            (.leaf [] .normal ⟨1, [(0, .c (.one (.v (.int .i64 0))))], [some ⟨[.v (.int .i64 0), .v (.bool (s.op)), .v (.bool (s.vi)), .v (.bool (s.fi)), .v (.int .u8 (c)), .v (.int .i64 (s.cnt)), .v (.string (s.opr)), .v (.string (s.name)), .v (.int .u8 (s.arg)), .v (.string (s.text)), .v (.int .i64 (s.an)), .v (.bool (s.aa)), .v (.int .i64 (s.bn)), .v (.bool (s.ba))], 54⟩], ⟨[], []⟩⟩)
            (cond (c == 95)
              (.leaf [] .normal ⟨1, [(0, .c (.one (.v (.int .i64 0))))], [some ⟨[.v (.int .i64 0), .v (.bool (s.op)), .v (.bool (s.vi)), .v (.bool (s.fi)), .v (.int .u8 (c)), .v (.int .i64 (s.cnt)), .v (.string (s.opr)), .v (.string (s.name)), .v (.int .u8 (s.arg)), .v (.string (s.text)), .v (.int .i64 (s.an)), .v (.bool (s.aa)), .v (.int .i64 (s.bn)), .v (.bool (s.ba))], 54⟩], ⟨[], []⟩⟩)
              (cond (c == 34)
                (.leaf [] .normal ⟨1, [(0, .c (.one (.v (.int .i64 0))))], [some ⟨[.v (.int .i64 0), .v (.bool (s.op)), .v (.bool (s.vi)), .v (.bool (s.fi)), .v (.int .u8 (c)), .v (.int .i64 (s.cnt)), .v (.string (s.opr)), .v (.string (s.name)), .v (.int .u8 (s.arg)), .v (.string (s.text)), .v (.int .i64 (s.an)), .v (.bool (s.aa)), .v (.int .i64 (s.bn)), .v (.bool (s.ba))], 54⟩], ⟨[], []⟩⟩)
                (.leaf [] .normal ⟨1, [(0, .c (.one (.v (.int .i64 2))))], [some ⟨[.v (.int .i64 (s.st)), .v (.bool (s.op)), .v (.bool (s.vi)), .v (.bool (s.fi)), .v (.int .u8 (s.reg)), .v (.int .i64 (s.cnt)), .v (.string (s.opr)), .v (.string (s.name)), .v (.int .u8 (s.arg)), .v (.string (s.text)), .v (.int .i64 (s.an)), .v (.bool (s.aa)), .v (.int .i64 (s.bn)), .v (.bool (s.ba))], 54⟩], ⟨[], []⟩⟩)))))
        (cond (c == 45)
          (.leaf [] .normal ⟨1, [(0, .c (.one (.v (.int .i64 0))))], [some ⟨[.v (.int .i64 0), .v (.bool (s.op)), .v (.bool (s.vi)), .v (.bool (s.fi)), .v (.int .u8 (c)), .v (.int .i64 (s.cnt)), .v (.string (s.opr)), .v (.string (s.name)), .v (.int .u8 (s.arg)), .v (.string (s.text)), .v (.int .i64 (s.an)), .v (.bool (s.aa)), .v (.int .i64 (s.bn)), .v (.bool (s.ba))], 54⟩], ⟨[], []⟩⟩)
          (cond (c == 95)
            (.leaf [] .normal ⟨1, [(0, .c (.one (.v (.int .i64 0))))], [some ⟨[.v (.int .i64 0), .v (.bool (s.op)), .v (.bool (s.vi)), .v (.bool (s.fi)), .v (.int .u8 (c)), .v (.int .i64 (s.cnt)), .v (.string (s.opr)), .v (.string (s.name)), .v (.int .u8 (s.arg)), .v (.string (s.text)), .v (.int .i64 (s.an)), .v (.bool (s.aa)), .v (.int .i64 (s.bn)), .v (.bool (s.ba))], 54⟩], ⟨[], []⟩⟩)
            (cond (c == 34)
              (.leaf [] .normal ⟨1, [(0, .c (.one (.v (.int .i64 0))))], [some ⟨[.v (.int .i64 0), .v (.bool (s.op)), .v (.bool (s.vi)), .v (.bool (s.fi)), .v (.int .u8 (c)), .v (.int .i64 (s.cnt)), .v (.string (s.opr)), .v (.string (s.name)), .v (.int .u8 (s.arg)), .v (.string (s.text)), .v (.int .i64 (s.an)), .v (.bool (s.aa)), .v (.int .i64 (s.bn)), .v (.bool (s.ba))], 54⟩], ⟨[], []⟩⟩)
              (.leaf [] .normal ⟨1, [(0, .c (.one (.v (.int .i64 2))))], [some ⟨[.v (.int .i64 (s.st)), .v (.bool (s.op)), .v (.bool (s.vi)), .v (.bool (s.fi)), .v (.int .u8 (s.reg)), .v (.int .i64 (s.cnt)), .v (.string (s.opr)), .v (.string (s.name)), .v (.int .u8 (s.arg)), .v (.string (s.text)), .v (.int .i64 (s.an)), .v (.bool (s.aa)), .v (.int .i64 (s.bn)), .v (.bool (s.ba))], 54⟩], ⟨[], []⟩⟩)))))) := by kernel_rfl


theorem far_ev (s : PS) (c : Int) : ev tbA noRows 400 [.c 41 [], .f 41 1 [] (some 0)] .normal ⟨16, argTmps 0 [.c (.one (.ptr 0 0)), iV .u8 c], [some s.blk], gh0⟩ =
  cond (c == 103)
    (.leaf [] .normal ⟨1, [(0, .c (.one (.v (.int .i64 1))))], [some ⟨[.v (.int .i64 (s.st)), .v (.bool (s.op)), .v (.bool (s.vi)), .v (.bool (s.fi)), .v (.int .u8 (s.reg)), .v (.int .i64 (s.cnt)), .v (.string (s.opr)), .v (.string ((⟨#[103]⟩ : ByteArray) ++ strOfNums [c])), .v (.int .u8 (s.arg)), .v (.string (s.text)), .v (.int .i64 (s.an)), .v (.bool (s.aa)), .v (.int .i64 (s.bn)), .v (.bool (s.ba))], 54⟩, some ⟨[.v (.int .u8 (c))], 5⟩], ⟨[], []⟩⟩)
    (cond (c == 101)
      (.leaf [] .normal ⟨1, [(0, .c (.one (.v (.int .i64 1))))], [some ⟨[.v (.int .i64 (s.st)), .v (.bool (s.op)), .v (.bool (s.vi)), .v (.bool (s.fi)), .v (.int .u8 (s.reg)), .v (.int .i64 (s.cnt)), .v (.string (s.opr)), .v (.string ((⟨#[103]⟩ : ByteArray) ++ strOfNums [c])), .v (.int .u8 (s.arg)), .v (.string (s.text)), .v (.int .i64 (s.an)), .v (.bool (s.aa)), .v (.int .i64 (s.bn)), .v (.bool (s.ba))], 54⟩, some ⟨[.v (.int .u8 (c))], 5⟩], ⟨[], []⟩⟩)
      (cond (c == 69)
        (.leaf [] .normal ⟨1, [(0, .c (.one (.v (.int .i64 1))))], [some ⟨[.v (.int .i64 (s.st)), .v (.bool (s.op)), .v (.bool (s.vi)), .v (.bool (s.fi)), .v (.int .u8 (s.reg)), .v (.int .i64 (s.cnt)), .v (.string (s.opr)), .v (.string ((⟨#[103]⟩ : ByteArray) ++ strOfNums [c])), .v (.int .u8 (s.arg)), .v (.string (s.text)), .v (.int .i64 (s.an)), .v (.bool (s.aa)), .v (.int .i64 (s.bn)), .v (.bool (s.ba))], 54⟩, some ⟨[.v (.int .u8 (c))], 5⟩], ⟨[], []⟩⟩)
        (.leaf [] .normal ⟨1, [(0, .c (.one (.v (.int .i64 2))))], [some ⟨[.v (.int .i64 (s.st)), .v (.bool (s.op)), .v (.bool (s.vi)), .v (.bool (s.fi)), .v (.int .u8 (s.reg)), .v (.int .i64 (s.cnt)), .v (.string (s.opr)), .v (.string (s.name)), .v (.int .u8 (s.arg)), .v (.string (s.text)), .v (.int .i64 (s.an)), .v (.bool (s.aa)), .v (.int .i64 (s.bn)), .v (.bool (s.ba))], 54⟩], ⟨[], []⟩⟩))) := by kernel_rfl


theorem ob_ev (s : PS) (c : Int) : ev tbA noRows 400 [.c 43 [], .f 43 1 [] (some 0)] .normal ⟨30, argTmps 0 [.c (.one (.ptr 0 0)), iV .u8 c], [some s.blk], gh0⟩ =
  cond (c == 119)
    (.leaf [] .normal ⟨1, [(0, .c (.one (.v (.int .i64 1))))], [some ⟨[.v (.int .i64 (s.st)), .v (.bool (s.op)), .v (.bool (s.vi)), .v (.bool (s.fi)), .v (.int .u8 (s.reg)), .v (.int .i64 (s.cnt)), .v (.string (s.opr)), .v (.string (s.name)), .v (.int .u8 (c)), .v (.string (s.text)), .v (.int .i64 (s.an)), .v (.bool (s.aa)), .v (.int .i64 (s.bn)), .v (.bool (s.ba))], 54⟩], ⟨[], []⟩⟩)
    (cond (c == 87)
      (.leaf [] .normal ⟨1, [(0, .c (.one (.v (.int .i64 1))))], [some ⟨[.v (.int .i64 (s.st)), .v (.bool (s.op)), .v (.bool (s.vi)), .v (.bool (s.fi)), .v (.int .u8 (s.reg)), .v (.int .i64 (s.cnt)), .v (.string (s.opr)), .v (.string (s.name)), .v (.int .u8 (c)), .v (.string (s.text)), .v (.int .i64 (s.an)), .v (.bool (s.aa)), .v (.int .i64 (s.bn)), .v (.bool (s.ba))], 54⟩], ⟨[], []⟩⟩)
      (cond (c == 112)
        (.leaf [] .normal ⟨1, [(0, .c (.one (.v (.int .i64 1))))], [some ⟨[.v (.int .i64 (s.st)), .v (.bool (s.op)), .v (.bool (s.vi)), .v (.bool (s.fi)), .v (.int .u8 (s.reg)), .v (.int .i64 (s.cnt)), .v (.string (s.opr)), .v (.string (s.name)), .v (.int .u8 (c)), .v (.string (s.text)), .v (.int .i64 (s.an)), .v (.bool (s.aa)), .v (.int .i64 (s.bn)), .v (.bool (s.ba))], 54⟩], ⟨[], []⟩⟩)
        (cond (c == 115)
          (.leaf [] .normal ⟨1, [(0, .c (.one (.v (.int .i64 1))))], [some ⟨[.v (.int .i64 (s.st)), .v (.bool (s.op)), .v (.bool (s.vi)), .v (.bool (s.fi)), .v (.int .u8 (s.reg)), .v (.int .i64 (s.cnt)), .v (.string (s.opr)), .v (.string (s.name)), .v (.int .u8 (c)), .v (.string (s.text)), .v (.int .i64 (s.an)), .v (.bool (s.aa)), .v (.int .i64 (s.bn)), .v (.bool (s.ba))], 54⟩], ⟨[], []⟩⟩)
          (cond (c == 34)
            (.leaf [] .normal ⟨1, [(0, .c (.one (.v (.int .i64 1))))], [some ⟨[.v (.int .i64 (s.st)), .v (.bool (s.op)), .v (.bool (s.vi)), .v (.bool (s.fi)), .v (.int .u8 (s.reg)), .v (.int .i64 (s.cnt)), .v (.string (s.opr)), .v (.string (s.name)), .v (.int .u8 (c)), .v (.string (s.text)), .v (.int .i64 (s.an)), .v (.bool (s.aa)), .v (.int .i64 (s.bn)), .v (.bool (s.ba))], 54⟩], ⟨[], []⟩⟩)
            (cond (c == 39)
              (.leaf [] .normal ⟨1, [(0, .c (.one (.v (.int .i64 1))))], [some ⟨[.v (.int .i64 (s.st)), .v (.bool (s.op)), .v (.bool (s.vi)), .v (.bool (s.fi)), .v (.int .u8 (s.reg)), .v (.int .i64 (s.cnt)), .v (.string (s.opr)), .v (.string (s.name)), .v (.int .u8 (c)), .v (.string (s.text)), .v (.int .i64 (s.an)), .v (.bool (s.aa)), .v (.int .i64 (s.bn)), .v (.bool (s.ba))], 54⟩], ⟨[], []⟩⟩)
              (cond (c == 96)
                (.leaf [] .normal ⟨1, [(0, .c (.one (.v (.int .i64 1))))], [some ⟨[.v (.int .i64 (s.st)), .v (.bool (s.op)), .v (.bool (s.vi)), .v (.bool (s.fi)), .v (.int .u8 (s.reg)), .v (.int .i64 (s.cnt)), .v (.string (s.opr)), .v (.string (s.name)), .v (.int .u8 (c)), .v (.string (s.text)), .v (.int .i64 (s.an)), .v (.bool (s.aa)), .v (.int .i64 (s.bn)), .v (.bool (s.ba))], 54⟩], ⟨[], []⟩⟩)
                (cond (c == 40)
                  (.leaf [] .normal ⟨1, [(0, .c (.one (.v (.int .i64 1))))], [some ⟨[.v (.int .i64 (s.st)), .v (.bool (s.op)), .v (.bool (s.vi)), .v (.bool (s.fi)), .v (.int .u8 (s.reg)), .v (.int .i64 (s.cnt)), .v (.string (s.opr)), .v (.string (s.name)), .v (.int .u8 40), .v (.string (s.text)), .v (.int .i64 (s.an)), .v (.bool (s.aa)), .v (.int .i64 (s.bn)), .v (.bool (s.ba))], 54⟩], ⟨[], []⟩⟩)
                  (cond (c == 41)
                    (.leaf [] .normal ⟨1, [(0, .c (.one (.v (.int .i64 1))))], [some ⟨[.v (.int .i64 (s.st)), .v (.bool (s.op)), .v (.bool (s.vi)), .v (.bool (s.fi)), .v (.int .u8 (s.reg)), .v (.int .i64 (s.cnt)), .v (.string (s.opr)), .v (.string (s.name)), .v (.int .u8 40), .v (.string (s.text)), .v (.int .i64 (s.an)), .v (.bool (s.aa)), .v (.int .i64 (s.bn)), .v (.bool (s.ba))], 54⟩], ⟨[], []⟩⟩)
                    (cond (c == 98)
                      (.leaf [] .normal ⟨1, [(0, .c (.one (.v (.int .i64 1))))], [some ⟨[.v (.int .i64 (s.st)), .v (.bool (s.op)), .v (.bool (s.vi)), .v (.bool (s.fi)), .v (.int .u8 (s.reg)), .v (.int .i64 (s.cnt)), .v (.string (s.opr)), .v (.string (s.name)), .v (.int .u8 40), .v (.string (s.text)), .v (.int .i64 (s.an)), .v (.bool (s.aa)), .v (.int .i64 (s.bn)), .v (.bool (s.ba))], 54⟩], ⟨[], []⟩⟩)
                      (cond (c == 91)
                        (.leaf [] .normal ⟨1, [(0, .c (.one (.v (.int .i64 1))))], [some ⟨[.v (.int .i64 (s.st)), .v (.bool (s.op)), .v (.bool (s.vi)), .v (.bool (s.fi)), .v (.int .u8 (s.reg)), .v (.int .i64 (s.cnt)), .v (.string (s.opr)), .v (.string (s.name)), .v (.int .u8 91), .v (.string (s.text)), .v (.int .i64 (s.an)), .v (.bool (s.aa)), .v (.int .i64 (s.bn)), .v (.bool (s.ba))], 54⟩], ⟨[], []⟩⟩)
                        (cond (c == 93)
                          (.leaf [] .normal ⟨1, [(0, .c (.one (.v (.int .i64 1))))], [some ⟨[.v (.int .i64 (s.st)), .v (.bool (s.op)), .v (.bool (s.vi)), .v (.bool (s.fi)), .v (.int .u8 (s.reg)), .v (.int .i64 (s.cnt)), .v (.string (s.opr)), .v (.string (s.name)), .v (.int .u8 91), .v (.string (s.text)), .v (.int .i64 (s.an)), .v (.bool (s.aa)), .v (.int .i64 (s.bn)), .v (.bool (s.ba))], 54⟩], ⟨[], []⟩⟩)
                          (cond (c == 123)
                            (.leaf [] .normal ⟨1, [(0, .c (.one (.v (.int .i64 1))))], [some ⟨[.v (.int .i64 (s.st)), .v (.bool (s.op)), .v (.bool (s.vi)), .v (.bool (s.fi)), .v (.int .u8 (s.reg)), .v (.int .i64 (s.cnt)), .v (.string (s.opr)), .v (.string (s.name)), .v (.int .u8 123), .v (.string (s.text)), .v (.int .i64 (s.an)), .v (.bool (s.aa)), .v (.int .i64 (s.bn)), .v (.bool (s.ba))], 54⟩], ⟨[], []⟩⟩)
                            (cond (c == 125)
                              (.leaf [] .normal ⟨1, [(0, .c (.one (.v (.int .i64 1))))], [some ⟨[.v (.int .i64 (s.st)), .v (.bool (s.op)), .v (.bool (s.vi)), .v (.bool (s.fi)), .v (.int .u8 (s.reg)), .v (.int .i64 (s.cnt)), .v (.string (s.opr)), .v (.string (s.name)), .v (.int .u8 123), .v (.string (s.text)), .v (.int .i64 (s.an)), .v (.bool (s.aa)), .v (.int .i64 (s.bn)), .v (.bool (s.ba))], 54⟩], ⟨[], []⟩⟩)
                              (cond (c == 66)
                                (.leaf [] .normal ⟨1, [(0, .c (.one (.v (.int .i64 1))))], [some ⟨[.v (.int .i64 (s.st)), .v (.bool (s.op)), .v (.bool (s.vi)), .v (.bool (s.fi)), .v (.int .u8 (s.reg)), .v (.int .i64 (s.cnt)), .v (.string (s.opr)), .v (.string (s.name)), .v (.int .u8 123), .v (.string (s.text)), .v (.int .i64 (s.an)), .v (.bool (s.aa)), .v (.int .i64 (s.bn)), .v (.bool (s.ba))], 54⟩], ⟨[], []⟩⟩)
                                (.leaf [] .normal ⟨1, [(0, .c (.one (.v (.int .i64 2))))], [some ⟨[.v (.int .i64 (s.st)), .v (.bool (s.op)), .v (.bool (s.vi)), .v (.bool (s.fi)), .v (.int .u8 (s.reg)), .v (.int .i64 (s.cnt)), .v (.string (s.opr)), .v (.string (s.name)), .v (.int .u8 (s.arg)), .v (.string (s.text)), .v (.int .i64 (s.an)), .v (.bool (s.aa)), .v (.int .i64 (s.bn)), .v (.bool (s.ba))], 54⟩], ⟨[], []⟩⟩))))))))))))))) := by kernel_rfl


theorem ag_ev (s : PS) (c : Int) : ev tbA noRows 400 [.c 44 [], .f 44 1 [] (some 0)] .normal ⟨50, argTmps 0 [.c (.one (.ptr 0 0)), iV .u8 c], [some s.blk], gh0⟩ =
  cond (decide (c ≥ 97))
    (cond (s.name.toList == (⟨#[109]⟩ : ByteArray).toList)
      (cond (!decide (c ≤ 122))
        (cond (c != 96)
          (.leaf [] .normal ⟨1, [(0, .c (.one (.v (.int .i64 2))))], [some ⟨[.v (.int .i64 (s.st)), .v (.bool (s.op)), .v (.bool (s.vi)), .v (.bool (s.fi)), .v (.int .u8 (s.reg)), .v (.int .i64 (s.cnt)), .v (.string (s.opr)), .v (.string (s.name)), .v (.int .u8 (s.arg)), .v (.string (s.text)), .v (.int .i64 (s.an)), .v (.bool (s.aa)), .v (.int .i64 (s.bn)), .v (.bool (s.ba))], 54⟩], ⟨[], []⟩⟩)
          (cond (s.name.toList == (⟨#[113]⟩ : ByteArray).toList)
            (cond (!decide (c ≤ 122))
              (.leaf [] .normal ⟨1, [(0, .c (.one (.v (.int .i64 2))))], [some ⟨[.v (.int .i64 (s.st)), .v (.bool (s.op)), .v (.bool (s.vi)), .v (.bool (s.fi)), .v (.int .u8 (s.reg)), .v (.int .i64 (s.cnt)), .v (.string (s.opr)), .v (.string (s.name)), .v (.int .u8 (s.arg)), .v (.string (s.text)), .v (.int .i64 (s.an)), .v (.bool (s.aa)), .v (.int .i64 (s.bn)), .v (.bool (s.ba))], 54⟩], ⟨[], []⟩⟩)
              (cond (s.name.toList == (⟨#[64]⟩ : ByteArray).toList)
                (cond (!decide (c ≤ 122))
                  (cond (c != 64)
                    (.leaf [] .normal ⟨1, [(0, .c (.one (.v (.int .i64 2))))], [some ⟨[.v (.int .i64 (s.st)), .v (.bool (s.op)), .v (.bool (s.vi)), .v (.bool (s.fi)), .v (.int .u8 (s.reg)), .v (.int .i64 (s.cnt)), .v (.string (s.opr)), .v (.string (s.name)), .v (.int .u8 (s.arg)), .v (.string (s.text)), .v (.int .i64 (s.an)), .v (.bool (s.aa)), .v (.int .i64 (s.bn)), .v (.bool (s.ba))], 54⟩], ⟨[], []⟩⟩)
                    (.leaf [] .normal ⟨1, [(0, .c (.one (.v (.int .i64 1))))], [some ⟨[.v (.int .i64 (s.st)), .v (.bool (s.op)), .v (.bool (s.vi)), .v (.bool (s.fi)), .v (.int .u8 (s.reg)), .v (.int .i64 (s.cnt)), .v (.string (s.opr)), .v (.string (s.name)), .v (.int .u8 (c)), .v (.string (s.text)), .v (.int .i64 (s.an)), .v (.bool (s.aa)), .v (.int .i64 (s.bn)), .v (.bool (s.ba))], 54⟩], ⟨[], []⟩⟩))
                  (.leaf [] .normal ⟨1, [(0, .c (.one (.v (.int .i64 1))))], [some ⟨[.v (.int .i64 (s.st)), .v (.bool (s.op)), .v (.bool (s.vi)), .v (.bool (s.fi)), .v (.int .u8 (s.reg)), .v (.int .i64 (s.cnt)), .v (.string (s.opr)), .v (.string (s.name)), .v (.int .u8 (c)), .v (.string (s.text)), .v (.int .i64 (s.an)), .v (.bool (s.aa)), .v (.int .i64 (s.bn)), .v (.bool (s.ba))], 54⟩], ⟨[], []⟩⟩))
                (.leaf [] .normal ⟨1, [(0, .c (.one (.v (.int .i64 1))))], [some ⟨[.v (.int .i64 (s.st)), .v (.bool (s.op)), .v (.bool (s.vi)), .v (.bool (s.fi)), .v (.int .u8 (s.reg)), .v (.int .i64 (s.cnt)), .v (.string (s.opr)), .v (.string (s.name)), .v (.int .u8 (c)), .v (.string (s.text)), .v (.int .i64 (s.an)), .v (.bool (s.aa)), .v (.int .i64 (s.bn)), .v (.bool (s.ba))], 54⟩], ⟨[], []⟩⟩)))
            (cond (s.name.toList == (⟨#[64]⟩ : ByteArray).toList)
              (cond (!decide (c ≤ 122))
                (cond (c != 64)
                  (.leaf [] .normal ⟨1, [(0, .c (.one (.v (.int .i64 2))))], [some ⟨[.v (.int .i64 (s.st)), .v (.bool (s.op)), .v (.bool (s.vi)), .v (.bool (s.fi)), .v (.int .u8 (s.reg)), .v (.int .i64 (s.cnt)), .v (.string (s.opr)), .v (.string (s.name)), .v (.int .u8 (s.arg)), .v (.string (s.text)), .v (.int .i64 (s.an)), .v (.bool (s.aa)), .v (.int .i64 (s.bn)), .v (.bool (s.ba))], 54⟩], ⟨[], []⟩⟩)
                  (.leaf [] .normal ⟨1, [(0, .c (.one (.v (.int .i64 1))))], [some ⟨[.v (.int .i64 (s.st)), .v (.bool (s.op)), .v (.bool (s.vi)), .v (.bool (s.fi)), .v (.int .u8 (s.reg)), .v (.int .i64 (s.cnt)), .v (.string (s.opr)), .v (.string (s.name)), .v (.int .u8 (c)), .v (.string (s.text)), .v (.int .i64 (s.an)), .v (.bool (s.aa)), .v (.int .i64 (s.bn)), .v (.bool (s.ba))], 54⟩], ⟨[], []⟩⟩))
                (.leaf [] .normal ⟨1, [(0, .c (.one (.v (.int .i64 1))))], [some ⟨[.v (.int .i64 (s.st)), .v (.bool (s.op)), .v (.bool (s.vi)), .v (.bool (s.fi)), .v (.int .u8 (s.reg)), .v (.int .i64 (s.cnt)), .v (.string (s.opr)), .v (.string (s.name)), .v (.int .u8 (c)), .v (.string (s.text)), .v (.int .i64 (s.an)), .v (.bool (s.aa)), .v (.int .i64 (s.bn)), .v (.bool (s.ba))], 54⟩], ⟨[], []⟩⟩))
              (.leaf [] .normal ⟨1, [(0, .c (.one (.v (.int .i64 1))))], [some ⟨[.v (.int .i64 (s.st)), .v (.bool (s.op)), .v (.bool (s.vi)), .v (.bool (s.fi)), .v (.int .u8 (s.reg)), .v (.int .i64 (s.cnt)), .v (.string (s.opr)), .v (.string (s.name)), .v (.int .u8 (c)), .v (.string (s.text)), .v (.int .i64 (s.an)), .v (.bool (s.aa)), .v (.int .i64 (s.bn)), .v (.bool (s.ba))], 54⟩], ⟨[], []⟩⟩))))
        (cond (s.name.toList == (⟨#[113]⟩ : ByteArray).toList)
          (cond (!decide (c ≤ 122))
            (.leaf [] .normal ⟨1, [(0, .c (.one (.v (.int .i64 2))))], [some ⟨[.v (.int .i64 (s.st)), .v (.bool (s.op)), .v (.bool (s.vi)), .v (.bool (s.fi)), .v (.int .u8 (s.reg)), .v (.int .i64 (s.cnt)), .v (.string (s.opr)), .v (.string (s.name)), .v (.int .u8 (s.arg)), .v (.string (s.text)), .v (.int .i64 (s.an)), .v (.bool (s.aa)), .v (.int .i64 (s.bn)), .v (.bool (s.ba))], 54⟩], ⟨[], []⟩⟩)
            (cond (s.name.toList == (⟨#[64]⟩ : ByteArray).toList)
              (cond (!decide (c ≤ 122))
                (cond (c != 64)
                  (.leaf [] .normal ⟨1, [(0, .c (.one (.v (.int .i64 2))))], [some ⟨[.v (.int .i64 (s.st)), .v (.bool (s.op)), .v (.bool (s.vi)), .v (.bool (s.fi)), .v (.int .u8 (s.reg)), .v (.int .i64 (s.cnt)), .v (.string (s.opr)), .v (.string (s.name)), .v (.int .u8 (s.arg)), .v (.string (s.text)), .v (.int .i64 (s.an)), .v (.bool (s.aa)), .v (.int .i64 (s.bn)), .v (.bool (s.ba))], 54⟩], ⟨[], []⟩⟩)
                  (.leaf [] .normal ⟨1, [(0, .c (.one (.v (.int .i64 1))))], [some ⟨[.v (.int .i64 (s.st)), .v (.bool (s.op)), .v (.bool (s.vi)), .v (.bool (s.fi)), .v (.int .u8 (s.reg)), .v (.int .i64 (s.cnt)), .v (.string (s.opr)), .v (.string (s.name)), .v (.int .u8 (c)), .v (.string (s.text)), .v (.int .i64 (s.an)), .v (.bool (s.aa)), .v (.int .i64 (s.bn)), .v (.bool (s.ba))], 54⟩], ⟨[], []⟩⟩))
                (.leaf [] .normal ⟨1, [(0, .c (.one (.v (.int .i64 1))))], [some ⟨[.v (.int .i64 (s.st)), .v (.bool (s.op)), .v (.bool (s.vi)), .v (.bool (s.fi)), .v (.int .u8 (s.reg)), .v (.int .i64 (s.cnt)), .v (.string (s.opr)), .v (.string (s.name)), .v (.int .u8 (c)), .v (.string (s.text)), .v (.int .i64 (s.an)), .v (.bool (s.aa)), .v (.int .i64 (s.bn)), .v (.bool (s.ba))], 54⟩], ⟨[], []⟩⟩))
              (.leaf [] .normal ⟨1, [(0, .c (.one (.v (.int .i64 1))))], [some ⟨[.v (.int .i64 (s.st)), .v (.bool (s.op)), .v (.bool (s.vi)), .v (.bool (s.fi)), .v (.int .u8 (s.reg)), .v (.int .i64 (s.cnt)), .v (.string (s.opr)), .v (.string (s.name)), .v (.int .u8 (c)), .v (.string (s.text)), .v (.int .i64 (s.an)), .v (.bool (s.aa)), .v (.int .i64 (s.bn)), .v (.bool (s.ba))], 54⟩], ⟨[], []⟩⟩)))
          (cond (s.name.toList == (⟨#[64]⟩ : ByteArray).toList)
            (cond (!decide (c ≤ 122))
              (cond (c != 64)
                (.leaf [] .normal ⟨1, [(0, .c (.one (.v (.int .i64 2))))], [some ⟨[.v (.int .i64 (s.st)), .v (.bool (s.op)), .v (.bool (s.vi)), .v (.bool (s.fi)), .v (.int .u8 (s.reg)), .v (.int .i64 (s.cnt)), .v (.string (s.opr)), .v (.string (s.name)), .v (.int .u8 (s.arg)), .v (.string (s.text)), .v (.int .i64 (s.an)), .v (.bool (s.aa)), .v (.int .i64 (s.bn)), .v (.bool (s.ba))], 54⟩], ⟨[], []⟩⟩)
                (.leaf [] .normal ⟨1, [(0, .c (.one (.v (.int .i64 1))))], [some ⟨[.v (.int .i64 (s.st)), .v (.bool (s.op)), .v (.bool (s.vi)), .v (.bool (s.fi)), .v (.int .u8 (s.reg)), .v (.int .i64 (s.cnt)), .v (.string (s.opr)), .v (.string (s.name)), .v (.int .u8 (c)), .v (.string (s.text)), .v (.int .i64 (s.an)), .v (.bool (s.aa)), .v (.int .i64 (s.bn)), .v (.bool (s.ba))], 54⟩], ⟨[], []⟩⟩))
              (.leaf [] .normal ⟨1, [(0, .c (.one (.v (.int .i64 1))))], [some ⟨[.v (.int .i64 (s.st)), .v (.bool (s.op)), .v (.bool (s.vi)), .v (.bool (s.fi)), .v (.int .u8 (s.reg)), .v (.int .i64 (s.cnt)), .v (.string (s.opr)), .v (.string (s.name)), .v (.int .u8 (c)), .v (.string (s.text)), .v (.int .i64 (s.an)), .v (.bool (s.aa)), .v (.int .i64 (s.bn)), .v (.bool (s.ba))], 54⟩], ⟨[], []⟩⟩))
            (.leaf [] .normal ⟨1, [(0, .c (.one (.v (.int .i64 1))))], [some ⟨[.v (.int .i64 (s.st)), .v (.bool (s.op)), .v (.bool (s.vi)), .v (.bool (s.fi)), .v (.int .u8 (s.reg)), .v (.int .i64 (s.cnt)), .v (.string (s.opr)), .v (.string (s.name)), .v (.int .u8 (c)), .v (.string (s.text)), .v (.int .i64 (s.an)), .v (.bool (s.aa)), .v (.int .i64 (s.bn)), .v (.bool (s.ba))], 54⟩], ⟨[], []⟩⟩))))
      (cond (s.name.toList == (⟨#[113]⟩ : ByteArray).toList)
        (cond (!decide (c ≤ 122))
          (.leaf [] .normal ⟨1, [(0, .c (.one (.v (.int .i64 2))))], [some ⟨[.v (.int .i64 (s.st)), .v (.bool (s.op)), .v (.bool (s.vi)), .v (.bool (s.fi)), .v (.int .u8 (s.reg)), .v (.int .i64 (s.cnt)), .v (.string (s.opr)), .v (.string (s.name)), .v (.int .u8 (s.arg)), .v (.string (s.text)), .v (.int .i64 (s.an)), .v (.bool (s.aa)), .v (.int .i64 (s.bn)), .v (.bool (s.ba))], 54⟩], ⟨[], []⟩⟩)
          (cond (s.name.toList == (⟨#[64]⟩ : ByteArray).toList)
            (cond (!decide (c ≤ 122))
              (cond (c != 64)
                (.leaf [] .normal ⟨1, [(0, .c (.one (.v (.int .i64 2))))], [some ⟨[.v (.int .i64 (s.st)), .v (.bool (s.op)), .v (.bool (s.vi)), .v (.bool (s.fi)), .v (.int .u8 (s.reg)), .v (.int .i64 (s.cnt)), .v (.string (s.opr)), .v (.string (s.name)), .v (.int .u8 (s.arg)), .v (.string (s.text)), .v (.int .i64 (s.an)), .v (.bool (s.aa)), .v (.int .i64 (s.bn)), .v (.bool (s.ba))], 54⟩], ⟨[], []⟩⟩)
                (.leaf [] .normal ⟨1, [(0, .c (.one (.v (.int .i64 1))))], [some ⟨[.v (.int .i64 (s.st)), .v (.bool (s.op)), .v (.bool (s.vi)), .v (.bool (s.fi)), .v (.int .u8 (s.reg)), .v (.int .i64 (s.cnt)), .v (.string (s.opr)), .v (.string (s.name)), .v (.int .u8 (c)), .v (.string (s.text)), .v (.int .i64 (s.an)), .v (.bool (s.aa)), .v (.int .i64 (s.bn)), .v (.bool (s.ba))], 54⟩], ⟨[], []⟩⟩))
              (.leaf [] .normal ⟨1, [(0, .c (.one (.v (.int .i64 1))))], [some ⟨[.v (.int .i64 (s.st)), .v (.bool (s.op)), .v (.bool (s.vi)), .v (.bool (s.fi)), .v (.int .u8 (s.reg)), .v (.int .i64 (s.cnt)), .v (.string (s.opr)), .v (.string (s.name)), .v (.int .u8 (c)), .v (.string (s.text)), .v (.int .i64 (s.an)), .v (.bool (s.aa)), .v (.int .i64 (s.bn)), .v (.bool (s.ba))], 54⟩], ⟨[], []⟩⟩))
            (.leaf [] .normal ⟨1, [(0, .c (.one (.v (.int .i64 1))))], [some ⟨[.v (.int .i64 (s.st)), .v (.bool (s.op)), .v (.bool (s.vi)), .v (.bool (s.fi)), .v (.int .u8 (s.reg)), .v (.int .i64 (s.cnt)), .v (.string (s.opr)), .v (.string (s.name)), .v (.int .u8 (c)), .v (.string (s.text)), .v (.int .i64 (s.an)), .v (.bool (s.aa)), .v (.int .i64 (s.bn)), .v (.bool (s.ba))], 54⟩], ⟨[], []⟩⟩)))
        (cond (s.name.toList == (⟨#[64]⟩ : ByteArray).toList)
          (cond (!decide (c ≤ 122))
            (cond (c != 64)
              (.leaf [] .normal ⟨1, [(0, .c (.one (.v (.int .i64 2))))], [some ⟨[.v (.int .i64 (s.st)), .v (.bool (s.op)), .v (.bool (s.vi)), .v (.bool (s.fi)), .v (.int .u8 (s.reg)), .v (.int .i64 (s.cnt)), .v (.string (s.opr)), .v (.string (s.name)), .v (.int .u8 (s.arg)), .v (.string (s.text)), .v (.int .i64 (s.an)), .v (.bool (s.aa)), .v (.int .i64 (s.bn)), .v (.bool (s.ba))], 54⟩], ⟨[], []⟩⟩)
              (.leaf [] .normal ⟨1, [(0, .c (.one (.v (.int .i64 1))))], [some ⟨[.v (.int .i64 (s.st)), .v (.bool (s.op)), .v (.bool (s.vi)), .v (.bool (s.fi)), .v (.int .u8 (s.reg)), .v (.int .i64 (s.cnt)), .v (.string (s.opr)), .v (.string (s.name)), .v (.int .u8 (c)), .v (.string (s.text)), .v (.int .i64 (s.an)), .v (.bool (s.aa)), .v (.int .i64 (s.bn)), .v (.bool (s.ba))], 54⟩], ⟨[], []⟩⟩))
            (.leaf [] .normal ⟨1, [(0, .c (.one (.v (.int .i64 1))))], [some ⟨[.v (.int .i64 (s.st)), .v (.bool (s.op)), .v (.bool (s.vi)), .v (.bool (s.fi)), .v (.int .u8 (s.reg)), .v (.int .i64 (s.cnt)), .v (.string (s.opr)), .v (.string (s.name)), .v (.int .u8 (c)), .v (.string (s.text)), .v (.int .i64 (s.an)), .v (.bool (s.aa)), .v (.int .i64 (s.bn)), .v (.bool (s.ba))], 54⟩], ⟨[], []⟩⟩))
          (.leaf [] .normal ⟨1, [(0, .c (.one (.v (.int .i64 1))))], [some ⟨[.v (.int .i64 (s.st)), .v (.bool (s.op)), .v (.bool (s.vi)), .v (.bool (s.fi)), .v (.int .u8 (s.reg)), .v (.int .i64 (s.cnt)), .v (.string (s.opr)), .v (.string (s.name)), .v (.int .u8 (c)), .v (.string (s.text)), .v (.int .i64 (s.an)), .v (.bool (s.aa)), .v (.int .i64 (s.bn)), .v (.bool (s.ba))], 54⟩], ⟨[], []⟩⟩))))
    (cond (s.name.toList == (⟨#[109]⟩ : ByteArray).toList)
      (cond (c != 96)
        (.leaf [] .normal ⟨1, [(0, .c (.one (.v (.int .i64 2))))], [some ⟨[.v (.int .i64 (s.st)), .v (.bool (s.op)), .v (.bool (s.vi)), .v (.bool (s.fi)), .v (.int .u8 (s.reg)), .v (.int .i64 (s.cnt)), .v (.string (s.opr)), .v (.string (s.name)), .v (.int .u8 (s.arg)), .v (.string (s.text)), .v (.int .i64 (s.an)), .v (.bool (s.aa)), .v (.int .i64 (s.bn)), .v (.bool (s.ba))], 54⟩], ⟨[], []⟩⟩)
        (cond (s.name.toList == (⟨#[113]⟩ : ByteArray).toList)
          (.leaf [] .normal ⟨1, [(0, .c (.one (.v (.int .i64 2))))], [some ⟨[.v (.int .i64 (s.st)), .v (.bool (s.op)), .v (.bool (s.vi)), .v (.bool (s.fi)), .v (.int .u8 (s.reg)), .v (.int .i64 (s.cnt)), .v (.string (s.opr)), .v (.string (s.name)), .v (.int .u8 (s.arg)), .v (.string (s.text)), .v (.int .i64 (s.an)), .v (.bool (s.aa)), .v (.int .i64 (s.bn)), .v (.bool (s.ba))], 54⟩], ⟨[], []⟩⟩)
          (cond (s.name.toList == (⟨#[64]⟩ : ByteArray).toList)
            (cond (c != 64)
              (.leaf [] .normal ⟨1, [(0, .c (.one (.v (.int .i64 2))))], [some ⟨[.v (.int .i64 (s.st)), .v (.bool (s.op)), .v (.bool (s.vi)), .v (.bool (s.fi)), .v (.int .u8 (s.reg)), .v (.int .i64 (s.cnt)), .v (.string (s.opr)), .v (.string (s.name)), .v (.int .u8 (s.arg)), .v (.string (s.text)), .v (.int .i64 (s.an)), .v (.bool (s.aa)), .v (.int .i64 (s.bn)), .v (.bool (s.ba))], 54⟩], ⟨[], []⟩⟩)
              (.leaf [] .normal ⟨1, [(0, .c (.one (.v (.int .i64 1))))], [some ⟨[.v (.int .i64 (s.st)), .v (.bool (s.op)), .v (.bool (s.vi)), .v (.bool (s.fi)), .v (.int .u8 (s.reg)), .v (.int .i64 (s.cnt)), .v (.string (s.opr)), .v (.string (s.name)), .v (.int .u8 (c)), .v (.string (s.text)), .v (.int .i64 (s.an)), .v (.bool (s.aa)), .v (.int .i64 (s.bn)), .v (.bool (s.ba))], 54⟩], ⟨[], []⟩⟩))
            (.leaf [] .normal ⟨1, [(0, .c (.one (.v (.int .i64 1))))], [some ⟨[.v (.int .i64 (s.st)), .v (.bool (s.op)), .v (.bool (s.vi)), .v (.bool (s.fi)), .v (.int .u8 (s.reg)), .v (.int .i64 (s.cnt)), .v (.string (s.opr)), .v (.string (s.name)), .v (.int .u8 (c)), .v (.string (s.text)), .v (.int .i64 (s.an)), .v (.bool (s.aa)), .v (.int .i64 (s.bn)), .v (.bool (s.ba))], 54⟩], ⟨[], []⟩⟩))))
      (cond (s.name.toList == (⟨#[113]⟩ : ByteArray).toList)
        (.leaf [] .normal ⟨1, [(0, .c (.one (.v (.int .i64 2))))], [some ⟨[.v (.int .i64 (s.st)), .v (.bool (s.op)), .v (.bool (s.vi)), .v (.bool (s.fi)), .v (.int .u8 (s.reg)), .v (.int .i64 (s.cnt)), .v (.string (s.opr)), .v (.string (s.name)), .v (.int .u8 (s.arg)), .v (.string (s.text)), .v (.int .i64 (s.an)), .v (.bool (s.aa)), .v (.int .i64 (s.bn)), .v (.bool (s.ba))], 54⟩], ⟨[], []⟩⟩)
        (cond (s.name.toList == (⟨#[64]⟩ : ByteArray).toList)
          (cond (c != 64)
            (.leaf [] .normal ⟨1, [(0, .c (.one (.v (.int .i64 2))))], [some ⟨[.v (.int .i64 (s.st)), .v (.bool (s.op)), .v (.bool (s.vi)), .v (.bool (s.fi)), .v (.int .u8 (s.reg)), .v (.int .i64 (s.cnt)), .v (.string (s.opr)), .v (.string (s.name)), .v (.int .u8 (s.arg)), .v (.string (s.text)), .v (.int .i64 (s.an)), .v (.bool (s.aa)), .v (.int .i64 (s.bn)), .v (.bool (s.ba))], 54⟩], ⟨[], []⟩⟩)
            (.leaf [] .normal ⟨1, [(0, .c (.one (.v (.int .i64 1))))], [some ⟨[.v (.int .i64 (s.st)), .v (.bool (s.op)), .v (.bool (s.vi)), .v (.bool (s.fi)), .v (.int .u8 (s.reg)), .v (.int .i64 (s.cnt)), .v (.string (s.opr)), .v (.string (s.name)), .v (.int .u8 (c)), .v (.string (s.text)), .v (.int .i64 (s.an)), .v (.bool (s.aa)), .v (.int .i64 (s.bn)), .v (.bool (s.ba))], 54⟩], ⟨[], []⟩⟩))
          (.leaf [] .normal ⟨1, [(0, .c (.one (.v (.int .i64 1))))], [some ⟨[.v (.int .i64 (s.st)), .v (.bool (s.op)), .v (.bool (s.vi)), .v (.bool (s.fi)), .v (.int .u8 (s.reg)), .v (.int .i64 (s.cnt)), .v (.string (s.opr)), .v (.string (s.name)), .v (.int .u8 (c)), .v (.string (s.text)), .v (.int .i64 (s.an)), .v (.bool (s.aa)), .v (.int .i64 (s.bn)), .v (.bool (s.ba))], 54⟩], ⟨[], []⟩⟩)))) := by kernel_rfl


theorem se_ev (s : PS) (c : Int) : ev tbA noRows 400 [.c 45 [], .f 45 1 [] (some 0)] .normal ⟨54, argTmps 0 [.c (.one (.ptr 0 0)), iV .u8 c], [some s.blk], gh0⟩ =
  cond (c == 13)
    (.leaf [] .normal ⟨1, [(0, .c (.one (.v (.int .i64 1))))], [some ⟨[.v (.int .i64 (s.st)), .v (.bool (s.op)), .v (.bool (s.vi)), .v (.bool (s.fi)), .v (.int .u8 (s.reg)), .v (.int .i64 (s.cnt)), .v (.string (s.opr)), .v (.string (s.name)), .v (.int .u8 (s.arg)), .v (.string (s.text)), .v (.int .i64 (s.an)), .v (.bool (s.aa)), .v (.int .i64 (s.bn)), .v (.bool (s.ba))], 54⟩], ⟨[], []⟩⟩)
    (cond (c == 10)
      (.leaf [] .normal ⟨1, [(0, .c (.one (.v (.int .i64 2))))], [some ⟨[.v (.int .i64 (s.st)), .v (.bool (s.op)), .v (.bool (s.vi)), .v (.bool (s.fi)), .v (.int .u8 (s.reg)), .v (.int .i64 (s.cnt)), .v (.string (s.opr)), .v (.string (s.name)), .v (.int .u8 (s.arg)), .v (.string (s.text)), .v (.int .i64 (s.an)), .v (.bool (s.aa)), .v (.int .i64 (s.bn)), .v (.bool (s.ba))], 54⟩], ⟨[], []⟩⟩)
      (cond (c == 8)
        (cond ((↑s.text.size : Int) == 0)
          (.leaf [] .normal ⟨1, [(0, .c (.one (.v (.int .i64 2))))], [some ⟨[.v (.int .i64 (s.st)), .v (.bool (s.op)), .v (.bool (s.vi)), .v (.bool (s.fi)), .v (.int .u8 (s.reg)), .v (.int .i64 (s.cnt)), .v (.string (s.opr)), .v (.string (s.name)), .v (.int .u8 (s.arg)), .v (.string (s.text)), .v (.int .i64 (s.an)), .v (.bool (s.aa)), .v (.int .i64 (s.bn)), .v (.bool (s.ba))], 54⟩], ⟨[], []⟩⟩)
          (cond (decide   (0 ≤ IntKind.i64.wrap ((↑s.text.size : Int) - 1) ∧ IntKind.i64.wrap ((↑s.text.size : Int) - 1) ≤ (↑s.text.size : Int)))
            (.leaf [] .normal ⟨1, [(0, .c (.one (.v (.int .i64 0))))], [some ⟨[.v (.int .i64 (s.st)), .v (.bool (s.op)), .v (.bool (s.vi)), .v (.bool (s.fi)), .v (.int .u8 (s.reg)), .v (.int .i64 (s.cnt)), .v (.string (s.opr)), .v (.string (s.name)), .v (.int .u8 (s.arg)), .v (.string (s.text.extract 0 (IntKind.i64.wrap ((↑s.text.size : Int) - 1)).toNat)), .v (.int .i64 (s.an)), .v (.bool (s.aa)), .v (.int .i64 (s.bn)), .v (.bool (s.ba))], 54⟩], ⟨[], []⟩⟩)
            (.leaf [.o 45 [0, 1, 0, 1, 1, 1, 1, 1, 0, 0, 1, 1] [8, 9, 10, 11, 12], .c 45 [1, 1, 0, 1, 1, 1, 1, 1, 0, 0, 1, 1], .b 0, .c 45 [1, 1, 1], .f 45 1 [] (some 0)] .normal ⟨54, [(34, .c (.one (.v (.int .i64 (IntKind.i64.wrap ((↑s.text.size : Int) - 1)))))), (33, .c (.one (.v (.int .i64 ((↑s.text.size : Int)))))), (32, .c (.one (.v (.string (s.text))))), (31, .c (.one (.ptr 0 9))), (30, .c (.one (.ptr 0 4))), (29, .c (.one (.ptr 0 0))), (28, .c (.one (.ptr 0 0))), (27, .c (.one (.ptr 0 0))), (5, .c (.one (.v (.int .i64 ((↑s.text.size : Int)))))), (4, .c (.one (.v (.int .i64 0)))), (0, .c (.one (.ptr 0 0))), (1, .c (.one (.v (.int .u8 (c)))))], [some ⟨[.v (.int .i64 (s.st)), .v (.bool (s.op)), .v (.bool (s.vi)), .v (.bool (s.fi)), .v (.int .u8 (s.reg)), .v (.int .i64 (s.cnt)), .v (.string (s.opr)), .v (.string (s.name)), .v (.int .u8 (s.arg)), .v (.string (s.text)), .v (.int .i64 (s.an)), .v (.bool (s.aa)), .v (.int .i64 (s.bn)), .v (.bool (s.ba))], 54⟩], ⟨[], []⟩⟩)))
        (cond (c == 127)
          (cond ((↑s.text.size : Int) == 0)
            (.leaf [] .normal ⟨1, [(0, .c (.one (.v (.int .i64 2))))], [some ⟨[.v (.int .i64 (s.st)), .v (.bool (s.op)), .v (.bool (s.vi)), .v (.bool (s.fi)), .v (.int .u8 (s.reg)), .v (.int .i64 (s.cnt)), .v (.string (s.opr)), .v (.string (s.name)), .v (.int .u8 (s.arg)), .v (.string (s.text)), .v (.int .i64 (s.an)), .v (.bool (s.aa)), .v (.int .i64 (s.bn)), .v (.bool (s.ba))], 54⟩], ⟨[], []⟩⟩)
            (cond (decide   (0 ≤ IntKind.i64.wrap ((↑s.text.size : Int) - 1) ∧ IntKind.i64.wrap ((↑s.text.size : Int) - 1) ≤ (↑s.text.size : Int)))
              (.leaf [] .normal ⟨1, [(0, .c (.one (.v (.int .i64 0))))], [some ⟨[.v (.int .i64 (s.st)), .v (.bool (s.op)), .v (.bool (s.vi)), .v (.bool (s.fi)), .v (.int .u8 (s.reg)), .v (.int .i64 (s.cnt)), .v (.string (s.opr)), .v (.string (s.name)), .v (.int .u8 (s.arg)), .v (.string (s.text.extract 0 (IntKind.i64.wrap ((↑s.text.size : Int) - 1)).toNat)), .v (.int .i64 (s.an)), .v (.bool (s.aa)), .v (.int .i64 (s.bn)), .v (.bool (s.ba))], 54⟩], ⟨[], []⟩⟩)
              (.leaf [.o 45 [0, 1, 0, 1, 1, 1, 1, 1, 0, 0, 1, 1] [8, 9, 10, 11, 12], .c 45 [1, 1, 0, 1, 1, 1, 1, 1, 0, 0, 1, 1], .b 0, .c 45 [1, 1, 1], .f 45 1 [] (some 0)] .normal ⟨54, [(34, .c (.one (.v (.int .i64 (IntKind.i64.wrap ((↑s.text.size : Int) - 1)))))), (33, .c (.one (.v (.int .i64 ((↑s.text.size : Int)))))), (32, .c (.one (.v (.string (s.text))))), (31, .c (.one (.ptr 0 9))), (30, .c (.one (.ptr 0 4))), (29, .c (.one (.ptr 0 0))), (28, .c (.one (.ptr 0 0))), (27, .c (.one (.ptr 0 0))), (5, .c (.one (.v (.int .i64 ((↑s.text.size : Int)))))), (4, .c (.one (.v (.int .i64 0)))), (0, .c (.one (.ptr 0 0))), (1, .c (.one (.v (.int .u8 (c)))))], [some ⟨[.v (.int .i64 (s.st)), .v (.bool (s.op)), .v (.bool (s.vi)), .v (.bool (s.fi)), .v (.int .u8 (s.reg)), .v (.int .i64 (s.cnt)), .v (.string (s.opr)), .v (.string (s.name)), .v (.int .u8 (s.arg)), .v (.string (s.text)), .v (.int .i64 (s.an)), .v (.bool (s.aa)), .v (.int .i64 (s.bn)), .v (.bool (s.ba))], 54⟩], ⟨[], []⟩⟩)))
          (cond ((↑s.text.size : Int) == 64)
            (.leaf [] .normal ⟨1, [(0, .c (.one (.v (.int .i64 2))))], [some ⟨[.v (.int .i64 (s.st)), .v (.bool (s.op)), .v (.bool (s.vi)), .v (.bool (s.fi)), .v (.int .u8 (s.reg)), .v (.int .i64 (s.cnt)), .v (.string (s.opr)), .v (.string (s.name)), .v (.int .u8 (s.arg)), .v (.string (s.text)), .v (.int .i64 (s.an)), .v (.bool (s.aa)), .v (.int .i64 (s.bn)), .v (.bool (s.ba))], 54⟩], ⟨[], []⟩⟩)
            (.both
              (cond (decide (s.text.size + (strOfNums [c]).size ≤ 9223372036854775807))
                (.leaf [] .normal ⟨1, [(0, .c (.one (.v (.int .i64 0))))], [some ⟨[.v (.int .i64 (s.st)), .v (.bool (s.op)), .v (.bool (s.vi)), .v (.bool (s.fi)), .v (.int .u8 (s.reg)), .v (.int .i64 (s.cnt)), .v (.string (s.opr)), .v (.string (s.name)), .v (.int .u8 (s.arg)), .v (.string (s.text ++ strOfNums [c])), .v (.int .i64 (s.an)), .v (.bool (s.aa)), .v (.int .i64 (s.bn)), .v (.bool (s.ba))], 54⟩, some ⟨[.v (.int .u8 (c))], 5⟩], ⟨[], []⟩⟩)
                (.leaf [.d 45 [0, 1, 1, 1] 5 [true, true, true, true, true, true, true, true, false, false, false, false, false] [], .c 45 [1, 1, 1, 1], .f 45 1 [] (some 0)] .normal ⟨54, [(49, .c (.one (.v (.string (strOfNums [c]))))), (48, .c (.one (.bsl 1 1))), (46, .c (.one (.v (.string (s.text))))), (47, .c (.one (.v (.int .u8 (c))))), (45, .c (.one (.ptr 0 9))), (44, .c (.one (.ptr 0 4))), (43, .c (.one (.ptr 0 0))), (42, .c (.one (.ptr 0 0))), (5, .c (.one (.v (.int .i64 ((↑s.text.size : Int)))))), (4, .c (.one (.v (.int .i64 0)))), (0, .c (.one (.ptr 0 0))), (1, .c (.one (.v (.int .u8 (c)))))], [some ⟨[.v (.int .i64 (s.st)), .v (.bool (s.op)), .v (.bool (s.vi)), .v (.bool (s.fi)), .v (.int .u8 (s.reg)), .v (.int .i64 (s.cnt)), .v (.string (s.opr)), .v (.string (s.name)), .v (.int .u8 (s.arg)), .v (.string (s.text)), .v (.int .i64 (s.an)), .v (.bool (s.aa)), .v (.int .i64 (s.bn)), .v (.bool (s.ba))], 54⟩, some ⟨[.v (.int .u8 (c))], 5⟩], ⟨[], []⟩⟩))
              (.both
                (cond (decide (s.text.size + (strOfNums [c]).size ≤ 9223372036854775807))
                  (.leaf [] .normal ⟨1, [(0, .c (.one (.v (.int .i64 0))))], [some ⟨[.v (.int .i64 (s.st)), .v (.bool (s.op)), .v (.bool (s.vi)), .v (.bool (s.fi)), .v (.int .u8 (s.reg)), .v (.int .i64 (s.cnt)), .v (.string (s.opr)), .v (.string (s.name)), .v (.int .u8 (s.arg)), .v (.string (s.text ++ strOfNums [c])), .v (.int .i64 (s.an)), .v (.bool (s.aa)), .v (.int .i64 (s.bn)), .v (.bool (s.ba))], 54⟩, some ⟨[.v (.int .u8 (c))], 5⟩], ⟨[], []⟩⟩)
                  (.leaf [.d 45 [0, 1, 1, 1] 5 [true, true, true, true, true, true, true, true, false, false, false, false, false] [], .c 45 [1, 1, 1, 1], .f 45 1 [] (some 0)] .normal ⟨54, [(49, .c (.one (.v (.string (strOfNums [c]))))), (46, .c (.one (.v (.string (s.text))))), (48, .c (.one (.bsl 1 1))), (47, .c (.one (.v (.int .u8 (c))))), (45, .c (.one (.ptr 0 9))), (44, .c (.one (.ptr 0 4))), (43, .c (.one (.ptr 0 0))), (42, .c (.one (.ptr 0 0))), (5, .c (.one (.v (.int .i64 ((↑s.text.size : Int)))))), (4, .c (.one (.v (.int .i64 0)))), (0, .c (.one (.ptr 0 0))), (1, .c (.one (.v (.int .u8 (c)))))], [some ⟨[.v (.int .i64 (s.st)), .v (.bool (s.op)), .v (.bool (s.vi)), .v (.bool (s.fi)), .v (.int .u8 (s.reg)), .v (.int .i64 (s.cnt)), .v (.string (s.opr)), .v (.string (s.name)), .v (.int .u8 (s.arg)), .v (.string (s.text)), .v (.int .i64 (s.an)), .v (.bool (s.aa)), .v (.int .i64 (s.bn)), .v (.bool (s.ba))], 54⟩, some ⟨[.v (.int .u8 (c))], 5⟩], ⟨[], []⟩⟩))
                (cond (decide (s.text.size + (strOfNums [c]).size ≤ 9223372036854775807))
                  (.leaf [] .normal ⟨1, [(0, .c (.one (.v (.int .i64 0))))], [some ⟨[.v (.int .i64 (s.st)), .v (.bool (s.op)), .v (.bool (s.vi)), .v (.bool (s.fi)), .v (.int .u8 (s.reg)), .v (.int .i64 (s.cnt)), .v (.string (s.opr)), .v (.string (s.name)), .v (.int .u8 (s.arg)), .v (.string (s.text ++ strOfNums [c])), .v (.int .i64 (s.an)), .v (.bool (s.aa)), .v (.int .i64 (s.bn)), .v (.bool (s.ba))], 54⟩, some ⟨[.v (.int .u8 (c))], 5⟩], ⟨[], []⟩⟩)
                  (.leaf [.d 45 [0, 1, 1, 1] 5 [true, true, true, true, true, true, true, true, false, false, false, false, false] [], .c 45 [1, 1, 1, 1], .f 45 1 [] (some 0)] .normal ⟨54, [(46, .c (.one (.v (.string (s.text))))), (49, .c (.one (.v (.string (strOfNums [c]))))), (48, .c (.one (.bsl 1 1))), (47, .c (.one (.v (.int .u8 (c))))), (45, .c (.one (.ptr 0 9))), (44, .c (.one (.ptr 0 4))), (43, .c (.one (.ptr 0 0))), (42, .c (.one (.ptr 0 0))), (5, .c (.one (.v (.int .i64 ((↑s.text.size : Int)))))), (4, .c (.one (.v (.int .i64 0)))), (0, .c (.one (.ptr 0 0))), (1, .c (.one (.v (.int .u8 (c)))))], [some ⟨[.v (.int .i64 (s.st)), .v (.bool (s.op)), .v (.bool (s.vi)), .v (.bool (s.fi)), .v (.int .u8 (s.reg)), .v (.int .i64 (s.cnt)), .v (.string (s.opr)), .v (.string (s.name)), .v (.int .u8 (s.arg)), .v (.string (s.text)), .v (.int .i64 (s.an)), .v (.bool (s.aa)), .v (.int .i64 (s.bn)), .v (.bool (s.ba))], 54⟩, some ⟨[.v (.int .u8 (c))], 5⟩], ⟨[], []⟩⟩)))))))) := by kernel_rfl


theorem mt_ev (s : PS) (c : Int) : ev tbA noRows 400 [.c 56 [], .f 56 1 [] (some 0)] .normal ⟨39, argTmps 0 [.c (.one (.ptr 0 0)), iV .u8 c], [some s.blk], gh0⟩ =
  cond (c == 13)
    (.leaf [] .normal ⟨1, [(0, .c (.one (.v (.int .i64 1))))], [some ⟨[.v (.int .i64 (s.st)), .v (.bool (s.op)), .v (.bool (s.vi)), .v (.bool (s.fi)), .v (.int .u8 (s.reg)), .v (.int .i64 (s.cnt)), .v (.string (s.opr)), .v (.string ((⟨#[43]⟩ : ByteArray))), .v (.int .u8 (s.arg)), .v (.string (s.text)), .v (.int .i64 (s.an)), .v (.bool (s.aa)), .v (.int .i64 (s.bn)), .v (.bool (s.ba))], 54⟩], ⟨[], []⟩⟩)
    (cond (c == 103)
      (.leaf [] .normal ⟨1, [(0, .c (.one (.v (.int .i64 0))))], [some ⟨[.v (.int .i64 4), .v (.bool (s.op)), .v (.bool (s.vi)), .v (.bool (s.fi)), .v (.int .u8 (s.reg)), .v (.int .i64 (s.cnt)), .v (.string (s.opr)), .v (.string (s.name)), .v (.int .u8 (s.arg)), .v (.string (s.text)), .v (.int .i64 (s.an)), .v (.bool (s.aa)), .v (.int .i64 (s.bn)), .v (.bool (s.ba))], 54⟩], ⟨[], []⟩⟩)
      (cond (c == 102)
        (.leaf [] .normal ⟨1, [(0, .c (.one (.v (.int .i64 0))))], [some ⟨[.v (.int .i64 6), .v (.bool (s.op)), .v (.bool (s.vi)), .v (.bool (s.fi)), .v (.int .u8 (s.reg)), .v (.int .i64 (s.cnt)), .v (.string (s.opr)), .v (.string (strOfNums [c])), .v (.int .u8 (s.arg)), .v (.string (s.text)), .v (.int .i64 (s.an)), .v (.bool (s.aa)), .v (.int .i64 (s.bn)), .v (.bool (s.ba))], 54⟩, some ⟨[.v (.int .u8 (c))], 5⟩], ⟨[], []⟩⟩)
        (cond (c == 70)
          (.leaf [] .normal ⟨1, [(0, .c (.one (.v (.int .i64 0))))], [some ⟨[.v (.int .i64 6), .v (.bool (s.op)), .v (.bool (s.vi)), .v (.bool (s.fi)), .v (.int .u8 (s.reg)), .v (.int .i64 (s.cnt)), .v (.string (s.opr)), .v (.string (strOfNums [c])), .v (.int .u8 (s.arg)), .v (.string (s.text)), .v (.int .i64 (s.an)), .v (.bool (s.aa)), .v (.int .i64 (s.bn)), .v (.bool (s.ba))], 54⟩, some ⟨[.v (.int .u8 (c))], 5⟩], ⟨[], []⟩⟩)
          (cond (c == 116)
            (.leaf [] .normal ⟨1, [(0, .c (.one (.v (.int .i64 0))))], [some ⟨[.v (.int .i64 6), .v (.bool (s.op)), .v (.bool (s.vi)), .v (.bool (s.fi)), .v (.int .u8 (s.reg)), .v (.int .i64 (s.cnt)), .v (.string (s.opr)), .v (.string (strOfNums [c])), .v (.int .u8 (s.arg)), .v (.string (s.text)), .v (.int .i64 (s.an)), .v (.bool (s.aa)), .v (.int .i64 (s.bn)), .v (.bool (s.ba))], 54⟩, some ⟨[.v (.int .u8 (c))], 5⟩], ⟨[], []⟩⟩)
            (cond (c == 84)
              (.leaf [] .normal ⟨1, [(0, .c (.one (.v (.int .i64 0))))], [some ⟨[.v (.int .i64 6), .v (.bool (s.op)), .v (.bool (s.vi)), .v (.bool (s.fi)), .v (.int .u8 (s.reg)), .v (.int .i64 (s.cnt)), .v (.string (s.opr)), .v (.string (strOfNums [c])), .v (.int .u8 (s.arg)), .v (.string (s.text)), .v (.int .i64 (s.an)), .v (.bool (s.aa)), .v (.int .i64 (s.bn)), .v (.bool (s.ba))], 54⟩, some ⟨[.v (.int .u8 (c))], 5⟩], ⟨[], []⟩⟩)
              (cond (c == 39)
                (.leaf [] .normal ⟨1, [(0, .c (.one (.v (.int .i64 0))))], [some ⟨[.v (.int .i64 6), .v (.bool (s.op)), .v (.bool (s.vi)), .v (.bool (s.fi)), .v (.int .u8 (s.reg)), .v (.int .i64 (s.cnt)), .v (.string (s.opr)), .v (.string (strOfNums [c])), .v (.int .u8 (s.arg)), .v (.string (s.text)), .v (.int .i64 (s.an)), .v (.bool (s.aa)), .v (.int .i64 (s.bn)), .v (.bool (s.ba))], 54⟩, some ⟨[.v (.int .u8 (c))], 5⟩], ⟨[], []⟩⟩)
                (cond (c == 96)
                  (.leaf [] .normal ⟨1, [(0, .c (.one (.v (.int .i64 0))))], [some ⟨[.v (.int .i64 6), .v (.bool (s.op)), .v (.bool (s.vi)), .v (.bool (s.fi)), .v (.int .u8 (s.reg)), .v (.int .i64 (s.cnt)), .v (.string (s.opr)), .v (.string (strOfNums [c])), .v (.int .u8 (s.arg)), .v (.string (s.text)), .v (.int .i64 (s.an)), .v (.bool (s.aa)), .v (.int .i64 (s.bn)), .v (.bool (s.ba))], 54⟩, some ⟨[.v (.int .u8 (c))], 5⟩], ⟨[], []⟩⟩)
                  (cond (c == 47)
                    (.leaf [] .normal ⟨1, [(0, .c (.one (.v (.int .i64 0))))], [some ⟨[.v (.int .i64 7), .v (.bool (s.op)), .v (.bool (s.vi)), .v (.bool (s.fi)), .v (.int .u8 (s.reg)), .v (.int .i64 (s.cnt)), .v (.string (s.opr)), .v (.string (strOfNums [c])), .v (.int .u8 (s.arg)), .v (.string (s.text)), .v (.int .i64 (s.an)), .v (.bool (s.aa)), .v (.int .i64 (s.bn)), .v (.bool (s.ba))], 54⟩, some ⟨[.v (.int .u8 (c))], 5⟩], ⟨[], []⟩⟩)
                    (cond (c == 63)
                      (.leaf [] .normal ⟨1, [(0, .c (.one (.v (.int .i64 0))))], [some ⟨[.v (.int .i64 7), .v (.bool (s.op)), .v (.bool (s.vi)), .v (.bool (s.fi)), .v (.int .u8 (s.reg)), .v (.int .i64 (s.cnt)), .v (.string (s.opr)), .v (.string (strOfNums [c])), .v (.int .u8 (s.arg)), .v (.string (s.text)), .v (.int .i64 (s.an)), .v (.bool (s.aa)), .v (.int .i64 (s.bn)), .v (.bool (s.ba))], 54⟩, some ⟨[.v (.int .u8 (c))], 5⟩], ⟨[], []⟩⟩)
                      (cond (motionS (strOfNums [c]))
                        (.leaf [] .normal ⟨1, [(0, .c (.one (.v (.int .i64 1))))], [some ⟨[.v (.int .i64 (s.st)), .v (.bool (s.op)), .v (.bool (s.vi)), .v (.bool (s.fi)), .v (.int .u8 (s.reg)), .v (.int .i64 (s.cnt)), .v (.string (s.opr)), .v (.string (strOfNums [c])), .v (.int .u8 (s.arg)), .v (.string (s.text)), .v (.int .i64 (s.an)), .v (.bool (s.aa)), .v (.int .i64 (s.bn)), .v (.bool (s.ba))], 54⟩, some ⟨[.v (.int .u8 (c))], 5⟩], ⟨[], []⟩⟩)
                        (.leaf [] .normal ⟨1, [(0, .c (.one (.v (.int .i64 2))))], [some ⟨[.v (.int .i64 (s.st)), .v (.bool (s.op)), .v (.bool (s.vi)), .v (.bool (s.fi)), .v (.int .u8 (s.reg)), .v (.int .i64 (s.cnt)), .v (.string (s.opr)), .v (.string (s.name)), .v (.int .u8 (s.arg)), .v (.string (s.text)), .v (.int .i64 (s.an)), .v (.bool (s.aa)), .v (.int .i64 (s.bn)), .v (.bool (s.ba))], 54⟩, some ⟨[.v (.int .u8 (c))], 5⟩], ⟨[], []⟩⟩))))))))))) := by kernel_rfl


theorem nm_val (s : PS) (c : Int) : EndsP (iV .i64 (nameS s c).1) (nameS s c).2 (ev tbA noRows 400 [.c 39 [], .f 39 1 [] (some 0)] .normal ⟨37, argTmps 0 [.c (.one (.ptr 0 0)), iV .u8 c], [some s.blk], gh0⟩) := by
  rw [nm_ev]
  unfold nameS
  repeat' refine EndsP_cond (fun h => ?_) (fun h => ?_)
  all_goals (simp only [beq_iff_eq, beq_eq_false_iff_ne, bne_iff_ne, bne_eq_false_iff_eq, Bool.not_eq_true', Bool.not_eq_false', ne_eq, decide_eq_true_eq, decide_eq_false_iff_not] at *)
  all_goals first
    | (rw [if_pos (by omega)]; exact ⟨rfl, rfl, rfl, rfl⟩)
    | (rw [if_neg (by omega)]; exact ⟨rfl, rfl, rfl, rfl⟩)

theorem far_val (s : PS) (c : Int) : EndsP (iV .i64 (farS s c).1) (farS s c).2 (ev tbA noRows 400 [.c 41 [], .f 41 1 [] (some 0)] .normal ⟨16, argTmps 0 [.c (.one (.ptr 0 0)), iV .u8 c], [some s.blk], gh0⟩) := by
  rw [far_ev]
  unfold farS
  repeat' refine EndsP_cond (fun h => ?_) (fun h => ?_)
  all_goals (simp only [beq_iff_eq, beq_eq_false_iff_ne, bne_iff_ne, bne_eq_false_iff_eq, Bool.not_eq_true', Bool.not_eq_false', ne_eq, decide_eq_true_eq, decide_eq_false_iff_not] at *)
  all_goals first
    | (rw [if_pos (by omega)]; exact ⟨rfl, rfl, rfl, rfl⟩)
    | (rw [if_neg (by omega)]; exact ⟨rfl, rfl, rfl, rfl⟩)

theorem ob_val (s : PS) (c : Int) : EndsP (iV .i64 (objectS s c).1) (objectS s c).2 (ev tbA noRows 400 [.c 43 [], .f 43 1 [] (some 0)] .normal ⟨30, argTmps 0 [.c (.one (.ptr 0 0)), iV .u8 c], [some s.blk], gh0⟩) := by
  rw [ob_ev]
  unfold objectS
  repeat' refine EndsP_cond (fun h => ?_) (fun h => ?_)
  all_goals (simp only [beq_iff_eq, beq_eq_false_iff_ne, bne_iff_ne, bne_eq_false_iff_eq, Bool.not_eq_true', Bool.not_eq_false', ne_eq, decide_eq_true_eq, decide_eq_false_iff_not] at *)
  all_goals (repeat first | rw [if_pos (by omega)] | rw [if_neg (by omega)])
  all_goals exact ⟨rfl, rfl, rfl, rfl⟩

theorem ag_val (s : PS) (c : Int) : EndsP (iV .i64 (argumentS s c).1) (argumentS s c).2 (ev tbA noRows 400 [.c 44 [], .f 44 1 [] (some 0)] .normal ⟨50, argTmps 0 [.c (.one (.ptr 0 0)), iV .u8 c], [some s.blk], gh0⟩) := by
  rw [ag_ev]
  unfold argumentS isNm
  have e1 : (⟨#[109]⟩ : ByteArray).toList = [109] := by rw [Lib.toList_data]
  have e2 : (⟨#[113]⟩ : ByteArray).toList = [113] := by rw [Lib.toList_data]
  have e3 : (⟨#[64]⟩ : ByteArray).toList = [64] := by rw [Lib.toList_data]
  rw [e1, e2, e3]
  generalize (s.name.toList == [109]) = b1
  generalize (s.name.toList == [113]) = b2
  generalize (s.name.toList == [64]) = b3
  cases b1 <;> cases b2 <;> cases b3 <;> simp only [cond_true, cond_false, true_and, false_and, or_false, false_or, Bool.false_eq_true, eq_self]
  all_goals (repeat' refine EndsP_cond (fun h => ?_) (fun h => ?_))
  all_goals (simp only [beq_iff_eq, beq_eq_false_iff_ne, bne_iff_ne, bne_eq_false_iff_eq, Bool.not_eq_true', Bool.not_eq_false', ne_eq, decide_eq_true_eq, decide_eq_false_iff_not] at *)
  all_goals first
    | exact ⟨rfl, rfl, rfl, rfl⟩
    | (rw [if_pos (by omega)]; exact ⟨rfl, rfl, rfl, rfl⟩)
    | (rw [if_neg (by omega)]; exact ⟨rfl, rfl, rfl, rfl⟩)

theorem se_val (s : PS) (c : Int) (hs : s.text.size ≤ 64) : EndsP (iV .i64 (searchS s c).1) (searchS s c).2 (ev tbA noRows 400 [.c 45 [], .f 45 1 [] (some 0)] .normal ⟨54, argTmps 0 [.c (.one (.ptr 0 0)), iV .u8 c], [some s.blk], gh0⟩) := by
  rw [se_ev]
  unfold searchS
  have hz := size1 c
  repeat' first | refine EndsP_cond (fun h => ?_) (fun h => ?_) | refine And.intro (a := EndsP _ _ _) (b := EndsP _ _ _) ?_ ?_
  all_goals (simp only [beq_iff_eq, beq_eq_false_iff_ne, bne_iff_ne, bne_eq_false_iff_eq, Bool.not_eq_true', Bool.not_eq_false', ne_eq, decide_eq_true_eq, decide_eq_false_iff_not, IntKind.wrap_i64] at *)
  all_goals first
    | (exfalso; omega)
    | (repeat first | rw [if_pos (by omega)] | rw [if_neg (by omega)])
  all_goals first
    | exact ⟨rfl, rfl, rfl, rfl⟩
    | (refine ⟨rfl, rfl, rfl, ?_⟩
       have e : (IntKind.i64.wrap ((s.text.size : Int) - 1)).toNat = s.text.size - 1 := by simp only [IntKind.wrap_i64]; omega
       rw [← e]; simp only [IntKind.wrap_i64]; rfl)

theorem mt_val (s : PS) (c : Int) : EndsP (iV .i64 (motionP s c).1) (motionP s c).2 (ev tbA noRows 400 [.c 56 [], .f 56 1 [] (some 0)] .normal ⟨39, argTmps 0 [.c (.one (.ptr 0 0)), iV .u8 c], [some s.blk], gh0⟩) := by
  rw [mt_ev]
  unfold motionP
  repeat' refine EndsP_cond (fun h => ?_) (fun h => ?_)
  all_goals (simp only [beq_iff_eq, beq_eq_false_iff_ne, bne_iff_ne, bne_eq_false_iff_eq, Bool.not_eq_true', Bool.not_eq_false', ne_eq, decide_eq_true_eq, decide_eq_false_iff_not] at *)
  all_goals (repeat first | rw [if_pos (by omega)] | rw [if_neg (by omega)])
  all_goals first
    | exact ⟨rfl, rfl, rfl, rfl⟩
    | (rw [if_pos (by assumption)]; exact ⟨rfl, rfl, rfl, rfl⟩)
    | (rw [if_neg (by simp [*])]; exact ⟨rfl, rfl, rfl, rfl⟩)
end Go.Proofs.Ytloaehlgcgpieaa.Sx
