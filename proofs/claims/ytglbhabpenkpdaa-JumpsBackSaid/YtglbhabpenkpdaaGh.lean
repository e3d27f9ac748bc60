/-
  What the reckoner carries besides, of jumps.List, its model and two rows of numbers.
-/
import Derived.Test.YtglbhabpenkpdaaBase
namespace Go.Proofs.Ytglbhabpenkpdaa.Sx
/-- The names that count; a list (is there one?); its model (is there one?); a row of numbers; numbers seen. -/
structure Gh where
  nm : List Nat
  k : Nat
  ps : List (Int × Int)
  at_ : Nat
  m : Nat
  qs : List (Int × Int)
  bt : Nat
  xs : List Int
def gh0 : Gh := ⟨[], 0, [], 0, 0, [], 0, []⟩
end Go.Proofs.Ytglbhabpenkpdaa.Sx
