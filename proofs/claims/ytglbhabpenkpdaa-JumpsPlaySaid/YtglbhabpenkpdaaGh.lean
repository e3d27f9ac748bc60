/-
  What the reckoner carries besides, of jumps.List, a map's keys, slices (slots). Conditions: stated at each theorem.
-/
import Derived.Test.YtglbhabpenkpdaaBase
namespace Go.Proofs.Ytglbhabpenkpdaa.Sx
open Go
/-- What a slice holds: numbers, or places. -/
inductive SlV where
  | ints (S e : Nat) (k : IntKind) (xs : List Int)
  | poss (S e : Nat) (ps : List (Int × Int))
/-- A slice: its name (three names), is it a row of its own?, what it holds. -/
structure Sl where
  nm : Nat
  own : Bool
  v : SlV
structure Rest where
  m : Nat
  xs : List Int
  sl : List Sl
/-- The names that count; a list (is there one?); what else there is. -/
structure Gh where
  nm : List Nat
  k : Nat
  ps : List (Int × Int)
  at_ : Nat
  r : Rest
def rest0 : Rest := ⟨0, [], []⟩
def gh0 : Gh := ⟨[], 0, [], 0, rest0⟩
end Go.Proofs.Ytglbhabpenkpdaa.Sx
