/-
  What the reckoner carries besides, of slices (slots). Conditions: stated at each theorem.
-/
import Derived.Test.YtloaehlgcgpieaaBase
namespace Go.Proofs.Ytloaehlgcgpieaa.Sx
open Go
/-- What a slice holds: numbers or truths, each in one cell; S is the slice's type, e the elements'. -/
inductive SlV where
  | ints (S e : Nat) (k : IntKind) (xs : List Int)
  | bools (S e : Nat) (bs : List Bool)
/-- A slice: its name (four names), is its array its own?, what it holds. -/
structure Sl where
  nm : Nat
  own : Bool
  v : SlV
structure Gh where
  nm : List Nat
  sl : List Sl
def gh0 : Gh := ⟨[], []⟩
end Go.Proofs.Ytloaehlgcgpieaa.Sx
