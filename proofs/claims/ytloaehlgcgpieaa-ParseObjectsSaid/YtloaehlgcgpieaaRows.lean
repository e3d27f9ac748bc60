/-
  No cell of these rows narrows 'for every input' (looked for: loops, veiled, ifaces, maps, wideKeys, modest, calm, conditions, laid).
  DERIVED. THE GIVEN ROWS OF THIS SEAT. 8 by the template 'for every input the law returns true; each argument reads behind the call as it read before'; 0 by the template 'total and deterministic' (their statements: YtloaehlgcgpieaaTotals.lean).
  GIVEN WITH THE SEED: the statements are not yours to turn. If you find one false, say at which input.
  Laid BY PROGRAM, IN A SANDBOX (cutbox-rows.mjs): the forced cells as the released guide's own fill.sh prints them over the translation 6cbbfd07aadc1672… (all of the seat's roots in one cut). By AI agents, Wed Nov 11 2026. No macro, syntax, notation, axiom, sorry.
-/
import Derived.Test.YtloaehlgcgpieaaChecked
import GoSem.Claim
import GoSem.ClaimJoined
import GoSem.ClaimMapViews
import Derived.JoinedTies
import Derived.KernelRfl
namespace Go.Proofs.Ytloaehlgcgpieaa
/- THE CELL 'sum', in the pinned program and in every row, IS THE sha256 OF THE DUMP (.gsa) THAT YtloaehlgcgpieaaProg.lean LOADS. Nothing in Lean hashes anything: it is a label: what it is worth is what the hold of that sum in a sandbox is worth. -/
noncomputable def Try.pinned : Pinned := { name := "ytloaehlgcgpieaa", sum := "6cbbfd07aadc1672640183d5b431b4c36ddb2201313fcc486f433f8db2a830e3", checked := Try.checked }
namespace Rows
def none {H : Type} : Left H := { results := [], args := [] }

/-- 'foolscaplaw24.ParsePlays': WHATEVER THE INPUT: true; the input reads as it did. -/
def parsePlaysSpec : ChangeSpec := { name := "parsePlays", fn := fun _ => fun
  | [d1, d2, d3] => { results := [.lit (.bool true)], args := [d1, d2, d3] }
  | _ => none }
def parsePlaysRow : OpenClaim := { program := "ytloaehlgcgpieaa", sum := "6cbbfd07aadc1672640183d5b431b4c36ddb2201313fcc486f433f8db2a830e3", func := "foolscap/foolscaplaw24.ParsePlays", spec := "parsePlays", inPlace := ["internal/bytealg.IndexByteString", "internal/bytealg.IndexString"], named := ["internal/bytealg.MaxLen"], apart := false }
def ParsePlaysSaid : Prop := parsePlaysRow.holds Try.pinned (OpenSpec.ofChange parsePlaysSpec)

/-- ITS FALSE NEIGHBOUR: 'it returns false'. Refute it at one input. -/
def parsePlaysWrong : ChangeSpec := { name := "parsePlays", fn := fun _ => fun
  | [d1, d2, d3] => { results := [.lit (.bool false)], args := [d1, d2, d3] }
  | _ => none }
def ParsePlaysWrongFalsely : Prop := parsePlaysRow.holds Try.pinned (OpenSpec.ofChange parsePlaysWrong)

/-- 'foolscaplaw24.ParseCounts': WHATEVER THE INPUT: true; the input reads as it did. -/
def parseCountsSpec : ChangeSpec := { name := "parseCounts", fn := fun _ => fun
  | [d1, d2, d3, d4] => { results := [.lit (.bool true)], args := [d1, d2, d3, d4] }
  | _ => none }
def parseCountsRow : OpenClaim := { program := "ytloaehlgcgpieaa", sum := "6cbbfd07aadc1672640183d5b431b4c36ddb2201313fcc486f433f8db2a830e3", func := "foolscap/foolscaplaw24.ParseCounts", spec := "parseCounts", inPlace := ["internal/bytealg.IndexByteString", "internal/bytealg.IndexString"], recurses := true, named := ["internal/bytealg.MaxLen"], apart := false }
def ParseCountsSaid : Prop := parseCountsRow.holds Try.pinned (OpenSpec.ofChange parseCountsSpec)

/-- ITS FALSE NEIGHBOUR: 'it returns false'. Refute it at one input. -/
def parseCountsWrong : ChangeSpec := { name := "parseCounts", fn := fun _ => fun
  | [d1, d2, d3, d4] => { results := [.lit (.bool false)], args := [d1, d2, d3, d4] }
  | _ => none }
def ParseCountsWrongFalsely : Prop := parseCountsRow.holds Try.pinned (OpenSpec.ofChange parseCountsWrong)

/-- 'foolscaplaw24.ParseResets': WHATEVER THE INPUT: true; the input reads as it did. -/
def parseResetsSpec : ChangeSpec := { name := "parseResets", fn := fun _ => fun
  | [d1, d2, d3] => { results := [.lit (.bool true)], args := [d1, d2, d3] }
  | _ => none }
def parseResetsRow : OpenClaim := { program := "ytloaehlgcgpieaa", sum := "6cbbfd07aadc1672640183d5b431b4c36ddb2201313fcc486f433f8db2a830e3", func := "foolscap/foolscaplaw24.ParseResets", spec := "parseResets", inPlace := ["internal/bytealg.IndexByteString", "internal/bytealg.IndexString"], named := ["internal/bytealg.MaxLen"], apart := false }
def ParseResetsSaid : Prop := parseResetsRow.holds Try.pinned (OpenSpec.ofChange parseResetsSpec)

/-- ITS FALSE NEIGHBOUR: 'it returns false'. Refute it at one input. -/
def parseResetsWrong : ChangeSpec := { name := "parseResets", fn := fun _ => fun
  | [d1, d2, d3] => { results := [.lit (.bool false)], args := [d1, d2, d3] }
  | _ => none }
def ParseResetsWrongFalsely : Prop := parseResetsRow.holds Try.pinned (OpenSpec.ofChange parseResetsWrong)

/-- 'foolscaplaw24.ParseMotions': WHATEVER THE INPUT: true; the input reads as it did. -/
def parseMotionsSpec : ChangeSpec := { name := "parseMotions", fn := fun _ => fun
  | [d1, d2] => { results := [.lit (.bool true)], args := [d1, d2] }
  | _ => none }
def parseMotionsRow : OpenClaim := { program := "ytloaehlgcgpieaa", sum := "6cbbfd07aadc1672640183d5b431b4c36ddb2201313fcc486f433f8db2a830e3", func := "foolscap/foolscaplaw24.ParseMotions", spec := "parseMotions", inPlace := ["internal/bytealg.IndexByteString", "internal/bytealg.IndexString"], named := ["internal/bytealg.MaxLen"], apart := false }
def ParseMotionsSaid : Prop := parseMotionsRow.holds Try.pinned (OpenSpec.ofChange parseMotionsSpec)

/-- ITS FALSE NEIGHBOUR: 'it returns false'. Refute it at one input. -/
def parseMotionsWrong : ChangeSpec := { name := "parseMotions", fn := fun _ => fun
  | [d1, d2] => { results := [.lit (.bool false)], args := [d1, d2] }
  | _ => none }
def ParseMotionsWrongFalsely : Prop := parseMotionsRow.holds Try.pinned (OpenSpec.ofChange parseMotionsWrong)

/-- 'foolscaplaw24.ParseRegs': WHATEVER THE INPUT: true; the input reads as it did. -/
def parseRegsSpec : ChangeSpec := { name := "parseRegs", fn := fun _ => fun
  | [d1, d2, d3] => { results := [.lit (.bool true)], args := [d1, d2, d3] }
  | _ => none }
def parseRegsRow : OpenClaim := { program := "ytloaehlgcgpieaa", sum := "6cbbfd07aadc1672640183d5b431b4c36ddb2201313fcc486f433f8db2a830e3", func := "foolscap/foolscaplaw24.ParseRegs", spec := "parseRegs", inPlace := ["internal/bytealg.IndexByteString", "internal/bytealg.IndexString"], named := ["internal/bytealg.MaxLen"], apart := false }
def ParseRegsSaid : Prop := parseRegsRow.holds Try.pinned (OpenSpec.ofChange parseRegsSpec)

/-- ITS FALSE NEIGHBOUR: 'it returns false'. Refute it at one input. -/
def parseRegsWrong : ChangeSpec := { name := "parseRegs", fn := fun _ => fun
  | [d1, d2, d3] => { results := [.lit (.bool false)], args := [d1, d2, d3] }
  | _ => none }
def ParseRegsWrongFalsely : Prop := parseRegsRow.holds Try.pinned (OpenSpec.ofChange parseRegsWrong)

/-- 'foolscaplaw24.ParseObjects': WHATEVER THE INPUT: true; the input reads as it did. -/
def parseObjectsSpec : ChangeSpec := { name := "parseObjects", fn := fun _ => fun
  | [d1, d2, d3, d4] => { results := [.lit (.bool true)], args := [d1, d2, d3, d4] }
  | _ => none }
def parseObjectsRow : OpenClaim := { program := "ytloaehlgcgpieaa", sum := "6cbbfd07aadc1672640183d5b431b4c36ddb2201313fcc486f433f8db2a830e3", func := "foolscap/foolscaplaw24.ParseObjects", spec := "parseObjects", inPlace := ["internal/bytealg.IndexByteString", "internal/bytealg.IndexString"], named := ["internal/bytealg.MaxLen"], apart := false }
def ParseObjectsSaid : Prop := parseObjectsRow.holds Try.pinned (OpenSpec.ofChange parseObjectsSpec)

/-- ITS FALSE NEIGHBOUR: 'it returns false'. Refute it at one input. -/
def parseObjectsWrong : ChangeSpec := { name := "parseObjects", fn := fun _ => fun
  | [d1, d2, d3, d4] => { results := [.lit (.bool false)], args := [d1, d2, d3, d4] }
  | _ => none }
def ParseObjectsWrongFalsely : Prop := parseObjectsRow.holds Try.pinned (OpenSpec.ofChange parseObjectsWrong)

/-- 'foolscaplaw24.ParseSearch': WHATEVER THE INPUT: true; the input reads as it did. -/
def parseSearchSpec : ChangeSpec := { name := "parseSearch", fn := fun _ => fun
  | [d1, d2, d3, d4] => { results := [.lit (.bool true)], args := [d1, d2, d3, d4] }
  | _ => none }
def parseSearchRow : OpenClaim := { program := "ytloaehlgcgpieaa", sum := "6cbbfd07aadc1672640183d5b431b4c36ddb2201313fcc486f433f8db2a830e3", func := "foolscap/foolscaplaw24.ParseSearch", spec := "parseSearch", inPlace := ["internal/bytealg.IndexByteString", "internal/bytealg.IndexString"], named := ["internal/bytealg.MaxLen"], apart := false }
def ParseSearchSaid : Prop := parseSearchRow.holds Try.pinned (OpenSpec.ofChange parseSearchSpec)

/-- ITS FALSE NEIGHBOUR: 'it returns false'. Refute it at one input. -/
def parseSearchWrong : ChangeSpec := { name := "parseSearch", fn := fun _ => fun
  | [d1, d2, d3, d4] => { results := [.lit (.bool false)], args := [d1, d2, d3, d4] }
  | _ => none }
def ParseSearchWrongFalsely : Prop := parseSearchRow.holds Try.pinned (OpenSpec.ofChange parseSearchWrong)

/-- 'foolscaplaw24.ParseEsc': WHATEVER THE INPUT: true; the input reads as it did. -/
def parseEscSpec : ChangeSpec := { name := "parseEsc", fn := fun _ => fun
  | [d1, d2] => { results := [.lit (.bool true)], args := [d1, d2] }
  | _ => none }
def parseEscRow : OpenClaim := { program := "ytloaehlgcgpieaa", sum := "6cbbfd07aadc1672640183d5b431b4c36ddb2201313fcc486f433f8db2a830e3", func := "foolscap/foolscaplaw24.ParseEsc", spec := "parseEsc", inPlace := ["internal/bytealg.IndexByteString", "internal/bytealg.IndexString"], named := ["internal/bytealg.MaxLen"], apart := false }
def ParseEscSaid : Prop := parseEscRow.holds Try.pinned (OpenSpec.ofChange parseEscSpec)

/-- ITS FALSE NEIGHBOUR: 'it returns false'. Refute it at one input. -/
def parseEscWrong : ChangeSpec := { name := "parseEsc", fn := fun _ => fun
  | [d1, d2] => { results := [.lit (.bool false)], args := [d1, d2] }
  | _ => none }
def ParseEscWrongFalsely : Prop := parseEscRow.holds Try.pinned (OpenSpec.ofChange parseEscWrong)

/- THE SECOND FORM. 'bulk': how many values and letters a reading holds, each counted each time it is reached (what is shared counts as often as it is met; a slice's spare places count too). A statement '..UptoSaid' is the law's where the arguments, and the package variables that the reading takes, are together of bulk at most 1048576: NARROWER than '..Said'. Prove '..Said' where nothing that the law and all that it calls make is longer than what came in: it says more and counts as full. Else prove '..UptoSaid'. A law counts once. -/
mutual
def uptoBulk {H : Type} : DataW H → Nat
  | .lit (.string bytes) => bytes.length + 1
  | .lit _ => 1
  | .nil => 1
  | .ptr d => uptoBulk d + 1
  | .slice elems spare => uptoBulkAll elems + uptoBulkAll spare + 1
  | .agg parts => uptoBulkAll parts + 1
  | .iface _ d => uptoBulk d + 1
  | .map entries => uptoBulkEntries entries + 1
  | .held _ => 1
def uptoBulkAll {H : Type} : List (DataW H) → Nat
  | [] => 0
  | d :: r => uptoBulk d + uptoBulkAll r
def uptoBulkEntries {H : Type} : List (Lit × DataW H) → Nat
  | [] => 0
  | x :: r => uptoBulkEntry x + uptoBulkEntries r
def uptoBulkEntry {H : Type} : Lit × DataW H → Nat
  | (.string bytes, d) => bytes.length + uptoBulk d + 1
  | (_, d) => uptoBulk d + 1
 end
def uptoSmall : (H : Type) → List (DataW H) → Bool := fun _ ds => decide (uptoBulkAll ds ≤ 1048576)
def OpenSpec.upto (s : _root_.Go.ChangeSpec) : _root_.Go.OpenSpec := { _root_.Go.OpenSpec.ofChange s with cond := some uptoSmall }

/-- 'foolscaplaw24.ParsePlays', WHERE WHAT IT READS IS OF BULK AT MOST 1048576: true; the input reads as it did. -/
def parsePlaysUptoRow : OpenClaim := { program := "ytloaehlgcgpieaa", sum := "6cbbfd07aadc1672640183d5b431b4c36ddb2201313fcc486f433f8db2a830e3", func := "foolscap/foolscaplaw24.ParsePlays", spec := "parsePlays", inPlace := ["internal/bytealg.IndexByteString", "internal/bytealg.IndexString"], named := ["internal/bytealg.MaxLen"], apart := false, narrowed := true }
def ParsePlaysUptoSaid : Prop := parsePlaysUptoRow.holds Try.pinned (OpenSpec.upto parsePlaysSpec)

/-- 'foolscaplaw24.ParseCounts', WHERE WHAT IT READS IS OF BULK AT MOST 1048576: true; the input reads as it did. -/
def parseCountsUptoRow : OpenClaim := { program := "ytloaehlgcgpieaa", sum := "6cbbfd07aadc1672640183d5b431b4c36ddb2201313fcc486f433f8db2a830e3", func := "foolscap/foolscaplaw24.ParseCounts", spec := "parseCounts", inPlace := ["internal/bytealg.IndexByteString", "internal/bytealg.IndexString"], recurses := true, named := ["internal/bytealg.MaxLen"], apart := false, narrowed := true }
def ParseCountsUptoSaid : Prop := parseCountsUptoRow.holds Try.pinned (OpenSpec.upto parseCountsSpec)

/-- 'foolscaplaw24.ParseResets', WHERE WHAT IT READS IS OF BULK AT MOST 1048576: true; the input reads as it did. -/
def parseResetsUptoRow : OpenClaim := { program := "ytloaehlgcgpieaa", sum := "6cbbfd07aadc1672640183d5b431b4c36ddb2201313fcc486f433f8db2a830e3", func := "foolscap/foolscaplaw24.ParseResets", spec := "parseResets", inPlace := ["internal/bytealg.IndexByteString", "internal/bytealg.IndexString"], named := ["internal/bytealg.MaxLen"], apart := false, narrowed := true }
def ParseResetsUptoSaid : Prop := parseResetsUptoRow.holds Try.pinned (OpenSpec.upto parseResetsSpec)

/-- 'foolscaplaw24.ParseMotions', WHERE WHAT IT READS IS OF BULK AT MOST 1048576: true; the input reads as it did. -/
def parseMotionsUptoRow : OpenClaim := { program := "ytloaehlgcgpieaa", sum := "6cbbfd07aadc1672640183d5b431b4c36ddb2201313fcc486f433f8db2a830e3", func := "foolscap/foolscaplaw24.ParseMotions", spec := "parseMotions", inPlace := ["internal/bytealg.IndexByteString", "internal/bytealg.IndexString"], named := ["internal/bytealg.MaxLen"], apart := false, narrowed := true }
def ParseMotionsUptoSaid : Prop := parseMotionsUptoRow.holds Try.pinned (OpenSpec.upto parseMotionsSpec)

/-- 'foolscaplaw24.ParseRegs', WHERE WHAT IT READS IS OF BULK AT MOST 1048576: true; the input reads as it did. -/
def parseRegsUptoRow : OpenClaim := { program := "ytloaehlgcgpieaa", sum := "6cbbfd07aadc1672640183d5b431b4c36ddb2201313fcc486f433f8db2a830e3", func := "foolscap/foolscaplaw24.ParseRegs", spec := "parseRegs", inPlace := ["internal/bytealg.IndexByteString", "internal/bytealg.IndexString"], named := ["internal/bytealg.MaxLen"], apart := false, narrowed := true }
def ParseRegsUptoSaid : Prop := parseRegsUptoRow.holds Try.pinned (OpenSpec.upto parseRegsSpec)

/-- 'foolscaplaw24.ParseObjects', WHERE WHAT IT READS IS OF BULK AT MOST 1048576: true; the input reads as it did. -/
def parseObjectsUptoRow : OpenClaim := { program := "ytloaehlgcgpieaa", sum := "6cbbfd07aadc1672640183d5b431b4c36ddb2201313fcc486f433f8db2a830e3", func := "foolscap/foolscaplaw24.ParseObjects", spec := "parseObjects", inPlace := ["internal/bytealg.IndexByteString", "internal/bytealg.IndexString"], named := ["internal/bytealg.MaxLen"], apart := false, narrowed := true }
def ParseObjectsUptoSaid : Prop := parseObjectsUptoRow.holds Try.pinned (OpenSpec.upto parseObjectsSpec)

/-- 'foolscaplaw24.ParseSearch', WHERE WHAT IT READS IS OF BULK AT MOST 1048576: true; the input reads as it did. -/
def parseSearchUptoRow : OpenClaim := { program := "ytloaehlgcgpieaa", sum := "6cbbfd07aadc1672640183d5b431b4c36ddb2201313fcc486f433f8db2a830e3", func := "foolscap/foolscaplaw24.ParseSearch", spec := "parseSearch", inPlace := ["internal/bytealg.IndexByteString", "internal/bytealg.IndexString"], named := ["internal/bytealg.MaxLen"], apart := false, narrowed := true }
def ParseSearchUptoSaid : Prop := parseSearchUptoRow.holds Try.pinned (OpenSpec.upto parseSearchSpec)

/-- 'foolscaplaw24.ParseEsc', WHERE WHAT IT READS IS OF BULK AT MOST 1048576: true; the input reads as it did. -/
def parseEscUptoRow : OpenClaim := { program := "ytloaehlgcgpieaa", sum := "6cbbfd07aadc1672640183d5b431b4c36ddb2201313fcc486f433f8db2a830e3", func := "foolscap/foolscaplaw24.ParseEsc", spec := "parseEsc", inPlace := ["internal/bytealg.IndexByteString", "internal/bytealg.IndexString"], named := ["internal/bytealg.MaxLen"], apart := false, narrowed := true }
def ParseEscUptoSaid : Prop := parseEscUptoRow.holds Try.pinned (OpenSpec.upto parseEscSpec)

end Rows
end Go.Proofs.Ytloaehlgcgpieaa
