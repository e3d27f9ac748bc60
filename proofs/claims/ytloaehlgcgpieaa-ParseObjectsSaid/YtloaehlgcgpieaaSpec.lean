/-
  What the parser's methods do, in plain words on what a parser holds. Conditions: stated at each theorem.
-/
import Derived.Test.YtloaehlgcgpieaaMethU
set_option linter.all false
namespace Go.Proofs.Ytloaehlgcgpieaa.Sx
open Go.RowKit Go.Proofs.Ytloaehlgcgpieaa

/-- What holds of a parser, and of a byte. -/
def okS (s : PS) (c : Int) : Prop := s.text.size ≤ 64 ∧ (0 ≤ s.an ∧ s.an ≤ 9999) ∧ (0 ≤ s.bn ∧ s.bn ≤ 9999) ∧ (s.st = 3 → 1 ≤ s.opr.size) ∧ s.opr.size ≤ 1000 ∧ 0 ≤ c ∧ c ≤ 255
noncomputable instance (s : PS) (c : Int) : Decidable (okS s c) := Classical.propDecidable _

def nameS (s : PS) (c : Int) : Int × PS := if ((97 ≤ c ∧ c ≤ 122) ∨ (65 ≤ c ∧ c ≤ 90) ∨ (48 ≤ c ∧ c ≤ 57) ∨ c = 45 ∨ c = 95 ∨ c = 34) then (0, { s with reg := c, st := 0 }) else (2, s)
def farS (s : PS) (c : Int) : Int × PS := if (c = 103 ∨ c = 101 ∨ c = 69) then (1, { s with name := ⟨#[103]⟩ ++ strOfNums [c] }) else (2, s)
def objectS (s : PS) (c : Int) : Int × PS :=
  if (c = 119 ∨ c = 87 ∨ c = 112 ∨ c = 115 ∨ c = 34 ∨ c = 39 ∨ c = 96) then (1, { s with arg := c })
  else if (c = 40 ∨ c = 41 ∨ c = 98) then (1, { s with arg := 40 })
  else if (c = 91 ∨ c = 93) then (1, { s with arg := 91 })
  else if (c = 123 ∨ c = 125 ∨ c = 66) then (1, { s with arg := 123 })
  else (2, s)
def isNm (s : PS) (k : UInt8) : Bool := s.name.toList == [k]
def argumentS (s : PS) (c : Int) : Int × PS :=
  if ((isNm s 109 = true ∧ ¬ (97 ≤ c ∧ c ≤ 122) ∧ c ≠ 96) ∨ (isNm s 113 = true ∧ ¬ (97 ≤ c ∧ c ≤ 122)) ∨ (isNm s 64 = true ∧ ¬ (97 ≤ c ∧ c ≤ 122) ∧ c ≠ 64)) then (2, s) else (1, { s with arg := c })
def searchS (s : PS) (c : Int) : Int × PS :=
  if c = 13 then (1, s) else if c = 10 then (2, s)
  else if (c = 8 ∨ c = 127) then (if s.text.size = 0 then (2, s) else (0, { s with text := s.text.extract 0 (s.text.size - 1) }))
  else if s.text.size = 64 then (2, s) else (0, { s with text := s.text ++ strOfNums [c] })
def motionP (s : PS) (c : Int) : Int × PS :=
  if c = 13 then (1, { s with name := ⟨#[43]⟩ }) else if c = 103 then (0, { s with st := 4 })
  else if (c = 102 ∨ c = 70 ∨ c = 116 ∨ c = 84 ∨ c = 39 ∨ c = 96) then (0, { s with name := strOfNums [c], st := 6 })
  else if (c = 47 ∨ c = 63) then (0, { s with name := strOfNums [c], st := 7 })
  else if motionS (strOfNums [c]) = true then (1, { s with name := strOfNums [c] }) else (2, s)
theorem size1 (c : Int) : (strOfNums [c]).size = 1 := rfl

def isDg (a : Bool) (c : Int) : Bool := decide (48 ≤ c ∧ c ≤ 57 ∧ (a = true ∨ c ≠ 48))
def dgN (n c : Int) : Int := if 9999 < 10 * n + (c - 48) then 9999 else 10 * n + (c - 48)
def lastB (s : PS) : Int := ((s.opr.data.toList.getD (s.opr.size - 1) 0).toNat : Int)
def operandS (s : PS) (c : Int) : Int × PS :=
  if isDg s.ba c = true then (0, { s with bn := dgN s.bn c, ba := true })
  else if c = lastB s then (1, { s with name := ⟨#[108, 105, 110, 101]⟩ })
  else if (c = 105 ∨ c = 97) then (0, { s with name := strOfNums [c], st := 5 })
  else motionP s c
def selectedS (s : PS) (c : Int) : Int × PS :=
  if (c = 100 ∨ c = 120 ∨ c = 121 ∨ c = 99 ∨ c = 115 ∨ c = 60 ∨ c = 62 ∨ c = 126 ∨ c = 117 ∨ c = 85 ∨ c = 74 ∨ c = 111 ∨ c = 118 ∨ c = 86 ∨ c = 73 ∨ c = 65) then (1, { s with name := strOfNums [c] })
  else if (c = 105 ∨ c = 97) then (0, { s with name := strOfNums [c], st := 5 })
  else if c = 114 then (0, { s with name := strOfNums [c], st := 6 })
  else if c = 22 then (1, { s with name := ⟨#[94, 86]⟩ })
  else motionP s c
def commandS (s : PS) (c : Int) : Int × PS :=
  if (c = 100 ∨ c = 99 ∨ c = 121 ∨ c = 60 ∨ c = 62) then (0, { s with opr := strOfNums [c], st := 3 })
  else if c = 103 then (0, { s with st := 2 })
  else if (c = 105 ∨ c = 97 ∨ c = 73 ∨ c = 65 ∨ c = 111 ∨ c = 79 ∨ c = 82 ∨ c = 120 ∨ c = 88 ∨ c = 115 ∨ c = 83 ∨ c = 68 ∨ c = 67 ∨ c = 89 ∨ c = 112 ∨ c = 80 ∨ c = 74 ∨ c = 126 ∨ c = 117 ∨ c = 46 ∨ c = 118 ∨ c = 86) then (1, { s with name := strOfNums [c] })
  else if (c = 114 ∨ c = 109 ∨ c = 113 ∨ c = 64) then (0, { s with name := strOfNums [c], st := 6 })
  else if c = 22 then (1, { s with name := ⟨#[94, 86]⟩ })
  else if c = 18 then (1, { s with name := ⟨#[94, 82]⟩ })
  else if c = 15 then (1, { s with name := ⟨#[94, 79]⟩ })
  else if c = 9 then (1, { s with name := ⟨#[94, 73]⟩ })
  else motionP s c
def stepS (s : PS) (c : Int) : Int × PS :=
  if c = 27 then (if s.fi = true ∧ s.vi = true then (1, { s with name := ⟨#[101, 115, 99]⟩ }) else (2, s))
  else if s.st = 1 then nameS s c
  else if s.st = 2 then (if (c = 126 ∨ c = 117 ∨ c = 85) then (0, { s with opr := ⟨#[103]⟩ ++ strOfNums [c], st := 3 }) else farS s c)
  else if s.st = 3 then operandS s c
  else if s.st = 4 then farS s c
  else if s.st = 5 then objectS s c
  else if s.st = 6 then argumentS s c
  else if s.st = 7 then searchS s c
  else if isDg s.aa c = true then (0, { s with an := dgN s.an c, aa := true })
  else if c = 34 then (0, { s with st := 1 })
  else if s.vi = true then selectedS s c
  else commandS s c
def countS (s : PS) : Int := if s.aa = true then (if s.ba = true then (if 9999 < s.an * s.bn then 9999 else s.an * s.bn) else s.an) else s.bn
def start (s : PS) (v : Bool) : PS := if s.op = true then { s with fi := false } else { ps0 with op := true, vi := v, fi := true }
structure Cmd where
  reg : Int
  count : Int
  opr : ByteArray
  name : ByteArray
  arg : Int
  text : ByteArray
def cmd0 : Cmd := ⟨0, 0, ⟨#[]⟩, ⟨#[]⟩, 0, ⟨#[]⟩⟩
def Cmd.cv (c : Cmd) : CV := .agg [.v (.int .u8 c.reg), .v (.int .i64 c.count), .v (.string c.opr), .v (.string c.name), .v (.int .u8 c.arg), .v (.string c.text)]
def PS.cmd (s : PS) : Cmd := ⟨s.reg, countS s, s.opr, s.name, s.arg, s.text⟩
/-- Feed: the answer, the command, the parser behind it. -/
def feedS (s : PS) (c : Int) (v : Bool) : (Int × Cmd) × PS :=
  let r := stepS (start s v) c
  ((r.1, if r.1 = 1 then r.2.cmd else cmd0), if r.1 = 0 then r.2 else ps0)
end Go.Proofs.Ytloaehlgcgpieaa.Sx
