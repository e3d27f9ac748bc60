/-
  JumpsMany: the plain law. Conditions: stated at each theorem.
-/
import Derived.Test.YtglbhabpenkpdaaBackP
set_option linter.unusedSimpArgs false
set_option linter.unusedVariables false
namespace Go.Proofs.Ytglbhabpenkpdaa.Sx
open Go.RowKit Go.Proofs.Ytglbhabpenkpdaa

def offL (ws : List Int) (x : Int) : List Int := ws.filter fun y => y != x
def cut16 (v : List Int) : List Int := if 16 < v.length then v.drop 1 else v
def wsI (bs : List Int) : Nat → List Int
  | 0 => []
  | i + 1 => cut16 (offL (wsI bs i) (bs.getD i 0) ++ [bs.getD i 0])

theorem ws_ps (bs : List Int) : ∀ i, (psI bs i).map (·.1) = wsI bs i ∧ (psI bs i).length ≤ 16
  | 0 => ⟨rfl, by simp [psI]⟩
  | i + 1 => by
    obtain ⟨h1, h2⟩ := ws_ps bs i
    have hf : ((psI bs i).filter (otherLine (bs.getD i 0))).map (·.1) = offL (wsI bs i) (bs.getD i 0) := by
      rw [← h1, offL, List.filter_map]
      congr 1
    have hl : ((psI bs i).filter (otherLine (bs.getD i 0))).length ≤ 16 := Nat.le_trans (List.length_filter_le _ _) h2
    have hlen := congrArg List.length hf
    simp only [List.length_map] at hlen
    constructor
    · show (pushL (psI bs i) (bs.getD i 0, (i : Int))).map (·.1) = cut16 (offL (wsI bs i) (bs.getD i 0) ++ [bs.getD i 0])
      unfold pushL cut16
      simp only [List.length_append, List.length_singleton, List.map_drop, List.map_append, hf, List.map_cons, List.map_nil]
      by_cases h : 16 < (offL (wsI bs i) (bs.getD i 0)).length + 1
      · rw [if_pos h]
        congr 1
        omega
      · rw [if_neg h, show ((psI bs i).filter (otherLine (bs.getD i 0))).length + 1 - 16 = 0 by omega]
        rfl
    · exact (pushL_len (psI bs i) (bs.getD i 0, (i : Int)) h2).2

theorem offL_take (ws : List Int) (x : Int) (k : Nat) (hk : k < ws.length) : offL (ws.take (k + 1)) x = offL (ws.take k) x ++ (if ws.getD k 0 != x then [ws.getD k 0] else []) := by
  have : ws.take (k + 1) = ws.take k ++ [ws.getD k 0] := by
    rw [List.take_succ_eq_append_getElem hk, List.getD_eq_getElem?_getD, List.getElem?_eq_getElem hk]
    rfl
  rw [this]
  unfold offL
  rw [List.filter_append]
  congr 1
  by_cases h : (ws.getD k 0 != x) = true
  · rw [if_pos h]; simp only [List.filter_cons, h, if_true, List.filter_nil]
  · rw [if_neg h]
    have h : (ws.getD k 0 != x) = false := by simpa using h
    simp only [List.filter_cons, h, List.filter_nil]
    rfl
end Go.Proofs.Ytglbhabpenkpdaa.Sx
