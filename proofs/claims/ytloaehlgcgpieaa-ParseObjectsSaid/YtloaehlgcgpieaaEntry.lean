/-
  Functions on slices that are only read: as words, and how they are begun. Conditions: stated at each theorem.
-/
import Derived.Test.YtloaehlgcgpieaaRen
set_option linter.all false
namespace Go.Proofs.Ytloaehlgcgpieaa.Sx
open Go.RowKit Go.Proofs.Ytloaehlgcgpieaa

abbrev SlF := SlV → List SV → Option (Bool × SV)
/-- A word on a slice and on values. -/
def slF (φ : SlF) : List SV → List (Option Blk) → Gh → Option CRR
  | .c (.one y) :: args, _, gh => match rd gh.sl y with
    | some (_, v, b) => match φ v args with
      | some (b', r) => some (.test (b && b') ⟨some r, [], gh, false, none⟩)
      | none => none
    | none => none
  | _, _, _ => none

def SlFOK (f : Nat) (φ : SlF) : Prop := ∀ v args b r, φ v args = some (b, r) → b = true → (∀ q k off, r ≠ .c (.one (.ep q k off))) ∧
    ∀ (E : Nat → Row) (σ : Nat → Nat) (u : Value) (w : World), RdV w u v → Calls Try.prog f (u :: args.map (SV.den E σ)).toArray w fun e w' => e = .returned (r.den E σ) ∧ Keep [] w w'

theorem slF_ok {L0 : List Nat} {f : Nat} {fn : Func} {φ : SlF} (hfn : Try.prog.funcs[f]? = some fn ∧ fn.body.isSome = true ∧ (fn.name == "runtime.NumGoroutine") = false) (h : SlFOK f φ) : CallOK Try.prog famB L0 f (slF φ) := by
  refine ⟨fn, hfn.1, hfn.2.1, hfn.2.2, fun args mem gh cr hcr hok E σ w0 x w hm hL => ?_⟩
  unfold slF at hcr
  split at hcr
  · rename_i y args
    split at hcr
    · rename_i q v b hr
      split at hcr
      · rename_i b' r hφ
        injection hcr with hcr
        subst hcr
        have hok : (b && b') = true := hok
        rw [Bool.and_eq_true] at hok
        obtain ⟨hb, hb'⟩ := hok
        subst hb
        obtain ⟨h1, h2⟩ := h v args b' r hφ hb'
        have hR := rd_den hm hr
        refine Calls.mono (R := _) (by simpa [SV.den, CV.den] using h2 E σ _ w hR) ?_
        rintro e w' ⟨rfl, hk⟩
        refine ⟨_, rfl, σ, fun v hv => ?_, ?_, fun _ _ => rfl, by simpa [CR.kept] using hk⟩
        · injection hv with hv
          subst hv
          exact ⟨rfl, fun q k off hh => (h1 q k off hh).elim⟩
        · rw [CR.mem_nil]
          exact (show Mo E famB L0 w0 σ gh mem w from ⟨x, hm⟩).mono hk
      · cases hcr
    · cases hcr
  · cases hcr

/-- The names of arguments that are slices: four each. -/
def argσ (us : List Value) : Nat → Nat := fun n => match us[n / 4]? with
  | some (.slice ad l c) => match n % 4 with
    | 0 => match ad with | some a => a.block + 1 | none => 0
    | 1 => match ad with | some a => a.off | none => 0
    | 2 => c
    | _ => l
  | _ => 0

theorem arg_slot {us : List Value} {w : World} {u : Value} {v : SlV} {i : Nat} (hi : us[i]? = some u) (h : RdV w u v) : SlotOK w (argσ us) ⟨4 * i, false, v⟩ ∧ (∀ g, g ∈ sblk (argσ us) ⟨4 * i, false, v⟩ → g < w.heap.size) ∧ (A.os (4 * i)).den noRows (argσ us) = u := by
  obtain ⟨ad, c, rfl, hnil, hcap, hsp, hcell⟩ := h.ex
  have d0 : (4 * i) / 4 = i ∧ (4 * i) % 4 = 0 := by omega
  have d1 : (4 * i + 1) / 4 = i ∧ (4 * i + 1) % 4 = 1 := by omega
  have d2 : (4 * i + 2) / 4 = i ∧ (4 * i + 2) % 4 = 2 := by omega
  have d3 : (4 * i + 3) / 4 = i ∧ (4 * i + 3) % 4 = 3 := by omega
  have e2 : argσ us (4 * i + 2) = c := by simp [argσ, d2, hi]
  have e3 : argσ us (4 * i + 3) = v.len := by simp [argσ, d3, hi]
  have ho : oad (argσ us) (4 * i) = ad := by
    cases ad with
    | none => simp [oad, argσ, d0, hi]
    | some a =>
      obtain ⟨b, o, sp⟩ := a
      have := (hsp _ rfl).1
      simp only at this
      subst this
      have e0 : argσ us (4 * i) = b + 1 := by simp [argσ, d0, hi]
      have e1 : argσ us (4 * i + 1) = o := by simp [argσ, d1, hi]
      unfold oad
      rw [e0, e1, if_neg (by omega)]
      rfl
  refine ⟨⟨fun hh => (by cases hh), fun j y hj => ?_, fun hn => ?_, e3, ?_, h.small, h.ty⟩, fun g hg => ?_, ?_⟩
  · rw [show (⟨4 * i, false, v⟩ : Sl).nm = 4 * i from rfl, ho]
    exact hcell j y hj
  · show argσ us (4 * i + 2) = 0
    rw [e2]
    exact hnil (ho ▸ hn)
  · show v.len ≤ argσ us (4 * i + 2)
    rw [e2]
    exact hcap
  · have hg : g ∈ ((oad (argσ us) (4 * i)).map (·.block)).toList := hg
    rw [ho] at hg
    cases ad with
    | none => simp at hg
    | some a =>
      simp at hg
      subst hg
      exact (hsp _ rfl).2
  · simp only [A.den, ho, e2, e3]

/-- How a call begins whose slices are only read. -/
theorem entry {us : List Value} {w : World} {M : List Nat} {nm : List Nat} {sl : List Sl} {mem : List (Option Blk)} (hsl : ∀ q, q ∈ sl → q.own = false ∧ ∃ i u, q.nm = 4 * i ∧ us[i]? = some u ∧ RdV w u q.v) (hnm : ∀ q, q ∈ sl → ∀ d, d < 4 → q.nm + d ∈ nm) (hlt : ∀ n, n ∈ nm → n < mem.length)
    (hmem : ∀ b, b ∈ mem → b = none) : Mo noRows famB [] ⟨w, M⟩ (argσ us) ⟨nm, sl⟩ mem w := by
  have hs : ∀ q, q ∈ sl → SlotOK w (argσ us) q ∧ ∀ g, g ∈ sblk (argσ us) q → g < w.heap.size := fun q hq => by
    obtain ⟨ho, i, u, h1, h2, h3⟩ := hsl q hq
    obtain ⟨h4, h5, _⟩ := arg_slot h2 h3
    obtain ⟨n, own, v⟩ := q
    simp only at h1 ho
    subst h1 ho
    exact ⟨h4, h5⟩
  have hno : ∀ (j : Nat) (b : Blk), mem[j]? ≠ some (some b) := fun j b hj => by cases hmem _ (List.mem_of_getElem? hj)
  refine ⟨slotsX (res nm (argσ us)) sl, ⟨rfl, hnm, ?_⟩, hlt, fun g hg => ?_, ⟨fun j b hj => (hno j b hj).elim, fun j k bj bk hj => (hno j bj hj).elim, fun j b hj => (hno j b hj).elim, fun j b hj => by simp at hj, Keep.refl _ _, fun r => noRows_ok r, fun q hq => (hs q hq).1.names (oad_res (hnm q hq)).2, fun g hg => ?_, fun j b hj => (hno j b hj).elim⟩⟩
  · exact List.pairwise_of_forall_mem_list fun a ha b hb ho => by
      rw [(hsl a ha).1, (hsl b hb).1] at ho
      rcases ho with ho | ho <;> cases ho
  · obtain ⟨q, hq, ho, _⟩ := mem_W.1 hg
    rw [(hsl q hq).1] at ho
    cases ho
  · obtain ⟨q, hq, hg⟩ := mem_B.1 hg
    rw [sblk_names (oad_res (hnm q hq)).2] at hg
    exact (hs q hq).2 g hg
end Go.Proofs.Ytloaehlgcgpieaa.Sx
