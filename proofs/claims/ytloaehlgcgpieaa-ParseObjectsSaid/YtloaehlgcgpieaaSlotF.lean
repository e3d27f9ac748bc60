/-
  Slices of bytes for the reckoner: words on what is made, appended, written. Conditions: stated at each theorem.
-/
import Derived.Test.YtloaehlgcgpieaaSlotE
set_option linter.all false
namespace Go.Proofs.Ytloaehlgcgpieaa.Sx
open Go.RowKit Go.Proofs.Ytloaehlgcgpieaa

def srcB (sl : List Sl) (z : A) : Option (List Int × Bool) := match rd sl z with
  | some (_, v, b) => match u8s v with
    | some ys => some (ys, b)
    | none => none
  | none => none

def slotP : Op → List (Nat × SV) → List (Option Blk) → Gh → Option CRR
  | .call { callee := .builtin .append, args := ⟨[d, s]⟩, argTypes := ⟨[22, 22]⟩ }, tmps, mem, gh => match evO tmps d, evO tmps s with
    | some (.c (.one y)), some (.c (.one z)) => match srcB gh.sl z with
      | some (ys, b) => match y with
        | .os j => match getSl j gh.sl with
          | some ⟨n', true, .ints 22 5 .u8 xs⟩ => if memWf mem = true then some (.test (b && decide (xs.length + ys.length ≤ 1000000)) ⟨some (.c (.one (.os mem.length))), nones4, ⟨gh.nm ++ four mem.length, setSl j ⟨mem.length, true, bytesV (xs ++ ys)⟩ gh.sl⟩, true, none⟩) else none
          | _ => none
        | .v (.slice none 0 0) => if memWf mem = true then some (.test (b && decide (ys.length ≤ 1000000)) ⟨some (.c (.one (.os mem.length))), nones4, ⟨gh.nm ++ four mem.length, gh.sl ++ [⟨mem.length, true, bytesV ys⟩]⟩, false, none⟩) else none
        | .sub (.os j) l h m 1 => if Nat.beq h m = true then match srcB gh.sl (.sub (.os j) l h m 1) with
            | some (xs, b') => if memWf mem = true then some (.test (b' && (b && decide (1 ≤ ys.length ∧ xs.length + ys.length ≤ 1000000))) ⟨some (.c (.one (.os mem.length))), nones4, ⟨gh.nm ++ four mem.length, gh.sl ++ [⟨mem.length, true, bytesV (xs ++ ys)⟩]⟩, false, none⟩) else none
            | none => none
          else none
        | _ => none
      | none => none
    | _, _ => none
  | _, _, _, _ => none

variable {L0 : List Nat}

theorem srcB_rd {E : Nat → Row} {w0 : WM} {σ : Nat → Nat} {gh : Gh} {mem : List (Option Blk)} {x : Ext} {w : World} (hm : Mx E famB L0 w0 σ gh mem x w) {y : A} {ys : List Int} (h : srcB gh.sl y = some (ys, true)) : RdV w (y.den E σ) (bytesV ys) := by
  unfold srcB at h
  split at h
  · rename_i q v b hr
    split at h
    · rename_i xs hu
      injection h with h
      injection h with h1 h2
      subst h1 h2
      have := u8s_some hu
      subst this
      exact rd_den hm hr
    · cases h
  · cases h

theorem four_all {nm : List Nat} {m : Nat} (h : ∀ n, n ∈ nm → n < m) : ∀ n, n ∈ nm ++ four m → n < m + nones4.length := fun n hn => by
  rcases List.mem_append.1 hn with hn | hn
  · have := h n hn
    show n < m + 4
    omega
  · exact four_lt hn

/-- A new slot of one's own, as an answer. -/
theorem aft_new {E : Nat → Row} {w0 : WM} {σ : Nat → Nat} {gh : Gh} {mem : List (Option Blk)} {x : Ext} {w w' : World} (hm : Mx E famB L0 w0 σ gh mem x w) (hwf : memWf mem = true) (hL : ∀ i, i < L0.length → i < mem.length) {xs : List Int} {a : Option Addr} {c : Nat}
    (ho : w'.ownsRow 0 5 1 (.slice a xs.length c) xs.length (bytesV xs).vals) (hsm : xs.length ≤ 1000000) (hk : Keep [] w w') (hf : ∀ g, a.map (·.block) = some g → w.heap.size ≤ g) :
    Aft E famB L0 w0 σ mem x w ⟨some (.c (.one (.os mem.length))), nones4, ⟨gh.nm ++ four mem.length, gh.sl ++ [⟨mem.length, true, bytesV xs⟩]⟩, false, none⟩ (.slice a xs.length c) w' := by
  obtain ⟨b, hbo, hok, hblk⟩ := own_slot (v := bytesV xs) (m := mem.length) ho hsm (bytesT xs)
  have hm' := slots_add hm hwf hL (σ' := updS σ mem.length b 0 c (bytesV xs).len) (fun i hi => (updS_lt hi).symm) (new := ⟨mem.length, true, bytesV xs⟩) hk nones4_none (nm' := gh.nm ++ four mem.length) (fun n hn => List.mem_append_left _ hn) (four_all hm.nm) (fun d hd => List.mem_append_right _ (four_mem hd)) hok (fun g hg => ⟨hf g (hblk g hg).1, (hblk g hg).2⟩)
  refine ⟨_, fun v hv => ?_, by simpa [CR.mem] using hm', fun i hi => (updS_lt hi).symm, by simpa [CR.kept] using hk⟩
  injection hv with hv
  subst hv
  refine ⟨?_, fun _ _ _ hh => by cases hh⟩
  simp only [SV.den, CV.den, A.den, updS_oad, ← hbo]
  simp [updS, SlV.len]

theorem append_form {o : Oper} {a : Act} {w w' : World} {d s : Operand} {u1 u2 v : Value} (ho : o.op = .call { callee := .builtin .append, args := ⟨[d, s]⟩, argTypes := ⟨[22, 22]⟩ }) (e1 : a.eval d = u1) (e2 : a.eval s = u2)
    (h : ∀ ty, (Builtin.append_ #[22, 22] ty #[u1, u2]).run Try.prog w = .ok v w') : (execOp a.eval o).run Try.prog w = .ok (.value v) w' := by
  have := h o.type
  simp [execOp, ho, resolve, invoke, builtin, e1, e2, this, Result.andThen]

theorem slotP_ok : OpOK Try.prog famB L0 slotP := by
  intro op tmps mem gh cr hcr hok E σ w0 x a w hm hL V o ho Qk
  unfold slotP at hcr
  split at hcr
  · rename_i d s
    split at hcr
    · rename_i y z hy hz
      have ev1 := evO_sound V hy
      have ev2 := evO_sound V hz
      simp only [SV.den, CV.den] at ev1 ev2
      split at hcr
      · rename_i ys b hsrc
        split at hcr
        · rename_i j
          split at hcr
          · rename_i n' xs hq
            split at hcr
            · rename_i hwf
              injection hcr with hcr
              subst hcr
              have hok : (b && decide (xs.length + ys.length ≤ 1000000)) = true := hok
              rw [Bool.and_eq_true] at hok
              obtain ⟨hb, hsm⟩ := hok
              subst hb
              have hsm := of_decide_eq_true hsm
              have hsm2 : (xs ++ ys).length ≤ 1000000 := by rw [List.length_append]; exact hsm
              have hR := srcB_rd hm hsrc
              obtain ⟨hs, hn, hin⟩ := slot_of hm hq
              have hn : n' = j := hn
              subst hn
              have hown : w.ownsRow 0 5 1 (.slice (oad σ n') xs.length (σ (n' + 2))) xs.length (bytesV xs).vals := hs.own rfl
              have hlen : σ (n' + 3) = xs.length := hs.len
              simp only [A.den, hlen] at ev1
              obtain ⟨a', c', w', hrun, hown', hkeep, hblk'⟩ := app_mem elt5 w (oad σ n') xs.length (σ (n' + 2)) (bytesV xs).vals hown _ _ _ none (arg_rd hR) (by simp [SlV.len]; omega)
              have hown2 : w'.ownsRow 0 5 1 (.slice a' (bytesV (xs ++ ys)).len c') (bytesV (xs ++ ys)).len (bytesV (xs ++ ys)).vals := by
                simpa [SlV.len, SlV.vals] using hown'
              obtain ⟨b, hbo, hok2, hblk⟩ := own_slot (m := mem.length) hown2 hsm2 (bytesT _)
              obtain ⟨g1, g2⟩ := slots_put hm hwf hL (σ' := updS σ mem.length b 0 c' (bytesV (xs ++ ys)).len) (fun i hi => (updS_lt hi).symm) hq hkeep (fun g hg => ⟨rfl, hg⟩) nones4_none (nm' := gh.nm ++ four mem.length) (fun n hn => List.mem_append_left _ hn) (four_all hm.nm) (new := ⟨mem.length, true, bytesV (xs ++ ys)⟩) (fun d hd => List.mem_append_right _ (four_mem hd)) hok2 (fun g hg => by
                obtain ⟨h1, h2⟩ := hblk g hg
                rcases hblk' with h | h
                · refine .inl ⟨?_, fun _ => rfl⟩
                  rw [h1] at h
                  show g ∈ ((oad σ n').map (·.block)).toList
                  rw [← h]
                  simp
                · rw [h1] at h
                  injection h with h
                  exact .inr ⟨by omega, h2⟩)
              refine wp_yields (append_form ho ev1 ev2 hrun) ⟨_, rfl, _, fun v hv => ?_, by simpa [CR.mem] using g1, fun i hi => (updS_lt hi).symm, by simpa [CR.kept] using g2⟩
              injection hv with hv
              subst hv
              refine ⟨?_, fun _ _ _ hh => by cases hh⟩
              simp only [SV.den, CV.den, A.den, updS_oad, ← hbo]
              simp [updS, SlV.len]
            · cases hcr
          · cases hcr
        · split at hcr
          · rename_i hwf
            injection hcr with hcr
            subst hcr
            have hok : (b && decide (ys.length ≤ 1000000)) = true := hok
            rw [Bool.and_eq_true] at hok
            obtain ⟨hb, hsm⟩ := hok
            subst hb
            have hsm := of_decide_eq_true hsm
            have hR := srcB_rd hm hsrc
            simp only [A.den] at ev1
            obtain ⟨a', c', w', hrun, hown', hkeep, hblk'⟩ := app_mem elt5 w none 0 0 [] (World.ownsRow_nil _ _ _ _) _ _ _ none (arg_rd hR) (by simp [SlV.len]; omega)
            rw [Nat.zero_add, List.nil_append] at hown'
            rw [Nat.zero_add] at hrun
            refine wp_yields (append_form ho ev1 ev2 hrun) ⟨_, rfl, aft_new hm hwf hL hown' hsm (by simpa using hkeep) fun g hg => ?_⟩
            rcases hblk' with h | h
            · rw [hg] at h; cases h
            · rw [hg] at h
              injection h with h
              omega
          · cases hcr
        · rename_i j l h m
          split at hcr
          · rename_i e1
            have e1 := Nat.eq_of_beq_eq_true e1
            subst e1
            split at hcr
            · rename_i xs b' hsrc2
              split at hcr
              · rename_i hwf
                injection hcr with hcr
                subst hcr
                have hok : (b' && (b && decide (1 ≤ ys.length ∧ xs.length + ys.length ≤ 1000000))) = true := hok
                rw [Bool.and_eq_true, Bool.and_eq_true] at hok
                obtain ⟨hb', hb, hsm⟩ := hok
                subst hb hb'
                have hsm := of_decide_eq_true hsm
                have hsm2 : (xs ++ ys).length ≤ 1000000 := by rw [List.length_append]; exact hsm.2
                have hR := srcB_rd hm hsrc
                have hR2 := srcB_rd hm hsrc2
                have hfull : ∃ ad, (A.sub (.os j) l h h 1).den E σ = .slice ad xs.length xs.length := by
                  obtain ⟨ad, c, hu, _⟩ := hR2.ex
                  have hu2 := hu
                  simp only [A.den, slv] at hu2 ⊢
                  injection hu2 with _ h1 h2
                  have h1 : h - l = xs.length := h1
                  exact ⟨_, by rw [h1]⟩
                obtain ⟨a', c', w', hrun, hown', hkeep, hblk'⟩ := app_full hR2 hfull hR hsm.1 hsm.2
                have hl2 : xs.length + ys.length = (xs ++ ys).length := (List.length_append ..).symm
                rw [hl2] at hrun hown'
                refine wp_yields (append_form ho ev1 ev2 hrun) ⟨_, rfl, aft_new hm hwf hL hown' hsm2 hkeep fun g hg => ?_⟩
                rw [hg] at hblk'
                injection hblk' with h
                omega
              · cases hcr
            · cases hcr
          · cases hcr
        · cases hcr
      · cases hcr
    · cases hcr
  · cases hcr
end Go.Proofs.Ytloaehlgcgpieaa.Sx
