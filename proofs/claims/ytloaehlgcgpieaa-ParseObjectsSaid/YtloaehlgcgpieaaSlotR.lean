/-
  Slices for the reckoner: words on what is read. Conditions: stated at each theorem.
-/
import Derived.Test.YtloaehlgcgpieaaSlotA
set_option linter.all false
namespace Go.Proofs.Ytloaehlgcgpieaa.Sx
open Go.RowKit Go.Proofs.Ytloaehlgcgpieaa

/-- The bounds of a slice operation. -/
def bnd (len : Nat) : Option SV → Option SV → Option SV → Option (Nat × Nat × Option Nat × Bool)
  | none, some (.c (.one (.v (.int _ h)))), none => some (0, h.toNat, none, decide (0 ≤ h ∧ h ≤ len))
  | some (.c (.one (.v (.int _ l)))), none, none => some (l.toNat, len, none, decide (0 ≤ l ∧ l ≤ len))
  | some (.c (.one (.v (.int _ l)))), some (.c (.one (.v (.int _ h)))), none => some (l.toNat, h.toNat, none, decide (0 ≤ l ∧ l ≤ h ∧ h ≤ len))
  | none, some (.c (.one (.v (.int _ h)))), some (.c (.one (.v (.int _ m)))) => some (0, h.toNat, some m.toNat, decide (0 ≤ h ∧ h ≤ m ∧ m ≤ len))
  | _, _, _ => none

theorem run_bnd {t e : Nat} (hu : Try.prog.underlying t = some (.slice e)) (hs : ∀ w, (sizeOf e).run Try.prog w = .ok 1 w) {E : Nat → Row} {σ : Nat → Nat} {lo hi mx : Option SV} {n l h : Nat} {m : Option Nat} (hb : bnd n lo hi mx = some (l, h, m, true)) {a : Option Addr} {c : Nat} (hc : n ≤ c) (w : World) :
    (Instr.sliceAt t (.slice a n c) (lo.map (SV.den E σ)) (hi.map (SV.den E σ)) (mx.map (SV.den E σ))).run Try.prog w = .ok (slv l h (m.getD c) 1 (.slice a n c)) w := by
  have he : Try.prog.elem t = e := by unfold Program.elem; rw [hu]
  rw [run_sliceAt_slice (h := by rw [he]; exact hu)]
  unfold bnd at hb
  split at hb
  · rename_i kk h'
    injection hb with hb
    injection hb with h1 hb
    injection hb with h2 hb
    injection hb with h3 h4
    subst h1 h2 h3
    have h4 := of_decide_eq_true h4
    have hb := run_sliceBound (P := Try.prog) w kk h' c .sliceAcap h4.1 (by omega)
    unfold Instr.slice Instr.sliceBounds
    simp [Sem.run_bind, run_underlying hu, SV.den, CV.den, A.den, hb, hs, Result.andThen, slv]
  · rename_i kk l'
    injection hb with hb
    injection hb with h1 hb
    injection hb with h2 hb
    injection hb with h3 h4
    subst h1 h2 h3
    have h4 := of_decide_eq_true h4
    have hb := run_sliceBound (P := Try.prog) w kk l' n .sliceB h4.1 (by omega)
    unfold Instr.slice Instr.sliceBounds
    simp [Sem.run_bind, run_underlying hu, SV.den, CV.den, A.den, hb, hs, Result.andThen, slv]
  · rename_i kk l' kk' h'
    injection hb with hb
    injection hb with h1 hb
    injection hb with h2 hb
    injection hb with h3 h4
    subst h1 h2 h3
    have h4 := of_decide_eq_true h4
    have hb := run_sliceBound (P := Try.prog) w kk' h' c .sliceAcap (by omega) (by omega)
    have hb2 := run_sliceBound (P := Try.prog) w kk l' h'.toNat .sliceB h4.1 (by omega)
    unfold Instr.slice Instr.sliceBounds
    simp [Sem.run_bind, run_underlying hu, SV.den, CV.den, A.den, hb, hb2, hs, Result.andThen, slv]
  · rename_i kk h' kk' m'
    injection hb with hb
    injection hb with h1 hb
    injection hb with h2 hb
    injection hb with h3 h4
    subst h1 h2 h3
    have h4 := of_decide_eq_true h4
    have hb := run_sliceBound (P := Try.prog) w kk' m' c .slice3Acap (by omega) (by omega)
    have hb2 := run_sliceBound (P := Try.prog) w kk h' m'.toNat .slice3B h4.1 (by omega)
    unfold Instr.slice Instr.sliceBounds
    simp [Sem.run_bind, run_underlying hu, SV.den, CV.den, A.den, hb, hb2, hs, Result.andThen, slv]
  · cases hb

def u8s : SlV → Option (List Int) | .ints 22 5 .u8 xs => some xs | _ => none
theorem u8s_some {v : SlV} {xs : List Int} (h : u8s v = some xs) : v = .ints 22 5 .u8 xs := by
  unfold u8s at h
  split at h
  · injection h with h; subst h; rfl
  · cases h

/-- Words on what is read. -/
def slotR : Op → List (Nat × SV) → List (Option Blk) → Gh → Option CRR
  | .call { callee := .builtin .len, args := ⟨[x]⟩, argTypes := ⟨[S]⟩ }, tmps, _, gh => match evO tmps x with
    | some (.c (.one y)) => match rd gh.sl y with
      | some (_, v, b) => if Nat.beq v.S S = true then some (.test b ⟨some (iV .i64 v.len), [], gh, false, none⟩) else none
      | none => none
    | _ => none
  | .indexAddr S x idx, tmps, _, gh => match evO tmps x, evO tmps idx with
    | some (.c (.one (.os j))), some (.c (.one (.v (.int _ z)))) => match getSl j gh.sl with
      | some q => if Nat.beq q.v.S S = true then some (.test (decide (0 ≤ z ∧ z < q.v.len)) ⟨some (.c (.one (.oe j z.toNat 1 0))), [], gh, false, none⟩) else none
      | none => none
    | _, _ => none
  | .load t x, tmps, _, gh => match evO tmps x with
    | some (.c (.one (.oe j k 1 0))) => match getSl j gh.sl with
      | some q => match q.v.at? k with
        | some y => if Nat.beq q.v.e t = true then some (.test (decide (k < q.v.len)) ⟨some (.c (.one y)), [], gh, false, none⟩) else none
        | none => none
      | none => none
    | _ => none
  | .slice S x lo hi mx, tmps, _, gh => match evO tmps x, optO tmps lo, optO tmps hi, optO tmps mx with
    | some (.c (.one (.os j))), some lo, some hi, some mx => match getSl j gh.sl with
      | some q => match bnd q.v.len lo hi mx with
        | some (l, h, none, b) => if Nat.beq q.v.S S = true then some (.test b ⟨some (.c (.one (.vw j l h))), [], gh, false, none⟩) else none
        | some (l, h, some m, b) => if Nat.beq q.v.S S = true then some (.test b ⟨some (.c (.one (.sub (.os j) l h m 1))), [], gh, false, none⟩) else none
        | none => none
      | none => none
    | _, _, _, _ => none
  | .convert 22 9 x, tmps, _, gh => match evO tmps x with
    | some (.c (.one y)) => match rd gh.sl y with
      | some (_, v, b) => match u8s v with
        | some xs => some (.test b ⟨some (sV (strOfNums xs)), [], gh, false, none⟩)
        | none => none
      | none => none
    | _ => none
  | _, _, _, _ => none

theorem slT_und {v : SlV} (h : SlT v) {S : Nat} (e : v.S = S) : Try.prog.underlying S = some (.slice v.e) := by
  obtain ⟨by_, z, helt, _⟩ := h.elt
  rw [← e]
  exact helt.und

theorem conv_rd {w : World} {u : Value} {xs : List Int} (h : RdV w u (.ints 22 5 .u8 xs)) (hs : Try.prog.underlying 22 = some (.slice 5)) (he : Try.prog.underlying 5 = some (.int .u8)) (h9 : Try.prog.underlying 9 = some .string) :
    (convert 22 9 u).run Try.prog w = .ok (.string (strOfNums xs)) w := by
  obtain ⟨ad, c, rfl, hnil, hcap, hsp, hcell⟩ := h.ex
  have hcell : ∀ j v, (xs.map (Value.int .u8))[j]? = some v → ∃ b o, ad = some ⟨b, o, none⟩ ∧ w.cell? ⟨b, o + j, none⟩ = some v := hcell
  cases ad with
  | none =>
    have h0 : xs = [] := by
      cases xs with
      | nil => rfl
      | cons y ys =>
        obtain ⟨b, o, h1, _⟩ := hcell 0 _ rfl
        cases h1
    subst h0
    rw [run_convert_bytes_nil w 22 5 hs he _ _ 9 h9]
    rfl
  | some a =>
    obtain ⟨b, o, sp⟩ := a
    have h1 := (hsp _ rfl).1
    simp only at h1
    subst h1
    refine run_convert_bytes_arg w 22 5 hs he b o _ c xs rfl (fun i hi => ?_) 9 h9
    have hi : i < xs.length := hi
    obtain ⟨b', o', h2, h3⟩ := hcell i (.int .u8 (xs.getD i 0)) (by simp [List.getElem?_eq_getElem hi])
    injection h2 with h2
    injection h2 with h4 h5
    subst h4 h5
    exact h3

theorem slotR_ok {L0 : List Nat} : OpOK Try.prog famB L0 slotR := by
  intro op tmps mem gh cr hcr hok E σ w0 x a w hm hL V o ho Qk
  unfold slotR at hcr
  split at hcr
  · rename_i xo S
    split at hcr
    · rename_i y hy
      split at hcr
      · rename_i q v b hr
        split at hcr
        · rename_i e1
          have e1 := Nat.eq_of_beq_eq_true e1
          injection hcr with hcr
          subst hcr
          have hb : b = true := hok
          subst hb
          have hR := rd_den hm hr
          obtain ⟨ad, c, hu, _⟩ := hR.ex
          have ev1 := evO_sound V hy
          simp only [SV.den, CV.den] at ev1
          rw [hu] at ev1
          have hrun : (execOp a.eval o).run Try.prog w = .ok (.value (.int .i64 v.len)) w := by
            have := run_len_sl (P := Try.prog) (w := w) (slT_und hR.ty e1) #[S] rfl o.type ad v.len c
            have this : (Builtin.len_ (⟨[S]⟩ : Array TypeId) o.type #[.slice ad v.len c]).run Try.prog w = .ok (.int .i64 v.len) w := this
            simp [execOp, ho, resolve, invoke, builtin, ev1, this, Result.andThen]
          exact wp_yields hrun ⟨_, rfl, aft_pure hm (v := iV .i64 v.len) (fun _ _ _ hh => by cases hh)⟩
        · cases hcr
      · cases hcr
    · cases hcr
  · rename_i S xo idx
    split at hcr
    · rename_i j kk z hj hz
      split at hcr
      · rename_i q hq
        split at hcr
        · rename_i e1
          have e1 := Nat.eq_of_beq_eq_true e1
          injection hcr with hcr
          subst hcr
          have hz2 : 0 ≤ z ∧ z < q.v.len := of_decide_eq_true hok
          obtain ⟨hs, hn, _⟩ := slot_of hm hq
          have ev1 := evO_sound V hj
          have ev2 := evO_sound V hz
          simp only [SV.den, CV.den, A.den] at ev1 ev2
          have hlen := hs.len
          rw [hn] at hlen
          obtain ⟨b, o', hb⟩ := hs.at_ (k := z.toNat) (by omega)
          rw [hn] at hb
          have hi := run_indexAt_in (P := Try.prog) (w := w) (k := kk) (b := b) (o := o') (n := σ (j + 3)) (c := σ (j + 2)) (slT_und hs.ty e1) hs.ty.sz hz2.1 (by rw [hlen]; exact hz2.2)
          have hrun : (execOp a.eval o).run Try.prog w = .ok (.value (.pointer (some ⟨b, o' + z.toNat * 1, none⟩))) w := by
            simp only [Nat.mul_one] at hi ⊢
            simp [execOp, ho, ev1, ev2, hb, hi, Result.andThen]
          have := aft_pure hm (v := .c (.one (.oe j z.toNat 1 0))) (fun _ _ _ hh => by cases hh)
          simp only [SV.den, CV.den, A.den, hb, Option.map_some, Nat.add_zero, addr_add] at this
          exact wp_yields hrun ⟨_, rfl, this⟩
        · cases hcr
      · cases hcr
    · cases hcr
  · rename_i t xo
    split at hcr
    · rename_i j k hj
      split at hcr
      · rename_i q hq
        split at hcr
        · rename_i y hy
          split at hcr
          · rename_i e1
            have e1 := Nat.eq_of_beq_eq_true e1
            injection hcr with hcr
            subst hcr
            have hk : k < q.v.len := of_decide_eq_true hok
            obtain ⟨hs, hn, _⟩ := slot_of hm hq
            obtain ⟨h1, h2⟩ := at_some hy hk E σ
            obtain ⟨b, o', hb, hc⟩ := hs.cell k _ h1
            rw [hn] at hb
            have ev1 := evO_sound V hj
            simp only [SV.den, CV.den, A.den, hb, Option.map_some, Nat.add_zero, Nat.mul_one, addr_add] at ev1
            have hl : (loadVar t ⟨b, o' + k, none⟩).run Try.prog w = .ok (y.den E σ) w := by
              have hag := hs.ty.ag w
              rw [e1] at hag
              unfold loadVar
              rw [Sem.run_bind, hag]
              simp [hc]
            have hrun : (execOp a.eval o).run Try.prog w = .ok (.value (y.den E σ)) w := by
              simp [execOp, ho, ev1, Instr.loadAt, Instr.sureAddr, hl, Result.andThen]
            exact wp_yields hrun ⟨_, rfl, aft_pure hm (v := .c (.one y)) (fun q' k' off hh => h2 q' k' off (by injection hh with hh; injection hh))⟩
          · cases hcr
        · cases hcr
      · cases hcr
    · cases hcr
  · rename_i S xo lo hi mx
    split at hcr
    · rename_i j lo' hi' mx' hj hlo hhi hmx
      split at hcr
      · rename_i q hq
        obtain ⟨hs, hn, _⟩ := slot_of hm hq
        have ev1 := evO_sound V hj
        simp only [SV.den, CV.den, A.den] at ev1
        have e2 := optO_sound V hlo
        have e3 := optO_sound V hhi
        have e4 := optO_sound V hmx
        have hlen := hs.len
        have hcap := hs.cap
        rw [hn] at hlen hcap
        split at hcr
        · rename_i l h b hbd
          split at hcr
          · rename_i e1
            have e1 := Nat.eq_of_beq_eq_true e1
            injection hcr with hcr
            subst hcr
            have hb : b = true := hok
            subst hb
            have hr := run_bnd (E := E) (σ := σ) (slT_und hs.ty e1) hs.ty.sz hbd (a := oad σ j) hcap w
            have hrun : (execOp a.eval o).run Try.prog w = .ok (.value (slv l h (σ (j + 2)) 1 (.slice (oad σ j) q.v.len (σ (j + 2))))) w := by
              simp [execOp, ho, ev1, e2, e3, e4, hlen, hr, Result.andThen]
            have := aft_pure hm (v := .c (.one (.vw j l h))) (fun _ _ _ hh => by cases hh)
            simp only [SV.den, CV.den, A.den, hlen] at this
            exact wp_yields hrun ⟨_, rfl, this⟩
          · cases hcr
        · rename_i l h m b hbd
          split at hcr
          · rename_i e1
            have e1 := Nat.eq_of_beq_eq_true e1
            injection hcr with hcr
            subst hcr
            have hb : b = true := hok
            subst hb
            have hr := run_bnd (E := E) (σ := σ) (slT_und hs.ty e1) hs.ty.sz hbd (a := oad σ j) hcap w
            have hrun : (execOp a.eval o).run Try.prog w = .ok (.value (slv l h m 1 (.slice (oad σ j) q.v.len (σ (j + 2))))) w := by
              simp [execOp, ho, ev1, e2, e3, e4, hlen, hr, Result.andThen]
            have := aft_pure hm (v := .c (.one (.sub (.os j) l h m 1))) (fun _ _ _ hh => by cases hh)
            simp only [SV.den, CV.den, A.den, hlen] at this
            exact wp_yields hrun ⟨_, rfl, this⟩
          · cases hcr
        · cases hcr
      · cases hcr
    · cases hcr
  · rename_i xo
    split at hcr
    · rename_i y hy
      split at hcr
      · rename_i q v b hr
        split at hcr
        · rename_i xs hu
          injection hcr with hcr
          subst hcr
          have hb : b = true := hok
          subst hb
          have hR := rd_den hm hr
          have hv := u8s_some hu
          subst hv
          have ev1 := evO_sound V hy
          simp only [SV.den, CV.den] at ev1
          have hc := conv_rd hR Try.underlying22 Try.underlying5 Try.underlying9
          rw [← ev1] at hc
          have hrun : (execOp a.eval o).run Try.prog w = .ok (.value (.string (strOfNums xs))) w := by
            simp [execOp, ho, hc, Result.andThen]
          exact wp_yields hrun ⟨_, rfl, aft_pure hm (v := sV (strOfNums xs)) (fun _ _ _ hh => by cases hh)⟩
        · cases hcr
      · cases hcr
    · cases hcr
  · cases hcr
end Go.Proofs.Ytloaehlgcgpieaa.Sx
