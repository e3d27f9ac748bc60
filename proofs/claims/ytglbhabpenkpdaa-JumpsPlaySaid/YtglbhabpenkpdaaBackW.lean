/-
  JumpsBack answers true. Conditions: stated at each theorem.
-/
import Derived.Test.YtglbhabpenkpdaaBackE
import Derived.Test.YtglbhabpenkpdaaBackP
import Derived.Test.YtglbhabpenkpdaaJRow
set_option linter.all false
namespace Go.Proofs.Ytglbhabpenkpdaa.Sx
open Go.RowKit Go.Proofs.Ytglbhabpenkpdaa

theorem rowB_ok {w : World} {a : Option Addr} {c : Nat} {bs : List Int} (h : Arg w 1 (.slice a bs.length c) bs.length (intV .u8 bs) none) (hc : bs.length ≤ c) (r : Nat) : RowOK w [] (rowB a c bs r) := by
  refine ⟨fun hn => ?_, fun k hk => rfl, hc⟩
  rcases h.2.2 with ⟨h0, _⟩ | ⟨_, b, off, c', hu, hcell, _⟩
  · have : 0 < bs.length := hn
    omega
  · injection hu with h1 h2 h3
    subst h1
    have hcl : ∀ k, k < bs.length → w.cell? ⟨b, off + k, none⟩ = some (.int .u8 (bs.getD k 0)) := fun k hk => hcell k _ (by simp [intV, List.getElem?_eq_getElem hk, List.getD_eq_getElem?_getD])
    refine ⟨b, off, rfl, ?_, by simp, fun k hk j hj => ?_⟩
    · have := hcl 0 hn
      unfold World.cell? at this
      cases hb : w.heap[b]? with
      | none => simp [hb] at this
      | some o => exact (Array.getElem?_eq_some_iff.1 hb).1
    · have : j = 0 := by
        have : j < 1 := hj
        omega
      subst this
      have := hcl k hk
      simpa [rowB] using this

theorem bool_cases {b : Bool} (h : b = true → False) : b = false := by cases b <;> simp_all

theorem back3 (ad : Option Addr) (c : Nat) (bs : List Int) (z n : Int) (w : World) (harg : Arg w 1 (.slice ad bs.length c) bs.length (intV .u8 bs) none) (hc : bs.length ≤ c) (hbs : ∀ b, b ∈ bs → 0 ≤ b ∧ b ≤ 255) (hz : 0 ≤ z ∧ z ≤ 255) (hn : 0 ≤ n ∧ n ≤ 255) :
    Calls Try.prog 3 #[.slice ad bs.length c, .int .u8 z, .int .u8 n] w fun e w' => e = .returned (.bool true) ∧ Keep [] w w' := by
  have key : Calls Try.prog 3 (([.c (.one (.row 0)), iV .u8 z, iV .u8 n] : List SV).map (SV.den (rowB ad c bs) (fun i => ([] : List Nat).getD i 0))).toArray w (fun e w' => e = .returned (.bool true) ∧ Keep [] w w') := by
    refine calls_of_ev (Jt := fun _ _ _ => False) (X := famJ mapY) (gh := gh0) (w0 := ⟨w, []⟩) (tbB_ok (L0 := [])) (f := 3) (fn := Try.f3) rfl (mem := []) ⟨_, ⟨Ext.nil, rfl, rfl⟩, fun i hi => (by cases hi), fun b hb => (by cases hb), mok_start rfl (by simp) (fun b hb => by cases hb) (fun b hb => by cases hb) (rowB_ok harg hc) ⟨trivial, trivial⟩ (fun b hb => by cases hb) (fun i b hi => by simp at hi) (fun i b hi => by simp at hi)⟩ (Nat.le_refl 0) (show 3 ≤ 90 by omega) (fun v hv => by simp at hv; rcases hv with rfl | rfl | rfl <;> exact (fun _ _ _ hh => by cases hh)) (n := 400) ?_
    rw [show Try.f3.ntmps = 90 from rfl, back_ev1 ad c bs z n]
    have fin : ∀ (Jt : Nat → Act → World → Prop) (mem : List (Option Blk)) (gh : Gh), OutOK Try.prog tbB (rowB ad c bs) (famJ mapY) Jt (EndQ fun e w' => e = .returned (.bool true) ∧ Keep [] w w') [] ⟨w, []⟩ (.leaf [] .normal ⟨1, [(0, .c (.one (.v (.bool true))))], mem, gh⟩) := fun Jt mem gh =>
      leaf_end fun σ w' hm => by
        obtain ⟨x, hm⟩ := hm
        exact ⟨rfl, hm.mok.keep⟩
    refine OutOK_cond.2 ⟨fun _ => fin _ _ _, fun hlen => ?_⟩
    have hlen : bs.length ≤ 12 := by
      have := of_decide_eq_false hlen
      simp [rowB] at this
      omega
    refine at_loop (by kernel_rfl) 0 (by kernel_rfl) (by kernel_rfl) (α := { i : Nat // i ≤ bs.length }) (fun i => backS z n (psI bs i.1) (ksI bs i.1) i.1) (fun _ => famJ mapY) (fun _ => tbB) (fun _ => rfl) (fun i => bs.length - i.1) ?_ ⟨0, Nat.zero_le _⟩
    rintro ⟨i, hi⟩ J hJ
    refine ev_sound tbB_ok endQ_panic 400 _ _ _ ?_
    show OutOK _ _ _ _ _ _ _ _ (ev tbB (rowB ad c bs) 400 [.c 3 [0, 0, 1, 0, 1, 1, 1, 1, 1], .j 0, .b 0, .c 3 [1, 1, 1, 1, 1, 1], .f 3 1 [] (some 0)] .normal (backS z n (psI bs i) (ksI bs i) i))
    rw [back_ev2]
    have hgn : ((rowB ad c bs 0).n : Int) = (bs.length : Int) := rfl
    have hB := bi bs (fun b hb => (hbs b hb).2) i (by omega)
    refine OutOK_cond.2 ⟨fun hlt => ?_, fun hge => ?_⟩
    · have hlt : i < bs.length := by have := of_decide_eq_true hlt; rw [hgn] at this; omega
      have hin : decide (0 ≤ (i : Int) ∧ (i : Int) < ((rowB ad c bs 0).n : Int)) = true := decide_eq_true (by rw [hgn]; omega)
      refine OutOK_cond.2 ⟨fun _ => OutOK_cond.2 ⟨fun _ => ?_, fun hh => by rw [hin] at hh; cases hh⟩, fun hh => by rw [hin] at hh; cases hh⟩
      have e1 : IntKind.i64.wrap ((i : Int) + 1) = ((i + 1 : Nat) : Int) := by rw [wrap_small (by omega) (by omega)]; omega
      have hb : 0 ≤ bs.getD i 0 ∧ bs.getD i 0 ≤ 255 := by
        rw [List.getD_eq_getElem?_getD, List.getElem?_eq_getElem hlt]
        exact hbs _ (List.getElem_mem _)
      have e2 : IntKind.i64.wrap (bs.getD (i : Int).toNat 0) = bs.getD i 0 := by rw [Int.toNat_natCast]; exact wrap_small (by omega) (by omega)
      rw [e1, e2]
      refine safe_j fun σ a w1 hcn => hJ ⟨i + 1, hlt⟩ (by show bs.length - (i + 1) < bs.length - i; omega) σ a w1 ?_
      exact hcn.less (tmps := (backS z n (psI bs (i + 1)) (ksI bs (i + 1)) (i + 1)).tmps) (fun q hq => by simp only [backS, List.mem_cons, List.not_mem_nil, or_false] at hq ⊢; rcases hq with h | h | h | h | h | h | h <;> simp [h])
    · have hi' : i = bs.length := by have := of_decide_eq_false hge; rw [hgn] at this; omega
      obtain ⟨kk, hkk⟩ : ∃ kk : Nat, n.tmod 14 + 1 = (kk : Int) := ⟨(n.tmod 14 + 1).toNat, by have := Int.tmod_nonneg 14 hn.1; omega⟩
      have hk0 : 0 ≤ n.tmod 14 := Int.tmod_nonneg 14 hn.1
      have hk1 : n.tmod 14 < 14 := Int.tmod_lt_of_pos n (by decide)
      have e1 : IntKind.i64.wrap (IntKind.i64.wrap (n.tmod 14) + 1) = (kk : Int) := by rw [wrap_small (n := n.tmod 14) (by omega) (by omega), hkk]; exact wrap_small (by omega) (by omega)
      have e2 : IntKind.i64.wrap (1000 + IntKind.i64.wrap z) = 1000 + z := by rw [wrap_small (n := z) (by omega) (by omega)]; exact wrap_small (by omega) (by omega)
      rw [e1, e2]
      have hlk := hB.len
      by_cases hkl : kk ≤ (psI bs i).length
      · obtain ⟨x, o1, o2, o3⟩ := older_far hB (by omega) (q := (1000 + z, 3)) (by simp; omega) kk (by omega) hkl
        obtain ⟨x1, x2⟩ := x
        rw [o1]
        dsimp only
        rw [o2]
        dsimp only
        rw [o3]
        have hd : decide ((kk : Int) ≤ ((ksI bs i).length : Int)) = true := decide_eq_true (by omega)
        rw [hd]
        refine OutOK_cond.2 ⟨fun hh => by simp at hh, fun _ => OutOK_cond.2 ⟨fun hh => by simp at hh, fun _ => OutOK_cond.2 ⟨fun _ => OutOK_cond.2 ⟨fun _ => fin _ _ _, fun hh => by simp at hh⟩, fun hh => by simp at hh⟩⟩⟩
      · rw [older_none kk (by omega)]
        dsimp only
        have hd : decide ((kk : Int) ≤ ((ksI bs i).length : Int)) = false := decide_eq_false (by omega)
        rw [hd]
        refine OutOK_cond.2 ⟨fun hh => by simp at hh, fun _ => OutOK_cond.2 ⟨fun _ => fin _ _ _, fun hh => by simp at hh⟩⟩
  exact key
end Go.Proofs.Ytglbhabpenkpdaa.Sx
