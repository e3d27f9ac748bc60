/-
  JumpsMany answers true. Conditions: stated at each theorem.
-/
import Derived.Test.YtglbhabpenkpdaaManyE
import Derived.Test.YtglbhabpenkpdaaManyP
import Derived.Test.YtglbhabpenkpdaaBackW
set_option linter.all false
namespace Go.Proofs.Ytglbhabpenkpdaa.Sx
open Go.RowKit Go.Proofs.Ytglbhabpenkpdaa

section
variable {P : Program} {tb : Tab} {E : Nat → Row} {X : Fam} {Jt : Nat → Act → World → Prop} {Q : Exit → Act → World → Prop} {L0 : List Nat} {w0 : WM}
theorem safe_re {K : List It} (hK : K.all (It.wf 0) = true) {ex : Exit} {st st' : St} (h : ∀ σ a w, Conc E X L0 w0 σ st a w → ∃ σ', Conc E X L0 w0 σ' st' a w) (hs : Safe P tb E X Jt Q L0 w0 K ex st') : Safe P tb E X Jt Q L0 w0 K ex st := by
  intro σ a w hc
  obtain ⟨σ', hc'⟩ := h σ a w hc
  have := hs σ' a w hc'
  rwa [wpK_congr (n := 0) (σ := σ') (σ' := σ) (fun i hi => by omega) hK] at this

theorem safe_jj {k : Nat} {K : List It} {st : St} (h : ∀ σ a w, Conc E X L0 w0 σ st a w → Jt k a w) : Safe P tb E X Jt Q L0 w0 (.j k :: K) .normal st := fun σ a w hc => h σ a w hc

theorem conc_re {σ σ' : Nat → Nat} {st st' : St} {a : Act} {w : World} (h : Conc E X [] w0 σ st a w) (hn : st'.n = st.n) (ht : ∀ p, p ∈ st'.tmps → ∃ q, q ∈ st.tmps ∧ q.1 = p.1 ∧ q.2.den E σ = p.2.den E σ') (hep : ∀ p, p ∈ st'.tmps → ∀ r k off, p.2 ≠ .c (.one (.ep r k off))) (hm : Mo E X [] w0 σ' st'.gh st'.mem w) : Conc E X [] w0 σ' st' a w :=
  ⟨h.defers, by rw [hn]; exact h.size, fun p hp => by obtain ⟨q, h1, h2, h3⟩ := ht p hp; rw [← h2, ← h3]; exact h.ht q h1, fun t r k off hp => (hep _ hp r k off rfl).elim, hm, fun i hi => by cases hi⟩

theorem ok_t {b : Bool} {x y : Out} (hb : b = true) (h : OutOK P tb E X Jt Q L0 w0 x) : OutOK P tb E X Jt Q L0 w0 (cond b x y) := by subst hb; exact h
theorem ok_b {x y : Out} (hx : OutOK P tb E X Jt Q L0 w0 x) (hy : OutOK P tb E X Jt Q L0 w0 y) : OutOK P tb E X Jt Q L0 w0 (.both x y) := ⟨hx, hy⟩
theorem ok_f {b : Bool} {x y : Out} (hb : b = false) (h : OutOK P tb E X Jt Q L0 w0 y) : OutOK P tb E X Jt Q L0 w0 (cond b x y) := by subst hb; exact h
end

theorem many4 (ad : Option Addr) (c : Nat) (bs : List Int) (w : World) (harg : Arg w 1 (.slice ad bs.length c) bs.length (intV .u8 bs) none) (hc : bs.length ≤ c) (hbs : ∀ b, b ∈ bs → 0 ≤ b ∧ b ≤ 255) :
    Calls Try.prog 4 #[.slice ad bs.length c] w fun e w' => e = .returned (.bool true) ∧ Keep [] w w' := by
  have key : Calls Try.prog 4 (([.c (.one (.row 0))] : List SV).map (SV.den (rowB ad c bs) (fun i => ([] : List Nat).getD i 0))).toArray w (fun e w' => e = .returned (.bool true) ∧ Keep [] w w') := by
    refine calls_of_ev (Jt := fun _ _ _ => False) (X := famJ slotY) (gh := gh0) (w0 := ⟨w, []⟩) (tbM_ok (L0 := [])) (f := 4) (fn := Try.f4) rfl (mem := []) ⟨_, ⟨_, rfl, rfl, fun q hq => (by cases hq), List.Pairwise.nil⟩, fun i hi => (by cases hi), fun b hb => (by cases hb), mok_start rfl (by simp) (fun b hb => by cases hb) (fun b hb => by cases hb) (rowB_ok harg hc) ⟨trivial, fun q hq => by cases hq⟩ (fun b hb => by cases hb) (fun i b hi => by simp at hi) (fun i b hi => by simp at hi)⟩ (Nat.le_refl 0) (show 1 ≤ 100 by omega) (fun v hv => by simp at hv; subst hv; exact (fun _ _ _ hh => by cases hh)) (n := 400) ?_
    rw [show Try.f4.ntmps = 100 from rfl, many_ev1 ad c bs]
    have fin : ∀ (Jt : Nat → Act → World → Prop) (mem : List (Option Blk)) (gh : Gh), OutOK Try.prog tbM (rowB ad c bs) (famJ slotY) Jt (EndQ fun e w' => e = .returned (.bool true) ∧ Keep [] w w') [] ⟨w, []⟩ (.leaf [] .normal ⟨1, [(0, .c (.one (.v (.bool true))))], mem, gh⟩) := fun Jt mem gh =>
      leaf_end fun σ w' hm => by
        obtain ⟨x, hm⟩ := hm
        exact ⟨rfl, hm.mok.keep⟩
    refine OutOK_cond.2 ⟨fun _ => fin _ _ _, fun hlen => ?_⟩
    have hlen : bs.length ≤ 60 := by
      have := of_decide_eq_false hlen
      simp [rowB] at this
      omega
    refine safe_re (by kernel_rfl) (st' := manyS [] [] 0) (fun σ a w1 hc => ⟨fun n => if n = 0 then σ 0 else 0, conc_re hc rfl ?_ ?_ ?_⟩) ?_
    · intro p hp
      simp only [manyS, List.mem_cons, List.not_mem_nil, or_false] at hp
      rcases hp with rfl | rfl | rfl | rfl | rfl
      · exact ⟨_, by simp, rfl, rfl⟩
      · exact ⟨(4, .c (.one (.v (.slice none 0 0)))), by simp, rfl, by simp [SV.den, CV.den, A.den, oad]⟩
      · exact ⟨(3, .c (.one (.ptr 0 0))), by simp, rfl, by simp [SV.den, CV.den, A.den]⟩
      · exact ⟨_, by simp, rfl, rfl⟩
      · exact ⟨(0, .c (.one (.row 0))), by simp, rfl, rfl⟩
    · intro p hp r k off hh
      simp only [manyS, List.mem_cons, List.not_mem_nil, or_false] at hp
      rcases hp with rfl | rfl | rfl | rfl | rfl <;> cases hh
    · refine slots_named (σ := σ) (i := 0) (nm := []) (sl := []) (sl' := [⟨1, false, .ints 34 3 .i64 []⟩]) (i' := 0) (nm' := [1, 2, 3, 4]) hc.mo (by simp) (by simp) (by simp) (fun q hq d hd => ?_) (fun q hq => .inr ?_) (fun _ => by simp)
      · obtain rfl := List.mem_singleton.1 hq
        have : d = 0 ∨ d = 1 ∨ d = 2 ∨ d = 3 := by omega
        rcases this with rfl | rfl | rfl | rfl <;> simp
      · obtain rfl := List.mem_singleton.1 hq
        exact ⟨rfl, intT [], by simp, by simp, by simp⟩
    refine at_loop (by kernel_rfl) 0 (by kernel_rfl) (by kernel_rfl) (α := { i : Nat // i ≤ bs.length }) (fun i => manyS (psI bs i.1) (wsI bs i.1) i.1) (fun _ => famJ slotY) (fun _ => tbM) (fun _ => rfl) (fun i => bs.length - i.1) ?_ ⟨0, Nat.zero_le _⟩
    rintro ⟨i, hi⟩ J hJ
    refine ev_sound tbM_ok endQ_panic 400 _ _ _ ?_
    show OutOK _ _ _ _ _ _ _ _ (ev tbM (rowB ad c bs) 400 [.c 4 [0, 0, 1, 0, 1, 1, 1, 1, 1], .j 0, .b 0, .c 4 [1, 1, 1, 1, 1, 1], .f 4 1 [] (some 0)] .normal (manyS (psI bs i) (wsI bs i) i))
    rw [many_ev2]
    obtain ⟨hw1, hw2⟩ := ws_ps bs i
    have hwl : (wsI bs i).length = (psI bs i).length := by rw [← hw1, List.length_map]
    refine OutOK_cond.2 ⟨fun hlt => ?_, fun hge => ?_⟩
    · have hlt : i < bs.length := by have := of_decide_eq_true hlt; omega
      have hin : decide (0 ≤ (i : Int) ∧ (i : Int) < (bs.length : Int)) = true := decide_eq_true (by omega)
      refine ok_t hin ?_
      have hb : 0 ≤ bs.getD i 0 ∧ bs.getD i 0 ≤ 255 := by
        rw [List.getD_eq_getElem?_getD, List.getElem?_eq_getElem hlt]
        exact hbs _ (List.getElem_mem _)
      have e1 : IntKind.i64.wrap ((i : Int) + 1) = ((i + 1 : Nat) : Int) := by rw [wrap_small (by omega) (by omega)]; omega
      have e2 : IntKind.i64.wrap (bs.getD (i : Int).toNat 0) = bs.getD i 0 := by rw [Int.toNat_natCast]; exact wrap_small (by omega) (by omega)
      rw [e2]
      have hwl16 : (wsI bs i).length ≤ 16 := by rw [hwl]; exact hw2
      refine safe_re (by kernel_rfl) (st' := manyV (psI bs (i + 1)) (wsI bs i) [] i 0) (fun σ a w1 hc => ⟨fun n => if n < 5 then σ n else 0, conc_re hc rfl ?_ ?_ ?_⟩) ?_
      · intro p hp
        simp only [manyV, List.mem_cons, List.not_mem_nil, or_false] at hp
        rcases hp with rfl | rfl | rfl | rfl | rfl | rfl | rfl
        · exact ⟨(7, .c (.one (.v (.int .i64 0)))), by simp, rfl, rfl⟩
        · exact ⟨(6, .c (.one (.v (.slice none 0 0)))), by simp, rfl, by simp [SV.den, CV.den, A.den, oad]⟩
        · exact ⟨(5, .c (.one (.v (.int .i64 (i : Nat))))), by simp, rfl, rfl⟩
        · exact ⟨(4, .c (.one (.os 1))), by simp, rfl, by simp [SV.den, CV.den, A.den, oad]⟩
        · exact ⟨(3, .c (.one (.ptr 0 0))), by simp, rfl, by simp [SV.den, CV.den, A.den]⟩
        · exact ⟨(2, .c (.one (.v (.bool false)))), by simp, rfl, rfl⟩
        · exact ⟨(0, .c (.one (.row 0))), by simp, rfl, rfl⟩
      · intro p hp r k off hh
        simp only [manyV, List.mem_cons, List.not_mem_nil, or_false] at hp
        rcases hp with rfl | rfl | rfl | rfl | rfl | rfl | rfl <;> cases hh
      · refine slots_named (σ := σ) (i := 0) (nm := [1, 2, 3, 4]) (sl := [⟨1, false, .ints 34 3 .i64 (wsI bs i)⟩]) (sl' := [⟨1, false, .ints 34 3 .i64 (wsI bs i)⟩, ⟨5, true, .ints 34 3 .i64 []⟩]) (i' := 0) (nm' := [1, 2, 3, 4, 5, 6, 7, 8]) hc.mo (by simp) (by simp) (by simp) (fun q hq d hd => ?_) (fun q hq => ?_) (fun _ => by simp [sblk, oad])
        · have : d = 0 ∨ d = 1 ∨ d = 2 ∨ d = 3 := by omega
          simp only [List.mem_cons, List.not_mem_nil, or_false] at hq
          rcases hq with rfl | rfl <;> rcases this with rfl | rfl | rfl | rfl <;> simp
        · simp only [List.mem_cons, List.not_mem_nil, or_false] at hq
          rcases hq with rfl | rfl
          · refine .inl ⟨_, List.mem_cons_self, rfl, id, fun d hd => ?_⟩
            show (if 1 + d < 5 then σ (1 + d) else 0) = σ (1 + d)
            rw [if_pos (by omega)]
          · exact .inr ⟨rfl, intT [], by simp, by simp, by simp⟩
      refine at_loop (by kernel_rfl) 1 (by kernel_rfl) (by kernel_rfl) (α := { k : Nat // k ≤ (wsI bs i).length }) (fun k => manyV (psI bs (i + 1)) (wsI bs i) (offL ((wsI bs i).take k.1) (bs.getD i 0)) i k.1) (fun _ => famJ slotY) (fun _ => tbM) (fun _ => rfl) (fun k => (wsI bs i).length - k.1) ?_ ⟨0, Nat.zero_le _⟩
      rintro ⟨k, hk⟩ J2 hJ2
      refine ev_sound tbM_ok endQ_panic 400 _ _ _ ?_
      show OutOK _ _ _ _ _ _ _ _ (ev tbM (rowB ad c bs) 400 [.c 4 [0, 0, 1, 0, 1, 1, 0, 0, 1, 0, 0, 1, 0, 1, 1, 1, 1, 1], .j 1, .b 2, .c 4 [1, 1, 1, 0, 0, 1, 0, 0, 1, 0, 1, 1, 1, 1, 1], .b 1, .c 4 [1, 1, 0, 0, 1, 0, 1, 1, 1, 1, 1], .j 0, .b 0, .c 4 [1, 1, 1, 1, 1, 1], .f 4 1 [] (some 0)] .normal (manyV (psI bs (i + 1)) (wsI bs i) (offL ((wsI bs i).take k) (bs.getD i 0)) i k))
      rw [many_ev3]
      have hol : ∀ l : List Int, (offL l (bs.getD i 0)).length ≤ l.length := fun l => List.length_filter_le _ _
      refine OutOK_cond.2 ⟨fun hkl => ?_, fun hkg => ?_⟩
      · have hkl : k < (wsI bs i).length := by have := of_decide_eq_true hkl; omega
        have e3 : IntKind.i64.wrap ((k : Int) + 1) = ((k + 1 : Nat) : Int) := by rw [wrap_small (by omega) (by omega)]; omega
        have hin2 : decide (0 ≤ (k : Int) ∧ (k : Int) < ((wsI bs i).length : Int)) = true := decide_eq_true (by omega)
        have hin3 : decide ((k : Int).toNat < (wsI bs i).length) = true := decide_eq_true (by omega)
        have ht := offL_take (wsI bs i) (bs.getD i 0) k hkl
        refine ok_t hin (ok_t hin2 (ok_t hin3 ?_))
        rw [e2, e3]
        simp only [Int.toNat_natCast]
        refine OutOK_cond.2 ⟨fun hne => ?_, fun heq => ?_⟩
        · rw [if_pos hne] at ht
          refine ok_t hin2 (ok_t (by simpa using hkl) (ok_t (decide_eq_true (by
            have := hol ((wsI bs i).take k)
            have := List.length_take_le k (wsI bs i)
            simp only [List.length_append, List.length_singleton]
            omega)) ?_))
          rw [← ht]
          refine safe_jj fun σ a w1 hc => hJ2 ⟨k + 1, hkl⟩ (by show (wsI bs i).length - (k + 1) < (wsI bs i).length - k; omega) (fun n => if n < 5 then σ n else σ (n + 5)) a w1 (conc_re hc rfl ?_ ?_ ?_)
          · intro p hp
            simp only [manyV, List.mem_cons, List.not_mem_nil, or_false] at hp
            rcases hp with rfl | rfl | rfl | rfl | rfl | rfl | rfl
            · exact ⟨_, List.mem_cons_self, rfl, rfl⟩
            · exact ⟨(6, .c (.one (.os 10))), by simp, rfl, by simp [SV.den, CV.den, A.den, oad]⟩
            · exact ⟨(5, .c (.one (.v (.int .i64 (i : Nat))))), by simp, rfl, rfl⟩
            · exact ⟨(4, .c (.one (.os 1))), by simp, rfl, by simp [SV.den, CV.den, A.den, oad]⟩
            · exact ⟨(3, .c (.one (.ptr 0 0))), by simp, rfl, by simp [SV.den, CV.den, A.den]⟩
            · exact ⟨(2, .c (.one (.v (.bool false)))), by simp, rfl, rfl⟩
            · exact ⟨(0, .c (.one (.row 0))), by simp, rfl, rfl⟩
          · intro p hp r k off hh
            simp only [manyV, List.mem_cons, List.not_mem_nil, or_false] at hp
            rcases hp with rfl | rfl | rfl | rfl | rfl | rfl | rfl <;> cases hh
          · refine slots_named (σ := σ) (i := 0) (nm := [1, 2, 3, 4, 5, 6, 7, 8, 10, 11, 12, 13]) (sl := [⟨1, false, .ints 34 3 .i64 (wsI bs i)⟩, ⟨10, true, .ints 34 3 .i64 (offL ((wsI bs i).take (k + 1)) (bs.getD i 0))⟩]) (sl' := [⟨1, false, .ints 34 3 .i64 (wsI bs i)⟩, ⟨5, true, .ints 34 3 .i64 (offL ((wsI bs i).take (k + 1)) (bs.getD i 0))⟩]) (i' := 0) (nm' := [1, 2, 3, 4, 5, 6, 7, 8]) hc.mo (by simp) (by simp) (by simp) (fun q hq d hd => ?_) (fun q hq => ?_) (fun h => by simpa [sblk, oad] using h)
            · have : d = 0 ∨ d = 1 ∨ d = 2 ∨ d = 3 := by omega
              simp only [List.mem_cons, List.not_mem_nil, or_false] at hq
              rcases hq with rfl | rfl <;> rcases this with rfl | rfl | rfl | rfl <;> simp
            · simp only [List.mem_cons, List.not_mem_nil, or_false] at hq
              rcases hq with rfl | rfl
              · refine .inl ⟨_, List.mem_cons_self, rfl, id, fun d hd => ?_⟩
                show (if 1 + d < 5 then σ (1 + d) else _) = σ (1 + d)
                rw [if_pos (by omega)]
              · refine .inl ⟨_, List.mem_cons_of_mem _ List.mem_cons_self, rfl, id, fun d hd => ?_⟩
                show (if 5 + d < 5 then _ else σ (5 + d + 5)) = σ (10 + d)
                rw [if_neg (by omega)]
                congr 1
                omega
        · rw [if_neg (by rw [heq]; simp), List.append_nil] at ht
          rw [← ht]
          refine safe_jj fun σ a w1 hc => hJ2 ⟨k + 1, hkl⟩ (by show (wsI bs i).length - (k + 1) < (wsI bs i).length - k; omega) σ a w1 ?_
          exact hc.less (tmps := (manyV (psI bs (i + 1)) (wsI bs i) (offL ((wsI bs i).take (k + 1)) (bs.getD i 0)) i (k + 1)).tmps) (fun q hq => by simp only [manyV, List.mem_cons, List.not_mem_nil, or_false] at hq ⊢; rcases hq with h | h | h | h | h | h | h <;> simp [h])
      · have hke : k = (wsI bs i).length := by have := of_decide_eq_false hkg; omega
        have htk : (wsI bs i).take k = wsI bs i := List.take_of_length_le (by omega)
        rw [htk]
        rw [e1, e2]
        have hl2 := hol (wsI bs i)
        have hws : wsI bs (i + 1) = cut16 (offL (wsI bs i) (bs.getD i 0) ++ [bs.getD i 0]) := rfl
        have hlen3 : (offL (wsI bs i) (bs.getD i 0) ++ [bs.getD i 0]).length ≤ 17 := by simp only [List.length_append, List.length_singleton]; omega
        refine ok_t hin (ok_t (decide_eq_true (by omega)) (OutOK_cond.2 ⟨fun hgt => ?_, fun hng => ?_⟩))
        · have hgt : 16 < (offL (wsI bs i) (bs.getD i 0) ++ [bs.getD i 0]).length := by have := of_decide_eq_true hgt; omega
          unfold cut16 at hws
          rw [if_pos hgt] at hws
          refine ok_t (decide_eq_true (by omega)) ?_
          rw [← hws]
          refine safe_jj fun σ a w1 hc => hJ ⟨i + 1, hlt⟩ (by show bs.length - (i + 1) < bs.length - i; omega) (fun n => if n = 0 then σ 0 else σ (n + 13)) a w1 (conc_re hc rfl ?_ ?_ ?_)
          · intro p hp
            simp only [manyS, List.mem_cons, List.not_mem_nil, or_false] at hp
            rcases hp with rfl | rfl | rfl | rfl | rfl
            · exact ⟨_, List.mem_cons_self, rfl, rfl⟩
            · exact ⟨(4, .c (.one (.os 14))), by simp, rfl, by simp [SV.den, CV.den, A.den, oad]⟩
            · exact ⟨(3, .c (.one (.ptr 0 0))), by simp, rfl, by simp [SV.den, CV.den, A.den]⟩
            · exact ⟨(2, .c (.one (.v (.bool false)))), by simp, rfl, rfl⟩
            · exact ⟨(0, .c (.one (.row 0))), by simp, rfl, rfl⟩
          · intro p hp r k off hh
            simp only [manyS, List.mem_cons, List.not_mem_nil, or_false] at hp
            rcases hp with rfl | rfl | rfl | rfl | rfl <;> cases hh
          · refine slots_named (σ := σ) (i := 0) (nm := [1, 2, 3, 4, 5, 6, 7, 8, 10, 11, 12, 13, 14, 15, 16, 17]) (sl := [⟨1, false, .ints 34 3 .i64 (wsI bs i)⟩, ⟨14, false, .ints 34 3 .i64 (wsI bs (i + 1))⟩]) (sl' := [⟨1, false, .ints 34 3 .i64 (wsI bs (i + 1))⟩]) (i' := 0) (nm' := [1, 2, 3, 4]) hc.mo (by simp) (by simp) (by simp) (fun q hq d hd => ?_) (fun q hq => ?_) (fun _ => by simp)
            · have : d = 0 ∨ d = 1 ∨ d = 2 ∨ d = 3 := by omega
              simp only [List.mem_cons, List.not_mem_nil, or_false] at hq
              subst hq
              rcases this with rfl | rfl | rfl | rfl <;> simp
            · simp only [List.mem_cons, List.not_mem_nil, or_false] at hq
              subst hq
              refine .inl ⟨_, List.mem_cons_of_mem _ List.mem_cons_self, rfl, fun h => (by cases h), fun d hd => ?_⟩
              show (if 1 + d = 0 then _ else σ (1 + d + 13)) = σ (14 + d)
              rw [if_neg (by omega)]
              congr 1
              omega
        · have hng : ¬ 16 < (offL (wsI bs i) (bs.getD i 0) ++ [bs.getD i 0]).length := by have := of_decide_eq_false hng; omega
          unfold cut16 at hws
          rw [if_neg hng] at hws
          rw [← hws]
          refine safe_jj fun σ a w1 hc => hJ ⟨i + 1, hlt⟩ (by show bs.length - (i + 1) < bs.length - i; omega) (fun n => if n = 0 then σ 0 else σ (n + 9)) a w1 (conc_re hc rfl ?_ ?_ ?_)
          · intro p hp
            simp only [manyS, List.mem_cons, List.not_mem_nil, or_false] at hp
            rcases hp with rfl | rfl | rfl | rfl | rfl
            · exact ⟨_, List.mem_cons_self, rfl, rfl⟩
            · exact ⟨(4, .c (.one (.os 10))), by simp, rfl, by simp [SV.den, CV.den, A.den, oad]⟩
            · exact ⟨(3, .c (.one (.ptr 0 0))), by simp, rfl, by simp [SV.den, CV.den, A.den]⟩
            · exact ⟨(2, .c (.one (.v (.bool false)))), by simp, rfl, rfl⟩
            · exact ⟨(0, .c (.one (.row 0))), by simp, rfl, rfl⟩
          · intro p hp r k off hh
            simp only [manyS, List.mem_cons, List.not_mem_nil, or_false] at hp
            rcases hp with rfl | rfl | rfl | rfl | rfl <;> cases hh
          · refine slots_named (σ := σ) (i := 0) (nm := [1, 2, 3, 4, 5, 6, 7, 8, 10, 11, 12, 13]) (sl := [⟨1, false, .ints 34 3 .i64 (wsI bs i)⟩, ⟨10, true, .ints 34 3 .i64 (wsI bs (i + 1))⟩]) (sl' := [⟨1, false, .ints 34 3 .i64 (wsI bs (i + 1))⟩]) (i' := 0) (nm' := [1, 2, 3, 4]) hc.mo (by simp) (by simp) (by simp) (fun q hq d hd => ?_) (fun q hq => ?_) (fun _ => by simp)
            · have : d = 0 ∨ d = 1 ∨ d = 2 ∨ d = 3 := by omega
              simp only [List.mem_cons, List.not_mem_nil, or_false] at hq
              subst hq
              rcases this with rfl | rfl | rfl | rfl <;> simp
            · simp only [List.mem_cons, List.not_mem_nil, or_false] at hq
              subst hq
              refine .inl ⟨_, List.mem_cons_of_mem _ List.mem_cons_self, rfl, fun h => (by cases h), fun d hd => ?_⟩
              show (if 1 + d = 0 then _ else σ (1 + d + 9)) = σ (10 + d)
              rw [if_neg (by omega)]
              congr 1
              omega
    · have hi' : i = bs.length := by have := of_decide_eq_false hge; omega
      have hne : (((psI bs i).length : Int) != ((wsI bs i).length : Int)) = false := by simp [hwl]
      refine ok_f hne (ok_f hne ?_)
      refine safe_re (by kernel_rfl) (st' := manyF (psI bs i) (wsI bs i) i 0) (fun σ a w1 hc => ⟨σ, hc⟩) ?_
      refine at_loop (by kernel_rfl) 2 (by kernel_rfl) (by kernel_rfl) (α := { k : Nat // k ≤ (wsI bs i).length }) (fun k => manyF (psI bs i) (wsI bs i) i k.1) (fun _ => famJ slotY) (fun _ => tbM) (fun _ => rfl) (fun k => (wsI bs i).length - k.1) ?_ ⟨0, Nat.zero_le _⟩
      rintro ⟨k, hk⟩ J3 hJ3
      refine ev_sound tbM_ok endQ_panic 400 _ _ _ ?_
      show OutOK _ _ _ _ _ _ _ _ (ev tbM (rowB ad c bs) 400 [.c 4 [0, 0, 1, 0, 1, 1, 1, 1, 1, 1, 1, 1], .j 2, .b 4, .c 4 [1, 1, 1, 1, 1, 1, 1, 1, 1], .f 4 1 [] (some 0)] .normal (manyF (psI bs i) (wsI bs i) i k))
      rw [many_ev4]
      refine OutOK_cond.2 ⟨fun hkl => ?_, fun hkg => ?_⟩
      · have hkl : k < (wsI bs i).length := by have := of_decide_eq_true hkl; omega
        have e3 : IntKind.i64.wrap ((k : Int) + 1) = ((k + 1 : Nat) : Int) := by rw [wrap_small (by omega) (by omega)]; omega
        have t1 : decide (0 ≤ (k : Int) ∧ (k : Int) < ((psI bs i).length : Int)) = true := decide_eq_true (by omega)
        have t2 : decide (0 ≤ (k : Int) ∧ (k : Int) < ((wsI bs i).length : Int)) = true := decide_eq_true (by omega)
        have t3 : decide ((k : Int).toNat < (psI bs i).length) = true := decide_eq_true (by omega)
        have t4 : decide ((k : Int).toNat < (wsI bs i).length) = true := decide_eq_true (by omega)
        have t5 : (((psI bs i).getD (k : Int).toNat (0, 0)).fst != (wsI bs i).getD (k : Int).toNat 0) = false := by
          rw [Int.toNat_natCast, ← hw1]
          have : k < (psI bs i).length := by omega
          simp [List.getD_eq_getElem?_getD, List.getElem?_eq_getElem this]
        simp only [t1, t2, t3, t4, t5, cond_true, cond_false, e3]
        have leaf : ∀ σ a w1, Conc (rowB ad c bs) (famJ slotY) [] ⟨w, []⟩ σ (manyF (psI bs i) (wsI bs i) i (k + 1)) a w1 → J3 a w1 := fun σ a w1 hc => hJ3 ⟨k + 1, hkl⟩ (by show (wsI bs i).length - (k + 1) < (wsI bs i).length - k; omega) σ a w1 hc
        repeat' refine ok_b ?_ ?_
        all_goals exact safe_jj fun σ a w1 hc => leaf σ a w1 (hc.less (tmps := (manyF (psI bs i) (wsI bs i) i (k + 1)).tmps) (fun q hq => by simp only [manyF, List.mem_cons, List.not_mem_nil, or_false] at hq ⊢; rcases hq with h | h | h | h | h | h | h | h <;> simp [h]))
      · exact fin _ _ _
  exact key
end Go.Proofs.Ytglbhabpenkpdaa.Sx
