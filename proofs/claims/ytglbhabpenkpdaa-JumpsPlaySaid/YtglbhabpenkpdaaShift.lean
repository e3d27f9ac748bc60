/-
  Shift, the package's and the reference's: where a line comes to stand. Conditions: stated at each theorem.
-/
import Derived.Test.YtglbhabpenkpdaaPlaces
set_option linter.all false
namespace Go.Proofs.Ytglbhabpenkpdaa.Sx
open Go.RowKit Go.Proofs.Ytglbhabpenkpdaa
noncomputable def tbSh : Tab := { tb with fn := [(27, Try.f27), (29, Try.f29), (36, Try.f36), (37, Try.f37)] }
theorem tbSh_ok {X : Fam} {L0 : List Nat} : TabOK Try.prog X L0 tbSh := tbok.fns [(27, Try.f27), (29, Try.f29), (36, Try.f36), (37, Try.f37)] (List.forall_mem_cons.2 ⟨fn27_ok, List.forall_mem_cons.2 ⟨fn29_ok, List.forall_mem_cons.2 ⟨fn36_ok, List.forall_mem_cons.2 ⟨fn37_ok, fun _ h => by cases h⟩⟩⟩⟩)

theorem sh_ev27 (l a o n : Int) : ev tbSh noRows 400 [.c 27 [], .f 27 1 [] (some 0)] .normal ⟨45, argTmps 0 [iV .i64 l, iV .i64 a, iV .i64 o, iV .i64 n], [], gh0⟩ =
  cond (decide (a < 0))
    (.leaf [] .normal ⟨1, [(0, .tup [.one (.v (.int .i64 (l))), .one (.v (.bool true))])], [], ⟨[], 0, [], 0, ⟨0, ([]), []⟩⟩⟩)
    (cond (decide (a > 1073741824))
      (.leaf [] .normal ⟨1, [(0, .tup [.one (.v (.int .i64 (l))), .one (.v (.bool true))])], [], ⟨[], 0, [], 0, ⟨0, ([]), []⟩⟩⟩)
      (cond (decide (o < 0))
        (.leaf [] .normal ⟨1, [(0, .tup [.one (.v (.int .i64 (l))), .one (.v (.bool true))])], [], ⟨[], 0, [], 0, ⟨0, ([]), []⟩⟩⟩)
        (cond (decide (o > 1073741824))
          (.leaf [] .normal ⟨1, [(0, .tup [.one (.v (.int .i64 (l))), .one (.v (.bool true))])], [], ⟨[], 0, [], 0, ⟨0, ([]), []⟩⟩⟩)
          (cond (decide (n < 0))
            (.leaf [] .normal ⟨1, [(0, .tup [.one (.v (.int .i64 (l))), .one (.v (.bool true))])], [], ⟨[], 0, [], 0, ⟨0, ([]), []⟩⟩⟩)
            (cond (decide (n > 1073741824))
              (.leaf [] .normal ⟨1, [(0, .tup [.one (.v (.int .i64 (l))), .one (.v (.bool true))])], [], ⟨[], 0, [], 0, ⟨0, ([]), []⟩⟩⟩)
              (cond (decide (l < a))
                (.leaf [] .normal ⟨1, [(0, .tup [.one (.v (.int .i64 (l))), .one (.v (.bool true))])], [], ⟨[], 0, [], 0, ⟨0, ([]), []⟩⟩⟩)
                (cond (decide (IntKind.i64.wrap (l - a) ≥ o))
                  (.leaf [] .normal ⟨1, [(0, .tup [.one (.v (.int .i64 (IntKind.i64.wrap (l + IntKind.i64.wrap (n - o))))), .one (.v (.bool true))])], [], ⟨[], 0, [], 0, ⟨0, ([]), []⟩⟩⟩)
                  (cond (decide (IntKind.i64.wrap (l - a) < n))
                    (.leaf [] .normal ⟨1, [(0, .tup [.one (.v (.int .i64 (l))), .one (.v (.bool true))])], [], ⟨[], 0, [], 0, ⟨0, ([]), []⟩⟩⟩)
                    (.leaf [] .normal ⟨1, [(0, .tup [.one (.v (.int .i64 0)), .one (.v (.bool false))])], [], ⟨[], 0, [], 0, ⟨0, ([]), []⟩⟩⟩))))))))) := by kernel_rfl

theorem sh_ev29 (l a o n : Int) : ev tbSh noRows 400 [.c 29 [], .f 29 1 [] (some 0)] .normal ⟨44, argTmps 0 [iV .i64 l, iV .i64 a, iV .i64 o, iV .i64 n], [], gh0⟩ =
  cond (decide (a < 0))
    (.leaf [] .normal ⟨1, [(0, .tup [.one (.v (.int .i64 (l))), .one (.v (.bool true))])], [], ⟨[], 0, [], 0, ⟨0, ([]), []⟩⟩⟩)
    (cond (decide (a > 1073741824))
      (.leaf [] .normal ⟨1, [(0, .tup [.one (.v (.int .i64 (l))), .one (.v (.bool true))])], [], ⟨[], 0, [], 0, ⟨0, ([]), []⟩⟩⟩)
      (cond (decide (o < 0))
        (.leaf [] .normal ⟨1, [(0, .tup [.one (.v (.int .i64 (l))), .one (.v (.bool true))])], [], ⟨[], 0, [], 0, ⟨0, ([]), []⟩⟩⟩)
        (cond (decide (o > 1073741824))
          (.leaf [] .normal ⟨1, [(0, .tup [.one (.v (.int .i64 (l))), .one (.v (.bool true))])], [], ⟨[], 0, [], 0, ⟨0, ([]), []⟩⟩⟩)
          (cond (decide (n < 0))
            (.leaf [] .normal ⟨1, [(0, .tup [.one (.v (.int .i64 (l))), .one (.v (.bool true))])], [], ⟨[], 0, [], 0, ⟨0, ([]), []⟩⟩⟩)
            (cond (decide (n > 1073741824))
              (.leaf [] .normal ⟨1, [(0, .tup [.one (.v (.int .i64 (l))), .one (.v (.bool true))])], [], ⟨[], 0, [], 0, ⟨0, ([]), []⟩⟩⟩)
              (cond (decide (l < a))
                (.leaf [] .normal ⟨1, [(0, .tup [.one (.v (.int .i64 (l))), .one (.v (.bool true))])], [], ⟨[], 0, [], 0, ⟨0, ([]), []⟩⟩⟩)
                (cond (decide (IntKind.i64.wrap (l - a) < o))
                  (cond (decide (IntKind.i64.wrap (l - a) < n))
                    (.leaf [] .normal ⟨1, [(0, .tup [.one (.v (.int .i64 (l))), .one (.v (.bool true))])], [], ⟨[], 0, [], 0, ⟨0, ([]), []⟩⟩⟩)
                    (.leaf [] .normal ⟨1, [(0, .tup [.one (.v (.int .i64 0)), .one (.v (.bool false))])], [], ⟨[], 0, [], 0, ⟨0, ([]), []⟩⟩⟩))
                  (.leaf [] .normal ⟨1, [(0, .tup [.one (.v (.int .i64 (IntKind.i64.wrap (IntKind.i64.wrap (l - o) + n)))), .one (.v (.bool true))])], [], ⟨[], 0, [], 0, ⟨0, ([]), []⟩⟩⟩)))))))) := by kernel_rfl


def shiftS (l a o n : Int) : Int × Bool :=
  if a < 0 ∨ a > 1073741824 ∨ o < 0 ∨ o > 1073741824 ∨ n < 0 ∨ n > 1073741824 ∨ l < a then (l, true)
  else if IntKind.i64.wrap (l - a) ≥ o then (IntKind.i64.wrap (l + IntKind.i64.wrap (n - o)), true)
  else if IntKind.i64.wrap (l - a) < n then (l, true) else (0, false)

theorem shift_out {f : Nat} {fn : Func} (hf : look f tbSh.fn = some fn) (hn : 4 ≤ fn.ntmps) (l a o n : Int) (w : World) (R : Ending → World → Prop)
    (h : OutOK Try.prog tbSh noRows (famJ noY) (fun _ _ _ => False) (EndQ R) [] ⟨w, []⟩ (ev tbSh noRows 400 [.c f [], .f f 1 [] (some 0)] .normal ⟨fn.ntmps, argTmps 0 [iV .i64 l, iV .i64 a, iV .i64 o, iV .i64 n], [], gh0⟩)) :
    Calls Try.prog f #[.int .i64 l, .int .i64 a, .int .i64 o, .int .i64 n] w R := by
  have key := calls_of_ev (Jt := fun _ _ _ => False) (X := famJ noY) (gh := gh0) (w0 := ⟨w, []⟩) (tbSh_ok (L0 := [])) (f := f) (fn := fn) hf (mem := []) (vs := [iV .i64 l, iV .i64 a, iV .i64 o, iV .i64 n]) (R := R) (σ := fun i => ([] : List Nat).getD i 0) (w := w) ⟨_, ⟨Ext.nil, rfl, rfl⟩, fun i hi => (by cases hi), fun b hb => (by cases hb), mok_start rfl (by simp) (fun b hb => by cases hb) (fun b hb => by cases hb) noRows_ok ⟨trivial, trivial⟩ (fun b hb => by cases hb) (fun i b hi => by simp at hi) (fun i b hi => by simp at hi)⟩ (Nat.le_refl 0) hn (fun v hv => by simp at hv; rcases hv with rfl | rfl | rfl | rfl <;> exact (fun _ _ _ hh => by cases hh)) (n := 400) h
  exact key

theorem shift27 (l a o n : Int) (w : World) : Calls Try.prog 27 #[.int .i64 l, .int .i64 a, .int .i64 o, .int .i64 n] w fun e w' => e = .returned (.tuple #[.int .i64 (shiftS l a o n).1, .bool (shiftS l a o n).2]) ∧ Keep [] w w' := by
  have fin : ∀ (x : Int) (b : Bool) (gh : Gh), (x, b) = shiftS l a o n → OutOK Try.prog tbSh noRows (famJ noY) (fun _ _ _ => False) (EndQ fun e w' => e = .returned (.tuple #[.int .i64 (shiftS l a o n).1, .bool (shiftS l a o n).2]) ∧ Keep [] w w') [] ⟨w, []⟩ (.leaf [] .normal ⟨1, [(0, .tup [.one (.v (.int .i64 x)), .one (.v (.bool b))])], [], gh⟩) := fun x b gh hx =>
    leaf_end fun σ w' hm => by
      obtain ⟨y, hm⟩ := hm
      rw [← hx]
      exact ⟨rfl, hm.mok.keep⟩
  refine shift_out (f := 27) (fn := Try.f27) rfl (by decide) l a o n w _ ?_
  rw [show Try.f27.ntmps = 45 from rfl, sh_ev27]
  repeat' first
    | exact fin _ _ _ (by clear fin; unfold shiftS; simp only [decide_eq_true_eq, decide_eq_false_iff_not] at *; (repeat' split) <;> first | rfl | (exfalso; omega))
    | refine OutOK_cond.2 ⟨fun _ => ?_, fun _ => ?_⟩
theorem shift29 (l a o n : Int) (w : World) : Calls Try.prog 29 #[.int .i64 l, .int .i64 a, .int .i64 o, .int .i64 n] w fun e w' => e = .returned (.tuple #[.int .i64 (shiftS l a o n).1, .bool (shiftS l a o n).2]) ∧ Keep [] w w' := by
  have fin : ∀ (x : Int) (b : Bool) (gh : Gh), (x, b) = shiftS l a o n → OutOK Try.prog tbSh noRows (famJ noY) (fun _ _ _ => False) (EndQ fun e w' => e = .returned (.tuple #[.int .i64 (shiftS l a o n).1, .bool (shiftS l a o n).2]) ∧ Keep [] w w') [] ⟨w, []⟩ (.leaf [] .normal ⟨1, [(0, .tup [.one (.v (.int .i64 x)), .one (.v (.bool b))])], [], gh⟩) := fun x b gh hx =>
    leaf_end fun σ w' hm => by
      obtain ⟨y, hm⟩ := hm
      rw [← hx]
      exact ⟨rfl, hm.mok.keep⟩
  refine shift_out (f := 29) (fn := Try.f29) rfl (by decide) l a o n w _ ?_
  rw [show Try.f29.ntmps = 44 from rfl, sh_ev29]
  repeat' first
    | exact fin _ _ _ (by clear fin; unfold shiftS; simp only [decide_eq_true_eq, decide_eq_false_iff_not] at *; (repeat' split) <;> first | rfl | (exfalso; omega) | (rw [Prod.mk.injEq]; refine ⟨?_, rfl⟩; simp only [IntKind.wrap_i64]; omega))
    | refine OutOK_cond.2 ⟨fun _ => ?_, fun _ => ?_⟩
end Go.Proofs.Ytglbhabpenkpdaa.Sx
