/-
  What the reckoner is told of this program: its types, its functions. Conditions: none.
-/
import Derived.Test.YtglbhabpenkpdaaSx
import Derived.Test.YtglbhabpenkpdaaProg
set_option linter.unusedVariables false
namespace Go.Proofs.Ytglbhabpenkpdaa.Sx
open Go.Proofs.Ytglbhabpenkpdaa
def ty3 : Ty := ⟨TypeDesc.int IntKind.i64, 1, .int .i64 0, false⟩
theorem ty3_ok : TyOK Try.prog 3 ty3 := ⟨Try.underlying3, by kernel_rfl, fun h => by cases h⟩
def ty4 : Ty := ⟨TypeDesc.bool, 1, .bool false, false⟩
theorem ty4_ok : TyOK Try.prog 4 ty4 := ⟨Try.underlying4, by kernel_rfl, fun h => by cases h⟩
def ty5 : Ty := ⟨TypeDesc.int IntKind.u8, 1, .int .u8 0, false⟩
theorem ty5_ok : TyOK Try.prog 5 ty5 := ⟨Try.underlying5, by kernel_rfl, fun h => by cases h⟩
def ty22 : Ty := ⟨TypeDesc.slice 5, 1, .slice none 0 0, false⟩
theorem ty22_ok : TyOK Try.prog 22 ty22 := ⟨Try.underlying22, by kernel_rfl, fun h => by cases h⟩
def ty24 : Ty := ⟨TypeDesc.pointer 51, 1, .pointer none, false⟩
theorem ty24_ok : TyOK Try.prog 24 ty24 := ⟨Try.underlying24, by kernel_rfl, fun h => by cases h⟩
def ty26 : Ty := ⟨TypeDesc.map 3 4, 1, .map none, false⟩
theorem ty26_ok : TyOK Try.prog 26 ty26 := ⟨Try.underlying26, by kernel_rfl, fun h => by cases h⟩
def ty29 : Ty := ⟨TypeDesc.struct #[{ name := "Line", type := 3, offset := 0, embedded := false, tag := "", pkgPath := "", byteOffset := 0 }, { name := "Col", type := 3, offset := 1, embedded := false, tag := "", pkgPath := "", byteOffset := 8 }], 2, .agg #[.int .i64 0, .int .i64 0], true⟩
theorem ty29_ok : TyOK Try.prog 29 ty29 := ⟨Try.underlying29, by kernel_rfl, fun _ => ⟨by kernel_rfl, by kernel_rfl⟩⟩
def ty34 : Ty := ⟨TypeDesc.slice 3, 1, .slice none 0 0, false⟩
theorem ty34_ok : TyOK Try.prog 34 ty34 := ⟨Try.underlying34, by kernel_rfl, fun h => by cases h⟩
def ty35 : Ty := ⟨TypeDesc.slice 29, 1, .slice none 0 0, false⟩
theorem ty35_ok : TyOK Try.prog 35 ty35 := ⟨Try.underlying35, by kernel_rfl, fun h => by cases h⟩
def ty39 : Ty := ⟨TypeDesc.slice 44, 1, .slice none 0 0, false⟩
theorem ty39_ok : TyOK Try.prog 39 ty39 := ⟨Try.underlying39, by kernel_rfl, fun h => by cases h⟩
def ty40 : Ty := ⟨TypeDesc.pointer 42, 1, .pointer none, false⟩
theorem ty40_ok : TyOK Try.prog 40 ty40 := ⟨Try.underlying40, by kernel_rfl, fun h => by cases h⟩
def ty42 : Ty := ⟨TypeDesc.struct #[{ name := "L", type := 35, offset := 0, embedded := false, tag := "", pkgPath := "", byteOffset := 0 }, { name := "At", type := 3, offset := 1, embedded := false, tag := "", pkgPath := "", byteOffset := 24 }], 2, .agg #[.slice none 0 0, .int .i64 0], false⟩
theorem ty42_ok : TyOK Try.prog 42 ty42 := ⟨Try.underlying42, by kernel_rfl, fun h => by cases h⟩
def ty44 : Ty := ⟨TypeDesc.struct #[{ name := "What", type := 5, offset := 0, embedded := false, tag := "", pkgPath := "", byteOffset := 0 }, { name := "P", type := 29, offset := 1, embedded := false, tag := "", pkgPath := "", byteOffset := 8 }, { name := "N", type := 3, offset := 3, embedded := false, tag := "", pkgPath := "", byteOffset := 24 }, { name := "At", type := 3, offset := 4, embedded := false, tag := "", pkgPath := "", byteOffset := 32 }, { name := "Old", type := 3, offset := 5, embedded := false, tag := "", pkgPath := "", byteOffset := 40 }, { name := "Now", type := 3, offset := 6, embedded := false, tag := "", pkgPath := "", byteOffset := 48 }], 7, .agg #[.int .u8 0, .int .i64 0, .int .i64 0, .int .i64 0, .int .i64 0, .int .i64 0, .int .i64 0], false⟩
theorem ty44_ok : TyOK Try.prog 44 ty44 := ⟨Try.underlying44, by kernel_rfl, fun h => by cases h⟩
def ty48 : Ty := ⟨TypeDesc.pointer 65, 1, .pointer none, false⟩
theorem ty48_ok : TyOK Try.prog 48 ty48 := ⟨Try.underlying48, by kernel_rfl, fun h => by cases h⟩
def ty51 : Ty := ⟨TypeDesc.struct #[{ name := "l", type := 48, offset := 0, embedded := false, tag := "", pkgPath := "foolscap/jumps", byteOffset := 0 }, { name := "at", type := 3, offset := 1, embedded := false, tag := "", pkgPath := "foolscap/jumps", byteOffset := 8 }], 2, .agg #[.pointer none, .int .i64 0], false⟩
theorem ty51_ok : TyOK Try.prog 51 ty51 := ⟨Try.underlying51, by kernel_rfl, fun h => by cases h⟩
def ty53 : Ty := ⟨TypeDesc.func #[29] #[4] false, 1, .nilFunc, false⟩
theorem ty53_ok : TyOK Try.prog 53 ty53 := ⟨Try.underlying53, by kernel_rfl, fun h => by cases h⟩
def ty58 : Ty := ⟨TypeDesc.func #[62] #[] false, 1, .nilFunc, false⟩
theorem ty58_ok : TyOK Try.prog 58 ty58 := ⟨Try.underlying58, by kernel_rfl, fun h => by cases h⟩
def tys : List (Nat × Ty) := [(3, ty3), (4, ty4), (5, ty5), (22, ty22), (24, ty24), (26, ty26), (29, ty29), (34, ty34), (35, ty35), (39, ty39), (40, ty40), (42, ty42), (44, ty44), (48, ty48), (51, ty51), (53, ty53), (58, ty58)]
theorem tys_ok : ∀ p, p ∈ tys → TyOK Try.prog p.1 p.2 :=
  List.forall_mem_cons.2 ⟨ty3_ok, List.forall_mem_cons.2 ⟨ty4_ok, List.forall_mem_cons.2 ⟨ty5_ok, List.forall_mem_cons.2 ⟨ty22_ok, List.forall_mem_cons.2 ⟨ty24_ok, List.forall_mem_cons.2 ⟨ty26_ok, List.forall_mem_cons.2 ⟨ty29_ok, List.forall_mem_cons.2 ⟨ty34_ok, List.forall_mem_cons.2 ⟨ty35_ok, List.forall_mem_cons.2 ⟨ty39_ok, List.forall_mem_cons.2 ⟨ty40_ok, List.forall_mem_cons.2 ⟨ty42_ok, List.forall_mem_cons.2 ⟨ty44_ok, List.forall_mem_cons.2 ⟨ty48_ok, List.forall_mem_cons.2 ⟨ty51_ok, List.forall_mem_cons.2 ⟨ty53_ok, List.forall_mem_cons.2 ⟨ty58_ok, fun _ h => by cases h⟩⟩⟩⟩⟩⟩⟩⟩⟩⟩⟩⟩⟩⟩⟩⟩⟩
noncomputable def fns : List (Nat × Func) := [(3, Try.f3), (4, Try.f4), (5, Try.f5), (6, Try.f6), (8, Try.f8), (9, Try.f9), (10, Try.f10), (12, Try.f12), (13, Try.f13), (14, Try.f14), (15, Try.f15), (16, Try.f16), (17, Try.f17), (27, Try.f27), (29, Try.f29), (36, Try.f36), (37, Try.f37)]
theorem fn3_ok : Try.prog.funcs[3]? = some Try.f3 ∧ Try.f3.body.isSome = true ∧ (Try.f3.name == "runtime.NumGoroutine") = false := ⟨Try.func3, by kernel_rfl, by kernel_rfl⟩
theorem fn4_ok : Try.prog.funcs[4]? = some Try.f4 ∧ Try.f4.body.isSome = true ∧ (Try.f4.name == "runtime.NumGoroutine") = false := ⟨Try.func4, by kernel_rfl, by kernel_rfl⟩
theorem fn5_ok : Try.prog.funcs[5]? = some Try.f5 ∧ Try.f5.body.isSome = true ∧ (Try.f5.name == "runtime.NumGoroutine") = false := ⟨Try.func5, by kernel_rfl, by kernel_rfl⟩
theorem fn6_ok : Try.prog.funcs[6]? = some Try.f6 ∧ Try.f6.body.isSome = true ∧ (Try.f6.name == "runtime.NumGoroutine") = false := ⟨Try.func6, by kernel_rfl, by kernel_rfl⟩
theorem fn8_ok : Try.prog.funcs[8]? = some Try.f8 ∧ Try.f8.body.isSome = true ∧ (Try.f8.name == "runtime.NumGoroutine") = false := ⟨Try.func8, by kernel_rfl, by kernel_rfl⟩
theorem fn9_ok : Try.prog.funcs[9]? = some Try.f9 ∧ Try.f9.body.isSome = true ∧ (Try.f9.name == "runtime.NumGoroutine") = false := ⟨Try.func9, by kernel_rfl, by kernel_rfl⟩
theorem fn10_ok : Try.prog.funcs[10]? = some Try.f10 ∧ Try.f10.body.isSome = true ∧ (Try.f10.name == "runtime.NumGoroutine") = false := ⟨Try.func10, by kernel_rfl, by kernel_rfl⟩
theorem fn12_ok : Try.prog.funcs[12]? = some Try.f12 ∧ Try.f12.body.isSome = true ∧ (Try.f12.name == "runtime.NumGoroutine") = false := ⟨Try.func12, by kernel_rfl, by kernel_rfl⟩
theorem fn13_ok : Try.prog.funcs[13]? = some Try.f13 ∧ Try.f13.body.isSome = true ∧ (Try.f13.name == "runtime.NumGoroutine") = false := ⟨Try.func13, by kernel_rfl, by kernel_rfl⟩
theorem fn14_ok : Try.prog.funcs[14]? = some Try.f14 ∧ Try.f14.body.isSome = true ∧ (Try.f14.name == "runtime.NumGoroutine") = false := ⟨Try.func14, by kernel_rfl, by kernel_rfl⟩
theorem fn15_ok : Try.prog.funcs[15]? = some Try.f15 ∧ Try.f15.body.isSome = true ∧ (Try.f15.name == "runtime.NumGoroutine") = false := ⟨Try.func15, by kernel_rfl, by kernel_rfl⟩
theorem fn16_ok : Try.prog.funcs[16]? = some Try.f16 ∧ Try.f16.body.isSome = true ∧ (Try.f16.name == "runtime.NumGoroutine") = false := ⟨Try.func16, by kernel_rfl, by kernel_rfl⟩
theorem fn17_ok : Try.prog.funcs[17]? = some Try.f17 ∧ Try.f17.body.isSome = true ∧ (Try.f17.name == "runtime.NumGoroutine") = false := ⟨Try.func17, by kernel_rfl, by kernel_rfl⟩
theorem fn27_ok : Try.prog.funcs[27]? = some Try.f27 ∧ Try.f27.body.isSome = true ∧ (Try.f27.name == "runtime.NumGoroutine") = false := ⟨Try.func27, by kernel_rfl, by kernel_rfl⟩
theorem fn29_ok : Try.prog.funcs[29]? = some Try.f29 ∧ Try.f29.body.isSome = true ∧ (Try.f29.name == "runtime.NumGoroutine") = false := ⟨Try.func29, by kernel_rfl, by kernel_rfl⟩
theorem fn36_ok : Try.prog.funcs[36]? = some Try.f36 ∧ Try.f36.body.isSome = true ∧ (Try.f36.name == "runtime.NumGoroutine") = false := ⟨Try.func36, by kernel_rfl, by kernel_rfl⟩
theorem fn37_ok : Try.prog.funcs[37]? = some Try.f37 ∧ Try.f37.body.isSome = true ∧ (Try.f37.name == "runtime.NumGoroutine") = false := ⟨Try.func37, by kernel_rfl, by kernel_rfl⟩
theorem fns_ok : ∀ p, p ∈ fns → Try.prog.funcs[p.1]? = some p.2 ∧ p.2.body.isSome = true ∧ (p.2.name == "runtime.NumGoroutine") = false :=
  List.forall_mem_cons.2 ⟨fn3_ok, List.forall_mem_cons.2 ⟨fn4_ok, List.forall_mem_cons.2 ⟨fn5_ok, List.forall_mem_cons.2 ⟨fn6_ok, List.forall_mem_cons.2 ⟨fn8_ok, List.forall_mem_cons.2 ⟨fn9_ok, List.forall_mem_cons.2 ⟨fn10_ok, List.forall_mem_cons.2 ⟨fn12_ok, List.forall_mem_cons.2 ⟨fn13_ok, List.forall_mem_cons.2 ⟨fn14_ok, List.forall_mem_cons.2 ⟨fn15_ok, List.forall_mem_cons.2 ⟨fn16_ok, List.forall_mem_cons.2 ⟨fn17_ok, List.forall_mem_cons.2 ⟨fn27_ok, List.forall_mem_cons.2 ⟨fn29_ok, List.forall_mem_cons.2 ⟨fn36_ok, List.forall_mem_cons.2 ⟨fn37_ok, fun _ h => by cases h⟩⟩⟩⟩⟩⟩⟩⟩⟩⟩⟩⟩⟩⟩⟩⟩⟩
noncomputable def calls : List (Nat × (List SV → List (Option Blk) → Gh → Option CRR)) := []
noncomputable def tb : Tab := { ty := tys, fn := fns, call := calls, keep := [(3, [0, 1, 2, 6, 7, 8, 9, 10, 11, 13, 14, 15, 17]), (4, [0, 2, 3, 4, 5, 6, 7, 8, 9, 10]), (5, [0, 2, 3, 4, 5, 6, 7, 8, 9, 10, 11, 12, 13, 14, 15, 16, 17, 18, 54, 77]), (6, [0, 1, 2, 3, 4, 5, 7, 8, 9]), (8, [0, 1, 3]), (9, [0, 1, 2, 4, 6, 7]), (10, [0, 1, 4, 5]), (12, [0, 1, 3, 4, 5]), (13, [0, 1, 2, 4, 6, 7]), (14, [0, 1, 4, 5]), (15, [0, 1, 2, 3, 4, 5, 6, 7, 8, 9]), (16, [0, 1, 2, 3, 8, 9, 10, 11, 12, 13]), (17, [0, 1, 4, 5]), (27, [0, 1, 2, 3, 8, 9]), (29, [0, 1, 2, 3, 8, 9]), (36, [0, 2]), (37, [0, 2])], thaw := [] }
theorem tbok {X : Fam} {L0 : List Nat} : TabOK Try.prog X L0 tb := ⟨fun t d h => tys_ok _ (look_mem h), fun f fn h => fns_ok _ (look_mem h), fun f φ h => (by cases h), by kernel_rfl, fun _ _ _ _ _ h => by cases h⟩
end Go.Proofs.Ytglbhabpenkpdaa.Sx
