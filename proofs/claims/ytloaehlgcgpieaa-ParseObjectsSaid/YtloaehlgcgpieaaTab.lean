/-
  What the reckoner is told of this program: its types, its functions. Conditions: none.
-/
import Derived.Test.YtloaehlgcgpieaaSx
import Derived.Test.YtloaehlgcgpieaaProg
set_option linter.unusedVariables false
namespace Go.Proofs.Ytloaehlgcgpieaa.Sx
open Go.Proofs.Ytloaehlgcgpieaa
def ty3 : Ty := ⟨TypeDesc.int IntKind.i64, 1, .int .i64 0, false⟩
theorem ty3_ok : TyOK Try.prog 3 ty3 := ⟨Try.underlying3, by kernel_rfl, fun h => by cases h⟩
def ty4 : Ty := ⟨TypeDesc.bool, 1, .bool false, false⟩
theorem ty4_ok : TyOK Try.prog 4 ty4 := ⟨Try.underlying4, by kernel_rfl, fun h => by cases h⟩
def ty5 : Ty := ⟨TypeDesc.int IntKind.u8, 1, .int .u8 0, false⟩
theorem ty5_ok : TyOK Try.prog 5 ty5 := ⟨Try.underlying5, by kernel_rfl, fun h => by cases h⟩
def ty9 : Ty := ⟨TypeDesc.string, 1, .string ⟨#[]⟩, false⟩
theorem ty9_ok : TyOK Try.prog 9 ty9 := ⟨Try.underlying9, by kernel_rfl, fun h => by cases h⟩
def ty22 : Ty := ⟨TypeDesc.slice 5, 1, .slice none 0 0, false⟩
theorem ty22_ok : TyOK Try.prog 22 ty22 := ⟨Try.underlying22, by kernel_rfl, fun h => by cases h⟩
def ty23 : Ty := ⟨TypeDesc.slice 40, 1, .slice none 0 0, false⟩
theorem ty23_ok : TyOK Try.prog 23 ty23 := ⟨Try.underlying23, by kernel_rfl, fun h => by cases h⟩
def ty24 : Ty := ⟨TypeDesc.slice 4, 1, .slice none 0 0, false⟩
theorem ty24_ok : TyOK Try.prog 24 ty24 := ⟨Try.underlying24, by kernel_rfl, fun h => by cases h⟩
def ty27 : Ty := ⟨TypeDesc.pointer 54, 1, .pointer none, false⟩
theorem ty27_ok : TyOK Try.prog 27 ty27 := ⟨Try.underlying27, by kernel_rfl, fun h => by cases h⟩
def ty29 : Ty := ⟨TypeDesc.pointer 31, 1, .pointer none, false⟩
theorem ty29_ok : TyOK Try.prog 29 ty29 := ⟨Try.underlying29, by kernel_rfl, fun h => by cases h⟩
def ty31 : Ty := ⟨TypeDesc.struct #[{ name := "K", type := 22, offset := 0, embedded := false, tag := "", pkgPath := "", byteOffset := 0 }, { name := "Visual", type := 4, offset := 1, embedded := false, tag := "", pkgPath := "", byteOffset := 24 }], 2, .agg #[.slice none 0 0, .bool false], false⟩
theorem ty31_ok : TyOK Try.prog 31 ty31 := ⟨Try.underlying31, by kernel_rfl, fun h => by cases h⟩
def ty33 : Ty := ⟨TypeDesc.struct #[{ name := "Reg", type := 5, offset := 0, embedded := false, tag := "", pkgPath := "", byteOffset := 0 }, { name := "Count", type := 3, offset := 1, embedded := false, tag := "", pkgPath := "", byteOffset := 8 }, { name := "Op", type := 9, offset := 2, embedded := false, tag := "", pkgPath := "", byteOffset := 16 }, { name := "Name", type := 9, offset := 3, embedded := false, tag := "", pkgPath := "", byteOffset := 32 }, { name := "Arg", type := 5, offset := 4, embedded := false, tag := "", pkgPath := "", byteOffset := 48 }, { name := "Text", type := 9, offset := 5, embedded := false, tag := "", pkgPath := "", byteOffset := 56 }], 6, .agg #[.int .u8 0, .int .i64 0, .string ⟨#[]⟩, .string ⟨#[]⟩, .int .u8 0, .string ⟨#[]⟩], true⟩
theorem ty33_ok : TyOK Try.prog 33 ty33 := ⟨Try.underlying33, by kernel_rfl, fun _ => ⟨by kernel_rfl, by kernel_rfl⟩⟩
def ty37 : Ty := ⟨TypeDesc.int IntKind.u32, 1, .int .u32 0, false⟩
theorem ty37_ok : TyOK Try.prog 37 ty37 := ⟨Try.underlying37, by kernel_rfl, fun h => by cases h⟩
def ty40 : Ty := ⟨TypeDesc.int IntKind.u16, 1, .int .u16 0, false⟩
theorem ty40_ok : TyOK Try.prog 40 ty40 := ⟨Try.underlying40, by kernel_rfl, fun h => by cases h⟩
def ty52 : Ty := ⟨TypeDesc.struct #[{ name := "n", type := 3, offset := 0, embedded := false, tag := "", pkgPath := "foolscap/parse", byteOffset := 0 }, { name := "any", type := 4, offset := 1, embedded := false, tag := "", pkgPath := "foolscap/parse", byteOffset := 8 }], 2, .agg #[.int .i64 0, .bool false], false⟩
theorem ty52_ok : TyOK Try.prog 52 ty52 := ⟨Try.underlying52, by kernel_rfl, fun h => by cases h⟩
def ty54 : Ty := ⟨TypeDesc.struct #[{ name := "state", type := 3, offset := 0, embedded := false, tag := "", pkgPath := "foolscap/parse", byteOffset := 0 }, { name := "open", type := 4, offset := 1, embedded := false, tag := "", pkgPath := "foolscap/parse", byteOffset := 8 }, { name := "visual", type := 4, offset := 2, embedded := false, tag := "", pkgPath := "foolscap/parse", byteOffset := 9 }, { name := "first", type := 4, offset := 3, embedded := false, tag := "", pkgPath := "foolscap/parse", byteOffset := 10 }, { name := "c", type := 33, offset := 4, embedded := false, tag := "", pkgPath := "foolscap/parse", byteOffset := 16 }, { name := "a", type := 52, offset := 10, embedded := false, tag := "", pkgPath := "foolscap/parse", byteOffset := 88 }, { name := "b", type := 52, offset := 12, embedded := false, tag := "", pkgPath := "foolscap/parse", byteOffset := 104 }], 14, .agg #[.int .i64 0, .bool false, .bool false, .bool false, .int .u8 0, .int .i64 0, .string ⟨#[]⟩, .string ⟨#[]⟩, .int .u8 0, .string ⟨#[]⟩, .int .i64 0, .bool false, .int .i64 0, .bool false], false⟩
theorem ty54_ok : TyOK Try.prog 54 ty54 := ⟨Try.underlying54, by kernel_rfl, fun h => by cases h⟩
def ty57 : Ty := ⟨TypeDesc.slice 9, 1, .slice none 0 0, false⟩
theorem ty57_ok : TyOK Try.prog 57 ty57 := ⟨Try.underlying57, by kernel_rfl, fun h => by cases h⟩
def ty74 : Ty := ⟨TypeDesc.pointer 52, 1, .pointer none, false⟩
theorem ty74_ok : TyOK Try.prog 74 ty74 := ⟨Try.underlying74, by kernel_rfl, fun h => by cases h⟩
def tys : List (Nat × Ty) := [(3, ty3), (4, ty4), (5, ty5), (9, ty9), (22, ty22), (23, ty23), (24, ty24), (27, ty27), (29, ty29), (31, ty31), (33, ty33), (37, ty37), (40, ty40), (52, ty52), (54, ty54), (57, ty57), (74, ty74)]
theorem tys_ok : ∀ p, p ∈ tys → TyOK Try.prog p.1 p.2 :=
  List.forall_mem_cons.2 ⟨ty3_ok, List.forall_mem_cons.2 ⟨ty4_ok, List.forall_mem_cons.2 ⟨ty5_ok, List.forall_mem_cons.2 ⟨ty9_ok, List.forall_mem_cons.2 ⟨ty22_ok, List.forall_mem_cons.2 ⟨ty23_ok, List.forall_mem_cons.2 ⟨ty24_ok, List.forall_mem_cons.2 ⟨ty27_ok, List.forall_mem_cons.2 ⟨ty29_ok, List.forall_mem_cons.2 ⟨ty31_ok, List.forall_mem_cons.2 ⟨ty33_ok, List.forall_mem_cons.2 ⟨ty37_ok, List.forall_mem_cons.2 ⟨ty40_ok, List.forall_mem_cons.2 ⟨ty52_ok, List.forall_mem_cons.2 ⟨ty54_ok, List.forall_mem_cons.2 ⟨ty57_ok, List.forall_mem_cons.2 ⟨ty74_ok, fun _ h => by cases h⟩⟩⟩⟩⟩⟩⟩⟩⟩⟩⟩⟩⟩⟩⟩⟩⟩
noncomputable def fns : List (Nat × Func) := [(3, Try.f3), (4, Try.f4), (5, Try.f5), (6, Try.f6), (7, Try.f7), (8, Try.f8), (9, Try.f9), (10, Try.f10), (11, Try.f11), (12, Try.f12), (13, Try.f13), (14, Try.f14), (15, Try.f15), (16, Try.f16), (17, Try.f17), (18, Try.f18), (19, Try.f19), (20, Try.f20), (21, Try.f21), (22, Try.f22), (23, Try.f23), (24, Try.f24), (25, Try.f25), (26, Try.f26), (27, Try.f27), (28, Try.f28), (29, Try.f29), (30, Try.f30), (32, Try.f32), (33, Try.f33), (34, Try.f34), (35, Try.f35), (36, Try.f36), (37, Try.f37), (38, Try.f38), (39, Try.f39), (40, Try.f40), (41, Try.f41), (42, Try.f42), (43, Try.f43), (44, Try.f44), (45, Try.f45), (46, Try.f46), (47, Try.f47), (48, Try.f48), (49, Try.f49), (51, Try.f51), (52, Try.f52), (53, Try.f53), (54, Try.f54), (55, Try.f55), (56, Try.f56), (57, Try.f57), (58, Try.f58), (60, Try.f60), (61, Try.f61)]
theorem fn3_ok : Try.prog.funcs[3]? = some Try.f3 ∧ Try.f3.body.isSome = true ∧ (Try.f3.name == "runtime.NumGoroutine") = false := ⟨Try.func3, by kernel_rfl, by kernel_rfl⟩
theorem fn4_ok : Try.prog.funcs[4]? = some Try.f4 ∧ Try.f4.body.isSome = true ∧ (Try.f4.name == "runtime.NumGoroutine") = false := ⟨Try.func4, by kernel_rfl, by kernel_rfl⟩
theorem fn5_ok : Try.prog.funcs[5]? = some Try.f5 ∧ Try.f5.body.isSome = true ∧ (Try.f5.name == "runtime.NumGoroutine") = false := ⟨Try.func5, by kernel_rfl, by kernel_rfl⟩
theorem fn6_ok : Try.prog.funcs[6]? = some Try.f6 ∧ Try.f6.body.isSome = true ∧ (Try.f6.name == "runtime.NumGoroutine") = false := ⟨Try.func6, by kernel_rfl, by kernel_rfl⟩
theorem fn7_ok : Try.prog.funcs[7]? = some Try.f7 ∧ Try.f7.body.isSome = true ∧ (Try.f7.name == "runtime.NumGoroutine") = false := ⟨Try.func7, by kernel_rfl, by kernel_rfl⟩
theorem fn8_ok : Try.prog.funcs[8]? = some Try.f8 ∧ Try.f8.body.isSome = true ∧ (Try.f8.name == "runtime.NumGoroutine") = false := ⟨Try.func8, by kernel_rfl, by kernel_rfl⟩
theorem fn9_ok : Try.prog.funcs[9]? = some Try.f9 ∧ Try.f9.body.isSome = true ∧ (Try.f9.name == "runtime.NumGoroutine") = false := ⟨Try.func9, by kernel_rfl, by kernel_rfl⟩
theorem fn10_ok : Try.prog.funcs[10]? = some Try.f10 ∧ Try.f10.body.isSome = true ∧ (Try.f10.name == "runtime.NumGoroutine") = false := ⟨Try.func10, by kernel_rfl, by kernel_rfl⟩
theorem fn11_ok : Try.prog.funcs[11]? = some Try.f11 ∧ Try.f11.body.isSome = true ∧ (Try.f11.name == "runtime.NumGoroutine") = false := ⟨Try.func11, by kernel_rfl, by kernel_rfl⟩
theorem fn12_ok : Try.prog.funcs[12]? = some Try.f12 ∧ Try.f12.body.isSome = true ∧ (Try.f12.name == "runtime.NumGoroutine") = false := ⟨Try.func12, by kernel_rfl, by kernel_rfl⟩
theorem fn13_ok : Try.prog.funcs[13]? = some Try.f13 ∧ Try.f13.body.isSome = true ∧ (Try.f13.name == "runtime.NumGoroutine") = false := ⟨Try.func13, by kernel_rfl, by kernel_rfl⟩
theorem fn14_ok : Try.prog.funcs[14]? = some Try.f14 ∧ Try.f14.body.isSome = true ∧ (Try.f14.name == "runtime.NumGoroutine") = false := ⟨Try.func14, by kernel_rfl, by kernel_rfl⟩
theorem fn15_ok : Try.prog.funcs[15]? = some Try.f15 ∧ Try.f15.body.isSome = true ∧ (Try.f15.name == "runtime.NumGoroutine") = false := ⟨Try.func15, by kernel_rfl, by kernel_rfl⟩
theorem fn16_ok : Try.prog.funcs[16]? = some Try.f16 ∧ Try.f16.body.isSome = true ∧ (Try.f16.name == "runtime.NumGoroutine") = false := ⟨Try.func16, by kernel_rfl, by kernel_rfl⟩
theorem fn17_ok : Try.prog.funcs[17]? = some Try.f17 ∧ Try.f17.body.isSome = true ∧ (Try.f17.name == "runtime.NumGoroutine") = false := ⟨Try.func17, by kernel_rfl, by kernel_rfl⟩
theorem fn18_ok : Try.prog.funcs[18]? = some Try.f18 ∧ Try.f18.body.isSome = true ∧ (Try.f18.name == "runtime.NumGoroutine") = false := ⟨Try.func18, by kernel_rfl, by kernel_rfl⟩
theorem fn19_ok : Try.prog.funcs[19]? = some Try.f19 ∧ Try.f19.body.isSome = true ∧ (Try.f19.name == "runtime.NumGoroutine") = false := ⟨Try.func19, by kernel_rfl, by kernel_rfl⟩
theorem fn20_ok : Try.prog.funcs[20]? = some Try.f20 ∧ Try.f20.body.isSome = true ∧ (Try.f20.name == "runtime.NumGoroutine") = false := ⟨Try.func20, by kernel_rfl, by kernel_rfl⟩
theorem fn21_ok : Try.prog.funcs[21]? = some Try.f21 ∧ Try.f21.body.isSome = true ∧ (Try.f21.name == "runtime.NumGoroutine") = false := ⟨Try.func21, by kernel_rfl, by kernel_rfl⟩
theorem fn22_ok : Try.prog.funcs[22]? = some Try.f22 ∧ Try.f22.body.isSome = true ∧ (Try.f22.name == "runtime.NumGoroutine") = false := ⟨Try.func22, by kernel_rfl, by kernel_rfl⟩
theorem fn23_ok : Try.prog.funcs[23]? = some Try.f23 ∧ Try.f23.body.isSome = true ∧ (Try.f23.name == "runtime.NumGoroutine") = false := ⟨Try.func23, by kernel_rfl, by kernel_rfl⟩
theorem fn24_ok : Try.prog.funcs[24]? = some Try.f24 ∧ Try.f24.body.isSome = true ∧ (Try.f24.name == "runtime.NumGoroutine") = false := ⟨Try.func24, by kernel_rfl, by kernel_rfl⟩
theorem fn25_ok : Try.prog.funcs[25]? = some Try.f25 ∧ Try.f25.body.isSome = true ∧ (Try.f25.name == "runtime.NumGoroutine") = false := ⟨Try.func25, by kernel_rfl, by kernel_rfl⟩
theorem fn26_ok : Try.prog.funcs[26]? = some Try.f26 ∧ Try.f26.body.isSome = true ∧ (Try.f26.name == "runtime.NumGoroutine") = false := ⟨Try.func26, by kernel_rfl, by kernel_rfl⟩
theorem fn27_ok : Try.prog.funcs[27]? = some Try.f27 ∧ Try.f27.body.isSome = true ∧ (Try.f27.name == "runtime.NumGoroutine") = false := ⟨Try.func27, by kernel_rfl, by kernel_rfl⟩
theorem fn28_ok : Try.prog.funcs[28]? = some Try.f28 ∧ Try.f28.body.isSome = true ∧ (Try.f28.name == "runtime.NumGoroutine") = false := ⟨Try.func28, by kernel_rfl, by kernel_rfl⟩
theorem fn29_ok : Try.prog.funcs[29]? = some Try.f29 ∧ Try.f29.body.isSome = true ∧ (Try.f29.name == "runtime.NumGoroutine") = false := ⟨Try.func29, by kernel_rfl, by kernel_rfl⟩
theorem fn30_ok : Try.prog.funcs[30]? = some Try.f30 ∧ Try.f30.body.isSome = true ∧ (Try.f30.name == "runtime.NumGoroutine") = false := ⟨Try.func30, by kernel_rfl, by kernel_rfl⟩
theorem fn32_ok : Try.prog.funcs[32]? = some Try.f32 ∧ Try.f32.body.isSome = true ∧ (Try.f32.name == "runtime.NumGoroutine") = false := ⟨Try.func32, by kernel_rfl, by kernel_rfl⟩
theorem fn33_ok : Try.prog.funcs[33]? = some Try.f33 ∧ Try.f33.body.isSome = true ∧ (Try.f33.name == "runtime.NumGoroutine") = false := ⟨Try.func33, by kernel_rfl, by kernel_rfl⟩
theorem fn34_ok : Try.prog.funcs[34]? = some Try.f34 ∧ Try.f34.body.isSome = true ∧ (Try.f34.name == "runtime.NumGoroutine") = false := ⟨Try.func34, by kernel_rfl, by kernel_rfl⟩
theorem fn35_ok : Try.prog.funcs[35]? = some Try.f35 ∧ Try.f35.body.isSome = true ∧ (Try.f35.name == "runtime.NumGoroutine") = false := ⟨Try.func35, by kernel_rfl, by kernel_rfl⟩
theorem fn36_ok : Try.prog.funcs[36]? = some Try.f36 ∧ Try.f36.body.isSome = true ∧ (Try.f36.name == "runtime.NumGoroutine") = false := ⟨Try.func36, by kernel_rfl, by kernel_rfl⟩
theorem fn37_ok : Try.prog.funcs[37]? = some Try.f37 ∧ Try.f37.body.isSome = true ∧ (Try.f37.name == "runtime.NumGoroutine") = false := ⟨Try.func37, by kernel_rfl, by kernel_rfl⟩
theorem fn38_ok : Try.prog.funcs[38]? = some Try.f38 ∧ Try.f38.body.isSome = true ∧ (Try.f38.name == "runtime.NumGoroutine") = false := ⟨Try.func38, by kernel_rfl, by kernel_rfl⟩
theorem fn39_ok : Try.prog.funcs[39]? = some Try.f39 ∧ Try.f39.body.isSome = true ∧ (Try.f39.name == "runtime.NumGoroutine") = false := ⟨Try.func39, by kernel_rfl, by kernel_rfl⟩
theorem fn40_ok : Try.prog.funcs[40]? = some Try.f40 ∧ Try.f40.body.isSome = true ∧ (Try.f40.name == "runtime.NumGoroutine") = false := ⟨Try.func40, by kernel_rfl, by kernel_rfl⟩
theorem fn41_ok : Try.prog.funcs[41]? = some Try.f41 ∧ Try.f41.body.isSome = true ∧ (Try.f41.name == "runtime.NumGoroutine") = false := ⟨Try.func41, by kernel_rfl, by kernel_rfl⟩
theorem fn42_ok : Try.prog.funcs[42]? = some Try.f42 ∧ Try.f42.body.isSome = true ∧ (Try.f42.name == "runtime.NumGoroutine") = false := ⟨Try.func42, by kernel_rfl, by kernel_rfl⟩
theorem fn43_ok : Try.prog.funcs[43]? = some Try.f43 ∧ Try.f43.body.isSome = true ∧ (Try.f43.name == "runtime.NumGoroutine") = false := ⟨Try.func43, by kernel_rfl, by kernel_rfl⟩
theorem fn44_ok : Try.prog.funcs[44]? = some Try.f44 ∧ Try.f44.body.isSome = true ∧ (Try.f44.name == "runtime.NumGoroutine") = false := ⟨Try.func44, by kernel_rfl, by kernel_rfl⟩
theorem fn45_ok : Try.prog.funcs[45]? = some Try.f45 ∧ Try.f45.body.isSome = true ∧ (Try.f45.name == "runtime.NumGoroutine") = false := ⟨Try.func45, by kernel_rfl, by kernel_rfl⟩
theorem fn46_ok : Try.prog.funcs[46]? = some Try.f46 ∧ Try.f46.body.isSome = true ∧ (Try.f46.name == "runtime.NumGoroutine") = false := ⟨Try.func46, by kernel_rfl, by kernel_rfl⟩
theorem fn47_ok : Try.prog.funcs[47]? = some Try.f47 ∧ Try.f47.body.isSome = true ∧ (Try.f47.name == "runtime.NumGoroutine") = false := ⟨Try.func47, by kernel_rfl, by kernel_rfl⟩
theorem fn48_ok : Try.prog.funcs[48]? = some Try.f48 ∧ Try.f48.body.isSome = true ∧ (Try.f48.name == "runtime.NumGoroutine") = false := ⟨Try.func48, by kernel_rfl, by kernel_rfl⟩
theorem fn49_ok : Try.prog.funcs[49]? = some Try.f49 ∧ Try.f49.body.isSome = true ∧ (Try.f49.name == "runtime.NumGoroutine") = false := ⟨Try.func49, by kernel_rfl, by kernel_rfl⟩
theorem fn51_ok : Try.prog.funcs[51]? = some Try.f51 ∧ Try.f51.body.isSome = true ∧ (Try.f51.name == "runtime.NumGoroutine") = false := ⟨Try.func51, by kernel_rfl, by kernel_rfl⟩
theorem fn52_ok : Try.prog.funcs[52]? = some Try.f52 ∧ Try.f52.body.isSome = true ∧ (Try.f52.name == "runtime.NumGoroutine") = false := ⟨Try.func52, by kernel_rfl, by kernel_rfl⟩
theorem fn53_ok : Try.prog.funcs[53]? = some Try.f53 ∧ Try.f53.body.isSome = true ∧ (Try.f53.name == "runtime.NumGoroutine") = false := ⟨Try.func53, by kernel_rfl, by kernel_rfl⟩
theorem fn54_ok : Try.prog.funcs[54]? = some Try.f54 ∧ Try.f54.body.isSome = true ∧ (Try.f54.name == "runtime.NumGoroutine") = false := ⟨Try.func54, by kernel_rfl, by kernel_rfl⟩
theorem fn55_ok : Try.prog.funcs[55]? = some Try.f55 ∧ Try.f55.body.isSome = true ∧ (Try.f55.name == "runtime.NumGoroutine") = false := ⟨Try.func55, by kernel_rfl, by kernel_rfl⟩
theorem fn56_ok : Try.prog.funcs[56]? = some Try.f56 ∧ Try.f56.body.isSome = true ∧ (Try.f56.name == "runtime.NumGoroutine") = false := ⟨Try.func56, by kernel_rfl, by kernel_rfl⟩
theorem fn57_ok : Try.prog.funcs[57]? = some Try.f57 ∧ Try.f57.body.isSome = true ∧ (Try.f57.name == "runtime.NumGoroutine") = false := ⟨Try.func57, by kernel_rfl, by kernel_rfl⟩
theorem fn58_ok : Try.prog.funcs[58]? = some Try.f58 ∧ Try.f58.body.isSome = true ∧ (Try.f58.name == "runtime.NumGoroutine") = false := ⟨Try.func58, by kernel_rfl, by kernel_rfl⟩
theorem fn60_ok : Try.prog.funcs[60]? = some Try.f60 ∧ Try.f60.body.isSome = true ∧ (Try.f60.name == "runtime.NumGoroutine") = false := ⟨Try.func60, by kernel_rfl, by kernel_rfl⟩
theorem fn61_ok : Try.prog.funcs[61]? = some Try.f61 ∧ Try.f61.body.isSome = true ∧ (Try.f61.name == "runtime.NumGoroutine") = false := ⟨Try.func61, by kernel_rfl, by kernel_rfl⟩
theorem fns_ok : ∀ p, p ∈ fns → Try.prog.funcs[p.1]? = some p.2 ∧ p.2.body.isSome = true ∧ (p.2.name == "runtime.NumGoroutine") = false :=
  List.forall_mem_cons.2 ⟨fn3_ok, List.forall_mem_cons.2 ⟨fn4_ok, List.forall_mem_cons.2 ⟨fn5_ok, List.forall_mem_cons.2 ⟨fn6_ok, List.forall_mem_cons.2 ⟨fn7_ok, List.forall_mem_cons.2 ⟨fn8_ok, List.forall_mem_cons.2 ⟨fn9_ok, List.forall_mem_cons.2 ⟨fn10_ok, List.forall_mem_cons.2 ⟨fn11_ok, List.forall_mem_cons.2 ⟨fn12_ok, List.forall_mem_cons.2 ⟨fn13_ok, List.forall_mem_cons.2 ⟨fn14_ok, List.forall_mem_cons.2 ⟨fn15_ok, List.forall_mem_cons.2 ⟨fn16_ok, List.forall_mem_cons.2 ⟨fn17_ok, List.forall_mem_cons.2 ⟨fn18_ok, List.forall_mem_cons.2 ⟨fn19_ok, List.forall_mem_cons.2 ⟨fn20_ok, List.forall_mem_cons.2 ⟨fn21_ok, List.forall_mem_cons.2 ⟨fn22_ok, List.forall_mem_cons.2 ⟨fn23_ok, List.forall_mem_cons.2 ⟨fn24_ok, List.forall_mem_cons.2 ⟨fn25_ok, List.forall_mem_cons.2 ⟨fn26_ok, List.forall_mem_cons.2 ⟨fn27_ok, List.forall_mem_cons.2 ⟨fn28_ok, List.forall_mem_cons.2 ⟨fn29_ok, List.forall_mem_cons.2 ⟨fn30_ok, List.forall_mem_cons.2 ⟨fn32_ok, List.forall_mem_cons.2 ⟨fn33_ok, List.forall_mem_cons.2 ⟨fn34_ok, List.forall_mem_cons.2 ⟨fn35_ok, List.forall_mem_cons.2 ⟨fn36_ok, List.forall_mem_cons.2 ⟨fn37_ok, List.forall_mem_cons.2 ⟨fn38_ok, List.forall_mem_cons.2 ⟨fn39_ok, List.forall_mem_cons.2 ⟨fn40_ok, List.forall_mem_cons.2 ⟨fn41_ok, List.forall_mem_cons.2 ⟨fn42_ok, List.forall_mem_cons.2 ⟨fn43_ok, List.forall_mem_cons.2 ⟨fn44_ok, List.forall_mem_cons.2 ⟨fn45_ok, List.forall_mem_cons.2 ⟨fn46_ok, List.forall_mem_cons.2 ⟨fn47_ok, List.forall_mem_cons.2 ⟨fn48_ok, List.forall_mem_cons.2 ⟨fn49_ok, List.forall_mem_cons.2 ⟨fn51_ok, List.forall_mem_cons.2 ⟨fn52_ok, List.forall_mem_cons.2 ⟨fn53_ok, List.forall_mem_cons.2 ⟨fn54_ok, List.forall_mem_cons.2 ⟨fn55_ok, List.forall_mem_cons.2 ⟨fn56_ok, List.forall_mem_cons.2 ⟨fn57_ok, List.forall_mem_cons.2 ⟨fn58_ok, List.forall_mem_cons.2 ⟨fn60_ok, List.forall_mem_cons.2 ⟨fn61_ok, fun _ h => by cases h⟩⟩⟩⟩⟩⟩⟩⟩⟩⟩⟩⟩⟩⟩⟩⟩⟩⟩⟩⟩⟩⟩⟩⟩⟩⟩⟩⟩⟩⟩⟩⟩⟩⟩⟩⟩⟩⟩⟩⟩⟩⟩⟩⟩⟩⟩⟩⟩⟩⟩⟩⟩⟩⟩⟩⟩
noncomputable def calls : List (Nat × (List SV → List (Option Blk) → Gh → Option CRR)) := []
noncomputable def tb : Tab := { ty := tys, fn := fns, call := calls, keep := [(3, [0, 1, 2, 6, 7, 8, 9, 10, 11, 12, 13, 14, 15]), (4, [0, 1, 8, 9, 10, 11, 12, 13, 14]), (5, [0, 1, 2, 6, 7, 8, 9, 10, 11, 12, 13, 14, 15, 16]), (6, [0, 1, 4, 5, 6, 7, 8, 9]), (7, [0, 1, 2, 6, 7, 8, 9, 10, 11, 12]), (8, [0, 1, 2, 3, 8, 9, 10, 11, 12, 13, 38, 39, 49, 54, 58]), (9, [0, 1, 2, 3, 8, 9, 10, 11, 12, 13, 14, 15, 17, 18, 19, 20, 21, 22]), (10, [0, 1, 4, 5, 6, 7, 8, 9, 10]), (11, [0, 1, 2, 3, 4, 5, 6, 7, 8]), (12, [0, 1, 4, 5, 6]), (13, [0]), (14, [0, 1, 2, 6, 7, 8, 9]), (15, [0, 1, 2, 6, 7, 8, 9]), (16, [0, 2]), (17, [0, 2]), (18, [0, 2, 3, 4]), (19, [0]), (20, [0, 2, 3, 4, 5, 6, 14]), (21, [0, 2, 3, 4]), (22, [0, 2, 3, 4]), (23, [0, 1, 4, 5, 6, 7, 8, 9, 10]), (24, [0, 1, 4, 5, 6, 7, 8, 9]), (25, [0, 1, 4, 22]), (26, [0, 2]), (27, [0]), (28, [0]), (29, [0]), (30, [0, 2, 3]), (32, [0, 1, 4, 5]), (33, [0, 1]), (34, [0, 2]), (35, [0, 1]), (36, [0, 1, 2, 6, 7]), (37, [0, 1, 2, 4, 6, 7, 8]), (38, [0, 1, 4]), (39, [0, 1, 4, 5]), (40, [0, 1, 4]), (41, [0, 1, 4, 5, 6]), (42, [0, 1, 4]), (43, [0, 1, 4, 5, 6, 14, 18, 21]), (44, [0, 1, 4, 5, 6, 18]), (45, [0, 1, 4, 5]), (46, [0, 1, 4]), (47, [0, 1, 4, 5, 6, 28]), (48, [0, 1, 4, 5, 6, 7, 26, 54]), (49, [0, 2, 3, 4, 5, 6, 7]), (51, [0, 2, 3, 4, 13, 17, 20]), (52, [0, 1, 3, 4, 5, 6, 7, 8]), (53, [0, 1, 3, 4, 5, 6]), (54, [0, 1, 3, 4, 5, 6]), (55, [0, 1, 2, 6]), (56, [0, 1, 4, 5, 6, 15, 25]), (57, [0, 2, 3]), (58, [0, 2]), (60, [0, 2, 3]), (61, [0, 1, 2, 4, 6, 7, 8])], thaw := [] }
theorem tbok {X : Fam} {L0 : List Nat} : TabOK Try.prog X L0 tb := ⟨fun t d h => tys_ok _ (look_mem h), fun f fn h => fns_ok _ (look_mem h), fun f φ h => (by cases h), by kernel_rfl, fun _ _ _ _ _ h => by cases h⟩
end Go.Proofs.Ytloaehlgcgpieaa.Sx
