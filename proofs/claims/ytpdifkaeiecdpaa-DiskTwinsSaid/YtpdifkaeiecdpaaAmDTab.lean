/- The type table, the functions. Written by gen3.py. -/
import Derived.Test.YtpdifkaeiecdpaaProg
import Derived.Test.YtpdifkaeiecdpaaAmDReg
import Derived.Test.YtpdifkaeiecdpaaAmM8
import Derived.KernelRfl
namespace Go.AM.Ytpdifkaeiecdpaa
open Go.Proofs
noncomputable def tb : Tb := [
  (3, ⟨.int .i64, 1, 8, .int .i64 0⟩),
  (4, ⟨.bool, 1, 1, .bool false⟩),
  (9, ⟨.str, 1, 16, .str []⟩),
  (22, ⟨.sl 30, 1, 24, .nils⟩),
  (23, ⟨.sl 4, 1, 24, .nils⟩),
  (24, ⟨.ptr, 1, 8, .nilp⟩),
  (30, ⟨.struct [(0, 3), (1, 3), (2, 3), (3, 9), (4, 23)], 5, 64, .agg [.int .i64 0, .int .i64 0, .int .i64 0, .str [], .nils]⟩),
  (33, ⟨.sl 9, 1, 24, .nils⟩),
  (34, ⟨.arr 6 33, 6, 144, .agg [.nils, .nils, .nils, .nils, .nils, .nils]⟩),
  (39, ⟨.sl 24, 1, 24, .nils⟩),
  (42, ⟨.sl 3, 1, 24, .nils⟩),
  (44, ⟨.struct [(0, 33), (1, 42), (2, 33), (3, 3), (4, 4)], 5, 88, .agg [.nils, .nils, .nils, .int .i64 0, .bool false]⟩),
  (71, ⟨.struct [(0, 3), (1, 4), (2, 4)], 3, 16, .agg [.int .i64 0, .bool false, .bool false]⟩),
  (72, ⟨.sl 77, 1, 24, .nils⟩),
  (74, ⟨.struct [(0, 71), (3, 33), (4, 72)], 5, 64, .agg [.int .i64 0, .bool false, .bool false, .nils, .nils]⟩),
  (77, ⟨.struct [(0, 3), (1, 9)], 2, 24, .agg [.int .i64 0, .str []]⟩),
  (78, ⟨.int .u64, 1, 8, .int .u64 0⟩)
]
theorem tb_all : TbAll Try.prog tb :=
  ⟨by kernel_rfl, ⟨by kernel_rfl, ⟨by kernel_rfl, ⟨by kernel_rfl, ⟨by kernel_rfl, ⟨by kernel_rfl, ⟨by kernel_rfl, ⟨by kernel_rfl, ⟨by kernel_rfl, ⟨by kernel_rfl, ⟨by kernel_rfl, ⟨by kernel_rfl, ⟨by kernel_rfl, ⟨by kernel_rfl, ⟨by kernel_rfl, ⟨by kernel_rfl, ⟨by kernel_rfl, trivial⟩⟩⟩⟩⟩⟩⟩⟩⟩⟩⟩⟩⟩⟩⟩⟩⟩
theorem tb_ok : TbOk Try.prog tb := TbOk.of_all tb_all
def rs : List (Nat × Nat) := [(33, 9), (72, 77)]
def rb : List (Nat × List (Nat × Nat)) := [(74, [(3, 9), (4, 77)]), (34, [(0, 9), (1, 9), (2, 9), (3, 9), (4, 9), (5, 9)])]
theorem follows : Try.prog.follows .mixedOrders = true := rfl
noncomputable def fx3 : Fx := ⟨Try.f3, [0, 1, 2, 6, 7, 8, 9, 10, 11, 12, 13, 14, 15, 16, 17, 18, 19, 20, 22, 25, 28, 37, 59, 60, 61, 70, 87, 100, 129, 143, 144, 154, 155, 156, 157, 172], [(7, ([37], [])), (14, ([10, 11, 12, 61, 70], [])), (22, ([14, 15, 16, 87, 100, 129], [])), (32, ([17, 18, 19, 20, 22, 144, 154, 155, 156, 157, 172], [])), (37, ([22, 157], []))], [], [], ⟨[], rs, rb⟩⟩
theorem ok3 : FnOk Try.prog tb 3 fx3 := FnOk.of follows Try.func3 (by kernel_rfl)
noncomputable def fx4 : Fx := ⟨Try.f4, [0, 1, 4, 5, 6, 7, 8, 9, 11, 12, 13, 14, 15, 16, 17, 18, 19, 20, 21, 22, 23, 24, 25, 38, 46, 52, 53, 54, 55, 83, 91, 119, 128, 136, 161, 176, 177, 226], [(6, ([11, 46, 52, 53, 54, 55], [])), (9, ([11, 55], [])), (16, ([13, 91, 119], [])), (26, ([136], [])), (32, ([161], [])), (36, ([17, 18, 19, 20, 21, 22, 23, 24, 25, 177, 226], []))], [], [], ⟨[], rs, rb⟩⟩
theorem ok4 : FnOk Try.prog tb 4 fx4 := FnOk.of follows Try.func4 (by kernel_rfl)
noncomputable def fx5 : Fx := ⟨Try.f5, [0, 1, 2, 6, 7, 8, 10, 11, 12, 15, 26, 37, 51, 77], [(10, ([51, 77], []))], [], [], ⟨[], rs, rb⟩⟩
theorem ok5 : FnOk Try.prog tb 5 fx5 := FnOk.of follows Try.func5 (by kernel_rfl)
noncomputable def fx6 : Fx := ⟨Try.f6, [0, 1, 4, 5, 6, 7, 8, 11, 17, 29, 36, 37, 53, 58, 79], [(9, ([8, 29, 36, 37, 53, 58, 79], []))], [], [], ⟨[], rs, rb⟩⟩
theorem ok6 : FnOk Try.prog tb 6 fx6 := FnOk.of follows Try.func6 (by kernel_rfl)
noncomputable def fx7 : Fx := ⟨Try.f7, [0, 2, 3, 4, 5, 6, 7, 8, 9, 10, 18, 26, 36, 39, 52, 53, 59, 60, 70, 115], [(5, ([6, 7, 8, 9, 10, 26, 36, 39, 52, 53, 59, 60, 70, 115], []))], [], [], ⟨[], rs, rb⟩⟩
theorem ok7 : FnOk Try.prog tb 7 fx7 := FnOk.of follows Try.func7 (by kernel_rfl)
noncomputable def fx8 : Fx := ⟨Try.f8, [0, 1, 4, 5, 7, 8, 9, 10, 11, 12, 13, 14, 15, 16, 17, 49, 55, 64, 77, 85, 94, 123, 126, 148], [(13, ([11, 12, 85, 94, 123], [])), (22, ([14, 15, 16, 17, 126, 148], []))], [], [], ⟨[], rs, rb⟩⟩
noncomputable def fx10 : Fx := ⟨Try.f10, [0, 2, 3, 9, 12, 13, 14], [(5, ([14], []))], [], [], ⟨[], rs, rb⟩⟩
theorem ok10 : FnOk Try.prog tb 10 fx10 := FnOk.of follows Try.func10 (by kernel_rfl)
noncomputable def fx11 : Fx := ⟨Try.f11, [0, 1, 2, 3, 16], [], [], [], ⟨[], rs, rb⟩⟩
theorem ok11 : FnOk Try.prog tb 11 fx11 := FnOk.of follows Try.func11 (by kernel_rfl)
noncomputable def fx12 : Fx := ⟨Try.f12, [0, 1, 2, 6, 7, 10, 22, 26], [], [], [], ⟨[], rs, rb⟩⟩
theorem ok12 : FnOk Try.prog tb 12 fx12 := FnOk.of follows Try.func12 (by kernel_rfl)
noncomputable def fx13 : Fx := ⟨Try.f13, [0, 2, 4, 13, 17, 18, 19, 20], [(4, ([4, 20], []))], [], [], ⟨[], rs, rb⟩⟩
theorem ok13 : FnOk Try.prog tb 13 fx13 := FnOk.of follows Try.func13 (by kernel_rfl)
noncomputable def fx14 : Fx := ⟨Try.f14, [0, 2, 4], [], [], [], ⟨[], rs, rb⟩⟩
theorem ok14 : FnOk Try.prog tb 14 fx14 := FnOk.of follows Try.func14 (by kernel_rfl)
noncomputable def fx15 : Fx := ⟨Try.f15, [0, 1, 4, 5, 6, 7, 10, 29, 41], [(6, ([29, 41], []))], [], [], ⟨[], rs, rb⟩⟩
theorem ok15 : FnOk Try.prog tb 15 fx15 := FnOk.of follows Try.func15 (by kernel_rfl)
noncomputable def fx16 : Fx := ⟨Try.f16, [0, 1, 4, 5, 7, 11, 12, 13, 14, 27], [(2, ([4, 5, 14, 27], []))], [], [], ⟨[], rs, rb⟩⟩
theorem ok16 : FnOk Try.prog tb 16 fx16 := FnOk.of follows Try.func16 (by kernel_rfl)
noncomputable def fx17 : Fx := ⟨Try.f17, [0, 1, 2], [], [], [], ⟨[], rs, rb⟩⟩
theorem ok17 : FnOk Try.prog tb 17 fx17 := FnOk.of follows Try.func17 (by kernel_rfl)
noncomputable def fx18 : Fx := ⟨Try.f18, [0, 1, 2, 4, 5, 6, 7, 8, 9, 10, 11, 12, 13, 14, 15, 17, 18, 30, 55, 65], [], [], [], ⟨[], rs, rb⟩⟩
theorem ok18 : FnOk Try.prog tb 18 fx18 := FnOk.of follows Try.func18 (by kernel_rfl)
noncomputable def fx19 : Fx := ⟨Try.f19, [0, 1, 5], [], [], [], ⟨[], rs, rb⟩⟩
theorem ok19 : FnOk Try.prog tb 19 fx19 := FnOk.of follows Try.func19 (by kernel_rfl)
noncomputable def fx20 : Fx := ⟨Try.f20, [0, 2], [], [], [], ⟨[], rs, rb⟩⟩
theorem ok20 : FnOk Try.prog tb 20 fx20 := FnOk.of follows Try.func20 (by kernel_rfl)
noncomputable def fx21 : Fx := ⟨Try.f21, [0, 2, 4], [], [], [], ⟨[], rs, rb⟩⟩
theorem ok21 : FnOk Try.prog tb 21 fx21 := FnOk.of follows Try.func21 (by kernel_rfl)
noncomputable def fx22 : Fx := ⟨Try.f22, [0, 2, 3, 4, 11, 15], [(5, ([15], []))], [], [], ⟨[], rs, rb⟩⟩
theorem ok22 : FnOk Try.prog tb 22 fx22 := FnOk.of follows Try.func22 (by kernel_rfl)
noncomputable def fx23 : Fx := ⟨Try.f23, [0, 1, 2, 4, 5, 6, 7, 15, 24, 34, 43], [(7, ([34, 43], []))], [], [], ⟨[], rs, rb⟩⟩
theorem ok23 : FnOk Try.prog tb 23 fx23 := FnOk.of follows Try.func23 (by kernel_rfl)
noncomputable def fx34 : Fx := ⟨Try.f34, [0, 2, 13, 20], [], [], [], ⟨[], rs, rb⟩⟩
theorem ok34 : FnOk Try.prog tb 34 fx34 := FnOk.of follows Try.func34 (by kernel_rfl)
noncomputable def fx35 : Fx := ⟨Try.f35, [0, 1, 2, 3, 4, 5, 6, 7, 15, 25, 31], [(9, ([31], []))], [], [], ⟨[], rs, rb⟩⟩
theorem ok35 : FnOk Try.prog tb 35 fx35 := FnOk.of follows Try.func35 (by kernel_rfl)
noncomputable def fx36 : Fx := ⟨Try.f36, [0, 1, 2, 4, 8], [], [], [], ⟨[], rs, rb⟩⟩
theorem ok36 : FnOk Try.prog tb 36 fx36 := FnOk.of follows Try.func36 (by kernel_rfl)
noncomputable def fx37 : Fx := ⟨Try.f37, [0, 1, 2, 4, 5, 12, 24], [(3, ([12, 24], []))], [], [], ⟨[], rs, rb⟩⟩
theorem ok37 : FnOk Try.prog tb 37 fx37 := FnOk.of follows Try.func37 (by kernel_rfl)
noncomputable def fx38 : Fx := ⟨Try.f38, [0, 1, 2, 3, 6, 7, 8, 16, 26, 30, 40], [], [], [], ⟨[], rs, rb⟩⟩
theorem ok38 : FnOk Try.prog tb 38 fx38 := FnOk.of follows Try.func38 (by kernel_rfl)
noncomputable def fx39 : Fx := ⟨Try.f39, [0, 2, 5], [(1, ([5], []))], [], [], ⟨[], rs, rb⟩⟩
theorem ok39 : FnOk Try.prog tb 39 fx39 := FnOk.of follows Try.func39 (by kernel_rfl)
noncomputable def fx62 : Fx := ⟨Try.f62, [0, 1, 2, 3, 4, 5], [], [], [], ⟨[], rs, rb⟩⟩
theorem ok62 : FnOk Try.prog tb 62 fx62 := FnOk.of follows Try.func62 (by kernel_rfl)
noncomputable def fx63 : Fx := ⟨Try.f63, [0, 1, 2, 3, 6, 11], [], [], [], ⟨[], rs, rb⟩⟩
theorem ok63 : FnOk Try.prog tb 63 fx63 := FnOk.of follows Try.func63 (by kernel_rfl)
end Go.AM.Ytpdifkaeiecdpaa
