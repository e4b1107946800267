/- A part of the proof. -/
import Derived.Test.YtnhfjkckgicidaaProg
import Derived.Test.YtnhfjkckgicidaaAmPrg
namespace Go.AM.Ytnhfjkckgicidaa
open Go.Proofs
noncomputable def tb : Tb := [
  (3, ⟨.int .i64, 1, 8, .int .i64 0⟩),
  (4, ⟨.bool, 1, 1, .bool false⟩),
  (5, ⟨.int .u8, 1, 1, .int .u8 0⟩),
  (9, ⟨.str, 1, 16, .str []⟩),
  (22, ⟨.sl 78, 1, 24, .sl 0 true []⟩),
  (35, ⟨.sl 91, 1, 24, .sl 0 true []⟩),
  (47, ⟨.struct [(0, 35), (1, 3)], 2, 32, .agg [.sl 0 true [], .int .i64 0]⟩),
  (48, ⟨.sl 138, 1, 24, .sl 0 true []⟩),
  (49, ⟨.sl 3, 1, 24, .sl 0 true []⟩),
  (51, ⟨.struct [(0, 3), (1, 3), (2, 22)], 3, 40, .agg [.int .i64 0, .int .i64 0, .sl 0 true []]⟩),
  (53, ⟨.struct [(0, 3), (1, 3), (2, 35), (3, 3), (4, 3), (5, 3), (6, 4), (7, 47), (9, 48), (10, 49), (11, 51)], 14, 192, .agg [.int .i64 0, .int .i64 0, .sl 0 true [], .int .i64 0, .int .i64 0, .int .i64 0, .bool false, .sl 0 true [], .int .i64 0, .sl 0 true [], .sl 0 true [], .int .i64 0, .int .i64 0, .sl 0 true []]⟩),
  (59, ⟨.other, 1, 8, .nilfn⟩),
  (64, ⟨.sl 141, 1, 24, .sl 0 true []⟩),
  (78, ⟨.struct [(0, 3), (1, 3), (2, 9)], 3, 32, .agg [.int .i64 0, .int .i64 0, .str []]⟩),
  (80, ⟨.sl 5, 1, 24, .sl 0 true []⟩),
  (84, ⟨.ptr, 1, 8, .nilp⟩),
  (86, ⟨.struct [(0, 9), (1, 4)], 2, 24, .agg [.str [], .bool false]⟩),
  (91, ⟨.struct [(0, 3), (1, 3)], 2, 16, .agg [.int .i64 0, .int .i64 0]⟩),
  (124, ⟨.other, 1, 8, .nilfn⟩),
  (136, ⟨.int .u64, 1, 8, .int .u64 0⟩),
  (138, ⟨.struct [(0, 3), (1, 136)], 2, 16, .agg [.int .i64 0, .int .u64 0]⟩),
  (139, ⟨.sl 9, 1, 24, .sl 0 true []⟩),
  (141, ⟨.struct [(0, 3), (1, 139)], 2, 32, .agg [.int .i64 0, .sl 0 true []]⟩)
]
noncomputable def sh : List (Nat × Sh) := [(3, .int .i64), (4, .bool), (9, .str), (22, .sl), (25, .tup [.str, .int .i64]), (29, .tup [.sl, .str, .int .i64]), (31, .tup [.sl, .int .i64, .bool]), (35, .sl), (39, .tup [.sl, .str, .int .i64]), (41, .tup [.sl, .int .i64, .bool]), (54, .tup [.agg [.int .i64, .int .i64, .sl, .int .i64, .int .i64, .int .i64, .bool, .sl, .int .i64, .sl, .sl, .int .i64, .int .i64, .sl], .int .i64]), (56, .tup [.agg [.int .i64, .int .i64, .sl, .int .i64, .int .i64, .int .i64, .bool, .sl, .int .i64, .sl, .sl, .int .i64, .int .i64, .sl], .bool]), (88, .tup [.int .i64, .bool]), (95, .tup [.sl, .str, .int .i64]), (97, .tup [.sl, .str, .int .i64]), (101, .tup [.sl, .bool]), (106, .tup [.sl, .int .i64]), (126, .tup [.str, .str, .int .i64]), (128, .tup [.int .i64, .int .i64]), (130, .tup [.str, .int .i64]), (132, .tup [.int .i64, .str, .int .i64]), (134, .tup [.int .i64, .int .i64]), (136, .int .u64)]
noncomputable def fnl : List (Nat × Fx) := [
  (3, ⟨Try.f3, [0, 1, 4, 5, 6, 7, 8, 9, 10, 11, 12, 20, 28, 36, 42, 56], [], []⟩),
  (4, ⟨Try.f4, [0, 1, 4, 5, 6, 7, 8, 9, 10, 11, 12, 15, 23, 31, 37, 51], [], []⟩),
  (5, ⟨Try.f5, [0, 1, 2, 6, 7, 8, 9, 10, 11, 12, 13, 14, 15, 16, 29, 37, 58, 65, 86], [], []⟩),
  (6, ⟨Try.f6, [0, 2, 3, 4, 5, 6, 9, 22], [], []⟩),
  (7, ⟨Try.f7, [0, 1, 2, 3, 4, 5, 6, 7, 10, 22, 24], [], []⟩),
  (8, ⟨Try.f8, [0, 1, 2, 3, 4, 6, 7, 8, 9, 10, 12, 20, 37], [], []⟩),
  (10, ⟨Try.f10, [0, 1, 2], [], []⟩),
  (11, ⟨Try.f11, [0, 2, 3, 4, 6, 8, 9, 13, 22, 23, 24, 25], [(6, [8, 9, 25])], []⟩),
  (12, ⟨Try.f12, [0, 2, 3, 13, 17, 58], [(4, [17, 58])], []⟩),
  (13, ⟨Try.f13, [0, 2, 3, 4, 11], [(3, [11])], []⟩),
  (14, ⟨Try.f14, [0, 2, 3, 4, 5, 6, 15], [], []⟩),
  (15, ⟨Try.f15, [0, 1, 4, 5, 6, 7, 8, 9, 10, 11, 12, 20, 25, 45], [(7, [11, 12, 25, 45])], []⟩),
  (16, ⟨Try.f16, [0, 1, 4, 5, 10, 14, 25], [(4, [14, 25])], []⟩),
  (17, ⟨Try.f17, [0, 2, 3, 4, 6, 14, 20, 21, 22, 23], [(5, [6, 23])], []⟩),
  (18, ⟨Try.f18, [0, 2], [], []⟩),
  (19, ⟨Try.f19, [0, 2, 3, 4, 11], [(3, [11])], []⟩),
  (20, ⟨Try.f20, [0, 2, 3, 4, 5, 6, 15], [], []⟩),
  (21, ⟨Try.f21, [0, 1, 4, 5, 6, 7, 8, 9, 10, 11, 12, 13, 14, 22, 25, 53], [(6, [11, 12, 13, 14, 25, 53])], []⟩),
  (22, ⟨Try.f22, [0, 1, 4, 5, 10, 14, 25], [(4, [14, 25])], []⟩),
  (23, ⟨Try.f23, [0, 2, 3, 4, 5, 6, 7, 8, 9, 64, 73, 74, 75, 111], [(13, [75])], []⟩),
  (24, ⟨Try.f24, [0, 2, 3, 4, 5, 6, 7, 8, 9, 10, 11, 12, 13, 14, 15, 16, 24, 42, 59, 80, 84, 180], [(16, [84])], []⟩),
  (25, ⟨Try.f25, [0, 1, 2, 3, 4, 5, 12, 17, 30], [(4, [17, 30])], []⟩),
  (26, ⟨Try.f26, [0, 1, 2], [], []⟩),
  (27, ⟨Try.f27, [0, 1, 2, 3, 4, 6, 8, 10, 12, 13, 15, 18, 46, 53, 54, 55, 56], [(12, [15, 56])], []⟩),
  (28, ⟨Try.f28, [0, 1, 2, 4], [], []⟩),
  (29, ⟨Try.f29, [0, 1, 2, 4, 5, 7, 49, 50, 51, 52], [(4, [7, 52])], []⟩),
  (30, ⟨Try.f30, [0, 1, 2, 3, 4, 5, 7, 57], [(6, [57])], []⟩),
  (36, ⟨Try.f36, [0, 2], [], []⟩),
  (37, ⟨Try.f37, [0, 1, 4, 5, 6, 7, 13, 26, 30, 31, 32], [(7, [7, 32])], []⟩),
  (38, ⟨Try.f38, [0, 2, 3, 4, 8], [], []⟩),
  (39, ⟨Try.f39, [0, 2, 3, 4, 5, 9, 28, 42, 45], [(2, [4, 5, 9, 28, 42, 45]), (4, [9, 28, 42])], []⟩),
  (40, ⟨Try.f40, [0, 2], [], []⟩),
  (41, ⟨Try.f41, [0, 2], [], []⟩),
  (42, ⟨Try.f42, [0, 2, 3, 4, 5, 6, 7, 9, 10, 11, 33], [(3, [4, 5, 6, 7, 11, 33])], []⟩),
  (43, ⟨Try.f43, [0, 1, 2, 6, 7, 8, 9, 19], [], []⟩),
  (44, ⟨Try.f44, [0, 2, 3, 4, 6, 21, 22, 23, 24, 25, 47], [(5, [6, 25, 47])], []⟩),
  (45, ⟨Try.f45, [0, 2, 3, 5, 6, 8, 9, 10, 11], [(3, [5, 6, 11])], []⟩),
  (46, ⟨Try.f46, [0, 2, 3, 11, 15, 47, 57, 87], [(4, [15, 47, 57, 87])], []⟩),
  (47, ⟨Try.f47, [0, 2, 3], [], []⟩),
  (48, ⟨Try.f48, [0, 2, 3, 5, 6, 7, 19], [(3, [7, 19])], []⟩),
  (49, ⟨Try.f49, [0, 1, 4, 5, 6, 7, 25], [], []⟩),
  (50, ⟨Try.f50, [0, 2, 3, 4, 5, 6, 7, 8, 9, 25, 26, 27, 28, 49], [(6, [9, 28])], []⟩),
  (51, ⟨Try.f51, [0, 2, 3, 4, 5, 6, 7, 20, 25, 63], [(5, [7, 25])], []⟩),
  (52, ⟨Try.f52, [0, 1, 4, 5, 10, 14, 25], [(4, [14, 25])], []⟩),
  (53, ⟨Try.f53, [0, 2, 3, 4, 6, 7, 11, 16, 17, 18, 19], [(5, [6, 7, 19])], []⟩),
  (54, ⟨Try.f54, [0, 2, 3, 4, 5, 6, 15, 20, 36, 50], [(5, [6, 20, 36, 50]), (10, [50])], []⟩),
  (55, ⟨Try.f55, [0, 2], [], []⟩),
  (56, ⟨Try.f56, [0, 1, 2], [], []⟩),
  (57, ⟨Try.f57, [0, 1, 2], [], []⟩),
  (58, ⟨Try.f58, [0, 2, 3, 7, 58], [(2, [7, 58])], []⟩),
  (59, ⟨Try.f59, [0, 2, 3, 4, 5, 14, 18, 27, 44], [(5, [18, 27, 38])], []⟩),
  (60, ⟨Try.f60, [0, 2], [], []⟩),
  (61, ⟨Try.f61, [0, 1, 2], [], []⟩),
  (62, ⟨Try.f62, [0, 2, 3, 5, 6, 7, 8, 9, 30], [(3, [5, 9, 30])], []⟩),
  (63, ⟨Try.f63, [0, 2, 3, 4, 5, 14], [(3, [5, 14])], []⟩),
  (81, ⟨Try.f81, [0, 2, 3, 5, 6, 7, 23], [(2, [3, 7, 23])], []⟩),
  (82, ⟨Try.f82, [0, 1, 4], [], []⟩),
  (83, ⟨Try.f83, [0, 1, 2], [], []⟩),
  (84, ⟨Try.f84, [0, 1, 2, 3, 4], [], []⟩),
  (85, ⟨Try.f85, [0, 2, 3, 4, 5, 6, 7, 21], [], []⟩),
  (86, ⟨Try.f86, [0, 2, 3, 4, 5, 13, 21, 25], [(7, [25])], []⟩),
  (87, ⟨Try.f87, [0, 1, 4, 5, 6, 7, 13, 15, 18, 31], [(7, [18])], []⟩),
  (88, ⟨Try.f88, [0, 1, 4, 5, 6, 7, 8, 9, 16, 29], [], []⟩),
  (89, ⟨Try.f89, [0, 2, 3, 4, 5, 13, 15, 16, 17, 28], [(5, [5, 17])], []⟩),
  (90, ⟨Try.f90, [0, 2, 3, 4, 7, 11, 63, 71, 83], [(4, [4, 11, 63, 71, 83]), (9, [71, 83])], []⟩),
  (91, ⟨Try.f91, [0, 2, 3, 4, 7], [(3, [7])], []⟩),
  (92, ⟨Try.f92, [0, 2], [], []⟩),
  (93, ⟨Try.f93, [0, 2, 3, 5, 6, 7, 8, 9, 27, 30], [(3, [5, 9, 27, 30])], []⟩),
  (94, ⟨Try.f94, [0, 1, 2], [], []⟩),
  (105, ⟨Try.f105, [0, 1, 2, 3, 4], [], []⟩),
  (106, ⟨Try.f106, [0, 1, 4, 5, 7, 8, 9, 16], [(2, [5, 9, 16])], []⟩),
  (107, ⟨Try.f107, [0, 1, 4], [], []⟩),
  (108, ⟨Try.f108, [0, 2], [], []⟩),
  (121, ⟨Try.f121, [0, 2, 3, 5, 6, 7, 8, 9, 14], [(3, [5, 9, 14])], []⟩),
  (122, ⟨Try.f122, [0, 1, 4, 5, 6, 11, 12, 13, 16, 19], [], []⟩),
  (123, ⟨Try.f123, [0, 1, 4, 5, 7, 8, 9, 16], [(2, [5, 9, 16])], []⟩),
  (132, ⟨Try.f132, [0, 2], [], []⟩)
]
noncomputable def pr : Prg := ⟨mkF fnl [], tb, sh⟩
theorem tb_ok : TbAll Try.prog tb :=
  ⟨by kernel_rfl, ⟨by kernel_rfl, ⟨by kernel_rfl, ⟨by kernel_rfl, ⟨by kernel_rfl, ⟨by kernel_rfl, ⟨by kernel_rfl, ⟨by kernel_rfl, ⟨by kernel_rfl, ⟨by kernel_rfl, ⟨by kernel_rfl, ⟨by kernel_rfl, ⟨by kernel_rfl, ⟨by kernel_rfl, ⟨by kernel_rfl, ⟨by kernel_rfl, ⟨by kernel_rfl, ⟨by kernel_rfl, ⟨by kernel_rfl, ⟨by kernel_rfl, ⟨by kernel_rfl, ⟨by kernel_rfl, ⟨by kernel_rfl, trivial⟩⟩⟩⟩⟩⟩⟩⟩⟩⟩⟩⟩⟩⟩⟩⟩⟩⟩⟩⟩⟩⟩⟩
theorem ok3 : fnOkB tb ⟨Try.f3, [], [], []⟩ = true := by kernel_rfl
theorem ok4 : fnOkB tb ⟨Try.f4, [], [], []⟩ = true := by kernel_rfl
theorem ok5 : fnOkB tb ⟨Try.f5, [], [], []⟩ = true := by kernel_rfl
theorem ok6 : fnOkB tb ⟨Try.f6, [], [], []⟩ = true := by kernel_rfl
theorem ok7 : fnOkB tb ⟨Try.f7, [], [], []⟩ = true := by kernel_rfl
theorem ok8 : fnOkB tb ⟨Try.f8, [], [], []⟩ = true := by kernel_rfl
theorem ok10 : fnOkB tb ⟨Try.f10, [], [], []⟩ = true := by kernel_rfl
theorem ok11 : fnOkB tb ⟨Try.f11, [], [], []⟩ = true := by kernel_rfl
theorem ok12 : fnOkB tb ⟨Try.f12, [], [], []⟩ = true := by kernel_rfl
theorem ok13 : fnOkB tb ⟨Try.f13, [], [], []⟩ = true := by kernel_rfl
theorem ok14 : fnOkB tb ⟨Try.f14, [], [], []⟩ = true := by kernel_rfl
theorem ok15 : fnOkB tb ⟨Try.f15, [], [], []⟩ = true := by kernel_rfl
theorem ok16 : fnOkB tb ⟨Try.f16, [], [], []⟩ = true := by kernel_rfl
theorem ok17 : fnOkB tb ⟨Try.f17, [], [], []⟩ = true := by kernel_rfl
theorem ok18 : fnOkB tb ⟨Try.f18, [], [], []⟩ = true := by kernel_rfl
theorem ok19 : fnOkB tb ⟨Try.f19, [], [], []⟩ = true := by kernel_rfl
theorem ok20 : fnOkB tb ⟨Try.f20, [], [], []⟩ = true := by kernel_rfl
theorem ok21 : fnOkB tb ⟨Try.f21, [], [], []⟩ = true := by kernel_rfl
theorem ok22 : fnOkB tb ⟨Try.f22, [], [], []⟩ = true := by kernel_rfl
theorem ok23 : fnOkB tb ⟨Try.f23, [], [], []⟩ = true := by kernel_rfl
theorem ok24 : fnOkB tb ⟨Try.f24, [], [], []⟩ = true := by kernel_rfl
theorem ok25 : fnOkB tb ⟨Try.f25, [], [], []⟩ = true := by kernel_rfl
theorem ok26 : fnOkB tb ⟨Try.f26, [], [], []⟩ = true := by kernel_rfl
theorem ok27 : fnOkB tb ⟨Try.f27, [], [], []⟩ = true := by kernel_rfl
theorem ok28 : fnOkB tb ⟨Try.f28, [], [], []⟩ = true := by kernel_rfl
theorem ok29 : fnOkB tb ⟨Try.f29, [], [], []⟩ = true := by kernel_rfl
theorem ok30 : fnOkB tb ⟨Try.f30, [], [], []⟩ = true := by kernel_rfl
theorem ok36 : fnOkB tb ⟨Try.f36, [], [], []⟩ = true := by kernel_rfl
theorem ok37 : fnOkB tb ⟨Try.f37, [], [], []⟩ = true := by kernel_rfl
theorem ok38 : fnOkB tb ⟨Try.f38, [], [], []⟩ = true := by kernel_rfl
theorem ok39 : fnOkB tb ⟨Try.f39, [], [], []⟩ = true := by kernel_rfl
theorem ok40 : fnOkB tb ⟨Try.f40, [], [], []⟩ = true := by kernel_rfl
theorem ok41 : fnOkB tb ⟨Try.f41, [], [], []⟩ = true := by kernel_rfl
theorem ok42 : fnOkB tb ⟨Try.f42, [], [], []⟩ = true := by kernel_rfl
theorem ok43 : fnOkB tb ⟨Try.f43, [], [], []⟩ = true := by kernel_rfl
theorem ok44 : fnOkB tb ⟨Try.f44, [], [], []⟩ = true := by kernel_rfl
theorem ok45 : fnOkB tb ⟨Try.f45, [], [], []⟩ = true := by kernel_rfl
theorem ok46 : fnOkB tb ⟨Try.f46, [], [], []⟩ = true := by kernel_rfl
theorem ok47 : fnOkB tb ⟨Try.f47, [], [], []⟩ = true := by kernel_rfl
theorem ok48 : fnOkB tb ⟨Try.f48, [], [], []⟩ = true := by kernel_rfl
theorem ok49 : fnOkB tb ⟨Try.f49, [], [], []⟩ = true := by kernel_rfl
theorem ok50 : fnOkB tb ⟨Try.f50, [], [], []⟩ = true := by kernel_rfl
theorem ok51 : fnOkB tb ⟨Try.f51, [], [], []⟩ = true := by kernel_rfl
theorem ok52 : fnOkB tb ⟨Try.f52, [], [], []⟩ = true := by kernel_rfl
theorem ok53 : fnOkB tb ⟨Try.f53, [], [], []⟩ = true := by kernel_rfl
theorem ok54 : fnOkB tb ⟨Try.f54, [], [], []⟩ = true := by kernel_rfl
theorem ok55 : fnOkB tb ⟨Try.f55, [], [], []⟩ = true := by kernel_rfl
theorem ok56 : fnOkB tb ⟨Try.f56, [], [], []⟩ = true := by kernel_rfl
theorem ok57 : fnOkB tb ⟨Try.f57, [], [], []⟩ = true := by kernel_rfl
theorem ok58 : fnOkB tb ⟨Try.f58, [], [], []⟩ = true := by kernel_rfl
theorem ok59 : fnOkB tb ⟨Try.f59, [], [], []⟩ = true := by kernel_rfl
theorem ok60 : fnOkB tb ⟨Try.f60, [], [], []⟩ = true := by kernel_rfl
theorem ok61 : fnOkB tb ⟨Try.f61, [], [], []⟩ = true := by kernel_rfl
theorem ok62 : fnOkB tb ⟨Try.f62, [], [], []⟩ = true := by kernel_rfl
theorem ok63 : fnOkB tb ⟨Try.f63, [], [], []⟩ = true := by kernel_rfl
theorem ok81 : fnOkB tb ⟨Try.f81, [], [], []⟩ = true := by kernel_rfl
theorem ok82 : fnOkB tb ⟨Try.f82, [], [], []⟩ = true := by kernel_rfl
theorem ok83 : fnOkB tb ⟨Try.f83, [], [], []⟩ = true := by kernel_rfl
theorem ok84 : fnOkB tb ⟨Try.f84, [], [], []⟩ = true := by kernel_rfl
theorem ok85 : fnOkB tb ⟨Try.f85, [], [], []⟩ = true := by kernel_rfl
theorem ok86 : fnOkB tb ⟨Try.f86, [], [], []⟩ = true := by kernel_rfl
theorem ok87 : fnOkB tb ⟨Try.f87, [], [], []⟩ = true := by kernel_rfl
theorem ok88 : fnOkB tb ⟨Try.f88, [], [], []⟩ = true := by kernel_rfl
theorem ok89 : fnOkB tb ⟨Try.f89, [], [], []⟩ = true := by kernel_rfl
theorem ok90 : fnOkB tb ⟨Try.f90, [], [], []⟩ = true := by kernel_rfl
theorem ok91 : fnOkB tb ⟨Try.f91, [], [], []⟩ = true := by kernel_rfl
theorem ok92 : fnOkB tb ⟨Try.f92, [], [], []⟩ = true := by kernel_rfl
theorem ok93 : fnOkB tb ⟨Try.f93, [], [], []⟩ = true := by kernel_rfl
theorem ok94 : fnOkB tb ⟨Try.f94, [], [], []⟩ = true := by kernel_rfl
theorem ok105 : fnOkB tb ⟨Try.f105, [], [], []⟩ = true := by kernel_rfl
theorem ok106 : fnOkB tb ⟨Try.f106, [], [], []⟩ = true := by kernel_rfl
theorem ok107 : fnOkB tb ⟨Try.f107, [], [], []⟩ = true := by kernel_rfl
theorem ok108 : fnOkB tb ⟨Try.f108, [], [], []⟩ = true := by kernel_rfl
theorem ok121 : fnOkB tb ⟨Try.f121, [], [], []⟩ = true := by kernel_rfl
theorem ok122 : fnOkB tb ⟨Try.f122, [], [], []⟩ = true := by kernel_rfl
theorem ok123 : fnOkB tb ⟨Try.f123, [], [], []⟩ = true := by kernel_rfl
theorem ok132 : fnOkB tb ⟨Try.f132, [], [], []⟩ = true := by kernel_rfl
theorem fn_ok : FnAll Try.prog tb fnl :=
  ⟨⟨Try.func3, ok3⟩, ⟨⟨Try.func4, ok4⟩, ⟨⟨Try.func5, ok5⟩, ⟨⟨Try.func6, ok6⟩, ⟨⟨Try.func7, ok7⟩, ⟨⟨Try.func8, ok8⟩, ⟨⟨Try.func10, ok10⟩, ⟨⟨Try.func11, ok11⟩, ⟨⟨Try.func12, ok12⟩, ⟨⟨Try.func13, ok13⟩, ⟨⟨Try.func14, ok14⟩, ⟨⟨Try.func15, ok15⟩, ⟨⟨Try.func16, ok16⟩, ⟨⟨Try.func17, ok17⟩, ⟨⟨Try.func18, ok18⟩, ⟨⟨Try.func19, ok19⟩, ⟨⟨Try.func20, ok20⟩, ⟨⟨Try.func21, ok21⟩, ⟨⟨Try.func22, ok22⟩, ⟨⟨Try.func23, ok23⟩, ⟨⟨Try.func24, ok24⟩, ⟨⟨Try.func25, ok25⟩, ⟨⟨Try.func26, ok26⟩, ⟨⟨Try.func27, ok27⟩, ⟨⟨Try.func28, ok28⟩, ⟨⟨Try.func29, ok29⟩, ⟨⟨Try.func30, ok30⟩, ⟨⟨Try.func36, ok36⟩, ⟨⟨Try.func37, ok37⟩, ⟨⟨Try.func38, ok38⟩, ⟨⟨Try.func39, ok39⟩, ⟨⟨Try.func40, ok40⟩, ⟨⟨Try.func41, ok41⟩, ⟨⟨Try.func42, ok42⟩, ⟨⟨Try.func43, ok43⟩, ⟨⟨Try.func44, ok44⟩, ⟨⟨Try.func45, ok45⟩, ⟨⟨Try.func46, ok46⟩, ⟨⟨Try.func47, ok47⟩, ⟨⟨Try.func48, ok48⟩, ⟨⟨Try.func49, ok49⟩, ⟨⟨Try.func50, ok50⟩, ⟨⟨Try.func51, ok51⟩, ⟨⟨Try.func52, ok52⟩, ⟨⟨Try.func53, ok53⟩, ⟨⟨Try.func54, ok54⟩, ⟨⟨Try.func55, ok55⟩, ⟨⟨Try.func56, ok56⟩, ⟨⟨Try.func57, ok57⟩, ⟨⟨Try.func58, ok58⟩, ⟨⟨Try.func59, ok59⟩, ⟨⟨Try.func60, ok60⟩, ⟨⟨Try.func61, ok61⟩, ⟨⟨Try.func62, ok62⟩, ⟨⟨Try.func63, ok63⟩, ⟨⟨Try.func81, ok81⟩, ⟨⟨Try.func82, ok82⟩, ⟨⟨Try.func83, ok83⟩, ⟨⟨Try.func84, ok84⟩, ⟨⟨Try.func85, ok85⟩, ⟨⟨Try.func86, ok86⟩, ⟨⟨Try.func87, ok87⟩, ⟨⟨Try.func88, ok88⟩, ⟨⟨Try.func89, ok89⟩, ⟨⟨Try.func90, ok90⟩, ⟨⟨Try.func91, ok91⟩, ⟨⟨Try.func92, ok92⟩, ⟨⟨Try.func93, ok93⟩, ⟨⟨Try.func94, ok94⟩, ⟨⟨Try.func105, ok105⟩, ⟨⟨Try.func106, ok106⟩, ⟨⟨Try.func107, ok107⟩, ⟨⟨Try.func108, ok108⟩, ⟨⟨Try.func121, ok121⟩, ⟨⟨Try.func122, ok122⟩, ⟨⟨Try.func123, ok123⟩, ⟨⟨Try.func132, ok132⟩, trivial⟩⟩⟩⟩⟩⟩⟩⟩⟩⟩⟩⟩⟩⟩⟩⟩⟩⟩⟩⟩⟩⟩⟩⟩⟩⟩⟩⟩⟩⟩⟩⟩⟩⟩⟩⟩⟩⟩⟩⟩⟩⟩⟩⟩⟩⟩⟩⟩⟩⟩⟩⟩⟩⟩⟩⟩⟩⟩⟩⟩⟩⟩⟩⟩⟩⟩⟩⟩⟩⟩⟩⟩⟩⟩⟩⟩⟩
theorem pr_ok : PrgOk Try.prog pr := PrgOk.of_plain rfl tb_ok fn_ok (by kernel_rfl) trivial
end Go.AM.Ytnhfjkckgicidaa
