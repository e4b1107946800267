/- The disk: Arm, Loose, Size, Flush, Crash, New. -/
import Derived.Test.YtpdifkaeiecdpaaAmD5
set_option linter.unusedVariables false
set_option maxRecDepth 100000
namespace Go.AM.Ytpdifkaeiecdpaa
open Go.AM Go.Proofs Go
theorem t19 (n l : Int) (a d : Bool) (f : List (List UInt8)) (p : List T77) : evFn F1 tb fx19 0 [.ptr 0 0, .int .i64 n] (dB l a d f p) =
  some (AV.tup [], [Ob.box [AV.int IntKind.i64 n, AV.bool (decide (n ≥ 0)), AV.bool d, AV.ow 9 f, AV.ow 77 p]]) := by kernel_rfl
theorem t14 (l : Int) (a d : Bool) (f : List (List UInt8)) (p : List T77) : evFn F1 tb fx14 0 [.ptr 0 0] (dB l a d f p) =
  some (AV.int IntKind.i64 ((p.length : Nat) : Int), [Ob.box [AV.int IntKind.i64 l, AV.bool a, AV.bool d, AV.ow 9 f, AV.ow 77 p]]) := by kernel_rfl
theorem t21 (l : Int) (a d : Bool) (f : List (List UInt8)) (p : List T77) : evFn F1 tb fx21 0 [.ptr 0 0] (dB l a d f p) =
  some (AV.int IntKind.i64 ((f.length : Nat) : Int), [Ob.box [AV.int IntKind.i64 l, AV.bool a, AV.bool d, AV.ow 9 f, AV.ow 77 p]]) := by kernel_rfl
theorem t17 (x : T30) : evFn F1 tb fx17 0 [up 30 x] [] =
  some (AV.int IntKind.i64 (IntKind.i64.wrap ((IntKind.u64.wrap x.kind).tmod 7)), []) := by kernel_rfl
theorem t13 (N : Nat) (l : Int) (a d : Bool) (f : List (List UInt8)) (p : List T77) : evFn F1 tb fx13 N [.ptr 0 0] (dB l a d f p) =
  bif d then some (AV.int IntKind.i64 7, [Ob.box [AV.int IntKind.i64 l, AV.bool a, AV.bool d, AV.ow 9 f, AV.ow 77 p]]) else bif a && decide (l = 0) then some (AV.int IntKind.i64 7, [Ob.box [AV.int IntKind.i64 l, AV.bool a, AV.bool true, AV.ow 9 f, AV.ow 77 p]]) else loopF F1 tb fx13 0 N (contF F1 tb fx13 N 0 1) N { nt := 36, t := [(0, AV.ptr 0 0), (2, AV.int IntKind.i64 0), (13, AV.bool !true), (17, AV.vw 1180356 77), (18, AV.int IntKind.i64 ((p.length : Nat) : Int)), (19, AV.int IntKind.i64 0)], h := [(0, Ob.box [AV.int IntKind.i64 (bif a then IntKind.i64.wrap (l - 1) else l), AV.bool a, AV.bool d, AV.vw 1180355 9, AV.vw 1180356 77]), (1180355, Ob.row 9 f), (1180356, Ob.row 77 p)], u := [1180355, 1180356, 1098435, 1098436, 0, 1003, 1004] : St } := by kernel_rfl
theorem t16 (N : Nat) (l : Int) (a d : Bool) (f : List (List UInt8)) (p : List T77) (ks : List Bool) : evFn F1 tb fx16 N [.ptr 0 0, .sl 4 false ks] (dB l a d f p) =
  loopF F1 tb fx16 0 N (contF F1 tb fx16 N 0 1) N { nt := 45, t := [(0, AV.ptr 0 0), (1, AV.sl 4 false ks), (7, AV.bool false), (11, AV.vw 1004 77), (12, AV.int IntKind.i64 ((p.length : Nat) : Int)), (13, AV.int IntKind.i64 0)], h := [(0, Ob.box [AV.int IntKind.i64 l, AV.bool a, AV.bool d, AV.vw 1003 9, AV.vw 1004 77]), (1003, Ob.row 9 f), (1004, Ob.row 77 p)], u := [0, 1003, 1004] : St } := by kernel_rfl
theorem t10 (N : Nat) (n : Int) : evFn F1 tb fx10 N [.int .i64 n] [] =
  bif decide (n < 1) then some (AV.nilp, []) else bif decide (n > 4096) then some (AV.nilp, []) else loopF F1 tb fx10 0 N (contF F1 tb fx10 N 0 0) N { nt := 27, t := [(0, AV.int IntKind.i64 n), (2, AV.nilp), (3, AV.ptr 1180224 0), (9, AV.bool (decide (n > 4096))), (12, AV.int IntKind.i64 n), (13, AV.int IntKind.i64 0)], h := [(1180224, Ob.box [AV.int IntKind.i64 0, AV.bool false, AV.bool false, AV.vw 1180228 9, AV.vw 1180229 77]), (1180228, Ob.row 9 []), (1180229, Ob.row 77 [])], u := [1180224, 1180229, 1180228] : St } := by kernel_rfl
end Go.AM.Ytpdifkaeiecdpaa
