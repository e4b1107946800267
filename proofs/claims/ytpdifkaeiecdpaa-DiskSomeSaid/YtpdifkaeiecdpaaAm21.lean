/- A part of the proof: machine and program. -/
import Derived.Test.YtpdifkaeiecdpaaAm20
set_option linter.unusedVariables false
set_option maxRecDepth 100000
namespace Go.AM.Ytpdifkaeiecdpaa
open Go.AM Go.Proofs Go
def padM (s : List UInt8) : List UInt8 := s ++ List.replicate (32 - s.length) 0
def o39 : Over := tyO [.str] [.str] fun x => .ask (decide (x.1.length < 1000000)) (.ret (padM x.1, ()))
def dR (x : T44) : List Ob := [.row 9 x.firm, .row 3 x.at_, .row 9 x.what]
def smT (x : T44) : Bool := decide (x.firm.length < 1000000) && (decide (x.at_.length < 1000000) && decide (x.what.length < 1000000))
def o62o : Over := tyB [.st 44] fun x => .ask (smT x.1) (.ret (.agg [.ow 9 x.1.firm, .ow 3 x.1.at_, .ow 9 x.1.what, .int .i64 x.1.left, .bool x.1.gone], []))
def spendT (x : T44) : T44 × Bool := bif x.left == 0 then ({ x with gone := true }, false) else bif decide (x.left > 0) then ({ x with left := IntKind.i64.wrap (x.left - 1) }, true) else (x, true)
def o63 : Over := fun vs os => match vs, os with | [.agg [.vw 0 9, .vw 1 3, .vw 2 9, .int .i64 l, .bool g]], [.row 9 f, .row 3 a, .row 9 w] => .ret (.tup [.agg [.vw 0 9, .vw 1 3, .vw 2 9, .int .i64 (spendT ⟨f, a, w, l, g⟩).1.left, .bool (spendT ⟨f, a, w, l, g⟩).1.gone], .bool (spendT ⟨f, a, w, l, g⟩).2], [.row 9 f, .row 3 a, .row 9 w]) | _, _ => .fail
def armT (x : T44) (n : Int) : T44 := bif decide (n < 0) then { x with left := -1 } else { x with left := n }
def o36 : Over := tyO [.st 44, .int .i64] [.st 44] fun x => .ret (armT x.1 x.2.1, ())
theorem t62 (x : T44) : evFn (tabF []) tb fx62o 0 [up 44 x] [] =
  bif fitsB x.1.length 16 && decide (x.1.length ≤ big62) then bif fitsB x.2.length 8 && decide (x.2.length ≤ big62) then bif fitsB x.3.length 16 && decide (x.3.length ≤ big62) then some (AV.agg [AV.ow 9 x.1, AV.ow 3 x.2, AV.ow 9 x.3, AV.int IntKind.i64 x.left, AV.bool x.gone], []) else none else none else none := by kernel_rfl
theorem t63 (x : T44) : evFn (tabF []) tb fx63 0 [.agg [.vw 0 9, .vw 1 3, .vw 2 9, .int .i64 x.left, .bool x.gone]] (dR x) =
  bif x.left == 0 then some (AV.tup [AV.agg [AV.vw 0 9, AV.vw (0 + 1) 3, AV.vw (0 + 1 + 1) 9, AV.int IntKind.i64 x.left, AV.bool true], AV.bool false], [Ob.row 9 x.firm, Ob.row 3 x.at_, Ob.row 9 x.what]) else bif decide (x.left > 0) then some (AV.tup [AV.agg [AV.vw 0 9, AV.vw (0 + 1) 3, AV.vw (0 + 1 + 1) 9, AV.int IntKind.i64 (IntKind.i64.wrap (x.left - 1)), AV.bool x.gone], AV.bool true], [Ob.row 9 x.firm, Ob.row 3 x.at_, Ob.row 9 x.what]) else some (AV.tup [AV.agg [AV.vw 0 9, AV.vw (0 + 1) 3, AV.vw (0 + 1 + 1) 9, AV.int IntKind.i64 x.left, AV.bool x.gone], AV.bool true], [Ob.row 9 x.firm, Ob.row 3 x.at_, Ob.row 9 x.what]) := by kernel_rfl
theorem t36 (x : T44) (n : Int) : evFn (tabF []) tb fx36 0 [up 44 x, .int .i64 n] [] =
  bif decide (n < 0) then some (AV.agg [AV.sl 9 false x.firm, AV.sl 3 false x.at_, AV.sl 9 false x.what, AV.int IntKind.i64 (-1), AV.bool x.gone], []) else some (AV.agg [AV.sl 9 false x.firm, AV.sl 3 false x.at_, AV.sl 9 false x.what, AV.int IntKind.i64 n, AV.bool x.gone], []) := by kernel_rfl
theorem t39 (N : Nat) (s : List UInt8) : evFn (tabF []) tb fx39 N [.str s] [] =
  loopF (tabF []) tb fx39 0 N (contF (tabF []) tb fx39 N 0 0) N { nt := 9, t := [(0, AV.str s), (2, AV.str { data := #[] : ByteArray }.data.toList)], h := [], u := [] : St } := by kernel_rfl
def s39 (s : List UInt8) : St := ⟨9, [(0, .str s), (2, .str [])], [], []⟩
theorem b39 (N : Nat) (s : List UInt8) (KN : St → Option Ret) : bodyF (tabF []) tb fx39 N 0 (s39 s) (brk (contF (tabF []) tb fx39 N 0 0) KN) =
  bif decide (((s.length : Nat) : Int) < 32) then bif decide (s.length + { data := #[0] : ByteArray }.data.toList.length ≤ big62) then KN { nt := 9, t := [(0, AV.str (s ++ { data := #[0] : ByteArray }.data.toList)), (2, AV.str []), (5, AV.bool (decide (((s.length : Nat) : Int) < 32)))], h := [], u := [] : St } else none else some (AV.str s, []) := by kernel_rfl
def F4 : Fns := tabF [(1000062, o62o), (63, o63), (39, o39), (36, o36)]
theorem t22 (N : Nat) (n : Int) : evFn F4 tb fx22 N [.int .i64 n] [] =
  bif decide (n < 1) then some (AV.agg [AV.nils, AV.nils, AV.nils, AV.int IntKind.i64 (-1), AV.bool false], []) else bif decide (n > 4096) then some (AV.agg [AV.nils, AV.nils, AV.nils, AV.int IntKind.i64 (-1), AV.bool false], []) else loopF F4 tb fx22 0 N (contF F4 tb fx22 N 0 0) N { nt := 25, t := [(0, AV.int IntKind.i64 n), (2, AV.ptr 1032768 0), (3, AV.ptr 1049152 0), (4, AV.int IntKind.i64 0), (11, AV.bool (decide (n > 4096)))], h := [(1032768, Ob.box [AV.nils, AV.nils, AV.nils, AV.int IntKind.i64 0, AV.bool false]), (1049152, Ob.box [AV.nils, AV.nils, AV.nils, AV.int IntKind.i64 (-1), AV.bool false])], u := [1049152, 1032768] : St } := by kernel_rfl
theorem t23 (N : Nat) (x : T44) (i : Int) : evFn F4 tb fx23 N [up 44 x, .int .i64 i] [] =
  bif x.gone then some (AV.tup [AV.str { data := #[] : ByteArray }.data.toList, AV.int IntKind.i64 7], []) else bif ((x.firm.length : Nat) : Int) == 0 then some (AV.tup [AV.str { data := #[] : ByteArray }.data.toList, AV.int IntKind.i64 7], []) else bif decide (i < 0) then some (AV.tup [AV.str { data := #[] : ByteArray }.data.toList, AV.int IntKind.i64 1], []) else bif decide (i ≥ ((x.firm.length : Nat) : Int)) then some (AV.tup [AV.str { data := #[] : ByteArray }.data.toList, AV.int IntKind.i64 1], []) else bif decide (0 ≤ i) then getO x.firm[i.toNat]? fun x_1 => loopF F4 tb fx23 0 N (contF F4 tb fx23 N 0 0) N { nt := 50, t := [(0, AV.agg [AV.sl 9 false x.firm, AV.sl 3 false x.at_, AV.sl 9 false x.what, AV.int IntKind.i64 x.left, AV.bool x.gone]), (1, AV.int IntKind.i64 i), (2, AV.ptr 1032768 0), (4, AV.str { data := #[] : ByteArray }.data.toList), (5, AV.int IntKind.i64 0), (6, AV.str x_1), (7, AV.int IntKind.i64 0), (15, AV.bool (((x.firm.length : Nat) : Int) == 0)), (24, AV.bool (decide (i ≥ ((x.firm.length : Nat) : Int))))], h := [(1032768, Ob.box [AV.sl 9 false x.firm, AV.sl 3 false x.at_, AV.sl 9 false x.what, AV.int IntKind.i64 x.left, AV.bool x.gone])], u := [1032768] : St } else none := by kernel_rfl
theorem t38 (x : T44) (i : Int) (s : List UInt8) : evFn F4 tb fx38 0 [up 44 x, .int .i64 i, .str s] [] =
  bif x.gone then some (AV.tup [AV.agg [AV.sl 9 false x.firm, AV.sl 3 false x.at_, AV.sl 9 false x.what, AV.int IntKind.i64 x.left, AV.bool x.gone], AV.int IntKind.i64 7], []) else bif ((x.firm.length : Nat) : Int) == 0 then some (AV.tup [AV.agg [AV.sl 9 false x.firm, AV.sl 3 false x.at_, AV.sl 9 false x.what, AV.int IntKind.i64 x.left, AV.bool x.gone], AV.int IntKind.i64 7], []) else bif decide (i < 0) then some (AV.tup [AV.agg [AV.sl 9 false x.firm, AV.sl 3 false x.at_, AV.sl 9 false x.what, AV.int IntKind.i64 x.left, AV.bool x.gone], AV.int IntKind.i64 1], []) else bif decide (i ≥ ((x.firm.length : Nat) : Int)) then some (AV.tup [AV.agg [AV.sl 9 false x.firm, AV.sl 3 false x.at_, AV.sl 9 false x.what, AV.int IntKind.i64 x.left, AV.bool x.gone], AV.int IntKind.i64 1], []) else bif decide (((s.length : Nat) : Int) > 32) then some (AV.tup [AV.agg [AV.sl 9 false x.firm, AV.sl 3 false x.at_, AV.sl 9 false x.what, AV.int IntKind.i64 x.left, AV.bool x.gone], AV.int IntKind.i64 5], []) else bif smT x then bif !(spendT x).snd then some (AV.tup [AV.agg [AV.sl 9 false x.firm, AV.sl 3 false x.at_, AV.sl 9 false x.what, AV.int IntKind.i64 (spendT x).fst.left, AV.bool (spendT x).fst.gone], AV.int IntKind.i64 7], []) else bif fitsB (x.2.length + [i].length) 8 && decide (x.2.length + [i].length ≤ big62) then bif decide (s.length < 1000000) then bif fitsB (x.3.length + [padM s].length) 16 && decide (x.3.length + [padM s].length ≤ big62) then some (AV.tup [AV.agg [AV.sl 9 false x.firm, AV.sl 3 false (x.2 ++ [i]), AV.sl 9 false (x.3 ++ [padM s]), AV.int IntKind.i64 (spendT x).fst.left, AV.bool (spendT x).fst.gone], AV.int IntKind.i64 0], []) else none else none else none else none := by kernel_rfl
theorem t37 (N : Nat) (x : T44) (ks : List Bool) : evFn F4 tb fx37 N [up 44 x, .sl 4 false ks] [] =
  bif smT x then loopF F4 tb fx37 0 N (contF F4 tb fx37 N 0 0) N { nt := 43, t := [(0, AV.agg [AV.sl 9 false x.firm, AV.sl 3 false x.at_, AV.sl 9 false x.what, AV.int IntKind.i64 x.left, AV.bool x.gone]), (1, AV.sl 4 false ks), (2, AV.ptr 1032768 0), (4, AV.ptr 1065536 0), (5, AV.int IntKind.i64 0)], h := [(1032768, Ob.box [AV.vw 1127688 9, AV.vw 1127689 3, AV.vw 1127690 9, AV.int IntKind.i64 x.left, AV.bool x.gone]), (1065536, Ob.box [AV.nils, AV.nils, AV.nils, AV.int IntKind.i64 0, AV.bool false]), (1127688, Ob.row 9 x.firm), (1127689, Ob.row 3 x.at_), (1127690, Ob.row 9 x.what)], u := [1127688, 1127689, 1127690, 1065536, 1032768] : St } else none := by kernel_rfl
def s22a (n : Int) : St := ⟨25, [(0, .int .i64 n), (2, .ptr 100000 0), (3, .ptr 100001 0), (4, .int .i64 0), (11, .bool (decide (n > 4096)))], [(100000, .box [.nils, .nils, .nils, .int .i64 0, .bool false]), (100001, .box [.nils, .nils, .nils, .int .i64 (-1), .bool false])], [100000, 100001]⟩
def s22 (n k : Int) (f : List (List UInt8)) : St := ⟨25, [(0, .int .i64 n), (2, .ptr 100000 0), (3, .ptr 100001 0), (4, .int .i64 k), (11, .bool (decide (n > 4096)))], [(100000, .box [.nils, .nils, .nils, .int .i64 0, .bool false]), (100001, .box [.vw 100002 9, .nils, .nils, .int .i64 (-1), .bool false]), (100002, .row 9 f)], [100000, 100001, 100002]⟩
theorem b22a (N : Nat) (n : Int) (KN : St → Option Ret) : bodyF F4 tb fx22 N 0 (s22a n) (brk (contF F4 tb fx22 N 0 0) KN) =
  bif decide (0 < n) then KN { nt := 25, t := [(0, AV.int IntKind.i64 n), (2, AV.ptr 100000 0), (3, AV.ptr 100001 0), (4, AV.int IntKind.i64 (IntKind.i64.wrap (0 + 1))), (11, AV.bool (decide (n > 4096))), (15, AV.bool (decide (0 < n)))], h := [(100000, Ob.box [AV.nils, AV.nils, AV.nils, AV.int IntKind.i64 0, AV.bool false]), (100001, Ob.box [AV.vw 1360448 9, AV.nils, AV.nils, AV.int IntKind.i64 (-1), AV.bool false]), (1360448, Ob.row 9 [padM { data := #[] : ByteArray }.data.toList])], u := [1360448, 100000, 100001] : St } else some (AV.agg [AV.nils, AV.nils, AV.nils, AV.int IntKind.i64 (-1), AV.bool false], []) := by kernel_rfl
theorem b22 (N : Nat) (n k : Int) (f : List (List UInt8)) (KN : St → Option Ret) : bodyF F4 tb fx22 N 0 (s22 n k f) (brk (contF F4 tb fx22 N 0 0) KN) =
  bif decide (k < n) then bif fitsB (f.length + [padM { data := #[] : ByteArray }.data.toList].length) 16 && decide (f.length + [padM { data := #[] : ByteArray }.data.toList].length ≤ big62) then KN { nt := 25, t := [(0, AV.int IntKind.i64 n), (2, AV.ptr 100000 0), (3, AV.ptr 100001 0), (4, AV.int IntKind.i64 (IntKind.i64.wrap (k + 1))), (11, AV.bool (decide (n > 4096))), (15, AV.bool (decide (k < n)))], h := [(100000, Ob.box [AV.nils, AV.nils, AV.nils, AV.int IntKind.i64 0, AV.bool false]), (100001, Ob.box [AV.vw 1360448 9, AV.nils, AV.nils, AV.int IntKind.i64 (-1), AV.bool false]), (1360448, Ob.row 9 (f ++ [padM { data := #[] : ByteArray }.data.toList]))], u := [1360448, 100000, 100001, 100002] : St } else none else some (AV.agg [AV.sl 9 false f, AV.nils, AV.nils, AV.int IntKind.i64 (-1), AV.bool false], []) := by kernel_rfl
def s23 (x : T44) (i k : Int) (s : List UInt8) : St := ⟨50, [(0, up 44 x), (1, .int .i64 i), (2, .ptr 100000 0), (4, .str []), (5, .int .i64 0), (6, .str s), (7, .int .i64 k), (15, .bool (((x.firm.length : Nat) : Int) == 0)), (24, .bool (decide (i ≥ ((x.firm.length : Nat) : Int))))], [(100000, .box [.sl 9 false x.firm, .sl 3 false x.at_, .sl 9 false x.what, .int .i64 x.left, .bool x.gone])], [100000]⟩
theorem b23 (N : Nat) (x : T44) (i k : Int) (s : List UInt8) (KN : St → Option Ret) : bodyF F4 tb fx23 N 0 (s23 x i k s) (brk (contF F4 tb fx23 N 0 0) KN) =
  bif decide (k < ((x.at_.length : Nat) : Int)) then bif decide (0 ≤ k) then getO x.at_[k.toNat]? fun x_1 => bif x_1 == i then bif decide (0 ≤ k) then getO x.what[k.toNat]? fun x_2 => KN { nt := 50, t := [(0, AV.agg [AV.sl 9 false x.firm, AV.sl 3 false x.at_, AV.sl 9 false x.what, AV.int IntKind.i64 x.left, AV.bool x.gone]), (1, AV.int IntKind.i64 i), (2, AV.ptr 100000 0), (4, AV.str []), (5, AV.int IntKind.i64 0), (6, AV.str x_2), (7, AV.int IntKind.i64 (IntKind.i64.wrap (k + 1))), (15, AV.bool (((x.firm.length : Nat) : Int) == 0)), (24, AV.bool (decide (i ≥ ((x.firm.length : Nat) : Int)))), (34, AV.bool (decide (k < ((x.at_.length : Nat) : Int)))), (43, AV.bool (x_1 == i))], h := [(100000, Ob.box [AV.sl 9 false x.firm, AV.sl 3 false x.at_, AV.sl 9 false x.what, AV.int IntKind.i64 x.left, AV.bool x.gone])], u := [100000] : St } else none else KN { nt := 50, t := [(0, AV.agg [AV.sl 9 false x.firm, AV.sl 3 false x.at_, AV.sl 9 false x.what, AV.int IntKind.i64 x.left, AV.bool x.gone]), (1, AV.int IntKind.i64 i), (2, AV.ptr 100000 0), (4, AV.str []), (5, AV.int IntKind.i64 0), (6, AV.str s), (7, AV.int IntKind.i64 (IntKind.i64.wrap (k + 1))), (15, AV.bool (((x.firm.length : Nat) : Int) == 0)), (24, AV.bool (decide (i ≥ ((x.firm.length : Nat) : Int)))), (34, AV.bool (decide (k < ((x.at_.length : Nat) : Int)))), (43, AV.bool (x_1 == i))], h := [(100000, Ob.box [AV.sl 9 false x.firm, AV.sl 3 false x.at_, AV.sl 9 false x.what, AV.int IntKind.i64 x.left, AV.bool x.gone])], u := [100000] : St } else none else some (AV.tup [AV.str s, AV.int IntKind.i64 0], []) := by kernel_rfl
def s37 (x : T44) (f : List (List UInt8)) (ks : List Bool) (k : Int) : St := ⟨43, [(0, up 44 x), (1, .sl 4 false ks), (2, .ptr 100000 0), (4, .ptr 100001 0), (5, .int .i64 k)], [(100000, .box [.vw 100002 9, .vw 100003 3, .vw 100004 9, .int .i64 x.left, .bool x.gone]), (100001, .box [.nils, .nils, .nils, .int .i64 0, .bool false]), (100002, .row 9 f), (100003, .row 3 x.at_), (100004, .row 9 x.what)], [100000, 100001, 100002, 100003, 100004]⟩
theorem b37 (N : Nat) (x : T44) (f : List (List UInt8)) (ks : List Bool) (k : Int) (KN : St → Option Ret) : bodyF F4 tb fx37 N 0 (s37 x f ks k) (brk (contF F4 tb fx37 N 0 0) KN) =
  bif decide (k < ((x.at_.length : Nat) : Int)) then bif decide (k < ((ks.length : Nat) : Int)) then bif decide (0 ≤ k) then getO ks[k.toNat]? fun x_1 => bif x_1 then bif decide (0 ≤ k ∧ k < ((x.at_.length : Nat) : Int)) then getO x.at_[0 + k.toNat]? fun x_2 => bif decide (0 ≤ k ∧ k < ((x.what.length : Nat) : Int)) then getO x.what[0 + k.toNat]? fun x_3 => bif decide (0 ≤ x_2 ∧ x_2 < ((f.length : Nat) : Int)) then getO f[0 + x_2.toNat]? fun x_4 => KN { nt := 43, t := [(0, AV.agg [AV.sl 9 false x.firm, AV.sl 3 false x.at_, AV.sl 9 false x.what, AV.int IntKind.i64 x.left, AV.bool x.gone]), (1, AV.sl 4 false ks), (2, AV.ptr 100000 0), (4, AV.ptr 100001 0), (5, AV.int IntKind.i64 (IntKind.i64.wrap (k + 1))), (12, AV.bool (decide (k < ((x.at_.length : Nat) : Int)))), (24, AV.bool x_1)], h := [(100000, Ob.box [AV.vw 100002 9, AV.vw 100003 3, AV.vw 100004 9, AV.int IntKind.i64 x.left, AV.bool x.gone]), (100001, Ob.box [AV.nils, AV.nils, AV.nils, AV.int IntKind.i64 0, AV.bool false]), (100002, Ob.row 9 (f.set (0 + x_2.toNat) x_3)), (100003, Ob.row 3 x.at_), (100004, Ob.row 9 x.what)], u := [100000, 100001, 100002, 100003, 100004] : St } else none else none else none else KN { nt := 43, t := [(0, AV.agg [AV.sl 9 false x.firm, AV.sl 3 false x.at_, AV.sl 9 false x.what, AV.int IntKind.i64 x.left, AV.bool x.gone]), (1, AV.sl 4 false ks), (2, AV.ptr 100000 0), (4, AV.ptr 100001 0), (5, AV.int IntKind.i64 (IntKind.i64.wrap (k + 1))), (12, AV.bool (decide (k < ((x.at_.length : Nat) : Int)))), (24, AV.bool x_1)], h := [(100000, Ob.box [AV.vw 100002 9, AV.vw 100003 3, AV.vw 100004 9, AV.int IntKind.i64 x.left, AV.bool x.gone]), (100001, Ob.box [AV.nils, AV.nils, AV.nils, AV.int IntKind.i64 0, AV.bool false]), (100002, Ob.row 9 f), (100003, Ob.row 3 x.at_), (100004, Ob.row 9 x.what)], u := [100000, 100001, 100002, 100003, 100004] : St } else none else KN { nt := 43, t := [(0, AV.agg [AV.sl 9 false x.firm, AV.sl 3 false x.at_, AV.sl 9 false x.what, AV.int IntKind.i64 x.left, AV.bool x.gone]), (1, AV.sl 4 false ks), (2, AV.ptr 100000 0), (4, AV.ptr 100001 0), (5, AV.int IntKind.i64 (IntKind.i64.wrap (k + 1))), (12, AV.bool (decide (k < ((x.at_.length : Nat) : Int)))), (24, AV.bool false)], h := [(100000, Ob.box [AV.vw 100002 9, AV.vw 100003 3, AV.vw 100004 9, AV.int IntKind.i64 x.left, AV.bool x.gone]), (100001, Ob.box [AV.nils, AV.nils, AV.nils, AV.int IntKind.i64 0, AV.bool false]), (100002, Ob.row 9 f), (100003, Ob.row 3 x.at_), (100004, Ob.row 9 x.what)], u := [100000, 100001, 100002, 100003, 100004] : St } else some (AV.agg [AV.sl 9 false f, AV.nils, AV.sl 9 false [], AV.int IntKind.i64 (-1), AV.bool false], []) := by kernel_rfl
end Go.AM.Ytpdifkaeiecdpaa
set_option linter.unusedVariables false
set_option maxRecDepth 100000
namespace Go.AM.Ytpdifkaeiecdpaa
open Go.AM Go.Proofs Go
def newT (n : Int) : T44 := bif decide (n < 1) then ⟨[], [], [], -1, false⟩ else bif decide (n > 4096) then ⟨[], [], [], -1, false⟩ else ⟨List.replicate n.toNat (pad 32), [], [], -1, false⟩
def rdL : List Int → List (List UInt8) → Int → List UInt8 → List UInt8
  | a :: al, w :: ws, i, s => rdL al ws i (bif a == i then w else s)
  | _, _, _, s => s
def readT (x : T44) (i : Int) : List UInt8 × Int := bif x.gone then ([], 7) else bif ((x.firm.length : Nat) : Int) == 0 then ([], 7) else bif decide (i < 0) then ([], 1) else bif decide (i ≥ ((x.firm.length : Nat) : Int)) then ([], 1) else (rdL x.at_ x.what i (x.firm[i.toNat]?.getD []), 0)
def writeT (x : T44) (i : Int) (s : List UInt8) : T44 × Int := bif x.gone then (x, 7) else bif ((x.firm.length : Nat) : Int) == 0 then (x, 7) else bif decide (i < 0) then (x, 1) else bif decide (i ≥ ((x.firm.length : Nat) : Int)) then (x, 1) else bif decide (((s.length : Nat) : Int) > 32) then (x, 5) else bif !(spendT x).2 then ({ x with left := (spendT x).1.left, gone := (spendT x).1.gone }, 7) else ({ x with at_ := x.at_ ++ [i], what := x.what ++ [padM s], left := (spendT x).1.left, gone := (spendT x).1.gone }, 0)
def crL : List Int → List (List UInt8) → List Bool → List (List UInt8) → List (List UInt8)
  | a :: al, w :: ws, b :: ks, f => crL al ws ks (bif b then f.set a.toNat w else f)
  | _, _, _, f => f
def okT (x : T44) : Bool := smT x && (decide (x.at_.length = x.what.length) && x.at_.all fun a => decide (0 ≤ a) && decide (a < (x.firm.length : Int)))
def crashT (x : T44) (ks : List Bool) : T44 := ⟨crL x.at_ x.what ks x.firm, [], [], -1, false⟩
def flushT (x : T44) : T44 × Int := bif x.gone then (x, 7) else bif ((x.firm.length : Nat) : Int) == 0 then (x, 7) else bif !(spendT x).2 then ({ x with left := (spendT x).1.left, gone := (spendT x).1.gone }, 7) else ({ crashT x (List.replicate x.at_.length true) with left := (spendT x).1.left }, 0)
def o22 : Over := tyO [.int .i64] [.st 44] fun x => .ret (newT x.1, ())
def o23 : Over := tyO [.st 44, .int .i64] [.str, .int .i64] fun x => .ask (okT x.1) (.ret ((readT x.1 x.2.1).1, (readT x.1 x.2.1).2, ()))
def o38 : Over := tyO [.st 44, .int .i64, .str] [.st 44, .int .i64] fun x => .ask (okT x.1) (.ret ((writeT x.1 x.2.1 x.2.2.1).1, (writeT x.1 x.2.1 x.2.2.1).2, ()))
def o37 : Over := tyO [.st 44, .sl 4] [.st 44] fun x => .ask (okT x.1) (.ret (crashT x.1 x.2.1, ()))
def o35 : Over := tyO [.st 44] [.st 44, .int .i64] fun x => .ask (okT x.1) (.ret ((flushT x.1).1, (flushT x.1).2, ()))
theorem fits_lt {n b : Nat} (h : n < 2000000) (hb : b ≤ 1000) : fitsB n b = true := decide_eq_true (by unfold roomB; have := Nat.mul_le_mul (Nat.le_of_lt h) hb; omega)
theorem big_lt {n : Nat} (h : n < 2000000) : decide (n ≤ big62) = true := decide_eq_true (by unfold big62; omega)
theorem smT_spec {x : T44} (h : smT x = true) : x.firm.length < 1000000 ∧ x.at_.length < 1000000 ∧ x.what.length < 1000000 := by
  simp only [smT, Bool.and_eq_true, decide_eq_true_eq] at h
  exact h
theorem okT_spec {x : T44} (h : okT x = true) : smT x = true ∧ x.at_.length = x.what.length ∧ ∀ a ∈ x.at_, 0 ≤ a ∧ a < (x.firm.length : Int) := by
  simp only [okT, Bool.and_eq_true, List.all_eq_true, decide_eq_true_eq] at h
  exact h
theorem p62o : OverOk Try.prog 62 o62o := OverOk.tyB F0_ok tb_ok ok62o fun x r h => by
  obtain ⟨x, _⟩ := x
  obtain ⟨hs, h⟩ := Q.val_ask h
  obtain ⟨h1, h2, h3⟩ := smT_spec hs
  refine ⟨0, (t62 x).trans (Eq.trans ?_ h)⟩
  have h1 : x.1.length < 1000000 := h1
  have h2 : x.2.length < 1000000 := h2
  have h3 : x.3.length < 1000000 := h3
  rw [fits_lt (by omega) (by omega), big_lt (by omega), fits_lt (by omega) (by omega), big_lt (by omega), fits_lt (by omega) (by omega), big_lt (by omega)]
  rfl
theorem p63 : OverOk Try.prog 63 o63 := OverOk.of F0_ok tb_ok ok63 fun vs os r h => by
  unfold o63 at h
  split at h
  · rename_i l g f a w
    refine ⟨0, (t63 ⟨f, a, w, l, g⟩).trans (Eq.trans ?_ h)⟩
    unfold spendT
    simp only
    cases l == 0
    · cases decide (l > 0) <;> rfl
    · rfl
  · cases h
theorem p36 : OverOk Try.prog 36 o36 := OverOk.ty F0_ok tb_ok ok36 fun x y h => by
  obtain ⟨x, n, _⟩ := x
  cases h
  refine ⟨0, (congrArg (outR _) (t36 x n)).trans ?_⟩
  unfold armT
  cases decide (n < 0) <;> rfl
theorem l39 (N : Nat) : ∀ (n m : Nat) (s : List UInt8) (st : St), 32 - s.length = n → s.length < 1000000 → n < m → st.clean (fx39.deadAt (loopAt fx39 0)) = s39 s →
    loopF (tabF []) tb fx39 0 N (contF (tabF []) tb fx39 N 0 0) m st = some (.str (padM s), []) := by
  intro n
  induction n with
  | zero =>
    intro m s st hn hs hm hst
    obtain ⟨m, rfl⟩ : ∃ m', m = m' + 1 := ⟨m - 1, by omega⟩
    rw [loopF_succ, hst, b39, decide_eq_false (by omega)]
    simp only [cond_false, padM, hn, List.replicate_zero, List.append_nil]
  | succ n ih =>
    intro m s st hn hs hm hst
    obtain ⟨m, rfl⟩ : ∃ m', m = m' + 1 := ⟨m - 1, by omega⟩
    have hp : padM (s ++ [0]) = padM s := by
      unfold padM
      rw [show 32 - s.length = (32 - (s ++ [0]).length) + 1 by simp; omega, List.replicate_succ, List.append_assoc]
      rfl
    rw [loopF_succ, hst, b39, decide_eq_true (by omega)]
    have key := ih m (s ++ [0]) { nt := 9, t := [(0, AV.str (s ++ [0])), (2, AV.str []), (5, AV.bool true)], h := [], u := [] : St } (by simp; omega) (by simp; omega) (by omega) (by kernel_rfl)
    rw [hp] at key
    exact (bif_t rfl).trans ((bif_t (decide_eq_true (show s.length + 1 ≤ big62 by unfold big62; omega))).trans key)
theorem p39 : OverOk Try.prog 39 o39 := OverOk.ty F0_ok tb_ok ok39 fun x y h => by
  obtain ⟨s, _⟩ := x
  obtain ⟨hs, h⟩ := Q.val_ask h
  cases h
  refine ⟨33, (congrArg (outR _) ((t39 33 s).trans (l39 33 (32 - s.length) 33 s _ rfl (of_decide_eq_true hs) (by omega) (by kernel_rfl)))).trans rfl⟩
theorem F4_ok : SoundF Try.prog F4 := SoundF.tab (by
  intro p hp
  simp only [List.mem_cons, List.not_mem_nil, or_false] at hp
  rcases hp with rfl | rfl | rfl | rfl
  · exact p62o
  · exact p63
  · exact p39
  · exact p36)
theorem l22 (N n : Nat) (hn : n ≤ 4096) : ∀ (r k m : Nat) (st : St), k + r = n → 1 ≤ k → r < m → st.clean (fx22.deadAt (loopAt fx22 0)) = s22 n k (List.replicate k (pad 32)) →
    loopF F4 tb fx22 0 N (contF F4 tb fx22 N 0 0) m st = some (.agg [.sl 9 false (List.replicate n (pad 32)), .nils, .nils, .int .i64 (-1), .bool false], []) := by
  intro r
  induction r with
  | zero =>
    intro k m st hk h1 hm hst
    obtain ⟨m, rfl⟩ : ∃ m', m = m' + 1 := ⟨m - 1, by omega⟩
    obtain rfl : k = n := by omega
    rw [loopF_succ, hst, b22, decide_eq_false (by omega)]
    rfl
  | succ r ih =>
    intro k m st hk h1 hm hst
    obtain ⟨m, rfl⟩ : ∃ m', m = m' + 1 := ⟨m - 1, by omega⟩
    rw [loopF_succ, hst, b22, decide_eq_true (by omega)]
    have hf : ∀ x : List UInt8, (fitsB ((List.replicate k (pad 32)).length + [x].length) 16 && decide ((List.replicate k (pad 32)).length + [x].length ≤ big62)) = true := fun x => by
      simp only [List.length_replicate, List.length_singleton]
      rw [fits_lt (by omega) (by omega), big_lt (by omega)]
      rfl
    refine (bif_t rfl).trans ((bif_t (hf [])).trans ?_)
    rw [wrap_id (by omega) (by omega)]
    refine ih (k + 1) m _ (by omega) (by omega) (by omega) ?_
    rw [List.replicate_succ' (n := k)]
    kernel_rfl
theorem e22 (n : Int) : outR [.st 44] (evFn F4 tb fx22 (n.toNat + 1) [.int .i64 n] []) = some (newT n, ()) := by
  refine (congrArg (outR _) (t22 (n.toNat + 1) n)).trans ?_
  unfold newT
  cases h1 : decide (n < 1)
  · cases h2 : decide (n > 4096)
    · have h1 := of_decide_eq_false h1
      have h2' := of_decide_eq_false h2
      obtain ⟨m, rfl⟩ : ∃ m : Nat, n = (m + 1 : Nat) := ⟨n.toNat - 1, by omega⟩
      simp only [cond_false, Int.toNat_natCast]
      have key : loopF F4 tb fx22 0 (m + 1 + 1) (contF F4 tb fx22 (m + 1 + 1) 0 0) (m + 1 + 1) { nt := 25, t := [(0, AV.int IntKind.i64 ((m + 1 : Nat) : Int)), (2, AV.ptr 1032768 0), (3, AV.ptr 1049152 0), (4, AV.int IntKind.i64 0), (11, AV.bool false)], h := [(1032768, Ob.box [AV.nils, AV.nils, AV.nils, AV.int IntKind.i64 0, AV.bool false]), (1049152, Ob.box [AV.nils, AV.nils, AV.nils, AV.int IntKind.i64 (-1), AV.bool false])], u := [1049152, 1032768] : St } = some (.agg [.sl 9 false (List.replicate (m + 1) (pad 32)), .nils, .nils, .int .i64 (-1), .bool false], []) := by
        rw [loopF_succ, show St.clean (fx22.deadAt (loopAt fx22 0)) { nt := 25, t := [(0, AV.int IntKind.i64 ((m + 1 : Nat) : Int)), (2, AV.ptr 1032768 0), (3, AV.ptr 1049152 0), (4, AV.int IntKind.i64 0), (11, AV.bool false)], h := [(1032768, Ob.box [AV.nils, AV.nils, AV.nils, AV.int IntKind.i64 0, AV.bool false]), (1049152, Ob.box [AV.nils, AV.nils, AV.nils, AV.int IntKind.i64 (-1), AV.bool false])], u := [1049152, 1032768] : St } = s22a ((m + 1 : Nat) : Int) by unfold s22a; rw [h2]; kernel_rfl, b22a, decide_eq_true (by omega)]
        refine l22 (m + 1 + 1) (m + 1) (by omega) m 1 (m + 1) _ (by omega) (by omega) (by omega) ?_
        rw [h2]
        unfold s22
        rw [h2]
        kernel_rfl
      rw [key]
      rfl
    · rfl
  · rfl
theorem p22 : OverOk Try.prog 22 o22 := OverOk.ty F4_ok tb_ok ok22 fun x y h => by
  obtain ⟨n, _⟩ := x
  cases h
  exact ⟨_, e22 n⟩
theorem l23 (N : Nat) (x : T44) (i : Int) (hl : x.at_.length = x.what.length) (hb : x.at_.length < 1000000) : ∀ (al : List Int) (ws : List (List UInt8)) (k m : Nat) (s : List UInt8) (st : St), x.at_.drop k = al → x.what.drop k = ws → al.length < m → st.clean (fx23.deadAt (loopAt fx23 0)) = s23 x i k s →
    loopF F4 tb fx23 0 N (contF F4 tb fx23 N 0 0) m st = some (.tup [.str (rdL al ws i s), .int .i64 0], []) := by
  intro al
  induction al with
  | nil =>
    intro ws k m s st ha hw hm hst
    obtain ⟨m, rfl⟩ : ∃ m', m = m' + 1 := ⟨m - 1, by omega⟩
    have := drop_nil ha
    rw [loopF_succ, hst, b23, decide_eq_false (by omega)]
    rfl
  | cons a al ih =>
    intro ws k m s st ha hw hm hst
    obtain ⟨m, rfl⟩ : ∃ m', m = m' + 1 := ⟨m - 1, by omega⟩
    obtain ⟨h1, h2, h3⟩ := drop_get ha
    cases ws with
    | nil => have := drop_nil hw; omega
    | cons w ws =>
      obtain ⟨g1, g2, g3⟩ := drop_get hw
      simp at hm
      rw [loopF_succ, hst, b23, decide_eq_true (show (k : Int) < ((x.at_.length : Nat) : Int) by omega), decide_eq_true (show 0 ≤ (k : Int) by omega)]
      simp only [cond_true, Int.toNat_natCast, h1, g1, getO]
      rw [wrap_id (show -9223372036854775808 ≤ (k : Int) + 1 by omega) (by omega)]
      unfold rdL
      cases hb : a == i
      · exact ih ws (k + 1) m s _ h2 g2 (by omega) (by kernel_rfl)
      · exact ih ws (k + 1) m w _ h2 g2 (by omega) (by kernel_rfl)
theorem e23 (x : T44) (i : Int) (ho : okT x = true) : outR [.str, .int .i64] (evFn F4 tb fx23 (x.at_.length + 1) [up 44 x, .int .i64 i] []) = some ((readT x i).1, (readT x i).2, ()) := by
  obtain ⟨hs, hl, _⟩ := okT_spec ho
  obtain ⟨_, hb, _⟩ := smT_spec hs
  refine (congrArg (outR _) (t23 (x.at_.length + 1) x i)).trans ?_
  obtain ⟨f, al, w, l, g⟩ := x
  unfold readT
  simp only at hl hb ⊢
  cases g
  · cases h0 : ((f.length : Nat) : Int) == 0
    · cases h1 : decide (i < 0)
      · cases h2 : decide (i ≥ ((f.length : Nat) : Int))
        · have h1 := of_decide_eq_false h1
          have h2' := of_decide_eq_false h2
          have hlt : i.toNat < f.length := by omega
          have hs := List.getElem?_eq_getElem hlt
          generalize f[i.toNat] = s at hs
          rw [decide_eq_true (show 0 ≤ i by omega), hs]
          simp only [cond_false, cond_true, getO, Option.getD_some]
          rw [l23 (al.length + 1) ⟨f, al, w, l, false⟩ i hl hb al w 0 (al.length + 1) s _ rfl rfl (by omega) (by
            unfold s23
            simp only
            rw [h0, h2]
            kernel_rfl)]
          rfl
        · rfl
      · rfl
    · rfl
  · rfl
theorem p23 : OverOk Try.prog 23 o23 := OverOk.ty F4_ok tb_ok ok23 fun x y h => by
  obtain ⟨x, i, _⟩ := x
  obtain ⟨ho, h⟩ := Q.val_ask h
  cases h
  exact ⟨_, e23 x i ho⟩
theorem l37 (N : Nat) (x : T44) (ks : List Bool) (hl : x.at_.length = x.what.length) (hb : x.at_.length < 1000000) : ∀ (al : List Int) (ws : List (List UInt8)) (kr : List Bool) (k m : Nat) (f : List (List UInt8)) (st : St), x.at_.drop k = al → x.what.drop k = ws → ks.drop k = kr → al.length < m → (∀ a ∈ al, 0 ≤ a ∧ a < (f.length : Int)) → st.clean (fx37.deadAt (loopAt fx37 0)) = s37 x f ks k →
    loopF F4 tb fx37 0 N (contF F4 tb fx37 N 0 0) m st = some (.agg [.sl 9 false (crL al ws kr f), .nils, .sl 9 false [], .int .i64 (-1), .bool false], []) := by
  intro al
  induction al with
  | nil =>
    intro ws kr k m f st ha hw hk hm hx hst
    obtain ⟨m, rfl⟩ : ∃ m', m = m' + 1 := ⟨m - 1, by omega⟩
    have := drop_nil ha
    rw [loopF_succ, hst, b37, decide_eq_false (by omega)]
    rfl
  | cons a al ih =>
    intro ws kr k m f st ha hw hk hm hx hst
    obtain ⟨m, rfl⟩ : ∃ m', m = m' + 1 := ⟨m - 1, by omega⟩
    obtain ⟨h1, h2, h3⟩ := drop_get ha
    simp at hm
    have hx' : ∀ g : List (List UInt8), g.length = f.length → ∀ a ∈ al, 0 ≤ a ∧ a < (g.length : Int) := fun g hg y hy => by rw [hg]; exact hx y (by simp [hy])
    cases ws with
    | nil => have := drop_nil hw; omega
    | cons w ws =>
      obtain ⟨g1, g2, g3⟩ := drop_get hw
      rw [loopF_succ, hst, b37, decide_eq_true (show (k : Int) < ((x.at_.length : Nat) : Int) by omega), decide_eq_true (show 0 ≤ (k : Int) by omega), decide_eq_true (show 0 ≤ (k : Int) ∧ (k : Int) < ((x.at_.length : Nat) : Int) by omega), decide_eq_true (show 0 ≤ (k : Int) ∧ (k : Int) < ((x.what.length : Nat) : Int) by omega)]
      simp only [cond_true, Nat.zero_add, Int.toNat_natCast, h1, g1, getO]
      rw [wrap_id (show -9223372036854775808 ≤ (k : Int) + 1 by omega) (by omega)]
      cases kr with
      | nil =>
        have hle := drop_nil hk
        rw [decide_eq_false (show ¬ ((k : Int) < ((ks.length : Nat) : Int)) by omega)]
        have hn : crL (a :: al) (w :: ws) [] f = crL al ws [] f := by cases al <;> cases ws <;> rfl
        rw [hn]
        exact ih ws [] (k + 1) m f _ h2 g2 (List.drop_eq_nil_of_le (by omega)) (by omega) (hx' f rfl) (by kernel_rfl)
      | cons b kr =>
        obtain ⟨q1, q2, q3⟩ := drop_get hk
        rw [decide_eq_true (show (k : Int) < ((ks.length : Nat) : Int) by omega)]
        simp only [cond_true, q1]
        cases b
        · simp only [cond_false]
          exact ih ws kr (k + 1) m f _ h2 g2 q2 (by omega) (hx' f rfl) (by kernel_rfl)
        · obtain ⟨r1, r2⟩ := hx a (by simp)
          rw [decide_eq_true (show 0 ≤ a ∧ a < ((f.length : Nat) : Int) from ⟨r1, r2⟩)]
          simp only [cond_true, List.getElem?_eq_getElem (show a.toNat < f.length by omega)]
          exact ih ws kr (k + 1) m (f.set a.toNat w) _ h2 g2 q2 (by omega) (hx' _ (by simp)) (by kernel_rfl)
theorem p37 : OverOk Try.prog 37 o37 := OverOk.ty F4_ok tb_ok ok37 fun x y h => by
  obtain ⟨x, ks, _⟩ := x
  obtain ⟨ho, h⟩ := Q.val_ask h
  cases h
  obtain ⟨hs, hl, hx⟩ := okT_spec ho
  obtain ⟨_, hb, _⟩ := smT_spec hs
  have hs : smT x = true := hs
  have hb : x.at_.length < 1000000 := hb
  have hl : x.at_.length = x.what.length := hl
  refine ⟨x.at_.length + 1, (congrArg (outR _) ((t37 (x.at_.length + 1) x ks).trans ((bif_t hs).trans (l37 (x.at_.length + 1) x ks hl hb x.at_ x.what ks 0 (x.at_.length + 1) x.firm _ rfl rfl rfl (by omega) hx (by kernel_rfl))))).trans rfl⟩
theorem e38 (x : T44) (i : Int) (s : List UInt8) (ho : okT x = true) : outR [.st 44, .int .i64] (evFn F4 tb fx38 0 [up 44 x, .int .i64 i, .str s] []) = some ((writeT x i s).1, (writeT x i s).2, ()) := by
  obtain ⟨hs, hl, hx⟩ := okT_spec ho
  obtain ⟨_, hb, hc⟩ := smT_spec hs
  refine (congrArg (outR _) (t38 x i s)).trans ?_
  rw [hs]
  obtain ⟨f, al, w, l, g⟩ := x
  unfold writeT
  simp only at hl hb hc ⊢
  cases g
  · cases h0 : ((f.length : Nat) : Int) == 0
    · cases h1 : decide (i < 0)
      · cases h2 : decide (i ≥ ((f.length : Nat) : Int))
        · cases h3 : decide (((s.length : Nat) : Int) > 32)
          · cases h4 : !(spendT ⟨f, al, w, l, false⟩).2
            · have h3 := of_decide_eq_false h3
              simp only [List.length_singleton]
              rw [fits_lt (by omega) (by omega), big_lt (by omega), decide_eq_true (show s.length < 1000000 by omega), fits_lt (by omega) (by omega), big_lt (by omega)]
              rfl
            · rfl
          · rfl
        · rfl
      · rfl
    · rfl
  · rfl
theorem p38 : OverOk Try.prog 38 o38 := OverOk.ty F4_ok tb_ok ok38 fun x y h => by
  obtain ⟨x, i, s, _⟩ := x
  obtain ⟨ho, h⟩ := Q.val_ask h
  cases h
  exact ⟨_, e38 x i s ho⟩
def F5 : Fns := tabF [(1000062, o62o), (63, o63), (37, o37)]
theorem t35 (N : Nat) (x : T44) : evFn F5 tb fx35 N [up 44 x] [] =
  bif x.gone then some (AV.tup [AV.agg [AV.sl 9 false x.firm, AV.sl 3 false x.at_, AV.sl 9 false x.what, AV.int IntKind.i64 x.left, AV.bool x.gone], AV.int IntKind.i64 7], []) else bif ((x.firm.length : Nat) : Int) == 0 then some (AV.tup [AV.agg [AV.sl 9 false x.firm, AV.sl 3 false x.at_, AV.sl 9 false x.what, AV.int IntKind.i64 x.left, AV.bool x.gone], AV.int IntKind.i64 7], []) else bif smT x then bif !(spendT x).snd then some (AV.tup [AV.agg [AV.sl 9 false x.firm, AV.sl 3 false x.at_, AV.sl 9 false x.what, AV.int IntKind.i64 (spendT x).fst.left, AV.bool (spendT x).fst.gone], AV.int IntKind.i64 7], []) else loopF F5 tb fx35 0 N (contF F5 tb fx35 N 0 0) N { nt := 45, t := [(0, AV.agg [AV.sl 9 false x.firm, AV.sl 3 false x.at_, AV.sl 9 false x.what, AV.int IntKind.i64 x.left, AV.bool x.gone]), (1, AV.ptr 1016384 0), (2, AV.ptr 1032768 0), (3, AV.int IntKind.i64 0), (4, AV.bool (spendT x).snd), (5, AV.nils), (6, AV.int IntKind.i64 0), (15, AV.bool (((x.firm.length : Nat) : Int) == 0)), (25, AV.bool !(spendT x).snd)], h := [(1016384, Ob.box [AV.vw 1307912 9, AV.vw 1307913 3, AV.vw 1307914 9, AV.int IntKind.i64 (spendT x).fst.left, AV.bool (spendT x).fst.gone]), (1032768, Ob.box [AV.nils, AV.nils, AV.nils, AV.int IntKind.i64 0, AV.bool false]), (1307912, Ob.row 9 x.firm), (1307913, Ob.row 3 x.at_), (1307914, Ob.row 9 x.what)], u := [1307912, 1307913, 1307914, 1032768, 1016384] : St } else none := by kernel_rfl
end Go.AM.Ytpdifkaeiecdpaa
set_option linter.unusedVariables false
set_option maxRecDepth 100000
namespace Go.AM.Ytpdifkaeiecdpaa
open Go.AM Go.Proofs Go
def s35 (f : List (List UInt8)) (al : List Int) (w : List (List UInt8)) (l0 : Int) (y : T44 × Bool) (l : List Bool) (k : Int) : St := ⟨45, [(0, up 44 ⟨f, al, w, l0, false⟩), (1, .ptr 100000 0), (2, .ptr 100001 0), (3, .int .i64 0), (4, .bool y.2), (5, .tip 100002 4 l), (6, .int .i64 k), (15, .bool (((f.length : Nat) : Int) == 0)), (25, .bool !y.2)], [(100000, .box [.vw 100003 9, .vw 100004 3, .vw 100005 9, .int .i64 y.1.left, .bool y.1.gone]), (100001, .box [.nils, .nils, .nils, .int .i64 0, .bool false]), (100002, .tok), (100003, .row 9 f), (100004, .row 3 al), (100005, .row 9 w)], [100000, 100001, 100002, 100003, 100004, 100005]⟩
theorem b35 (N : Nat) (f : List (List UInt8)) (al : List Int) (w : List (List UInt8)) (l0 : Int) (y : T44 × Bool) (l : List Bool) (k : Int) (KN : St → Option Ret) : bodyF F5 tb fx35 N 0 (s35 f al w l0 y l k) (brk (contF F5 tb fx35 N 0 0) KN) =
  bif decide (k < ((al.length : Nat) : Int)) then bif fitsB (l.length + [true].length) 1 && decide (l.length + [true].length ≤ big62) then KN { nt := 45, t := [(0, AV.agg [AV.sl 9 false { firm := f, at_ := al, what := w, left := l0, gone := false : T44 }.firm, AV.sl 3 false { firm := f, at_ := al, what := w, left := l0, gone := false : T44 }.at_, AV.sl 9 false { firm := f, at_ := al, what := w, left := l0, gone := false : T44 }.what, AV.int IntKind.i64 { firm := f, at_ := al, what := w, left := l0, gone := false : T44 }.left, AV.bool { firm := f, at_ := al, what := w, left := l0, gone := false : T44 }.gone]), (1, AV.ptr 100000 0), (2, AV.ptr 100001 0), (3, AV.int IntKind.i64 0), (4, AV.bool y.snd), (5, AV.tip 1589824 4 (l ++ [true])), (6, AV.int IntKind.i64 (IntKind.i64.wrap (k + 1))), (15, AV.bool (((f.length : Nat) : Int) == 0)), (25, AV.bool !y.snd), (31, AV.bool (decide (k < ((al.length : Nat) : Int))))], h := [(100000, Ob.box [AV.vw 100003 9, AV.vw 100004 3, AV.vw 100005 9, AV.int IntKind.i64 y.fst.left, AV.bool y.fst.gone]), (100001, Ob.box [AV.nils, AV.nils, AV.nils, AV.int IntKind.i64 0, AV.bool false]), (100003, Ob.row 9 f), (100004, Ob.row 3 al), (100005, Ob.row 9 w), (1589824, Ob.tok)], u := [1589824, 100000, 100001, 100002, 100003, 100004, 100005] : St } else none else bif okT { firm := f, at_ := al, what := w, left := y.fst.left, gone := y.fst.gone : T44 } then some (AV.tup [AV.agg [AV.sl 9 false (crashT { firm := f, at_ := al, what := w, left := y.fst.left, gone := y.fst.gone : T44 } l).firm, AV.sl 3 false (crashT { firm := f, at_ := al, what := w, left := y.fst.left, gone := y.fst.gone : T44 } l).at_, AV.sl 9 false (crashT { firm := f, at_ := al, what := w, left := y.fst.left, gone := y.fst.gone : T44 } l).what, AV.int IntKind.i64 y.fst.left, AV.bool (crashT { firm := f, at_ := al, what := w, left := y.fst.left, gone := y.fst.gone : T44 } l).gone], AV.int IntKind.i64 0], []) else none := by kernel_rfl
theorem F5_ok : SoundF Try.prog F5 := SoundF.tab (by
  intro p hp
  simp only [List.mem_cons, List.not_mem_nil, or_false] at hp
  rcases hp with rfl | rfl | rfl
  · exact p62o
  · exact p63
  · exact p37)
theorem l35 (N : Nat) (f : List (List UInt8)) (al : List Int) (w : List (List UInt8)) (l0 : Int) (y : T44 × Bool) (hb : al.length < 1000000) (ho : okT ⟨f, al, w, y.1.left, y.1.gone⟩ = true) : ∀ (r k m : Nat) (st : St), k + r = al.length → r < m → st.clean (fx35.deadAt (loopAt fx35 0)) = s35 f al w l0 y (List.replicate k true) k →
    loopF F5 tb fx35 0 N (contF F5 tb fx35 N 0 0) m st = some (.tup [.agg [.sl 9 false (crashT ⟨f, al, w, y.1.left, y.1.gone⟩ (List.replicate al.length true)).firm, .sl 3 false [], .sl 9 false [], .int .i64 y.1.left, .bool false], .int .i64 0], []) := by
  intro r
  induction r with
  | zero =>
    intro k m st hk hm hst
    obtain ⟨m, rfl⟩ : ∃ m', m = m' + 1 := ⟨m - 1, by omega⟩
    obtain rfl : k = al.length := by omega
    rw [loopF_succ, hst, b35, decide_eq_false (by omega), ho]
    rfl
  | succ r ih =>
    intro k m st hk hm hst
    obtain ⟨m, rfl⟩ : ∃ m', m = m' + 1 := ⟨m - 1, by omega⟩
    rw [loopF_succ, hst, b35, decide_eq_true (by omega)]
    simp only [List.length_replicate, List.length_singleton]
    rw [fits_lt (by omega) (by omega), big_lt (by omega), wrap_id (by omega) (by omega), ← List.replicate_succ' (n := k)]
    exact ih (k + 1) m _ (by omega) (by omega) (by kernel_rfl)
theorem e35 (x : T44) (ho : okT x = true) : outR [.st 44, .int .i64] (evFn F5 tb fx35 (x.at_.length + 1) [up 44 x] []) = some ((flushT x).1, (flushT x).2, ()) := by
  obtain ⟨hs, hl, hx⟩ := okT_spec ho
  obtain ⟨_, hb, hc⟩ := smT_spec hs
  refine (congrArg (outR _) (t35 (x.at_.length + 1) x)).trans ?_
  rw [hs]
  obtain ⟨f, al, w, l, g⟩ := x
  unfold flushT
  simp only at hl hb hc ⊢
  cases g
  · cases h0 : ((f.length : Nat) : Int) == 0
    · cases h4 : !(spendT ⟨f, al, w, l, false⟩).2
      · have h4' : (spendT ⟨f, al, w, l, false⟩).2 = true := by simpa using h4
        simp only [cond_false, cond_true]
        rw [l35 (al.length + 1) f al w l (spendT ⟨f, al, w, l, false⟩) hb ho al.length 0 (al.length + 1) _ (by omega) (by omega) (by
          unfold s35
          rw [h0, h4]
          kernel_rfl)]
        rfl
      · rfl
    · rfl
  · rfl
theorem p35 : OverOk Try.prog 35 o35 := OverOk.ty F5_ok tb_ok ok35 fun x y h => by
  obtain ⟨x, _⟩ := x
  obtain ⟨ho, h⟩ := Q.val_ask h
  cases h
  exact ⟨_, e35 x ho⟩
def F6 : Fns := tabF [(12, o12), (13, o13), (15, o15), (16, o16), (19, o19), (17, o17), (35, o35), (23, o23), (36, o36), (37, o37), (38, o38)]
theorem t18 (x : Dk) (y : T44) (a : T30) : evFn F6 tb fx18 0 [.ptr 0 0, up 44 y, up 30 a] (dO x) =
  bif kindM a == 3 then bif okT y then bif okD x then some (AV.tup [AV.agg [AV.sl 9 false (flushT y).fst.firm, AV.sl 3 false (flushT y).fst.at_, AV.sl 9 false (flushT y).fst.what, AV.int IntKind.i64 (flushT y).fst.left, AV.bool (flushT y).fst.gone], AV.bool ((flushM x).fst == (flushT y).snd)], [Ob.box [AV.int IntKind.i64 (flushM x).snd.l, AV.bool (flushM x).snd.a, AV.bool (flushM x).snd.d, AV.ow 9 (flushM x).snd.f, AV.ow 77 (flushM x).snd.p]]) else none else none else bif kindM a == 4 then bif decide (x.p.length < 4611686018427387904) then bif okT y then bif (readM x a.at_).fst == (readT y a.at_).fst then some (AV.tup [AV.agg [AV.sl 9 false y.firm, AV.sl 3 false y.at_, AV.sl 9 false y.what, AV.int IntKind.i64 y.left, AV.bool y.gone], AV.bool ((readM x a.at_).snd == (readT y a.at_).snd)], [Ob.box [AV.int IntKind.i64 x.l, AV.bool x.a, AV.bool x.d, AV.ow 9 x.f, AV.ow 77 x.p]]) else some (AV.tup [AV.agg [AV.sl 9 false y.firm, AV.sl 3 false y.at_, AV.sl 9 false y.what, AV.int IntKind.i64 y.left, AV.bool y.gone], AV.bool false], [Ob.box [AV.int IntKind.i64 x.l, AV.bool x.a, AV.bool x.d, AV.ow 9 x.f, AV.ow 77 x.p]]) else none else none else bif kindM a == 5 then some (AV.tup [AV.agg [AV.sl 9 false (armT y a.n).firm, AV.sl 3 false (armT y a.n).at_, AV.sl 9 false (armT y a.n).what, AV.int IntKind.i64 (armT y a.n).left, AV.bool (armT y a.n).gone], AV.bool true], [Ob.box [AV.int IntKind.i64 (armM x a.n).l, AV.bool (armM x a.n).a, AV.bool (armM x a.n).d, AV.ow 9 (armM x a.n).f, AV.ow 77 (armM x a.n).p]]) else bif kindM a == 6 then bif okD x then bif okT y then some (AV.tup [AV.agg [AV.sl 9 false (crashT y a.5).firm, AV.sl 3 false (crashT y a.5).at_, AV.sl 9 false (crashT y a.5).what, AV.int IntKind.i64 (crashT y a.5).left, AV.bool (crashT y a.5).gone], AV.bool true], [Ob.box [AV.int IntKind.i64 (crashM x a.keep).l, AV.bool (crashM x a.keep).a, AV.bool (crashM x a.keep).d, AV.ow 9 (crashM x a.keep).f, AV.ow 77 (crashM x a.keep).p]]) else none else none else bif okT y then bif decide (x.p.length < 1000000) then some (AV.tup [AV.agg [AV.sl 9 false (writeT y a.at_ a.data).fst.firm, AV.sl 3 false (writeT y a.at_ a.data).fst.at_, AV.sl 9 false (writeT y a.at_ a.data).fst.what, AV.int IntKind.i64 (writeT y a.at_ a.data).fst.left, AV.bool (writeT y a.at_ a.data).fst.gone], AV.bool ((writeM x a.at_ a.data).fst == (writeT y a.at_ a.data).snd)], [Ob.box [AV.int IntKind.i64 (writeM x a.at_ a.data).snd.l, AV.bool (writeM x a.at_ a.data).snd.a, AV.bool (writeM x a.at_ a.data).snd.d, AV.ow 9 (writeM x a.at_ a.data).snd.f, AV.ow 77 (writeM x a.at_ a.data).snd.p]]) else none else none := by kernel_rfl
end Go.AM.Ytpdifkaeiecdpaa
