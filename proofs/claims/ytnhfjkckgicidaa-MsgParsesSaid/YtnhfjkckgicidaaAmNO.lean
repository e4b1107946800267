/- ref17.Parse whole, and the law MsgParses, plain. -/
import Derived.Test.YtnhfjkckgicidaaAmNN
set_option linter.unusedVariables false
set_option linter.unusedSimpArgs false
namespace Go.AM.Ytnhfjkckgicidaa
open Go.AM Go.Proofs Go

def mgL5 (kd ep : Int) (v1 : AV) (sq nn fo : Int) (fu : Bool) (v2 : AV) (asq : Int) (v3 v4 : AV) (fr to : Int) (v5 : AV) : List AV := [.int .i64 kd, .int .i64 ep, v1, .int .i64 sq, .int .i64 nn, .int .i64 fo, .bool fu, v2, .int .i64 asq, v3, v4, .int .i64 fr, .int .i64 to, v5]
def rparseS (s : List UInt8) (v5 : AV) (p : Int) (v8 : AV) (q : Int) (v10 : AV) (rest : List UInt8) (e nz : Int) (v14 : AV) (en i : Int) (d0 d1 d2 d3 d4 : Bool) (v4 : AV) : St := ⟨183, [(0, AV.str s), (2, AV.ptr 2 0 0), (3, AV.bool false), (4, AV.ptr 4 0 0), (5, v5), (6, AV.int IntKind.i64 p), (7, AV.bool d0), (8, v8), (9, AV.int IntKind.i64 q), (10, v10), (11, AV.str rest), (12, AV.int IntKind.i64 e), (13, AV.int IntKind.i64 nz), (14, v14), (15, AV.int IntKind.i64 en), (16, AV.int IntKind.i64 i), (24, AV.bool d1), (42, AV.bool d2), (59, AV.bool d3), (80, AV.bool d4)], [(2, mgL5 0 0 (.sl 0 true []) 0 0 0 false (.sl 0 true []) 0 (.sl 0 true []) (.sl 0 true []) 0 0 (.sl 0 true [])), (4, mgL5 0 0 (.sl 0 true []) 0 0 0 false (.sl 0 true []) 0 (.sl 0 true []) v4 0 0 (.sl 0 true []))], [], [], [], []⟩
theorem rparse_tree (F : Fns) (N : Nat) (s : List UInt8) : runOf F 24 N [.str s] [] =
  onRes (F 21 [AV.str s, AV.int IntKind.i64 9] []) fun v bs => asTup v fun cs => asCons cs fun v r => asSl v fun m fl xs => asCons r fun v r => AM.asInt IntKind.i64 v fun n => asCons r fun v r => AM.asBool v fun b => asNil r (asNil bs (bif !b then some (AV.tup [AV.agg [AV.int IntKind.i64 0, AV.int IntKind.i64 0, AV.sl 0 true [], AV.int IntKind.i64 0, AV.int IntKind.i64 0, AV.int IntKind.i64 0, AV.bool false, AV.sl 0 true [], AV.int IntKind.i64 0, AV.sl 0 true [], AV.sl 0 true [], AV.int IntKind.i64 0, AV.int IntKind.i64 0, AV.sl 0 true []], AV.bool false], []) else onRes (F 21 [AV.str s, AV.int IntKind.i64 (IntKind.wrap IntKind.i64 (n + 25))] []) fun v bs => asTup v fun cs => asCons cs fun v r => asSl v fun m_1 fl_1 xs_1 => asCons r fun v r => AM.asInt IntKind.i64 v fun n_1 => asCons r fun v r => AM.asBool v fun b_1 => asNil r (asNil bs (bif !b_1 then some (AV.tup [AV.agg [AV.int IntKind.i64 0, AV.int IntKind.i64 0, AV.sl 0 true [], AV.int IntKind.i64 0, AV.int IntKind.i64 0, AV.int IntKind.i64 0, AV.bool false, AV.sl 0 true [], AV.int IntKind.i64 0, AV.sl 0 true [], AV.sl 0 true [], AV.int IntKind.i64 0, AV.int IntKind.i64 0, AV.sl 0 true []], AV.bool false], []) else bif decide (((List.length s : Nat) : Int) < IntKind.wrap IntKind.i64 (n_1 + 8)) then some (AV.tup [AV.agg [AV.int IntKind.i64 0, AV.int IntKind.i64 0, AV.sl 0 true [], AV.int IntKind.i64 0, AV.int IntKind.i64 0, AV.int IntKind.i64 0, AV.bool false, AV.sl 0 true [], AV.int IntKind.i64 0, AV.sl 0 true [], AV.sl 0 true [], AV.int IntKind.i64 0, AV.int IntKind.i64 0, AV.sl 0 true []], AV.bool false], []) else bif decide (0 ≤ IntKind.wrap IntKind.i64 (n_1 + 8) ∧ IntKind.wrap IntKind.i64 (n_1 + 8) ≤ ((List.length s : Nat) : Int) ∧ ((List.length s : Nat) : Int) ≤ ((List.length s : Nat) : Int)) then onRes (F 51 [AV.str (List.drop (Int.toNat (IntKind.wrap IntKind.i64 (n_1 + 8))) (List.take (Int.toNat ((List.length s : Nat) : Int)) s))] []) fun v bs => asTup v fun cs => asCons cs fun v r => asSl v fun m_2 fl_2 xs_2 => asCons r fun v r => asStr v fun s_1 => asCons r fun v r => AM.asInt IntKind.i64 v fun n_2 => asNil r (asNil bs (bif n_2 != 0 then some (AV.tup [AV.agg [AV.int IntKind.i64 0, AV.int IntKind.i64 0, AV.sl 0 true [], AV.int IntKind.i64 0, AV.int IntKind.i64 0, AV.int IntKind.i64 0, AV.bool false, AV.sl 0 true [], AV.int IntKind.i64 0, AV.sl 0 true [], AV.sl 0 true [], AV.int IntKind.i64 0, AV.int IntKind.i64 0, AV.sl 0 true []], AV.bool false], []) else bif ((List.length s_1 : Nat) : Int) == 0 then some (AV.tup [AV.agg [AV.int IntKind.i64 0, AV.int IntKind.i64 0, AV.sl 0 true [], AV.int IntKind.i64 0, AV.int IntKind.i64 0, AV.int IntKind.i64 0, AV.bool false, AV.sl 0 true [], AV.int IntKind.i64 0, AV.sl 0 true [], AV.sl 0 true [], AV.int IntKind.i64 0, AV.int IntKind.i64 0, AV.sl 0 true []], AV.bool false], []) else onOpt (Option.map (fun b => AV.int IntKind.u8 ((UInt8.toNat b : Nat) : Int)) s_1[Int.toNat 0]?) fun x => AM.asInt IntKind.u8 x fun n_3 => onRes (F 15 [AV.str s_1, AV.int IntKind.i64 (IntKind.wrap IntKind.i64 (IntKind.wrap IntKind.i64 (1 + IntKind.wrap IntKind.i64 n_3) + 16))] []) fun v bs => asTup v fun cs => asCons cs fun v r => asSl v fun m_3 fl_3 xs_3 => asCons r fun v r => AM.asInt IntKind.i64 v fun n_4 => asCons r fun v r => AM.asBool v fun b_2 => asNil r (asNil bs (bif !b_2 then some (AV.tup [AV.agg [AV.int IntKind.i64 0, AV.int IntKind.i64 0, AV.sl 0 true [], AV.int IntKind.i64 0, AV.int IntKind.i64 0, AV.int IntKind.i64 0, AV.bool false, AV.sl 0 true [], AV.int IntKind.i64 0, AV.sl 0 true [], AV.sl 0 true [], AV.int IntKind.i64 0, AV.int IntKind.i64 0, AV.sl 0 true []], AV.bool false], []) else bif n_4 != ((List.length s_1 : Nat) : Int) then some (AV.tup [AV.agg [AV.int IntKind.i64 0, AV.int IntKind.i64 0, AV.sl 0 true [], AV.int IntKind.i64 0, AV.int IntKind.i64 0, AV.int IntKind.i64 0, AV.bool false, AV.sl 0 true [], AV.int IntKind.i64 0, AV.sl 0 true [], AV.sl 0 true [], AV.int IntKind.i64 0, AV.int IntKind.i64 0, AV.sl 0 true []], AV.bool false], []) else loopA (bodyOf F 24 0 N) (deadOf 24 0) (contOf F 24 0 N 0) N { nt := 183, t := [(0, AV.str s), (2, AV.ptr 2 0 0), (3, AV.bool false), (4, AV.ptr 4 0 0), (5, AV.sl m fl xs), (6, AV.int IntKind.i64 n), (7, AV.bool b_2), (8, AV.sl m_1 fl_1 xs_1), (9, AV.int IntKind.i64 n_1), (10, AV.sl m_2 fl_2 xs_2), (11, AV.str s_1), (12, AV.int IntKind.i64 n_2), (13, AV.int IntKind.i64 (IntKind.wrap IntKind.i64 n_3)), (14, AV.sl m_3 fl_3 xs_3), (15, AV.int IntKind.i64 n_4), (16, AV.int IntKind.i64 0), (24, AV.bool !b), (42, AV.bool (decide (((List.length s : Nat) : Int) < IntKind.wrap IntKind.i64 (n_1 + 8)))), (59, AV.bool (((List.length s_1 : Nat) : Int) == 0)), (80, AV.bool (n_4 != ((List.length s_1 : Nat) : Int)))], b := [(2, [AV.int IntKind.i64 0, AV.int IntKind.i64 0, AV.sl 0 true [], AV.int IntKind.i64 0, AV.int IntKind.i64 0, AV.int IntKind.i64 0, AV.bool false, AV.sl 0 true [], AV.int IntKind.i64 0, AV.sl 0 true [], AV.sl 0 true [], AV.int IntKind.i64 0, AV.int IntKind.i64 0, AV.sl 0 true []]), (4, [AV.int IntKind.i64 0, AV.int IntKind.i64 0, AV.sl 0 true [], AV.int IntKind.i64 0, AV.int IntKind.i64 0, AV.int IntKind.i64 0, AV.bool false, AV.sl 0 true [], AV.int IntKind.i64 0, AV.sl 0 true [], AV.sl 0 true [], AV.int IntKind.i64 0, AV.int IntKind.i64 0, AV.sl 0 true []])], r := [], g := [], rd := [], wr := [] })))) else none)))) := by kernel_rfl
theorem rparse_body0 (F : Fns) (N : Nat) (s : List UInt8) (x5 : List AV) (f5 : Bool) (a5 : Nat) (p : Int) (x8 : List AV) (f8 : Bool) (a8 : Nat) (q : Int) (x10 : List AV) (f10 : Bool) (a10 : Nat) (rest : List UInt8) (e nz : Int) (x14 : List AV) (f14 : Bool) (a14 : Nat) (en i : Int) (d0 d1 d2 d3 d4 : Bool) (KN : St → Res) : bodyOf F 24 0 N (rparseS s (.sl a5 f5 x5) p (.sl a8 f8 x8) q (.sl a10 f10 x10) rest e nz (.sl a14 f14 x14) en i d0 d1 d2 d3 d4 (.sl 0 true [])) (brk (contOf F 24 0 N 0) KN) =
  bif decide (i < nz) then bif decide (0 ≤ IntKind.wrap IntKind.i64 (1 + i)) then onOpt (Option.map (fun b => AV.int IntKind.u8 ((UInt8.toNat b : Nat) : Int)) rest[Int.toNat (IntKind.wrap IntKind.i64 (1 + i))]?) fun x => AM.asInt IntKind.u8 x fun n => KN { nt := 183, t := [(0, AV.str s), (2, AV.ptr 2 0 0), (3, AV.bool false), (4, AV.ptr 4 0 0), (5, AV.sl a5 f5 x5), (6, AV.int IntKind.i64 p), (7, AV.bool d0), (8, AV.sl a8 f8 x8), (9, AV.int IntKind.i64 q), (10, AV.sl a10 f10 x10), (11, AV.str rest), (12, AV.int IntKind.i64 e), (13, AV.int IntKind.i64 nz), (14, AV.sl a14 f14 x14), (15, AV.int IntKind.i64 en), (16, AV.int IntKind.i64 (IntKind.wrap IntKind.i64 (i + 1))), (24, AV.bool d1), (42, AV.bool d2), (59, AV.bool d3), (80, AV.bool d4), (84, AV.bool (decide (i < nz)))], b := [(2, [AV.int IntKind.i64 0, AV.int IntKind.i64 0, AV.sl 0 true [], AV.int IntKind.i64 0, AV.int IntKind.i64 0, AV.int IntKind.i64 0, AV.bool false, AV.sl 0 true [], AV.int IntKind.i64 0, AV.sl 0 true [], AV.sl 0 true [], AV.int IntKind.i64 0, AV.int IntKind.i64 0, AV.sl 0 true []]), (4, [AV.int IntKind.i64 0, AV.int IntKind.i64 0, AV.sl 0 true [], AV.int IntKind.i64 0, AV.int IntKind.i64 0, AV.int IntKind.i64 0, AV.bool false, AV.sl 0 true [], AV.int IntKind.i64 0, AV.sl 0 true [], AV.tip 95 0 1 [AV.int IntKind.i64 (IntKind.wrap IntKind.i64 n)], AV.int IntKind.i64 0, AV.int IntKind.i64 0, AV.sl 0 true []])], r := [], g := [], rd := [], wr := [] } else none else onOpt (Option.map (fun b => AV.int IntKind.u8 ((UInt8.toNat b : Nat) : Int)) s[Int.toNat 0]?) fun x => AM.asInt IntKind.u8 x fun n => onRes (F 43 [AV.str s, AV.int IntKind.i64 1, AV.int IntKind.i64 8] []) fun v bs => asTup v fun cs => asCons cs fun v r => AM.asInt IntKind.i64 v fun n_1 => asCons r fun v r => AM.asBool v fun b => asNil r (asNil bs (onRes (F 43 [AV.str s, AV.int IntKind.i64 p, AV.int IntKind.i64 8] []) fun v bs => asTup v fun cs => asCons cs fun v r => AM.asInt IntKind.i64 v fun n_2 => asCons r fun v r => AM.asBool v fun b => asNil r (asNil bs (onRes (F 43 [AV.str s, AV.int IntKind.i64 (IntKind.wrap IntKind.i64 (p + 8)), AV.int IntKind.i64 8] []) fun v bs => asTup v fun cs => asCons cs fun v r => AM.asInt IntKind.i64 v fun n_3 => asCons r fun v r => AM.asBool v fun b => asNil r (asNil bs (onRes (F 43 [AV.str s, AV.int IntKind.i64 (IntKind.wrap IntKind.i64 (p + 16)), AV.int IntKind.i64 8] []) fun v bs => asTup v fun cs => asCons cs fun v r => AM.asInt IntKind.i64 v fun n_4 => asCons r fun v r => AM.asBool v fun b => asNil r (asNil bs (bif decide (0 ≤ IntKind.wrap IntKind.i64 (p + 24)) then onOpt (Option.map (fun b => AV.int IntKind.u8 ((UInt8.toNat b : Nat) : Int)) s[Int.toNat (IntKind.wrap IntKind.i64 (p + 24))]?) fun x => AM.asInt IntKind.u8 x fun n_5 => onRes (F 43 [AV.str s, AV.int IntKind.i64 q, AV.int IntKind.i64 8] []) fun v bs => asTup v fun cs => asCons cs fun v r => AM.asInt IntKind.i64 v fun n_6 => asCons r fun v r => AM.asBool v fun b => asNil r (asNil bs (onRes (F 43 [AV.str rest, AV.int IntKind.i64 (IntKind.wrap IntKind.i64 (1 + nz)), AV.int IntKind.i64 8] []) fun v bs => asTup v fun cs => asCons cs fun v r => AM.asInt IntKind.i64 v fun n_7 => asCons r fun v r => AM.asBool v fun b => asNil r (asNil bs (onRes (F 43 [AV.str rest, AV.int IntKind.i64 (IntKind.wrap IntKind.i64 (9 + nz)), AV.int IntKind.i64 8] []) fun v bs => asTup v fun cs => asCons cs fun v r => AM.asInt IntKind.i64 v fun n_8 => asCons r fun v r => AM.asBool v fun b => asNil r (asNil bs (onRes (F 28 [AV.agg [AV.int IntKind.i64 (IntKind.wrap IntKind.i64 n), AV.int IntKind.i64 n_1, AV.sl a5 f5 x5, AV.int IntKind.i64 n_2, AV.int IntKind.i64 n_3, AV.int IntKind.i64 n_4, AV.bool (n_5 == 1), AV.sl a8 f8 x8, AV.int IntKind.i64 n_6, AV.sl a10 f10 x10, AV.sl 0 true [], AV.int IntKind.i64 n_7, AV.int IntKind.i64 n_8, AV.sl a14 f14 x14]] []) fun v bs => AM.asBool v fun b => asNil bs (bif !b then some (AV.tup [AV.agg [AV.int IntKind.i64 0, AV.int IntKind.i64 0, AV.sl 0 true [], AV.int IntKind.i64 0, AV.int IntKind.i64 0, AV.int IntKind.i64 0, AV.bool false, AV.sl 0 true [], AV.int IntKind.i64 0, AV.sl 0 true [], AV.sl 0 true [], AV.int IntKind.i64 0, AV.int IntKind.i64 0, AV.sl 0 true []], AV.bool false], []) else onRes (F 30 [AV.agg [AV.int IntKind.i64 (IntKind.wrap IntKind.i64 n), AV.int IntKind.i64 n_1, AV.sl a5 f5 x5, AV.int IntKind.i64 n_2, AV.int IntKind.i64 n_3, AV.int IntKind.i64 n_4, AV.bool (n_5 == 1), AV.sl a8 f8 x8, AV.int IntKind.i64 n_6, AV.sl a10 f10 x10, AV.sl 0 true [], AV.int IntKind.i64 n_7, AV.int IntKind.i64 n_8, AV.sl a14 f14 x14]] []) fun v bs => asStr v fun s_1 => asNil bs (bif !s_1 == s then some (AV.tup [AV.agg [AV.int IntKind.i64 0, AV.int IntKind.i64 0, AV.sl 0 true [], AV.int IntKind.i64 0, AV.int IntKind.i64 0, AV.int IntKind.i64 0, AV.bool false, AV.sl 0 true [], AV.int IntKind.i64 0, AV.sl 0 true [], AV.sl 0 true [], AV.int IntKind.i64 0, AV.int IntKind.i64 0, AV.sl 0 true []], AV.bool false], []) else some (AV.tup [AV.agg [AV.int IntKind.i64 (IntKind.wrap IntKind.i64 n), AV.int IntKind.i64 n_1, AV.sl a5 f5 x5, AV.int IntKind.i64 n_2, AV.int IntKind.i64 n_3, AV.int IntKind.i64 n_4, AV.bool (n_5 == 1), AV.sl a8 f8 x8, AV.int IntKind.i64 n_6, AV.sl a10 f10 x10, AV.sl 0 true [], AV.int IntKind.i64 n_7, AV.int IntKind.i64 n_8, AV.sl a14 f14 x14], AV.bool true], []))))))))) else none)))))))) := by kernel_rfl
theorem rparse_body1 (F : Fns) (N : Nat) (s : List UInt8) (x5 : List AV) (f5 : Bool) (a5 : Nat) (p : Int) (x8 : List AV) (f8 : Bool) (a8 : Nat) (q : Int) (x10 : List AV) (f10 : Bool) (a10 : Nat) (rest : List UInt8) (e nz : Int) (x14 : List AV) (f14 : Bool) (a14 : Nat) (en i : Int) (d0 d1 d2 d3 d4 : Bool) (ys : List AV) (KN : St → Res) : bodyOf F 24 0 N (rparseS s (.sl a5 f5 x5) p (.sl a8 f8 x8) q (.sl a10 f10 x10) rest e nz (.sl a14 f14 x14) en i d0 d1 d2 d3 d4 (.tip 95 0 1 ys)) (brk (contOf F 24 0 N 0) KN) =
  bif decide (i < nz) then bif decide (0 ≤ IntKind.wrap IntKind.i64 (1 + i)) then onOpt (Option.map (fun b => AV.int IntKind.u8 ((UInt8.toNat b : Nat) : Int)) rest[Int.toNat (IntKind.wrap IntKind.i64 (1 + i))]?) fun x => AM.asInt IntKind.u8 x fun n => bif decide (1 = 1 ∧ fitsB (List.length ys + List.length [AV.int IntKind.i64 (IntKind.wrap IntKind.i64 n)]) 8 = true ∧ List.length ys + List.length [AV.int IntKind.i64 (IntKind.wrap IntKind.i64 n)] ≤ 4611686018427387904) then KN { nt := 183, t := [(0, AV.str s), (2, AV.ptr 2 0 0), (3, AV.bool false), (4, AV.ptr 4 0 0), (5, AV.sl a5 f5 x5), (6, AV.int IntKind.i64 p), (7, AV.bool d0), (8, AV.sl a8 f8 x8), (9, AV.int IntKind.i64 q), (10, AV.sl a10 f10 x10), (11, AV.str rest), (12, AV.int IntKind.i64 e), (13, AV.int IntKind.i64 nz), (14, AV.sl a14 f14 x14), (15, AV.int IntKind.i64 en), (16, AV.int IntKind.i64 (IntKind.wrap IntKind.i64 (i + 1))), (24, AV.bool d1), (42, AV.bool d2), (59, AV.bool d3), (80, AV.bool d4), (84, AV.bool (decide (i < nz)))], b := [(2, [AV.int IntKind.i64 0, AV.int IntKind.i64 0, AV.sl 0 true [], AV.int IntKind.i64 0, AV.int IntKind.i64 0, AV.int IntKind.i64 0, AV.bool false, AV.sl 0 true [], AV.int IntKind.i64 0, AV.sl 0 true [], AV.sl 0 true [], AV.int IntKind.i64 0, AV.int IntKind.i64 0, AV.sl 0 true []]), (4, [AV.int IntKind.i64 0, AV.int IntKind.i64 0, AV.sl 0 true [], AV.int IntKind.i64 0, AV.int IntKind.i64 0, AV.int IntKind.i64 0, AV.bool false, AV.sl 0 true [], AV.int IntKind.i64 0, AV.sl 0 true [], AV.tip 95 0 1 (ys ++ [AV.int IntKind.i64 (IntKind.wrap IntKind.i64 n)]), AV.int IntKind.i64 0, AV.int IntKind.i64 0, AV.sl 0 true []])], r := [], g := [], rd := [], wr := [] } else none else none else onOpt (Option.map (fun b => AV.int IntKind.u8 ((UInt8.toNat b : Nat) : Int)) s[Int.toNat 0]?) fun x => AM.asInt IntKind.u8 x fun n => onRes (F 43 [AV.str s, AV.int IntKind.i64 1, AV.int IntKind.i64 8] []) fun v bs => asTup v fun cs => asCons cs fun v r => AM.asInt IntKind.i64 v fun n_1 => asCons r fun v r => AM.asBool v fun b => asNil r (asNil bs (onRes (F 43 [AV.str s, AV.int IntKind.i64 p, AV.int IntKind.i64 8] []) fun v bs => asTup v fun cs => asCons cs fun v r => AM.asInt IntKind.i64 v fun n_2 => asCons r fun v r => AM.asBool v fun b => asNil r (asNil bs (onRes (F 43 [AV.str s, AV.int IntKind.i64 (IntKind.wrap IntKind.i64 (p + 8)), AV.int IntKind.i64 8] []) fun v bs => asTup v fun cs => asCons cs fun v r => AM.asInt IntKind.i64 v fun n_3 => asCons r fun v r => AM.asBool v fun b => asNil r (asNil bs (onRes (F 43 [AV.str s, AV.int IntKind.i64 (IntKind.wrap IntKind.i64 (p + 16)), AV.int IntKind.i64 8] []) fun v bs => asTup v fun cs => asCons cs fun v r => AM.asInt IntKind.i64 v fun n_4 => asCons r fun v r => AM.asBool v fun b => asNil r (asNil bs (bif decide (0 ≤ IntKind.wrap IntKind.i64 (p + 24)) then onOpt (Option.map (fun b => AV.int IntKind.u8 ((UInt8.toNat b : Nat) : Int)) s[Int.toNat (IntKind.wrap IntKind.i64 (p + 24))]?) fun x => AM.asInt IntKind.u8 x fun n_5 => onRes (F 43 [AV.str s, AV.int IntKind.i64 q, AV.int IntKind.i64 8] []) fun v bs => asTup v fun cs => asCons cs fun v r => AM.asInt IntKind.i64 v fun n_6 => asCons r fun v r => AM.asBool v fun b => asNil r (asNil bs (onRes (F 43 [AV.str rest, AV.int IntKind.i64 (IntKind.wrap IntKind.i64 (1 + nz)), AV.int IntKind.i64 8] []) fun v bs => asTup v fun cs => asCons cs fun v r => AM.asInt IntKind.i64 v fun n_7 => asCons r fun v r => AM.asBool v fun b => asNil r (asNil bs (onRes (F 43 [AV.str rest, AV.int IntKind.i64 (IntKind.wrap IntKind.i64 (9 + nz)), AV.int IntKind.i64 8] []) fun v bs => asTup v fun cs => asCons cs fun v r => AM.asInt IntKind.i64 v fun n_8 => asCons r fun v r => AM.asBool v fun b => asNil r (asNil bs (onRes (F 28 [AV.agg [AV.int IntKind.i64 (IntKind.wrap IntKind.i64 n), AV.int IntKind.i64 n_1, AV.sl a5 f5 x5, AV.int IntKind.i64 n_2, AV.int IntKind.i64 n_3, AV.int IntKind.i64 n_4, AV.bool (n_5 == 1), AV.sl a8 f8 x8, AV.int IntKind.i64 n_6, AV.sl a10 f10 x10, AV.sl 1 false ys, AV.int IntKind.i64 n_7, AV.int IntKind.i64 n_8, AV.sl a14 f14 x14]] []) fun v bs => AM.asBool v fun b => asNil bs (bif !b then some (AV.tup [AV.agg [AV.int IntKind.i64 0, AV.int IntKind.i64 0, AV.sl 0 true [], AV.int IntKind.i64 0, AV.int IntKind.i64 0, AV.int IntKind.i64 0, AV.bool false, AV.sl 0 true [], AV.int IntKind.i64 0, AV.sl 0 true [], AV.sl 0 true [], AV.int IntKind.i64 0, AV.int IntKind.i64 0, AV.sl 0 true []], AV.bool false], []) else onRes (F 30 [AV.agg [AV.int IntKind.i64 (IntKind.wrap IntKind.i64 n), AV.int IntKind.i64 n_1, AV.sl a5 f5 x5, AV.int IntKind.i64 n_2, AV.int IntKind.i64 n_3, AV.int IntKind.i64 n_4, AV.bool (n_5 == 1), AV.sl a8 f8 x8, AV.int IntKind.i64 n_6, AV.sl a10 f10 x10, AV.sl 1 false ys, AV.int IntKind.i64 n_7, AV.int IntKind.i64 n_8, AV.sl a14 f14 x14]] []) fun v bs => asStr v fun s_1 => asNil bs (bif !s_1 == s then some (AV.tup [AV.agg [AV.int IntKind.i64 0, AV.int IntKind.i64 0, AV.sl 0 true [], AV.int IntKind.i64 0, AV.int IntKind.i64 0, AV.int IntKind.i64 0, AV.bool false, AV.sl 0 true [], AV.int IntKind.i64 0, AV.sl 0 true [], AV.sl 0 true [], AV.int IntKind.i64 0, AV.int IntKind.i64 0, AV.sl 0 true []], AV.bool false], []) else some (AV.tup [AV.agg [AV.int IntKind.i64 (IntKind.wrap IntKind.i64 n), AV.int IntKind.i64 n_1, AV.sl a5 f5 x5, AV.int IntKind.i64 n_2, AV.int IntKind.i64 n_3, AV.int IntKind.i64 n_4, AV.bool (n_5 == 1), AV.sl a8 f8 x8, AV.int IntKind.i64 n_6, AV.sl a10 f10 x10, AV.sl 1 false ys, AV.int IntKind.i64 n_7, AV.int IntKind.i64 n_8, AV.sl a14 f14 x14], AV.bool true], []))))))))) else none)))))))) := by kernel_rfl
theorem szs_length (nz : Nat) (rest : List UInt8) (hr : 1 + nz ≤ rest.length) : (szs nz rest).length = nz := by
  unfold szs
  rw [List.length_map, List.length_take, List.length_drop]
  omega
theorem szs_take (nz : Nat) (rest : List UInt8) (hr : 1 + nz ≤ rest.length) (i : Nat) (h : i < nz) : (szs nz rest).take (i + 1) = (szs nz rest).take i ++ [(((rest.getD (1 + i) 0).toNat : Nat) : Int)] := by
  have hl := szs_length nz rest hr
  rw [List.take_add_one, List.getElem?_eq_getElem (by omega)]
  have : (szs nz rest)[i]'(by omega) = (((rest.getD (1 + i) 0).toNat : Nat) : Int) := by
    unfold szs
    rw [List.getElem_map, List.getElem_take, List.getElem_drop, List.getD_eq_getElem?_getD, List.getElem?_eq_getElem (by omega)]
    rfl
  rw [this]
  rfl
theorem rp_loop (k : Nat) (hk : 1300 ≤ k) (s : List UInt8) (hs : s.length < 1152921504606846976) (l l2 : List (Int × Int)) (p q : Nat) (bt : List (Int × Int)) (rest : List UInt8) (nz : Nat) (wl : List Wr) (x5 x8 x10 x14 : List AV) (f5 f8 f10 f14 : Bool) (a5 a8 a10 a14 : Nat) (h5 : IsL (.sl a5 f5 x5) l) (h8 : IsL (.sl a8 f8 x8) l2) (h10 : IsT (.sl a10 f10 x10) bt) (h14 : IsW (.sl a14 f14 x14) wl) (hbt : bt.length ≤ 1000) (hu : UM bt) (hp : p + 25 < s.length) (hq : q ≤ s.length) (hr : rest.length < 1152921504606846976) (hr2 : 19 + nz ≤ rest.length) (hnz : nz < 256) (e en : Int) (d0 d1 d2 d3 d4 : Bool) : ∀ (dd i n : Nat) (st : St), i + dd = nz → dd < n →
    st.clean (deadOf 24 0) = rparseS s (.sl a5 f5 x5) p (.sl a8 f8 x8) q (.sl a10 f10 x10) rest e nz (.sl a14 f14 x14) en i d0 d1 d2 d3 d4 (.tip 95 0 1 (((szs nz rest).take i).map (AV.int .i64))) →
    RefQ (mkM s l p l2 q bt rest nz (szs nz rest) wl) s (loopA (bodyOf (evF pr k) 24 0 k) (deadOf 24 0) (contOf (evF pr k) 24 0 k 0) n st) := by
  have hl := szs_length nz rest (by omega)
  intro dd
  induction dd with
  | zero =>
    intro i n st hi hn hst
    obtain ⟨n, rfl⟩ : ∃ m', n = m' + 1 := ⟨n - 1, by omega⟩
    have hi : i = nz := by omega
    have ht : (szs nz rest).take i = szs nz rest := List.take_of_length_le (by omega)
    rw [loopA_succ, hst, ht, rparse_body1, decide_eq_false (by omega)]
    simp only [cond_false]
    exact rp_tail k hk s hs l l2 p q bt rest nz (szs nz rest) wl x5 x8 x10 x14 ((szs nz rest).map (AV.int .i64)) f5 f8 f10 f14 false a5 a8 a10 a14 1 h5 h8 h10 (.inl ⟨false, rfl⟩) h14 hbt hu hp hq hr hnz
  | succ dd ih =>
    intro i n st hi hn hst
    obtain ⟨n, rfl⟩ : ∃ m', n = m' + 1 := ⟨n - 1, by omega⟩
    have hti : ((szs nz rest).take i).length ≤ 1000 := by rw [List.length_take]; omega
    rw [loopA_succ, hst, rparse_body1, decide_eq_true (show (i : Int) < nz by omega), show IntKind.wrap IntKind.i64 (1 + (i : Int)) = ((1 + i : Nat) : Int) by (rw [wrap_small (by omega) (by omega)]; omega), decide_eq_true (show (0 : Int) ≤ ((1 + i : Nat) : Int) by omega), getD_map rest (1 + i) (by omega), wrap_small (n := (i : Int) + 1) (by omega) (by omega)]
    simp only [cond_true]
    rw [h_opt, h_int, byte_i64, decide_eq_true (by
      refine ⟨trivial, fitsB_small ?_, ?_⟩ <;> simp only [List.length_map, List.length_cons, List.length_nil] <;> omega)]
    simp only [cond_true]
    refine ih (i + 1) n _ (by omega) (by omega) ?_
    rw [szs_take nz rest (by omega) i (by omega), List.map_append]
    kernel_rfl

theorem e24 (k : Nat) (hk : 66100 ≤ k) (s : List UInt8) (hs : s.length ≤ 100000) : RefR s (cand s) (evF pr k 24 [.str s] []) := by
  obtain ⟨k, rfl⟩ : ∃ m, k = m + 1 := ⟨k - 1, by omega⟩
  rw [ev_step _ _ _ _ (by kernel_rfl), rparse_tree]
  show PP (RefR s (cand s)) _
  obtain ⟨m1, f1, x1, z1, b1, E1, P1, Q1⟩ := rta 9 s
  have A1 : evF pr k 21 [.str s, .int .i64 9] [] = RTakeAt 9 s := e21 k (by omega) s (by omega) 9 (by omega)
  rw [E1] at A1
  refine pq_on A1 (pq_tup (pq_cons (pq_sl (pq_cons (pq_int (pq_cons (pq_bool (pq_nil (pq_nil ?_)))))))))
  cases b1 with
  | false =>
    refine pq_yes rfl ?_
    show RefR s (cand s) _
    rw [cand, Q1 rfl]
    rfl
  | true =>
    obtain ⟨l1, p, g1, hx1, rfl⟩ := P1 rfl
    have hb1 := lineAt_bound g1
    refine pq_no rfl ?_
    rw [show IntKind.wrap IntKind.i64 ((p : Int) + 25) = ((p + 25 : Nat) : Int) by (rw [wrap_small (by omega) (by omega)]; omega)]
    obtain ⟨m2, f2, x2, z2, b2, E2, P2, Q2⟩ := rta (p + 25) s
    have A2 := e21 k (by omega) s (by omega) (p + 25) (by omega)
    rw [E2] at A2
    refine pq_on A2 (pq_tup (pq_cons (pq_sl (pq_cons (pq_int (pq_cons (pq_bool (pq_nil (pq_nil ?_)))))))))
    cases b2 with
    | false =>
      refine pq_yes rfl ?_
      show RefR s (cand s) _
      rw [cand, g1, Option.bind_some, Q2 rfl]
      rfl
    | true =>
      obtain ⟨l2, q, g2, hx2, rfl⟩ := P2 rfl
      have hb2 := lineAt_bound g2
      refine pq_no rfl ?_
      rw [show IntKind.wrap IntKind.i64 ((q : Int) + 8) = ((q + 8 : Nat) : Int) by (rw [wrap_small (by omega) (by omega)]; omega)]
      by_cases hq8 : s.length < q + 8
      · refine pq_yes (decide_eq_true (by omega)) ?_
        show RefR s (cand s) _
        rw [cand, g1, Option.bind_some, g2, Option.bind_some, if_pos hq8]
        rfl
      · rw [decide_eq_false (show ¬ ((s.length : Nat) : Int) < ((q + 8 : Nat) : Int) by omega)]
        refine pq_no rfl (pq_yes (decide_eq_true (by omega)) ?_)
        rw [Int.toNat_natCast, Int.toNat_natCast, List.take_length]
        have hB := e51 k (by omega) (s.drop (q + 8)) (by rw [List.length_drop]; omega)
        cases g3 : parseB (s.drop (q + 8)) with
        | none =>
          rw [g3] at hB
          obtain ⟨e, he, hB⟩ := hB
          refine pq_on hB (pq_tup (pq_cons (pq_sl (pq_cons (pq_str (pq_cons (pq_int (pq_nil (pq_nil ?_)))))))))
          refine pq_yes (by simp [he]) ?_
          show RefR s (cand s) _
          rw [cand, g1, Option.bind_some, g2, Option.bind_some, if_neg hq8, g3]
          rfl
        | some c =>
          obtain ⟨bt, rest⟩ := c
          rw [g3] at hB
          obtain ⟨m3, f3, x3, hsl, _⟩ := slT_sl bt
          have hB : _ = some (AV.tup [slT bt, .str rest, .int .i64 0], []) := hB
          rw [hsl] at hB
          refine pq_on hB (pq_tup (pq_cons (pq_sl (pq_cons (pq_str (pq_cons (pq_int (pq_nil (pq_nil ?_)))))))))
          refine pq_no rfl ?_
          obtain ⟨eB, hu, hokb⟩ := parseB_back g3
          have hbl := bOk_length hokb
          have hrl : rest.length ≤ s.length := by
            have := congrArg List.length eB
            rw [List.length_append, List.length_drop] at this
            omega
          have hc : cand s = if rest = [] then none else (wrsAt (17 + (rest.getD 0 0).toNat) rest).bind fun w => if w.2 = rest.length then some (mkM s l1 p l2 q bt rest (rest.getD 0 0).toNat (szs (rest.getD 0 0).toNat rest) w.1) else none := by
            rw [cand, g1, Option.bind_some, g2, Option.bind_some, if_neg hq8, g3, Option.bind_some]
          rw [hc]
          by_cases hre : rest = []
          · refine pq_yes (by rw [hre]; rfl) ?_
            show RefR s _ _
            rw [if_pos hre]
            rfl
          · have hlen : 0 < rest.length := List.length_pos_iff.2 hre
            rw [if_neg hre]
            refine pq_no (by simp only [beq_eq_false_iff_ne, ne_eq]; omega) ?_
            refine pq_opt (getD_map rest 0 hlen) (pq_int ?_)
            rw [byte_i64]
            have hnz := (rest.getD 0 0).toNat_lt
            generalize hnzd : (rest.getD 0 0).toNat = nz at *
            rw [show IntKind.wrap IntKind.i64 (IntKind.wrap IntKind.i64 (1 + (nz : Int)) + 16) = ((17 + nz : Nat) : Int) by (rw [wrap_small (n := 1 + (nz : Int)) (by omega) (by omega), wrap_small (by omega) (by omega)]; omega)]
            obtain ⟨m4, f4, x4, z4, b4, E4, P4, Q4⟩ := rtw (17 + nz) rest
            have A4 := e15 k (by omega) rest (by omega) (17 + nz) (by omega)
            rw [E4] at A4
            refine pq_on A4 (pq_tup (pq_cons (pq_sl (pq_cons (pq_int (pq_cons (pq_bool (pq_nil (pq_nil ?_)))))))))
            cases b4 with
            | false =>
              refine pq_yes rfl ?_
              show RefR s _ _
              rw [Q4 rfl]
              rfl
            | true =>
              obtain ⟨wl, en, g4, hx4, rfl⟩ := P4 rfl
              have hb4 := wrsAt_bound g4
              refine pq_no rfl ?_
              rw [g4, Option.bind_some]
              by_cases hen : en = rest.length
              · rw [if_pos hen]
                refine pq_no (by simp [hen]) ?_
                have h5 : IsL (.sl m1 f1 x1) l1 := by rw [hx1]; exact IsL.slB l1
                have h8 : IsL (.sl m2 f2 x2) l2 := by rw [hx2]; exact IsL.slB l2
                have h10 : IsT (.sl m3 f3 x3) bt := by rw [← hsl]; exact IsT.slT bt
                have h14 : IsW (.sl m4 f4 x4) wl := by rw [hx4]; exact IsW.slW wl
                obtain ⟨k', hk'⟩ : ∃ m, k = m + 1 := ⟨k - 1, by omega⟩
                have hb : ∀ (d2 d3 d4 : Bool) (X : Res), X = bodyOf (evF pr k) 24 0 k (rparseS s (.sl m1 f1 x1) p (.sl m2 f2 x2) q (.sl m3 f3 x3) rest 0 nz (.sl m4 f4 x4) en ((0 : Nat) : Int) true false d2 d3 d4 (.sl 0 true [])) (brk (contOf (evF pr k) 24 0 k 0) fun st' => loopA (bodyOf (evF pr k) 24 0 k) (deadOf 24 0) (contOf (evF pr k) 24 0 k 0) k' st') → RefQ (mkM s l1 p l2 q bt rest nz (szs nz rest) wl) s X := by
                  intro d2 d3 d4 X hX
                  rw [hX, rparse_body0]
                  cases nz with
                  | zero =>
                    rw [decide_eq_false (show ¬ ((0 : Nat) : Int) < ((0 : Nat) : Int) by omega)]
                    simp only [cond_false]
                    have hz : szs 0 rest = [] := by simp [szs]
                    rw [hz]
                    exact rp_tail k (by omega) s (by omega) l1 l2 p q bt rest 0 [] wl x1 x2 x3 x4 [] f1 f2 f3 f4 true m1 m2 m3 m4 0 h5 h8 h10 (.inr ⟨rfl, 0, true, rfl⟩) h14 (by omega) hu (by omega) (by omega) (by omega) (by omega)
                  | succ N =>
                    rw [decide_eq_true (show ((0 : Nat) : Int) < ((N + 1 : Nat) : Int) by omega), show IntKind.wrap IntKind.i64 (1 + ((0 : Nat) : Int)) = ((1 + 0 : Nat) : Int) from rfl, decide_eq_true (show (0 : Int) ≤ ((1 + 0 : Nat) : Int) by omega), getD_map rest (1 + 0) (by omega)]
                    simp only [cond_true]
                    rw [h_opt, h_int, byte_i64]
                    have h1 : (szs (N + 1) rest).take 1 = [(((rest.getD (1 + 0) 0).toNat : Nat) : Int)] := by
                      have := szs_take (N + 1) rest (by omega) 0 (by omega)
                      simpa using this
                    refine rp_loop k (by omega) s (by omega) l1 l2 p q bt rest (N + 1) wl x1 x2 x3 x4 f1 f2 f3 f4 m1 m2 m3 m4 h5 h8 h10 h14 (by omega) hu (by omega) (by omega) (by omega) (by omega) (by omega) 0 en true false d2 d3 d4 N 1 k' _ (by omega) (by omega) ?_
                    rw [h1]
                    kernel_rfl
                show RefQ _ s _
                conv => arg 3; arg 4; rw [hk']
                rw [loopA_succ]
                exact hb false (((rest.length : Nat) : Int) == 0) (((en : Nat) : Int) != ((rest.length : Nat) : Int)) _ (by kernel_rfl)
              · rw [if_neg hen]
                refine pq_yes (by simp only [bne_iff_ne, ne_eq]; omega) ?_
                rfl

end Go.AM.Ytnhfjkckgicidaa
