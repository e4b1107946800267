/- ref20.Encode: a right node's bytes. -/
import Derived.Test.YtnhfjkckgicidaaGreatAmP07
set_option linter.unusedVariables false
set_option linter.unusedSimpArgs false
namespace Go.AM.YtnhfjkckgicidaaGreat
open Go.AM Go.Proofs Go
def reT (n : Nd) (s : List UInt8) (i j : Int) (b : Bool) : St := ⟨182, [(0, .agg (ndL n)), (1, .ptr 1 0 0), (2, .str []), (3, .str s), (4, .int .i64 i), (5, .int .i64 j), (100, .bool b)], [(1, ndL n)], [], [], [], []⟩
theorem c12 (F : Fns) (N : Nat) (n : Nd) (s : List UInt8) (i j : Int) (b : Bool) (KN : St → Res) : zBy F 12 1 N (reT n s i j b) (brk (zCt F 12 1 N 0) KN) =
 bif decide (j < ((List.length (List.map shV (Nd.qs n)) : Nat) : Int)) then bif decide (0 ≤ j) then zOp (List.map shV (Nd.qs n))[Int.toNat j]? fun x => zAg x fun cs => zCo cs fun v r => zIn .i64 v fun n_1 => zCo r fun v r => zIn .i64 v fun n_2 => zCo r fun v r => asSl v fun m fl xs => zNi r (zRe (F 49 [AV.int .i64 n_1] []) fun v bs => zSt v fun s_1 => zNi bs (bif decide (List.length s + List.length s_1 ≤ 4611686018427387904) then zRe (F 49 [AV.int .i64 n_2] []) fun v bs => zSt v fun s_2 => zNi bs (bif decide (List.length (s ++ s_1) + List.length s_2 ≤ 4611686018427387904) then zRe (F 53 [AV.sl m fl xs] []) fun v bs => zSt v fun s_3 => zNi bs (bif decide (List.length (s ++ s_1 ++ s_2) + List.length s_3 ≤ 4611686018427387904) then KN { nt := 182, t := [(0, AV.agg (ndL n)), (1, AV.ptr 1 0 0), (2, AV.str []), (3, AV.str (s ++ s_1 ++ s_2 ++ s_3)), (4, AV.int .i64 i), (5, AV.int .i64 (IntKind.wrap .i64 (j + 1))), (6, AV.ptr 6 0 0), (100, AV.bool b), (144, AV.bool (decide (j < ((List.length (List.map shV (Nd.qs n)) : Nat) : Int))))], b := [(1, (ndL n)), (6, [AV.int .i64 n_1, AV.int .i64 n_2, AV.sl m fl xs])], r := [], g := [], rd := [], wr := [] } else none) else none) else none)) else none else zRe (F 53 [wsV (Nd.qo n)] []) fun v bs => zSt v fun s_1 => zNi bs (bif decide (List.length s + List.length s_1 ≤ 4611686018427387904) then zRe (F 49 [AV.int .i64 (Nd.qf n)] []) fun v bs => zSt v fun s_2 => zNi bs (bif decide (List.length (s ++ s_1) + List.length s_2 ≤ 4611686018427387904) then zRe (F 49 [AV.int .i64 (Nd.qt n)] []) fun v bs => zSt v fun s_3 => zNi bs (bif decide (List.length (s ++ s_1 ++ s_2) + List.length s_3 ≤ 4611686018427387904) then some (AV.str (s ++ s_1 ++ s_2 ++ s_3), []) else none) else none) else none) := by kernel_rfl
theorem b12 (F : Fns) (N : Nat) (n : Nd) (s : List UInt8) (i : Int) (KN : St → Res) : zBy F 12 0 N (reS n s i) (brk (zCt F 12 0 N 0) KN) =
 bif decide (i < ((List.length (List.map shV (Nd.ss n)) : Nat) : Int)) then bif decide (0 ≤ i) then zOp (List.map shV (Nd.ss n))[Int.toNat i]? fun x => zAg x fun cs => zCo cs fun v r => zIn .i64 v fun n_1 => zCo r fun v r => zIn .i64 v fun n_2 => zCo r fun v r => asSl v fun m fl xs => zNi r (zRe (F 49 [AV.int .i64 n_1] []) fun v bs => zSt v fun s_1 => zNi bs (bif decide (List.length s + List.length s_1 ≤ 4611686018427387904) then bif decide (0 ≤ i) then zOp (List.map shV (Nd.ss n))[Int.toNat i]? fun x => zAg x fun cs => zCo cs fun v r => zIn .i64 v fun n_3 => zCo r fun v r => zIn .i64 v fun n_4 => zCo r fun v r => asSl v fun m fl xs => zNi r (zRe (F 49 [AV.int .i64 n_4] []) fun v bs => zSt v fun s_2 => zNi bs (bif decide (List.length (s ++ s_1) + List.length s_2 ≤ 4611686018427387904) then bif decide (0 ≤ i) then zOp (List.map shV (Nd.ss n))[Int.toNat i]? fun x => zAg x fun cs => zCo cs fun v r => zIn .i64 v fun n_5 => zCo r fun v r => zIn .i64 v fun n_6 => zCo r fun v r => asSl v fun m fl xs => zNi r (zRe (F 53 [AV.sl m fl xs] []) fun v bs => zSt v fun s_3 => zNi bs (bif decide (List.length (s ++ s_1 ++ s_2) + List.length s_3 ≤ 4611686018427387904) then KN { nt := 182, t := [(0, AV.agg (ndL n)), (1, AV.ptr 1 0 0), (2, AV.str []), (3, AV.str (s ++ s_1 ++ s_2 ++ s_3)), (4, AV.int .i64 (IntKind.wrap .i64 (i + 1))), (100, AV.bool (decide (i < ((List.length (List.map shV (Nd.ss n)) : Nat) : Int))))], b := [(1, (ndL n))], r := [], g := [], rd := [], wr := [] } else none)) else none else none)) else none else none)) else none else zRe (F 53 [wsV (Nd.cp n)] []) fun v bs => zSt v fun s_1 => zNi bs (bif decide (List.length s + List.length s_1 ≤ 4611686018427387904) then zRe (F 54 [AV.int .i64 ((List.length (List.map shV (Nd.qs n)) : Nat) : Int)] []) fun v bs => zSt v fun s_2 => zNi bs (bif decide (List.length (s ++ s_1) + List.length s_2 ≤ 4611686018427387904) then loopA (zBy F 12 1 N) (zDe 12 1) (zCt F 12 1 N 0) N { nt := 182, t := [(0, AV.agg (ndL n)), (1, AV.ptr 1 0 0), (2, AV.str []), (3, AV.str (s ++ s_1 ++ s_2)), (4, AV.int .i64 i), (5, AV.int .i64 0), (100, AV.bool (decide (i < ((List.length (List.map shV (Nd.ss n)) : Nat) : Int))))], b := [(1, (ndL n))], r := [], g := [], rd := [], wr := [] } else none) else none) := by kernel_rfl
def endB (n : Nd) : List UInt8 := putW n.qo ++ (be8 n.qf ++ be8 n.qt)
theorem sets12 (k : Nat) (hk : 70200 ≤ k) (n : Nd) (hr : Rt n) (hq : n.qs.length ≤ 70000) (i : Int) (b : Bool) (s : List UInt8) (hs : s.length ≤ 31000000000) (st : St) (hst : st.clean (zDe 12 1) = reT n s i (0 : Nat) b) : loopA (zBy (W k) 12 1 k) (zDe 12 1) (zCt (W k) 12 1 k 0) k st = some (.str (s ++ (n.qs.flatMap shB ++ endB n)), []) := by
 refine loopA_ind (fun a : Nat × List UInt8 => reT n a.2 i a.1 b) (fun a => n.qs.length - a.1) (fun a r => a.1 ≤ n.qs.length → a.2.length ≤ 31000000000 + 3000 * a.1 → r = some (.str (a.2 ++ ((n.qs.drop a.1).flatMap shB ++ endB n)), [])) (fun a m ih h0 h1 => ?_) k (0, s) st (by simp; omega) hst (by simp) (by simpa using hs)
 obtain ⟨j, t⟩ := a
 simp only at ih h0 h1 ⊢
 rw [c12, List.length_map]
 by_cases hj : j < n.qs.length
 ·obtain ⟨g1, g2, g3⟩ := hr.qk _ (List.getElem_mem hj)
  have e1 := be8_length n.qs[j].1
  have e2 := be8_length n.qs[j].2.1
  have e3 := putW_le g3
  rw [getM _ _ _ hj, List.drop_eq_getElem_cons hj, wi (by omega)]
  simp only [decide_eq_true (show (j : Int) < n.qs.length by omega), decide_eq_true (show (0 : Int) ≤ j by omega), zOp, shV, zAg, zCo, zIn, asSl, if_true, zNi, cond_true]
  rw [x49 k (by omega) n.qs[j].1 (by have := g1.2; omega), x49 k (by omega) n.qs[j].2.1 (by have := g2.2; omega), x53 k (by omega) g3]
  simp (disch := omega) only [zRe, zSt, zNi, decide_eq_true, cond_true, List.length_append]
  refine (ih (j + 1, t ++ be8 n.qs[j].1 ++ be8 n.qs[j].2.1 ++ putW n.qs[j].2.2) _ (by simp; omega) (by kernel_rfl) (by simp; omega) (by simp only [List.length_append]; omega)).trans ?_
  simp only [List.flatMap_cons, shB, List.append_assoc]
 ·have e1 := be8_length n.qf
  have e2 := be8_length n.qt
  have e3 := putW_le hr.qo
  have f1 := hr.qf.2
  have f2 := hr.qt.2
  rw [x53 k (by omega) hr.qo, x49 k (by omega) n.qf (by omega), x49 k (by omega) n.qt (by omega), decide_eq_false (show ¬ (j : Int) < n.qs.length by omega), cond_false]
  simp (disch := omega) only [zRe, zSt, zNi, decide_eq_true, cond_true, List.length_append]
  rw [List.drop_eq_nil_of_le (by omega)]
  simp only [List.flatMap_nil, List.nil_append, endB, List.append_assoc]
theorem hdB_len {n : Nd} (hr : Rt n) : (hdB n).length ≤ 30500000000 := by
 have b1 := be8_length n.kn
 have b2 := be8_length n.sq
 have b3 := be8_length n.sn
 have b4 := be8_length n.sy
 have b5 := be8_length (n.go + 1)
 have b6 := be8_length n.fr
 have b7 := be8_length n.fn
 have b8 := be8_length n.nx
 have b9 := be8_length n.aq
 have c1 := putL_le hr.ln
 have c2 := putL_le hr.al
 have c3 := putB_le hr.ch
 have c4 := volsB_le hr.vs
 have c5 := putW_le hr.kp
 have d1 : (flB n.st).length = 1 := rfl
 have d2 : (flB n.va).length = 1 := rfl
 have d3 : (flB n.sh).length = 1 := rfl
 have d4 : (flB n.fu).length = 1 := rfl
 have d5 : ∀ x : UInt8, [x].length = 1 := fun _ => rfl
 unfold hdB
 generalize be8 n.kn = x1 at *
 generalize be8 n.sq = x2 at *
 generalize be8 n.sn = x3 at *
 generalize be8 n.sy = x4 at *
 generalize be8 (n.go + 1) = x5 at *
 generalize be8 n.fr = x6 at *
 generalize be8 n.fn = x7 at *
 generalize be8 n.nx = x8 at *
 generalize be8 n.aq = x9 at *
 generalize putL n.ln = y1 at *
 generalize putL n.al = y2 at *
 generalize putB n.ch = y3 at *
 generalize volsB n.vs = y4 at *
 generalize putW n.kp = y5 at *
 generalize flB n.st = z1 at *
 generalize flB n.va = z2 at *
 generalize flB n.sh = z3 at *
 generalize flB n.fu = z4 at *
 simp only [List.length_append, d5]
 omega
theorem x12 (k : Nat) (hk : 70300 ≤ k) (n : Nd) (hr : Rt n) (hu : UM n.ch) (hq : n.qs.length ≤ 70000) : W k 12 [.agg (ndL n)] [] = some (.str (nodeB n), []) := by
 obtain ⟨k, rfl⟩ := succ1 (show 1 ≤ k by omega)
 refine (W_tree0 (head12 k (by omega) n hr hu) (by kernel_rfl)).trans ?_
 have hs := hr.ss
 refine loopA_ind (fun a : Nat × List UInt8 => reS n a.2 a.1) (fun a => n.ss.length - a.1) (fun a r => a.1 ≤ n.ss.length → a.2.length ≤ 30500000000 + 3000 * a.1 → a.2 ++ (n.ss.drop a.1).flatMap shB = hdB n ++ n.ss.flatMap shB → r = some (.str (nodeB n), [])) (fun a m ih h0 h1 h2 => ?_) k (0, hdB n) _ (by simp; omega) (by kernel_rfl) (by simp) (by simpa using hdB_len hr) rfl
 obtain ⟨i, t⟩ := a
 simp only at ih h0 h1 h2 ⊢
 rw [b12, List.length_map]
 by_cases hi : i < n.ss.length
 ·obtain ⟨g1, g2, g3⟩ := hr.sk _ (List.getElem_mem hi)
  have e1 := be8_length n.ss[i].1
  have e2 := be8_length n.ss[i].2.1
  have e3 := putW_le g3
  rw [List.drop_eq_getElem_cons hi] at h2
  rw [getM _ _ _ hi, wi (by omega)]
  simp only [decide_eq_true (show (i : Int) < n.ss.length by omega), decide_eq_true (show (0 : Int) ≤ i by omega), zOp, shV, zAg, zCo, zIn, asSl, if_true, zNi, cond_true]
  rw [x49 k (by omega) n.ss[i].1 (by have := g1.2; omega), x49 k (by omega) n.ss[i].2.1 (by have := g2.2; omega), x53 k (by omega) g3]
  simp (disch := omega) only [zRe, zSt, zNi, decide_eq_true, cond_true, List.length_append]
  refine ih (i + 1, t ++ be8 n.ss[i].1 ++ be8 n.ss[i].2.1 ++ putW n.ss[i].2.2) _ (by simp; omega) (by kernel_rfl) (by simp; omega) (by simp only [List.length_append]; omega) ?_
  rw [← h2]
  simp only [List.flatMap_cons, shB, List.append_assoc]
 ·have e3 := putW_le hr.cp
  rw [List.drop_eq_nil_of_le (by omega), List.flatMap_nil, List.append_nil] at h2
  rw [x53 k (by omega) hr.cp, List.length_map, x54 k (by omega) n.qs.length (by omega), decide_eq_false (show ¬ (i : Int) < n.ss.length by omega), cond_false]
  simp (disch := omega) only [zRe, zSt, zNi, decide_eq_true, cond_true, List.length_append, be2_len]
  refine (sets12 k (by omega) n hr hq i false (t ++ putW n.cp ++ be 2 n.qs.length) (by simp only [List.length_append, be2_len]; omega) _ (by kernel_rfl)).trans ?_
  rw [h2, nodeB]
  simp only [endB, List.append_assoc]
open Go.AM Go.Proofs Go
theorem x24 (k : Nat) (hk : 1200 ≤ k) {l : List (Int × Int)} (h : bOk l = true) (hu : UM l) : W k 24 [btsV l] [] = some (.tup [.str (putB l), .int .i64 0], []) := by
 have := bOk_length h
 have e := e53' k (v := btsV l) (.inl ⟨false, rfl⟩) hu (by omega) (by omega)
 rw [if_pos h] at e
 exact W_old0 e (by omega) (by kernel_rfl)
theorem t9 (F : Fns) (N : Nat) (n : Nd) : runOf F 9 N [.agg (ndL n)] [] =
 zRe (F 22 [AV.agg (ndL n)] []) fun v bs => zBo v fun b => zNi bs (bif !b then some (AV.tup [AV.str [], AV.int .i64 1], []) else zRe (F 23 [AV.int .i64 ((List.length (List.map shV (Nd.qs n)) : Nat) : Int), AV.int .i64 2] []) fun v bs => zTC v fun v r => zSt v fun s => zCo r fun v r => zIn .i64 v fun n_1 => zNi r (zNi bs (bif n_1 != 0 then some (AV.tup [AV.str [], AV.int .i64 5], []) else zRe (F 24 [btsV (Nd.ch n)] []) fun v bs => zTC v fun v r => zSt v fun s_1 => zCo r fun v r => zIn .i64 v fun n_2 => zNi r (zNi bs (zRe (F 25 [AV.bool (Nd.st n)] []) fun v bs => zIn .u8 v fun n_3 => zNi bs (zRe (F 25 [AV.bool (Nd.va n)] []) fun v bs => zIn .u8 v fun n_4 => zNi bs (zRe (F 25 [AV.bool (Nd.sh n)] []) fun v bs => zIn .u8 v fun n_5 => zNi bs (zRe (F 25 [AV.bool (Nd.fu n)] []) fun v bs => zIn .u8 v fun n_6 => zNi bs (zRe (F 26 [AV.sl 1 true [AV.int .i64 (Nd.kn n), AV.int .i64 (Nd.sq n), AV.int .i64 (Nd.sn n), AV.int .i64 (Nd.sy n), AV.int .i64 (IntKind.wrap .i64 (Nd.go n + 1)), AV.int .i64 (Nd.fr n), AV.int .i64 (Nd.fn n), AV.int .i64 (Nd.nx n)]] []) fun v bs => zSt v fun s_2 => zNi bs (zRe (F 27 [lnV (Nd.ln n)] []) fun v bs => zSt v fun s_3 => zNi bs (bif decide (List.length s_2 + List.length s_3 ≤ 4611686018427387904) then zRe (F 27 [lnV (Nd.al n)] []) fun v bs => zSt v fun s_4 => zNi bs (bif decide (List.length (s_2 ++ s_3) + List.length s_4 ≤ 4611686018427387904) then zRe (F 26 [AV.sl 1 true [AV.int .i64 (Nd.aq n)]] []) fun v bs => zSt v fun s_5 => zNi bs (bif decide (List.length (s_2 ++ s_3 ++ s_4) + List.length s_5 ≤ 4611686018427387904) then bif decide (List.length (s_2 ++ s_3 ++ s_4 ++ s_5) + List.length s_1 ≤ 4611686018427387904) then zRe (F 28 [vsV (Nd.vs n)] []) fun v bs => zSt v fun s_6 => zNi bs (bif decide (List.length (s_2 ++ s_3 ++ s_4 ++ s_5 ++ s_1) + List.length s_6 ≤ 4611686018427387904) then zRe (F 29 [wsV (Nd.kp n)] []) fun v bs => zSt v fun s_7 => zNi bs (bif decide (List.length (s_2 ++ s_3 ++ s_4 ++ s_5 ++ s_1 ++ s_6) + List.length s_7 ≤ 4611686018427387904) then bif decide (List.length [UInt8.ofNat (Int.toNat (IntKind.wrap .u8 (Nd.ro n))), UInt8.ofNat (Int.toNat n_3), UInt8.ofNat (Int.toNat n_4), UInt8.ofNat (Int.toNat n_5), UInt8.ofNat (Int.toNat n_6), UInt8.ofNat (Int.toNat (IntKind.wrap .u8 (Nd.md n)))] + List.length (s_2 ++ s_3 ++ s_4 ++ s_5 ++ s_1 ++ s_6 ++ s_7) ≤ 4611686018427387904) then bif decide (List.length ([UInt8.ofNat (Int.toNat (IntKind.wrap .u8 (Nd.ro n))), UInt8.ofNat (Int.toNat n_3), UInt8.ofNat (Int.toNat n_4), UInt8.ofNat (Int.toNat n_5), UInt8.ofNat (Int.toNat n_6), UInt8.ofNat (Int.toNat (IntKind.wrap .u8 (Nd.md n)))] ++ (s_2 ++ s_3 ++ s_4 ++ s_5 ++ s_1 ++ s_6 ++ s_7)) + List.length [UInt8.ofNat (Int.toNat (IntKind.wrap .u8 ((List.length (List.map shV (Nd.ss n)) : Nat) : Int)))] ≤ 4611686018427387904) then loopA (zBy F 9 0 N) (zDe 9 0) (zCt F 9 0 N 0) N { nt := 172, t := [(0, AV.agg (ndL n)), (1, AV.ptr 1 0 0), (2, AV.str (Array.toList (ByteArray.data { data := #[] }))), (3, AV.int .i64 0), (4, AV.str s), (5, AV.int .i64 n_1), (6, AV.str s_1), (8, AV.str ([UInt8.ofNat (Int.toNat (IntKind.wrap .u8 (Nd.ro n))), UInt8.ofNat (Int.toNat n_3), UInt8.ofNat (Int.toNat n_4), UInt8.ofNat (Int.toNat n_5), UInt8.ofNat (Int.toNat n_6), UInt8.ofNat (Int.toNat (IntKind.wrap .u8 (Nd.md n)))] ++ (s_2 ++ s_3 ++ s_4 ++ s_5 ++ s_1 ++ s_6 ++ s_7) ++ [UInt8.ofNat (Int.toNat (IntKind.wrap .u8 ((List.length (List.map shV (Nd.ss n)) : Nat) : Int)))])), (16, AV.bool !b), (26, AV.bool (n_1 != 0)), (108, shsV (Nd.ss n)), (109, AV.int .i64 ((List.length (List.map shV (Nd.ss n)) : Nat) : Int)), (110, AV.int .i64 0)], b := [(1, (ndL n))], r := [], g := [], rd := [], wr := [] } else none else none else none) else none) else none else none) else none) else none))))))))))) := by kernel_rfl
def enS (n : Nd) (s p q : List UInt8) (i : Int) : St := ⟨172, [(0, .agg (ndL n)), (1, .ptr 1 0 0), (2, .str []), (3, .int .i64 0), (4, .str p), (5, .int .i64 0), (6, .str q), (8, .str s), (16, .bool false), (26, .bool false), (108, shsV n.ss), (109, .int .i64 ((List.length (List.map shV n.ss) : Nat) : Int)), (110, .int .i64 i)], [(1, ndL n)], [], [], [], []⟩
theorem flag_byte (b : Bool) : UInt8.ofNat (Int.toNat (bif b then (1 : Int) else 0)) = (if b then 1 else 0) := by cases b <;> rfl
theorem u8_byte {z : Int} (h : 0 ≤ z) : UInt8.ofNat (Int.toNat (IntKind.wrap .u8 z)) = UInt8.ofNat z.toNat := by
 have := byte_wrap z.toNat
 rwa [show ((z.toNat : Nat) : Int) = z by omega] at this
theorem bad9 (k : Nat) (hk : 70600 ≤ k) (n : Nd) (hb : NdB n) (h : nodeOk n = false) : W k 9 [.agg (ndL n)] [] = some (.tup [.str [], .int .i64 1], []) := by
 obtain ⟨k, rfl⟩ := succ1 (show 1 ≤ k by omega)
 rw [W_tree0 (t9 (W k) k n) (by kernel_rfl), x22 k (by omega) n hb, h]
 rfl
theorem hdj (x1 x2 x3 x4 x5 x6 z : UInt8) (a b c d e f g h l m q p v w : List UInt8) : ([x1, x2, x3, x4, x5, x6] ++ (a ++ (b ++ (c ++ (d ++ (e ++ (f ++ (g ++ h)))))) ++ l ++ m ++ q ++ p ++ v ++ w) ++ [z]) = [x1] ++ [x2] ++ [x3] ++ [x4] ++ [x5] ++ [x6] ++ a ++ b ++ c ++ d ++ e ++ f ++ g ++ h ++ l ++ m ++ q ++ p ++ v ++ w ++ [z] := by simp
theorem qO {r X : Res} {v : AV} {bs : Boxes} {K : AV → Boxes → Res} (h : r = some (v, bs)) (hk : K v bs = X) : zRe r K = X := by rw [h]; exact hk
theorem qT {X : Res} {l : List AV} {K : List AV → Res} (hk : K l = X) : zTu (.tup l) K = X := hk
theorem qC {α : Type} {X : Res} {v : α} {l : List α} {K : α → List α → Res} (hk : K v l = X) : zCo (v :: l) K = X := hk
theorem qN {α : Type} {X K : Res} (hk : K = X) : zNi ([] : List α) K = X := hk
theorem qS {X : Res} {l : List UInt8} {K : List UInt8 → Res} (hk : K l = X) : zSt (.str l) K = X := hk
theorem qB {X : Res} {b : Bool} {K : Bool → Res} (hk : K b = X) : zBo (.bool b) K = X := hk
theorem qI {X : Res} {k : IntKind} {n : Int} {K : Int → Res} (hk : K n = X) : zIn k (.int k n) K = X := by simp only [zIn, if_true]; exact hk
theorem qA {X : Res} {l : List AV} {K : List AV → Res} (hk : K l = X) : zAg (.agg l) K = X := hk
theorem qL {X : Res} {s : Nat} {f : Bool} {xs : List AV} {K : Nat → Bool → List AV → Res} (hk : K s f xs = X) : asSl (.sl s f xs) K = X := hk
theorem qP {α : Type} {X : Res} {x : Option α} {v : α} {K : α → Res} (h : x = some v) (hk : K v = X) : zOp x K = X := by rw [h]; exact hk
theorem qY {X A B : Res} {b : Bool} (h : b = true) (hk : A = X) : (bif b then A else B) = X := by rw [h]; exact hk
theorem qX {X A B : Res} {b : Bool} (h : b = false) (hk : B = X) : (bif b then A else B) = X := by rw [h]; exact hk
theorem fm8 (p : Int → List UInt8) (a b c d e f g h : Int) : [a, b, c, d, e, f, g, h].flatMap p = p a ++ (p b ++ (p c ++ (p d ++ (p e ++ (p f ++ (p g ++ p h)))))) := by simp
theorem fm1 (p : Int → List UInt8) (a : Int) : [a].flatMap p = p a := by simp
theorem head9 (k : Nat) (hk : 70600 ≤ k) (n : Nd) (hb : NdB n) (hok : nodeOk n = true) (hq : n.qs.length ≤ 65535) : runOf (W k) 9 k [.agg (ndL n)] [] = loopA (zBy (W k) 9 0 k) (zDe 9 0) (zCt (W k) 9 0 k 0) k (enS n (hdB n) (be 2 n.qs.length) (putB n.ch) 0) := by
 have hr := rt_of hok hb.cp
 have hu := hb.um
 have a1 := hr.kn.2
 have a2 := hr.sq.2
 have a3 := hr.sn.2
 have a4 := hr.sy.2
 have a5 := hr.go
 have a6 := hr.fr.2
 have a7 := hr.fn.2
 have a8 := hr.nx.2
 have a9 := hr.aq.2
 have b1 := be8_length n.kn
 have b2 := be8_length n.sq
 have b3 := be8_length n.sn
 have b4 := be8_length n.sy
 have b5 := be8_length (n.go + 1)
 have b6 := be8_length n.fr
 have b7 := be8_length n.fn
 have b8 := be8_length n.nx
 have b9 := be8_length n.aq
 have c1 := putL_le hr.ln
 have c2 := putL_le hr.al
 have c3 := putB_le hr.ch
 have c4 := volsB_le hr.vs
 have c5 := putW_le hr.kp
 have l1 := lined_sm hr.ln
 have l2 := lined_sm hr.al
 have h26 := W_arg (x26 k [n.kn, n.sq, n.sn, n.sy, n.go + 1, n.fr, n.fn, n.nx] (by omega) (by simp; omega) (by simp)) (vs := [AV.sl 1 true [AV.int .i64 n.kn, AV.int .i64 n.sq, AV.int .i64 n.sn, AV.int .i64 n.sy, AV.int .i64 (n.go + 1), AV.int .i64 n.fr, AV.int .i64 n.fn, AV.int .i64 n.nx]]) (by kernel_rfl)
 rw [fm8] at h26
 have h26b := W_arg (x26 k [n.aq] (by omega) (by simp; omega) (by simp)) (vs := [AV.sl 1 true [AV.int .i64 n.aq]]) (by kernel_rfl)
 rw [fm1] at h26b
 rw [t9]
 generalize loopA (zBy (W k) 9 0 k) (zDe 9 0) (zCt (W k) 9 0 k 0) k = L
 refine qO (x22 k (by omega) n hb) ?_
 rw [hok]
 repeat with_reducible first|apply qT|apply qC|apply qN|apply qS|apply qB|apply qI|apply qA|apply qL
 refine qX rfl ?_
 rw [List.length_map]
 refine qO (x23 k (by omega) n.qs.length hq) ?_
 repeat with_reducible first|apply qT|apply qC|apply qN|apply qS|apply qB|apply qI|apply qA|apply qL
 refine qX rfl ?_
 refine qO (x24 k (by omega) hr.ch hu) ?_
 repeat with_reducible first|apply qT|apply qC|apply qN|apply qS|apply qB|apply qI|apply qA|apply qL
 refine qO (x25 k (by omega) _) ?_
 repeat with_reducible first|apply qT|apply qC|apply qN|apply qS|apply qB|apply qI|apply qA|apply qL
 refine qO (x25 k (by omega) _) ?_
 repeat with_reducible first|apply qT|apply qC|apply qN|apply qS|apply qB|apply qI|apply qA|apply qL
 refine qO (x25 k (by omega) _) ?_
 repeat with_reducible first|apply qT|apply qC|apply qN|apply qS|apply qB|apply qI|apply qA|apply qL
 refine qO (x25 k (by omega) _) ?_
 repeat with_reducible first|apply qT|apply qC|apply qN|apply qS|apply qB|apply qI|apply qA|apply qL
 rw [wrap_small (n := n.go + 1) (by omega) (by omega)]
 refine qO h26 ?_
 repeat with_reducible first|apply qT|apply qC|apply qN|apply qS|apply qB|apply qI|apply qA|apply qL
 refine qO (x27 k n.ln (by omega) l1.1 (by omega) hr.ln) ?_
 repeat with_reducible first|apply qT|apply qC|apply qN|apply qS|apply qB|apply qI|apply qA|apply qL
 refine qY (decide_eq_true (by first | omega | (simp only [List.length_append, List.length_cons, List.length_nil, List.length_map]; omega))) ?_
 refine qO (x27 k n.al (by omega) l2.1 (by omega) hr.al) ?_
 repeat with_reducible first|apply qT|apply qC|apply qN|apply qS|apply qB|apply qI|apply qA|apply qL
 refine qY (decide_eq_true (by first | omega | (simp only [List.length_append, List.length_cons, List.length_nil, List.length_map]; omega))) ?_
 refine qO h26b ?_
 repeat with_reducible first|apply qT|apply qC|apply qN|apply qS|apply qB|apply qI|apply qA|apply qL
 refine qY (decide_eq_true (by first | omega | (simp only [List.length_append, List.length_cons, List.length_nil, List.length_map]; omega))) ?_
 refine qY (decide_eq_true (by first | omega | (simp only [List.length_append, List.length_cons, List.length_nil, List.length_map]; omega))) ?_
 refine qO (x28 k (by omega) n.vs (by have := vOk_len hr.vs; omega)) ?_
 repeat with_reducible first|apply qT|apply qC|apply qN|apply qS|apply qB|apply qI|apply qA|apply qL
 refine qY (decide_eq_true (by first | omega | (simp only [List.length_append, List.length_cons, List.length_nil, List.length_map]; omega))) ?_
 refine qO (x29 k n.kp (by omega) hb.kp hr.kp) ?_
 repeat with_reducible first|apply qT|apply qC|apply qN|apply qS|apply qB|apply qI|apply qA|apply qL
 refine qY (decide_eq_true (by first | omega | (simp only [List.length_append, List.length_cons, List.length_nil, List.length_map]; omega))) ?_
 refine qY (decide_eq_true (by first | omega | (simp only [List.length_append, List.length_cons, List.length_nil, List.length_map]; omega))) ?_
 refine qY (decide_eq_true (by first | omega | (simp only [List.length_append, List.length_cons, List.length_nil, List.length_map]; omega))) ?_
 rw [u8_byte (show 0 ≤ n.ro by have := hr.ro; omega), u8_byte hr.md.1, byte_wrap, flag_byte, flag_byte, flag_byte, flag_byte]
 have e := hdj (UInt8.ofNat n.ro.toNat) (if n.st then 1 else 0) (if n.va then 1 else 0) (if n.sh then 1 else 0) (if n.fu then 1 else 0) (UInt8.ofNat n.md.toNat) (UInt8.ofNat n.ss.length) (be8 n.kn) (be8 n.sq) (be8 n.sn) (be8 n.sy) (be8 (n.go + 1)) (be8 n.fr) (be8 n.fn) (be8 n.nx) (putL n.ln) (putL n.al) (be8 n.aq) (putB n.ch) (volsB n.vs) (putW n.kp)
 have e' : hdB n = _ := e.symm
 rw [e', enS, List.length_map]
 rfl
theorem bt1_put (b : Int × Int) (t : List UInt8) (h : 1 ≤ b.1 ∧ b.1 ≤ 255 ∧ b.2 ≠ 0 ∧ b.2 < 4294967296) (h0 : 0 ≤ b.2) : bt1 (btB b ++ t) = b := by
 obtain ⟨v, m⟩ := b
 simp only at h h0
 obtain ⟨v, rfl⟩ : ∃ n : Nat, v = n := ⟨v.toNat, by omega⟩
 obtain ⟨m, rfl⟩ : ∃ n : Nat, m = n := ⟨m.toNat, by omega⟩
 have hl : (be 4 m).length = 4 := be_length 4 m
 have e1 : (btB ((v : Int), (m : Int)) ++ t) = UInt8.ofNat v :: (be 4 m ++ t) := by
  rw [btB, Int.toNat_natCast, Int.toNat_natCast, List.cons_append]
 rw [e1, bt1]
 have e2 : ((UInt8.ofNat v :: (be 4 m ++ t)).drop 1).take 4 = be 4 m := by
  rw [List.drop_succ_cons, List.drop_zero, List.take_append_of_le_length (by omega), List.take_of_length_le (by omega)]
 rw [e2, unbe_be, Nat.zero_mul, Nat.zero_add, Nat.mod_eq_of_lt (by omega)]
 have e3 : ((UInt8.ofNat v :: (be 4 m ++ t)).getD 0 0).toNat = v := by
  rw [List.getD_cons_zero]
  simp
  omega
 rw [e3]
theorem bts_put : ∀ (l : List (Int × Int)) (t : List UInt8), (∀ b ∈ l, 1 ≤ b.1 ∧ b.1 ≤ 255 ∧ b.2 ≠ 0 ∧ b.2 < 4294967296) → UM l → bts l.length (l.flatMap btB ++ t) = l ∧ (l.flatMap btB ++ t).drop (5 * l.length) = t ∧ 5 * l.length ≤ (l.flatMap btB ++ t).length
 | [], t, _, _ => ⟨rfl, rfl, by simp⟩
 | b :: r, t, hp, hu => by
  have hl := btB_length b
  obtain ⟨h1, h2, h3⟩ := bts_put r t (fun c hc => hp c (List.mem_cons_of_mem _ hc)) (fun c hc => hu c (List.mem_cons_of_mem _ hc))
  have hd : (btB b ++ (r.flatMap btB ++ t)).drop 5 = r.flatMap btB ++ t := by
   rw [List.drop_append_of_le_length (by omega), List.drop_eq_nil_of_le (by omega), List.nil_append]
  rw [List.flatMap_cons, List.append_assoc, List.length_cons, bts, hd, h1, bt1_put b _ (hp b (List.mem_cons_self ..)) (hu b (List.mem_cons_self ..)).1]
  refine ⟨rfl, ?_, ?_⟩
  ·rw [show 5 * (r.length + 1) = 5 + 5 * r.length by omega, ← List.drop_drop, hd, h2]
  ·rw [List.length_append]
   omega
theorem parseB_put (l : List (Int × Int)) (t : List UInt8) (hok : bOk l = true) (hu : UM l) : parseB (putB l ++ t) = some (l, t) := by
 have hl := bOk_length hok
 have hp := bitsOk_parts l 0 (by omega) hok
 obtain ⟨h1, h2, h3⟩ := bts_put l t hp hu
 have e : putB l ++ t = be 1 l.length ++ (l.flatMap btB ++ t) := by
  rw [be1 _ (by omega), putB, List.cons_append, List.singleton_append]
 unfold parseB
 rw [e, num_be 1 _ _ (by omega) (by omega)]
 simp only
 rw [if_neg (by omega), h1, h2, if_pos hok]
theorem num_back {w : Nat} {s : List UInt8} {n : Nat} {t : List UInt8} (h : num w s = some (n, t)) : s = be w n ++ t := by
 obtain ⟨h1, h2, h3⟩ := num_at h
 have hw := (num_suffix h).2
 have hl : (s.take w).length = w := by rw [List.length_take]; omega
 have hb := be_unbe (s.take w)
 rw [hl] at hb
 have hn : n = unbe (s.take w) 0 := by rw [← h2, numN, if_pos h1]
 rw [hn, hb, h3, List.take_append_drop]
theorem brs_back : ∀ (n : Nat) (s : List UInt8) (l : List (Int × Int)) (t : List UInt8), brs n s = some (l, t) → s = l.flatMap brB ++ t
 | 0, s, l, t, h => by
  simp only [brs, Option.some.injEq, Prod.mk.injEq] at h
  obtain ⟨rfl, rfl⟩ := h
  rfl
 | n + 1, s, l, t, h => by
  simp only [brs] at h
  split at h
  ·simp at h
  ·rename_i e s1 h1
   split at h
   ·simp at h
   ·rename_i a s2 h2
    split at h
    ·simp at h
    ·rename_i l' s3 h3
     simp only [Option.some.injEq, Prod.mk.injEq] at h
     obtain ⟨rfl, rfl⟩ := h
     have e1 := num_back h1
     have e2 := num_back h2
     have e3 := brs_back n s2 l' s3 h3
     rw [List.flatMap_cons, brB, be8_nat e (num_lt h1).2, be8_nat a (num_lt h2).2, List.append_assoc, List.append_assoc, ← e3, ← e2, ← e1]
theorem takeL_back {s : List UInt8} {l : List (Int × Int)} {t : List UInt8} (h : takeL s = some (l, t)) : s = putL l ++ t := by
 unfold takeL at h
 split at h
 ·simp at h
 ·rename_i n s1 h1
  split at h
  ·simp at h
  ·rename_i l' s2 h2
   split at h
   ·simp only [Option.some.injEq, Prod.mk.injEq] at h
    obtain ⟨rfl, rfl⟩ := h
    have e1 := num_back h1
    have e2 := brs_back n s1 l' s2 h2
    have hl := (brs_spec n s1 l' s2 h2).2.1
    have hlt := (num_lt h1).1
    rw [be1 n (by omega)] at e1
    rw [putL, hl, List.cons_append, ← e2, e1]
    rfl
   ·simp at h
theorem bt1_back (s : List UInt8) (h : 5 ≤ s.length) : s = btB (bt1 s) ++ s.drop 5 := by
 obtain ⟨a, b, c, d, e, r, hs⟩ := five s 0 (by omega)
 rw [List.drop_zero] at hs
 subst hs
 have hu := be_unbe [b, c, d, e]
 simp only [List.length_cons, List.length_nil] at hu
 have hb : bt1 (a :: b :: c :: d :: e :: r) = (((a.toNat : Nat) : Int), ((unbe [b, c, d, e] 0 : Nat) : Int)) := rfl
 rw [hb, btB, Int.toNat_natCast, Int.toNat_natCast, hu]
 simp
theorem bts_back : ∀ (n : Nat) (s : List UInt8), 5 * n ≤ s.length → s = (bts n s).flatMap btB ++ s.drop (5 * n)
 | 0, s, h => rfl
 | n + 1, s, h => by
  have e1 := bt1_back s (by omega)
  have e2 := bts_back n (s.drop 5) (by rw [List.length_drop]; omega)
  rw [List.drop_drop, show 5 + 5 * n = 5 * (n + 1) by omega] at e2
  rw [bts, List.flatMap_cons, List.append_assoc, ← e2]
  exact e1
theorem parseB_back {s : List UInt8} {l : List (Int × Int)} {t : List UInt8} (h : parseB s = some (l, t)) : s = putB l ++ t ∧ UM l ∧ bOk l = true := by
 unfold parseB at h
 split at h
 ·simp at h
 ·rename_i n s1 h1
  split at h
  ·simp at h
  ·rename_i hl
   split at h
   ·rename_i hok
    simp only [Option.some.injEq, Prod.mk.injEq] at h
    obtain ⟨rfl, rfl⟩ := h
    have e1 := num_back h1
    have hlt := (num_lt h1).1
    have e2 := bts_back n s1 (by omega)
    rw [be1 n (by omega)] at e1
    refine ⟨?_, bts_um n s1, hok⟩
    rw [putB, bts_length, List.cons_append, ← e2, e1]
    rfl
   ·simp at h
theorem takeT_back {s d t : List UInt8} (h : takeT s = some (d, t)) : s = be 2 d.length ++ d ++ t := by
 unfold takeT at h
 split at h
 ·simp at h
 ·rename_i n s1 h1
  split at h
  ·simp at h
  ·rename_i hl
   simp only [Option.some.injEq, Prod.mk.injEq] at h
   obtain ⟨rfl, rfl⟩ := h
   have e1 := num_back h1
   have hlen : (s1.take n).length = n := by rw [List.length_take]; omega
   rw [hlen, List.append_assoc, List.take_append_drop, ← e1]
theorem wr1_back {s : List UInt8} {w : Wr} {t : List UInt8} (h : wr1 s = some (w, t)) : s = wrB w ++ t := by
 unfold wr1 at h
 split at h
 ·simp at h
 ·rename_i v s1 h1
  split at h
  ·simp at h
  ·rename_i b s2 h2
   split at h
   ·simp at h
   ·rename_i d s3 h3
    simp only [Option.some.injEq, Prod.mk.injEq] at h
    obtain ⟨rfl, rfl⟩ := h
    have e1 := num_back h1
    have e2 := num_back h2
    have e3 := takeT_back h3
    have l1 := (num_lt h1).1
    have l2 := (num_lt h2).1
    rw [be1 v (by omega)] at e1
    rw [be1 b (by omega)] at e2
    rw [e1, e2, e3, wrB]
    simp
theorem wrs_back : ∀ (n : Nat) (s : List UInt8) (l : List Wr) (t : List UInt8), wrs n s = some (l, t) → s = l.flatMap wrB ++ t
 | 0, s, l, t, h => by
  simp only [wrs, Option.some.injEq, Prod.mk.injEq] at h
  obtain ⟨rfl, rfl⟩ := h
  rfl
 | n + 1, s, l, t, h => by
  simp only [wrs] at h
  split at h
  ·simp at h
  ·rename_i w s1 h1
   split at h
   ·simp at h
   ·rename_i l' s2 h2
    simp only [Option.some.injEq, Prod.mk.injEq] at h
    obtain ⟨rfl, rfl⟩ := h
    have e1 := wr1_back h1
    have e2 := wrs_back n s1 l' s2 h2
    rw [List.flatMap_cons, List.append_assoc, ← e2, ← e1]
theorem takeW_back {s : List UInt8} {l : List Wr} {t : List UInt8} (h : takeW s = some (l, t)) : s = putW l ++ t := by
 unfold takeW at h
 split at h
 ·simp at h
 ·rename_i n s1 h1
  split at h
  ·simp at h
  ·rename_i l' s2 h2
   split at h
   ·simp only [Option.some.injEq, Prod.mk.injEq] at h
    obtain ⟨rfl, rfl⟩ := h
    have e1 := num_back h1
    have e2 := wrs_back n s1 l' s2 h2
    have hl := (wrs_suffix n s1 l' s2 h2).2
    rw [putW, hl, List.append_assoc, ← e2, ← e1]
   ·simp at h
def txts : Nat → List UInt8 → Option (List (List UInt8) × List UInt8)
 | 0, s => some ([], s)
 | n + 1, s => match takeT s with
  | none => none
  | some (t, s1) => match txts n s1 with
   | none => none
   | some (l, s2) => some (t :: l, s2)
def items (s : List UInt8) : Option (List (List UInt8) × List UInt8) := match num 2 s with
 | none => none
 | some (n, s1) => txts n s1
theorem txts_put : ∀ (l : List (List UInt8)) (b t : List UInt8), lst l = some b → txts l.length (b ++ t) = some (l, t)
 | [], b, t, h => by
  simp only [lst, Option.some.injEq] at h
  subst h
  rfl
 | s :: r, b, t, h => by
  rw [lst] at h
  split at h
  ·simp at h
  ·rename_i h1
   cases hr : lst r with
   | none => rw [hr] at h; simp at h
   | some c =>
    rw [hr] at h
    simp only [Option.map_some, Option.some.injEq] at h
    subst h
    have := txts_put r c t hr
    rw [List.length_cons, txts, List.append_assoc (be 2 s.length ++ s), takeT_put s _ (by omega)]
    simp only
    rw [this]
theorem txts_back : ∀ (n : Nat) (s : List UInt8) (l : List (List UInt8)) (t : List UInt8), txts n s = some (l, t) → l.length = n ∧ ∃ b, lst l = some b ∧ s = b ++ t
 | 0, s, l, t, h => by
  simp only [txts, Option.some.injEq, Prod.mk.injEq] at h
  obtain ⟨rfl, rfl⟩ := h
  exact ⟨rfl, [], rfl, rfl⟩
 | n + 1, s, l, t, h => by
  simp only [txts] at h
  split at h
  ·simp at h
  ·rename_i a s1 h1
   split at h
   ·simp at h
   ·rename_i l2 s2 h2
    simp only [Option.some.injEq, Prod.mk.injEq] at h
    obtain ⟨rfl, rfl⟩ := h
    obtain ⟨e1, b, e2, e3⟩ := txts_back n s1 l2 s2 h2
    have e4 := takeT_back h1
    have e5 : a.length ≤ 65535 := by
     unfold takeT at h1
     split at h1
     ·simp at h1
     ·rename_i m u h5
      split at h1
      ·simp at h1
      ·rename_i h6
       simp only [Option.some.injEq, Prod.mk.injEq] at h1
       have := (num_lt h5).1
       rw [← h1.1, List.length_take]
       omega
    refine ⟨by rw [List.length_cons, e1], (be 2 a.length ++ a) ++ b, ?_, ?_⟩
    ·rw [lst, if_neg (by omega), e2]
     rfl
    ·rw [e4, e3, List.append_assoc (be 2 a.length ++ a)]
theorem items_put (l : List (List UInt8)) (b t : List UInt8) (hl : l.length ≤ 65535) (h : lst l = some b) : items (be 2 l.length ++ b ++ t) = some (l, t) := by
 unfold items
 rw [List.append_assoc, num_be 2 l.length _ (by omega) (by omega)]
 exact txts_put l b t h
theorem items_back {s : List UInt8} {l : List (List UInt8)} {t : List UInt8} (h : items s = some (l, t)) : l.length ≤ 65535 ∧ ∃ b, lst l = some b ∧ s = be 2 l.length ++ b ++ t := by
 unfold items at h
 split at h
 ·simp at h
 ·rename_i n s1 h1
  obtain ⟨e1, b, e2, e3⟩ := txts_back n s1 l t h
  have e4 := num_back h1
  have e5 := (num_lt h1).1
  refine ⟨by omega, b, e2, ?_⟩
  rw [e4, e3, e1, List.append_assoc]
abbrev Rd := List UInt8 × Bool
def stp {α : Type} (x : Option (α × List UInt8)) (z : α) (r : Rd) : α × Rd := if r.2 then (z, r) else match x with
 | none => (z, (r.1, true))
 | some (v, t) => (v, (t, false))
theorem stp_good {α : Type} {x : Option (α × List UInt8)} {z : α} {r : Rd} {v : α} {r' : Rd} (h : stp x z r = (v, r')) (hb : r'.2 = false) : r.2 = false ∧ x = some (v, r'.1) := by
 unfold stp at h
 cases hr : r.2 with
 | true =>
  rw [hr, if_pos rfl] at h
  simp only [Prod.mk.injEq] at h
  rw [← h.2, hr] at hb
  simp at hb
 | false =>
  rw [hr, if_neg (by simp)] at h
  cases x with
  | none =>
   simp only [Prod.mk.injEq] at h
   rw [← h.2] at hb
   simp at hb
  | some a =>
   obtain ⟨u, t⟩ := a
   simp only [Prod.mk.injEq] at h
   obtain ⟨rfl, rfl⟩ := h
   exact ⟨rfl, rfl⟩
theorem stp_put {α : Type} {x : Option (α × List UInt8)} {z v : α} {s t : List UInt8} (h : x = some (v, t)) : stp x z (s, false) = (v, (t, false)) := by
 subst h
 rfl
def nuR (w : Nat) (r : Rd) : Nat × Rd := stp (num w r.1) 0 r
def flR (r : Rd) : Bool × Rd := (decide ((nuR 1 r).1 = 1), ((nuR 1 r).2.1, (nuR 1 r).2.2 || decide ((nuR 1 r).1 > 1)))
def liR (r : Rd) : List (Int × Int) × Rd := stp (takeL r.1) [] r
def wrR (r : Rd) : List Wr × Rd := stp (takeW r.1) [] r
def itR (r : Rd) : List (List UInt8) × Rd := stp (items r.1) [] r
def btR (r : Rd) : List (Int × Int) × Rd := stp (parseB r.1) [] r
def voR : Nat → Rd → List Vol × Rd
 | 0, r => ([], r)
 | n + 1, r => (((((nuR 1 r).1 : Nat) : Int), (itR (nuR 1 r).2).1) :: (voR n (itR (nuR 1 r).2).2).1, (voR n (itR (nuR 1 r).2).2).2)
def vsR (r : Rd) : List Vol × Rd := voR (nuR 1 r).1 (nuR 1 r).2
def s1R (r : Rd) : Shot × Rd := (((((nuR 8 r).1 : Nat) : Int), (((nuR 8 (nuR 8 r).2).1 : Nat) : Int), (wrR (nuR 8 (nuR 8 r).2).2).1), (wrR (nuR 8 (nuR 8 r).2).2).2)
def shR : Nat → Rd → List Shot × Rd
 | 0, r => ([], r)
 | n + 1, r => ((s1R r).1 :: (shR n (s1R r).2).1, (shR n (s1R r).2).2)
def seR : Nat → Rd → List Shot × Rd
 | 0, r => ([], r)
 | n + 1, r => if (s1R r).2.2 then ([(s1R r).1], (s1R r).2) else ((s1R r).1 :: (seR n (s1R r).2).1, (seR n (s1R r).2).2)
theorem nu_back {w : Nat} {r : Rd} {n : Nat} {r' : Rd} (h : nuR w r = (n, r')) (hb : r'.2 = false) : r.2 = false ∧ r.1 = be w n ++ r'.1 ∧ n < 256 ^ w ∧ n < 9223372036854775808 := by
 obtain ⟨h1, h2⟩ := stp_good h hb
 exact ⟨h1, num_back h2, num_lt h2⟩
theorem fl_back {r : Rd} {b : Bool} {r' : Rd} (h : flR r = (b, r')) (hb : r'.2 = false) : r.2 = false ∧ r.1 = flB b ++ r'.1 := by
 unfold flR at h
 simp only [Prod.mk.injEq] at h
 obtain ⟨h1, h2⟩ := h
 rw [← h2] at hb ⊢
 simp only [Bool.or_eq_false_iff, decide_eq_false_iff_not] at hb
 obtain ⟨g1, g2, g3, g4⟩ := nu_back (Prod.eta (nuR 1 r)).symm hb.1
 refine ⟨g1, ?_⟩
 rw [g2, be1 _ (by omega), flB, ← h1]
 have g5 : (nuR 1 r).1 = 0 ∨ (nuR 1 r).1 = 1 := by omega
 rcases g5 with g | g <;> rw [g] <;> rfl
theorem li_back {r : Rd} {l : List (Int × Int)} {r' : Rd} (h : liR r = (l, r')) (hb : r'.2 = false) : r.2 = false ∧ r.1 = putL l ++ r'.1 ∧ lined l = true := by
 obtain ⟨h1, h2⟩ := stp_good h hb
 refine ⟨h1, takeL_back h2, ?_⟩
 unfold takeL at h2
 split at h2
 ·simp at h2
 ·split at h2
  ·simp at h2
  ·split at h2
   ·rename_i h3
    simp only [Option.some.injEq, Prod.mk.injEq] at h2
    rw [← h2.1]
    exact h3
   ·simp at h2
theorem wr_back {r : Rd} {l : List Wr} {r' : Rd} (h : wrR r = (l, r')) (hb : r'.2 = false) : r.2 = false ∧ r.1 = putW l ++ r'.1 ∧ wOk l = true := by
 obtain ⟨h1, h2⟩ := stp_good h hb
 refine ⟨h1, takeW_back h2, ?_⟩
 unfold takeW at h2
 split at h2
 ·simp at h2
 ·split at h2
  ·simp at h2
  ·split at h2
   ·rename_i h3
    simp only [Option.some.injEq, Prod.mk.injEq] at h2
    rw [← h2.1]
    exact h3
   ·simp at h2
theorem bt_back {r : Rd} {l : List (Int × Int)} {r' : Rd} (h : btR r = (l, r')) (hb : r'.2 = false) : r.2 = false ∧ r.1 = putB l ++ r'.1 ∧ UM l ∧ bOk l = true := by
 obtain ⟨h1, h2⟩ := stp_good h hb
 exact ⟨h1, parseB_back h2⟩
theorem listE_some {l : List (List UInt8)} {b : List UInt8} (hl : l.length ≤ 65535) (h : lst l = some b) : (listE l).1 = be 2 l.length ++ b := by
 rw [listE, if_neg (by omega), h]
theorem it_back {r : Rd} {l : List (List UInt8)} {r' : Rd} (h : itR r = (l, r')) (hb : r'.2 = false) : r.2 = false ∧ r.1 = (listE l).1 ++ r'.1 ∧ l.length ≤ 65535 := by
 obtain ⟨h1, h2⟩ := stp_good h hb
 obtain ⟨e1, b, e2, e3⟩ := items_back h2
 exact ⟨h1, by rw [listE_some e1 e2, e3], e1⟩
theorem vo_back : ∀ (n : Nat) (r : Rd) (l : List Vol) (r' : Rd), voR n r = (l, r') → r'.2 = false → r.2 = false ∧ r.1 = l.flatMap vB ++ r'.1 ∧ l.length = n
 | 0, r, l, r', h, hb => by
  simp only [voR, Prod.mk.injEq] at h
  obtain ⟨rfl, rfl⟩ := h
  exact ⟨hb, rfl, rfl⟩
 | n + 1, r, l, r', h, hb => by
  simp only [voR, Prod.mk.injEq] at h
  obtain ⟨rfl, rfl⟩ := h
  obtain ⟨a1, a2, a3⟩ := vo_back n _ _ _ (Prod.eta _).symm hb
  obtain ⟨b1, b2, b3⟩ := it_back (Prod.eta _).symm a1
  obtain ⟨c1, c2, c3, c4⟩ := nu_back (Prod.eta _).symm b1
  refine ⟨c1, ?_, by rw [List.length_cons, a3]⟩
  rw [List.flatMap_cons, c2, b2, a2, be1 _ (by omega), vB, byte_wrap]
  simp only [List.cons_append, List.nil_append, List.append_assoc]
theorem vs_back {r : Rd} {l : List Vol} {r' : Rd} (h : vsR r = (l, r')) (hb : r'.2 = false) : r.2 = false ∧ r.1 = volsB l ++ r'.1 ∧ l.length ≤ 255 := by
 unfold vsR at h
 obtain ⟨a1, a2, a3⟩ := vo_back _ _ _ _ h hb
 obtain ⟨c1, c2, c3, c4⟩ := nu_back (Prod.eta _).symm a1
 refine ⟨c1, ?_, by omega⟩
 rw [c2, a2, be1 _ (by omega), volsB, a3]
 simp only [List.cons_append, List.nil_append, List.append_assoc]
def Sk (s : Shot) : Prop := 0 ≤ s.1 ∧ s.1 < 9223372036854775808 ∧ 0 ≤ s.2.1 ∧ s.2.1 < 9223372036854775808 ∧ wOk s.2.2 = true
theorem s1_back {r : Rd} {s : Shot} {r' : Rd} (h : s1R r = (s, r')) (hb : r'.2 = false) : r.2 = false ∧ r.1 = shB s ++ r'.1 ∧ Sk s := by
 simp only [s1R, Prod.mk.injEq] at h
 obtain ⟨rfl, rfl⟩ := h
 obtain ⟨a1, a2, a3⟩ := wr_back (Prod.eta _).symm hb
 obtain ⟨b1, b2, b3, b4⟩ := nu_back (Prod.eta _).symm a1
 obtain ⟨c1, c2, c3, c4⟩ := nu_back (Prod.eta _).symm b1
 refine ⟨c1, ?_, by simp only [Sk]; exact ⟨by omega, by omega, by omega, by omega, a3⟩⟩
 rw [c2, b2, a2, shB]
 simp only [be8_nat _ c4, be8_nat _ b4, List.append_assoc]
theorem sh_back : ∀ (n : Nat) (r : Rd) (l : List Shot) (r' : Rd), shR n r = (l, r') → r'.2 = false → r.2 = false ∧ r.1 = l.flatMap shB ++ r'.1 ∧ l.length = n ∧ ∀ s ∈ l, Sk s
 | 0, r, l, r', h, hb => by
  simp only [shR, Prod.mk.injEq] at h
  obtain ⟨rfl, rfl⟩ := h
  exact ⟨hb, rfl, rfl, by simp⟩
 | n + 1, r, l, r', h, hb => by
  simp only [shR, Prod.mk.injEq] at h
  obtain ⟨rfl, rfl⟩ := h
  obtain ⟨a1, a2, a3, a4⟩ := sh_back n _ _ _ (Prod.eta _).symm hb
  obtain ⟨b1, b2, b3⟩ := s1_back (Prod.eta _).symm a1
  refine ⟨b1, ?_, by rw [List.length_cons, a3], fun s hs => ?_⟩
  ·rw [List.flatMap_cons, b2, a2, List.append_assoc]
  ·rcases List.mem_cons.1 hs with rfl | hs
   ·exact b3
   ·exact a4 s hs
theorem se_back : ∀ (n : Nat) (r : Rd) (l : List Shot) (r' : Rd), seR n r = (l, r') → r'.2 = false → r.2 = false ∧ r.1 = l.flatMap shB ++ r'.1 ∧ l.length = n ∧ ∀ s ∈ l, Sk s
 | 0, r, l, r', h, hb => by
  simp only [seR, Prod.mk.injEq] at h
  obtain ⟨rfl, rfl⟩ := h
  exact ⟨hb, rfl, rfl, by simp⟩
 | n + 1, r, l, r', h, hb => by
  rw [seR] at h
  split at h
  ·rename_i h1
   simp only [Prod.mk.injEq] at h
   rw [← h.2, h1] at hb
   simp at hb
  ·simp only [Prod.mk.injEq] at h
   obtain ⟨rfl, rfl⟩ := h
   obtain ⟨a1, a2, a3, a4⟩ := se_back n _ _ _ (Prod.eta _).symm hb
   obtain ⟨b1, b2, b3⟩ := s1_back (Prod.eta _).symm a1
   refine ⟨b1, ?_, by rw [List.length_cons, a3], fun s hs => ?_⟩
   ·rw [List.flatMap_cons, b2, a2, List.append_assoc]
   ·rcases List.mem_cons.1 hs with rfl | hs
    ·exact b3
    ·exact a4 s hs
theorem nu_put (w n : Nat) (t : List UInt8) (h : n < 256 ^ w) (h2 : n < 9223372036854775808) : nuR w (be w n ++ t, false) = (n, (t, false)) := stp_put (num_be w n t h h2)
theorem nu_put1 (z : Int) (t : List UInt8) (h : 0 ≤ z ∧ z < 256) : nuR 1 (UInt8.ofNat z.toNat :: t, false) = (z.toNat, (t, false)) := by
 have := nu_put 1 z.toNat t (by omega) (by omega)
 rw [be1 _ (by omega)] at this
 exact this
theorem nu_put8 (z : Int) (t : List UInt8) (h : 0 ≤ z) (h2 : z < 9223372036854775808) : nuR 8 (be8 z ++ t, false) = (z.toNat, (t, false)) := by
 have := nu_put 8 z.toNat t (by omega) (by omega)
 rwa [← be8_nat _ (by omega), Int.toNat_of_nonneg h] at this
theorem fl_put (b : Bool) (t : List UInt8) : flR (flB b ++ t, false) = (b, (t, false)) := by
 have h : nuR 1 (flB b ++ t, false) = (if b then 1 else 0, (t, false)) := by
  have := nu_put 1 (if b then 1 else 0) t (by split <;> omega) (by split <;> omega)
  rw [be1 _ (by split <;> omega)] at this
  cases b <;> exact this
 unfold flR
 rw [h]
 cases b <;> rfl
theorem li_put (l : List (Int × Int)) (t : List UInt8) (h : lined l = true) : liR (putL l ++ t, false) = (l, (t, false)) := stp_put (takeL_put l t h)
theorem wr_put (l : List Wr) (t : List UInt8) (h : wOk l = true) : wrR (putW l ++ t, false) = (l, (t, false)) := stp_put (takeW_put l t h)
theorem bt_put (l : List (Int × Int)) (t : List UInt8) (h : bOk l = true) (hu : UM l) : btR (putB l ++ t, false) = (l, (t, false)) := stp_put (parseB_put l t h hu)
theorem it_put (l : List (List UInt8)) (b t : List UInt8) (hl : l.length ≤ 65535) (h : lst l = some b) : itR ((listE l).1 ++ t, false) = (l, (t, false)) := by
 rw [listE_some hl h]
 exact stp_put (items_put l b t hl h)
theorem lst_short : ∀ (l : List (List UInt8)), l.any longB = false → ∃ b, lst l = some b
 | [], _ => ⟨[], rfl⟩
 | s :: r, h => by
  rw [List.any_cons, Bool.or_eq_false_iff] at h
  obtain ⟨b, hb⟩ := lst_short r h.2
  have h1 := h.1
  rw [longB, decide_eq_false_iff_not] at h1
  exact ⟨_, by rw [lst, if_neg (by omega), hb]; rfl⟩
def Vk (v : Vol) : Prop := 0 ≤ v.1 ∧ v.1 ≤ 255 ∧ v.2.length ≤ 65535 ∧ ∃ b, lst v.2 = some b
theorem vsOk_k : ∀ (l : List Vol) (z : Int), 0 ≤ z → vsOk z l = true → ∀ v ∈ l, Vk v
 | [], z, _, _ => by simp
 | v :: r, z, hz, h => by
  rw [vsOk, Bool.and_eq_true, Bool.and_eq_true, decide_eq_true_eq] at h
  obtain ⟨⟨h1, h2, h3, h4⟩, h5, h6⟩ := h
  intro u hu
  rcases List.mem_cons.1 hu with rfl | hu
  ·exact ⟨by omega, h2, by omega, lst_short _ (by simpa using h5)⟩
  ·exact vsOk_k r v.1 (by omega) h6 u hu
theorem vOk_k {l : List Vol} (h : vOk l = true) : l.length ≤ 4 ∧ ∀ v ∈ l, Vk v := by
 rw [vOk, Bool.and_eq_true, decide_eq_true_eq] at h
 exact ⟨h.1, vsOk_k l 0 (by omega) h.2⟩
theorem vB_cons (v : Vol) (h : 0 ≤ v.1) : vB v = UInt8.ofNat v.1.toNat :: (listE v.2).1 := by
 have := byte_wrap v.1.toNat
 rw [Int.toNat_of_nonneg h] at this
 rw [vB, this]
theorem vo_put : ∀ (l : List Vol) (t : List UInt8), (∀ v ∈ l, Vk v) → voR l.length (l.flatMap vB ++ t, false) = (l, (t, false))
 | [], t, _ => rfl
 | v :: r, t, h => by
  obtain ⟨h1, h2, h3, b, h4⟩ := h v (List.mem_cons_self ..)
  have hr := vo_put r t fun u hu => h u (List.mem_cons_of_mem _ hu)
  rw [List.length_cons, voR, List.flatMap_cons, vB_cons v h1, List.append_assoc, List.cons_append, nu_put1 v.1 _ ⟨h1, by omega⟩]
  simp only
  rw [it_put v.2 b _ h3 h4]
  simp only
  rw [hr, Int.toNat_of_nonneg h1]
theorem vs_put (l : List Vol) (t : List UInt8) (h : vOk l = true) : vsR (volsB l ++ t, false) = (l, (t, false)) := by
 obtain ⟨h1, h2⟩ := vOk_k h
 have := nu_put1 (l.length : Int) (l.flatMap vB ++ t) ⟨by omega, by omega⟩
 rw [Int.toNat_natCast] at this
 rw [vsR, volsB, List.cons_append, this]
 exact vo_put l t h2
theorem s1_put (s : Shot) (t : List UInt8) (h : Sk s) : s1R (shB s ++ t, false) = (s, (t, false)) := by
 obtain ⟨h1, h2, h3, h4, h5⟩ := h
 unfold s1R
 rw [shB, List.append_assoc, List.append_assoc, nu_put8 s.1 _ h1 h2]
 simp only
 rw [nu_put8 s.2.1 _ h3 h4]
 simp only
 rw [wr_put s.2.2 t h5]
 simp only
 rw [Int.toNat_of_nonneg h1, Int.toNat_of_nonneg h3]
theorem sh_put : ∀ (l : List Shot) (t : List UInt8), (∀ s ∈ l, Sk s) → shR l.length (l.flatMap shB ++ t, false) = (l, (t, false))
 | [], t, _ => rfl
 | s :: r, t, h => by
  have hr := sh_put r t fun u hu => h u (List.mem_cons_of_mem _ hu)
  rw [List.length_cons, shR, List.flatMap_cons, List.append_assoc, s1_put s _ (h s (List.mem_cons_self ..))]
  simp only
  rw [hr]
theorem se_put : ∀ (l : List Shot) (t : List UInt8), (∀ s ∈ l, Sk s) → seR l.length (l.flatMap shB ++ t, false) = (l, (t, false))
 | [], t, _ => rfl
 | s :: r, t, h => by
  have hr := se_put r t fun u hu => h u (List.mem_cons_of_mem _ hu)
  rw [List.length_cons, seR, List.flatMap_cons, List.append_assoc, s1_put s _ (h s (List.mem_cons_self ..))]
  simp only [Bool.false_eq_true, if_false]
  rw [hr]
theorem t89 (F : Fns) (N : Nat) (s rest : List UInt8) (b : Bool) (n e : Int) : runOf F 89 N [.ptr 0 0 0, .int .i64 n, .str rest, .int .i64 e] [[.str s, .bool b]] =
 bif b then some (AV.int .i64 0, [[AV.str s, AV.bool true]]) else bif e != 0 then some (AV.int .i64 0, [[AV.str s, AV.bool true]]) else some (AV.int .i64 n, [[AV.str rest, AV.bool b]]) := by kernel_rfl
theorem t91 (F : Fns) (N : Nat) (s rest : List UInt8) (b : Bool) (l : List (Int × Int)) (e : Int) : runOf F 91 N [.ptr 0 0 0, lnV l, .str rest, .int .i64 e] [[.str s, .bool b]] =
 bif b then some (AV.sl 0 true [], [[AV.str s, AV.bool true]]) else bif e != 0 then some (AV.sl 0 true [], [[AV.str s, AV.bool true]]) else some ((lnV l), [[AV.str rest, AV.bool b]]) := by kernel_rfl
theorem t44 (F : Fns) (N : Nat) (s rest : List UInt8) (b : Bool) (l : List (Int × Int)) (e : Int) : runOf F 44 N [.ptr 0 0 0, btsV l, .str rest, .int .i64 e] [[.str s, .bool b]] =
 bif b then some (AV.sl 0 true [], [[AV.str s, AV.bool true]]) else bif e != 0 then some (AV.sl 0 true [], [[AV.str s, AV.bool true]]) else some ((btsV l), [[AV.str rest, AV.bool b]]) := by kernel_rfl
theorem t93 (F : Fns) (N : Nat) (s rest : List UInt8) (b : Bool) (l : List (List UInt8)) (e : Int) : runOf F 93 N [.ptr 0 0 0, ssV l, .str rest, .int .i64 e] [[.str s, .bool b]] =
 bif b then some (AV.sl 0 true [], [[AV.str s, AV.bool true]]) else bif e != 0 then some (AV.sl 0 true [], [[AV.str s, AV.bool true]]) else some ((ssV l), [[AV.str rest, AV.bool b]]) := by kernel_rfl
theorem t95 (F : Fns) (N : Nat) (s rest : List UInt8) (b : Bool) (l : List Wr) (e : Int) : runOf F 95 N [.ptr 0 0 0, wsV l, .str rest, .int .i64 e] [[.str s, .bool b]] =
 bif b then some (AV.sl 0 true [], [[AV.str s, AV.bool true]]) else bif e != 0 then some (AV.sl 0 true [], [[AV.str s, AV.bool true]]) else some ((wsV l), [[AV.str rest, AV.bool b]]) := by kernel_rfl
theorem t40 (F : Fns) (N : Nat) (s : List UInt8) (b : Bool) (w : Int) : runOf F 40 N [.ptr 0 0 0, .int .i64 w] [[.str s, .bool b]] =
 zRe (F 88 [AV.str s, AV.int .i64 w] []) fun v bs => zTC v fun v r => zIn .i64 v fun n => zCo r fun v r => zSt v fun s_1 => zCo r fun v r => zIn .i64 v fun n_1 => zNi r (zNi bs (zRe (F 89 [AV.ptr 0 0 0, AV.int .i64 n, AV.str s_1, AV.int .i64 n_1] [[AV.str s, AV.bool b]]) fun v bs => zIn .i64 v fun n => zB2 bs fun s b => (some (AV.int .i64 n, [[AV.str s, AV.bool b]])))) := by kernel_rfl
theorem t41 (F : Fns) (N : Nat) (s : List UInt8) (b : Bool) : runOf F 41 N [.ptr 0 0 0] [[.str s, .bool b]] =
 zRe (F 40 [AV.ptr 0 0 0, AV.int .i64 1] [[AV.str s, AV.bool b]]) fun v bs => zIn .i64 v fun n => zB2 bs fun s b => (bif b then some (AV.bool (n == 1), [[AV.str s, AV.bool true]]) else some (AV.bool (n == 1), [[AV.str s, AV.bool (decide (n > 1))]])) := by kernel_rfl
theorem t42 (F : Fns) (N : Nat) (s : List UInt8) (b : Bool) : runOf F 42 N [.ptr 0 0 0] [[.str s, .bool b]] =
 zRe (F 90 [AV.str s] []) fun v bs => zTC v fun v r => asSl v fun m fl xs => zCo r fun v r => zSt v fun s_1 => zCo r fun v r => zIn .i64 v fun n => zNi r (zNi bs (zRe (F 91 [AV.ptr 0 0 0, AV.sl m fl xs, AV.str s_1, AV.int .i64 n] [[AV.str s, AV.bool b]]) fun v bs => asSl v fun m fl xs => zB2 bs fun s b => (some (AV.sl m fl xs, [[AV.str s, AV.bool b]])))) := by kernel_rfl
theorem t46 (F : Fns) (N : Nat) (s : List UInt8) (b : Bool) : runOf F 46 N [.ptr 0 0 0] [[.str s, .bool b]] =
 zRe (F 94 [AV.str s] []) fun v bs => zTC v fun v r => asSl v fun m fl xs => zCo r fun v r => zSt v fun s_1 => zCo r fun v r => zIn .i64 v fun n => zNi r (zNi bs (zRe (F 95 [AV.ptr 0 0 0, AV.sl m fl xs, AV.str s_1, AV.int .i64 n] [[AV.str s, AV.bool b]]) fun v bs => asSl v fun m fl xs => zB2 bs fun s b => (some (AV.sl m fl xs, [[AV.str s, AV.bool b]])))) := by kernel_rfl
abbrev bxR (r : Rd) : Boxes := [[.str r.1, .bool r.2]]
theorem x91b (k : Nat) (hk : 1 ≤ k) (r : Rd) (l : List (Int × Int)) (t : List UInt8) (e : Int) (h : r.2 = true ∨ e ≠ 0) : W k 91 [.ptr 0 0 0, lnV l, .str t, .int .i64 e] (bxR r) = some (lnV [], [[.str r.1, .bool true]]) := by
 obtain ⟨k, rfl⟩ := succ1 (show 1 ≤ k by omega)
 refine (W_tree (r := some (.sl 0 true [], [[.str r.1, .bool true]])) ((t91 (W k) k r.1 t r.2 l e).trans ?_) (by kernel_rfl)).trans (by kernel_rfl)
 rcases h with h | h
 ·rw [h]; rfl
 ·rw [show (e != 0) = true by simpa using h]
  cases r.2 <;> rfl
theorem x91g (k : Nat) (hk : 1 ≤ k) (s : List UInt8) (l : List (Int × Int)) (t : List UInt8) : W k 91 [.ptr 0 0 0, lnV l, .str t, .int .i64 0] [[.str s, .bool false]] = some (lnV l, [[.str t, .bool false]]) := by
 obtain ⟨k, rfl⟩ := succ1 (show 1 ≤ k by omega)
 exact (W_tree (t91 (W k) k s t false l 0) (by kernel_rfl)).trans (by kernel_rfl)
theorem x44b (k : Nat) (hk : 1 ≤ k) (r : Rd) (l : List (Int × Int)) (t : List UInt8) (e : Int) (h : r.2 = true ∨ e ≠ 0) : W k 44 [.ptr 0 0 0, btsV l, .str t, .int .i64 e] (bxR r) = some (btsV [], [[.str r.1, .bool true]]) := by
 obtain ⟨k, rfl⟩ := succ1 (show 1 ≤ k by omega)
 refine (W_tree (r := some (.sl 0 true [], [[.str r.1, .bool true]])) ((t44 (W k) k r.1 t r.2 l e).trans ?_) (by kernel_rfl)).trans (by kernel_rfl)
 rcases h with h | h
 ·rw [h]; rfl
 ·rw [show (e != 0) = true by simpa using h]
  cases r.2 <;> rfl
theorem x44g (k : Nat) (hk : 1 ≤ k) (s : List UInt8) (l : List (Int × Int)) (t : List UInt8) : W k 44 [.ptr 0 0 0, btsV l, .str t, .int .i64 0] [[.str s, .bool false]] = some (btsV l, [[.str t, .bool false]]) := by
 obtain ⟨k, rfl⟩ := succ1 (show 1 ≤ k by omega)
 exact (W_tree (t44 (W k) k s t false l 0) (by kernel_rfl)).trans (by kernel_rfl)
theorem x93b (k : Nat) (hk : 1 ≤ k) (r : Rd) (l : List (List UInt8)) (t : List UInt8) (e : Int) (h : r.2 = true ∨ e ≠ 0) : W k 93 [.ptr 0 0 0, ssV l, .str t, .int .i64 e] (bxR r) = some (ssV [], [[.str r.1, .bool true]]) := by
 obtain ⟨k, rfl⟩ := succ1 (show 1 ≤ k by omega)
 refine (W_tree (r := some (.sl 0 true [], [[.str r.1, .bool true]])) ((t93 (W k) k r.1 t r.2 l e).trans ?_) (by kernel_rfl)).trans (by kernel_rfl)
 rcases h with h | h
 ·rw [h]; rfl
 ·rw [show (e != 0) = true by simpa using h]
  cases r.2 <;> rfl
theorem x93g (k : Nat) (hk : 1 ≤ k) (s : List UInt8) (l : List (List UInt8)) (t : List UInt8) : W k 93 [.ptr 0 0 0, ssV l, .str t, .int .i64 0] [[.str s, .bool false]] = some (ssV l, [[.str t, .bool false]]) := by
 obtain ⟨k, rfl⟩ := succ1 (show 1 ≤ k by omega)
 exact (W_tree (t93 (W k) k s t false l 0) (by kernel_rfl)).trans (by kernel_rfl)
theorem x95b (k : Nat) (hk : 1 ≤ k) (r : Rd) (l : List Wr) (t : List UInt8) (e : Int) (h : r.2 = true ∨ e ≠ 0) : W k 95 [.ptr 0 0 0, wsV l, .str t, .int .i64 e] (bxR r) = some (wsV [], [[.str r.1, .bool true]]) := by
 obtain ⟨k, rfl⟩ := succ1 (show 1 ≤ k by omega)
 refine (W_tree (r := some (.sl 0 true [], [[.str r.1, .bool true]])) ((t95 (W k) k r.1 t r.2 l e).trans ?_) (by kernel_rfl)).trans (by kernel_rfl)
 rcases h with h | h
 ·rw [h]; rfl
 ·rw [show (e != 0) = true by simpa using h]
  cases r.2 <;> rfl
theorem x95g (k : Nat) (hk : 1 ≤ k) (s : List UInt8) (l : List Wr) (t : List UInt8) : W k 95 [.ptr 0 0 0, wsV l, .str t, .int .i64 0] [[.str s, .bool false]] = some (wsV l, [[.str t, .bool false]]) := by
 obtain ⟨k, rfl⟩ := succ1 (show 1 ≤ k by omega)
 exact (W_tree (t95 (W k) k s t false l 0) (by kernel_rfl)).trans (by kernel_rfl)
theorem x90n (k : Nat) (hk : 1200 ≤ k) {s : List UInt8} (h : takeL s = none) : W k 90 [.str s] [] = some (.tup [lnV [], .str [], .int .i64 3], []) := by
 have e := e20 k (by omega) s
 rw [h] at e
 exact (W_old e (by omega) (by kernel_rfl)).trans (by kernel_rfl)
theorem x90s (k : Nat) (hk : 1200 ≤ k) {s : List UInt8} {l : List (Int × Int)} {t : List UInt8} (h : takeL s = some (l, t)) : W k 90 [.str s] [] = some (.tup [lnV l, .str t, .int .i64 0], []) := by
 have e := e20 k (by omega) s
 rw [h] at e
 refine (W_old e (by omega) (by kernel_rfl)).trans ?_
 cases l <;> rfl
theorem x94n (k : Nat) (hk : 66100 ≤ k) {s : List UInt8} (h : takeW s = none) : W k 94 [.str s] [] = some (.tup [wsV [], .str [], .int .i64 3], []) := by
 have e := e14 k (by omega) s
 rw [h] at e
 exact (W_old e (by omega) (by kernel_rfl)).trans (by kernel_rfl)
theorem x94s (k : Nat) (hk : 66100 ≤ k) {s : List UInt8} {l : List Wr} {t : List UInt8} (h : takeW s = some (l, t)) : W k 94 [.str s] [] = some (.tup [wsV l, .str t, .int .i64 0], []) := by
 have e := e14 k (by omega) s
 rw [h] at e
 refine (W_old e (by omega) (by kernel_rfl)).trans ?_
 cases l <;> rfl
theorem x42 (k : Nat) (hk : 1300 ≤ k) (r : Rd) : W k 42 [.ptr 0 0 0] (bxR r) = some (lnV (liR r).1, bxR (liR r).2) := by
 obtain ⟨k, rfl⟩ := succ1 (show 1 ≤ k by omega)
 obtain ⟨s, b⟩ := r
 refine (W_tree (r := some (lnV (liR (s, b)).1, bxR (liR (s, b)).2)) ((t42 (W k) k s b).trans ?_) (by kernel_rfl)).trans (by kernel_rfl)
 unfold liR stp
 simp only
 cases hx : takeL s with
 | none =>
  refine qO (x90n k (by omega) hx) ?_
  repeat with_reducible first|apply qT|apply qC|apply qN|apply qS|apply qB|apply qI|apply qA|apply qL
  refine qO (x91b k (by omega) (s, b) [] [] 3 (.inr (by omega))) ?_
  repeat with_reducible first|apply qT|apply qC|apply qN|apply qS|apply qB|apply qI|apply qA|apply qL
  cases b <;> rfl
 | some a =>
  obtain ⟨l, u⟩ := a
  refine qO (x90s k (by omega) hx) ?_
  repeat with_reducible first|apply qT|apply qC|apply qN|apply qS|apply qB|apply qI|apply qA|apply qL
  cases b with
  | true =>
   refine qO (x91b k (by omega) (s, true) l u 0 (.inl rfl)) ?_
   repeat with_reducible first|apply qT|apply qC|apply qN|apply qS|apply qB|apply qI|apply qA|apply qL
   rfl
  | false =>
   refine qO (x91g k (by omega) s l u) ?_
   repeat with_reducible first|apply qT|apply qC|apply qN|apply qS|apply qB|apply qI|apply qA|apply qL
   rfl
theorem x46 (k : Nat) (hk : 66200 ≤ k) (r : Rd) : W k 46 [.ptr 0 0 0] (bxR r) = some (wsV (wrR r).1, bxR (wrR r).2) := by
 obtain ⟨k, rfl⟩ := succ1 (show 1 ≤ k by omega)
 obtain ⟨s, b⟩ := r
 refine (W_tree (r := some (wsV (wrR (s, b)).1, bxR (wrR (s, b)).2)) ((t46 (W k) k s b).trans ?_) (by kernel_rfl)).trans (by kernel_rfl)
 unfold wrR stp
 simp only
 cases hx : takeW s with
 | none =>
  refine qO (x94n k (by omega) hx) ?_
  repeat with_reducible first|apply qT|apply qC|apply qN|apply qS|apply qB|apply qI|apply qA|apply qL
  refine qO (x95b k (by omega) (s, b) [] [] 3 (.inr (by omega))) ?_
  repeat with_reducible first|apply qT|apply qC|apply qN|apply qS|apply qB|apply qI|apply qA|apply qL
  cases b <;> rfl
 | some a =>
  obtain ⟨l, u⟩ := a
  refine qO (x94s k (by omega) hx) ?_
  repeat with_reducible first|apply qT|apply qC|apply qN|apply qS|apply qB|apply qI|apply qA|apply qL
  cases b with
  | true =>
   refine qO (x95b k (by omega) (s, true) l u 0 (.inl rfl)) ?_
   repeat with_reducible first|apply qT|apply qC|apply qN|apply qS|apply qB|apply qI|apply qA|apply qL
   rfl
  | false =>
   refine qO (x95g k (by omega) s l u) ?_
   repeat with_reducible first|apply qT|apply qC|apply qN|apply qS|apply qB|apply qI|apply qA|apply qL
   rfl
theorem x89 (k : Nat) (hk : 1 ≤ k) (s t : List UInt8) (b : Bool) (n e : Int) : W k 89 [.ptr 0 0 0, .int .i64 n, .str t, .int .i64 e] [[.str s, .bool b]] = some (.int .i64 (if b = true ∨ e ≠ 0 then 0 else n), [[.str (if b = true ∨ e ≠ 0 then s else t), .bool (b || decide (e ≠ 0))]]) := by
 obtain ⟨k, rfl⟩ := succ1 (show 1 ≤ k by omega)
 refine (W_tree0 (t89 (W k) k s t b n e) (by kernel_rfl)).trans ?_
 cases b with
 | true => rfl
 | false =>
  by_cases he : e = 0
  ·subst he; rfl
  ·rw [show (e != 0) = true by simpa using he, decide_eq_true he, if_pos (.inr he), if_pos (.inr he)]
   rfl
theorem x88 (k : Nat) (hk : 11 ≤ k) (s : List UInt8) (w : Nat) (hw1 : 1 ≤ w) (hw : w ≤ 8) : W k 88 [.str s, .int .i64 w] [] = some (.tup [.int .i64 (numN w s), .str (numR w s), .int .i64 (numE w s)], []) := W_old0 (e88 k hk s w hw1 hw) (by omega) (by kernel_rfl)
theorem x40 (k : Nat) (hk : 12 ≤ k) (r : Rd) (w : Nat) (hw1 : 1 ≤ w) (hw : w ≤ 8) : W k 40 [.ptr 0 0 0, .int .i64 w] (bxR r) = some (.int .i64 ((nuR w r).1 : Nat), bxR (nuR w r).2) := by
 obtain ⟨k, rfl⟩ := succ1 (show 1 ≤ k by omega)
 refine (W_tree0 (t40 (W k) k r.1 r.2 w) (by kernel_rfl)).trans ?_
 refine qO (x88 k (by omega) r.1 w hw1 hw) ?_
 repeat with_reducible first|apply qT|apply qC|apply qN|apply qS|apply qB|apply qI|apply qA|apply qL
 refine qO (x89 k (by omega) r.1 (numR w r.1) r.2 (numN w r.1) (numE w r.1)) ?_
 repeat with_reducible first|apply qT|apply qC|apply qN|apply qS|apply qB|apply qI|apply qA|apply qL
 obtain ⟨s, b⟩ := r
 unfold nuR stp num
 simp only
 cases b with
 | true => rfl
 | false =>
  by_cases he : numE w s = 0
  ·simp only [he, numR]
   rfl
  ·simp only [if_neg he, if_pos (show false = true ∨ numE w s ≠ 0 from .inr he), decide_eq_true he]
   rfl
theorem x41 (k : Nat) (hk : 13 ≤ k) (r : Rd) : W k 41 [.ptr 0 0 0] (bxR r) = some (.bool (flR r).1, bxR (flR r).2) := by
 obtain ⟨k, rfl⟩ := succ1 (show 1 ≤ k by omega)
 refine (W_tree0 (t41 (W k) k r.1 r.2) (by kernel_rfl)).trans ?_
 refine qO (x40 k (by omega) r 1 (by omega) (by omega)) ?_
 repeat with_reducible first|apply qT|apply qC|apply qN|apply qS|apply qB|apply qI|apply qA|apply qL
 unfold flR
 generalize nuR 1 r = a
 obtain ⟨n, s, b⟩ := a
 have e1 : (((n : Nat) : Int) == 1) = decide (n = 1) := by
  by_cases h : n = 1
  ·subst h; rfl
  ·rw [decide_eq_false h]; simpa using (by omega : ¬ ((n : Int) = 1))
 have e2 : decide (((n : Nat) : Int) > 1) = decide (n > 1) := decide_eq_decide.2 (by omega)
 cases b <;> simp only [e1, e2] <;> rfl
theorem t64 (F : Fns) (N : Nat) (s : List UInt8) : runOf F 64 N [.str s] [] =
 zRe (F 88 [AV.str s, AV.int .i64 2] []) fun v bs => zTC v fun v r => zIn .i64 v fun n => zCo r fun v r => zSt v fun s_1 => zCo r fun v r => zIn .i64 v fun n_1 => zNi r (zNi bs (bif n_1 != 0 then some (AV.tup [AV.sl 0 true [], AV.str [], AV.int .i64 2], []) else loopA (zBy F 64 0 N) (zDe 64 0) (zCt F 64 0 N 0) N { nt := 40, t := [(0, AV.str s), (2, AV.sl 0 true []), (3, AV.str []), (4, AV.int .i64 0), (5, AV.int .i64 n), (6, AV.str s_1), (7, AV.int .i64 n_1), (8, AV.sl 0 true []), (19, AV.bool (n_1 != 0)), (20, AV.int .i64 n), (21, AV.int .i64 0)], b := [], r := [], g := [], rd := [], wr := [] })) := by kernel_rfl
theorem t45 (F : Fns) (N : Nat) (s : List UInt8) (b : Bool) : runOf F 45 N [.ptr 0 0 0] [[.str s, .bool b]] =
 zRe (F 40 [AV.ptr 0 0 0, AV.int .i64 1] [[AV.str s, AV.bool b]]) fun v bs => zIn .i64 v fun n => zB2 bs fun s b => (loopA (zBy F 45 0 N) (zDe 45 0) (zCt F 45 0 N 1) N { nt := 35, t := [(0, AV.ptr (1000000 + 0) 0 0), (2, AV.sl 0 true []), (3, AV.sl 0 true []), (9, AV.int .i64 n), (10, AV.int .i64 0)], b := [(1000000, [AV.str s, AV.bool b])], r := [], g := [], rd := [], wr := [] }) := by kernel_rfl
def itS (s0 s : List UInt8) (v : AV) (n : Int) (i : Int) : St := ⟨40, [(0, .str s0), (2, .sl 0 true []), (3, .str []), (4, .int .i64 0), (5, .int .i64 n), (6, .str s), (7, .int .i64 0), (8, v), (19, .bool false), (20, .int .i64 n), (21, .int .i64 i)], [], [], [], [], []⟩
theorem b64a (F : Fns) (N : Nat) (s0 s : List UInt8) (n i : Int) (KN : St → Res) : zBy F 64 0 N (itS s0 s (.sl 0 true []) n i) (brk (zCt F 64 0 N 0) KN) =
 bif decide (i < n) then zRe (F 103 [AV.str s] []) fun v bs => zTC v fun v r => zSt v fun s => zCo r fun v r => zSt v fun s_1 => zCo r fun v r => zIn .i64 v fun n_1 => zNi r (zNi bs (bif n_1 != 0 then some (AV.tup [AV.sl 0 true [], AV.str [], AV.int .i64 n_1], []) else KN { nt := 40, t := [(0, AV.str s0), (2, AV.sl 0 true []), (3, AV.str []), (4, AV.int .i64 0), (5, AV.int .i64 n), (6, AV.str s_1), (7, AV.int .i64 0), (8, AV.tip 35 0 1 [AV.str s]), (9, AV.str s), (10, AV.str s_1), (11, AV.int .i64 n_1), (19, AV.bool false), (20, AV.int .i64 n), (21, AV.int .i64 (IntKind.wrap .i64 (i + 1))), (22, AV.bool (decide (i < n))), (30, AV.bool (n_1 != 0))], b := [], r := [], g := [], rd := [], wr := [] })) else some (AV.tup [AV.sl 0 true [], AV.str s, AV.int .i64 0], []) := by kernel_rfl
theorem b64 (F : Fns) (N : Nat) (s0 s : List UInt8) (ys : List AV) (n i : Int) (KN : St → Res) : zBy F 64 0 N (itS s0 s (.tip 35 0 1 ys) n i) (brk (zCt F 64 0 N 0) KN) =
 bif decide (i < n) then zRe (F 103 [AV.str s] []) fun v bs => zTC v fun v r => zSt v fun s_1 => zCo r fun v r => zSt v fun s_2 => zCo r fun v r => zIn .i64 v fun n_1 => zNi r (zNi bs (bif n_1 != 0 then some (AV.tup [AV.sl 0 true [], AV.str [], AV.int .i64 n_1], []) else bif decide (1 = 1 ∧ fitsB (List.length ys + List.length [AV.str s_1]) 16 = true ∧ List.length ys + List.length [AV.str s_1] ≤ 4611686018427387904) then KN { nt := 40, t := [(0, AV.str s0), (2, AV.sl 0 true []), (3, AV.str []), (4, AV.int .i64 0), (5, AV.int .i64 n), (6, AV.str s_2), (7, AV.int .i64 0), (8, AV.tip 35 0 1 (ys ++ [AV.str s_1])), (9, AV.str s_1), (10, AV.str s_2), (11, AV.int .i64 n_1), (19, AV.bool false), (20, AV.int .i64 n), (21, AV.int .i64 (IntKind.wrap .i64 (i + 1))), (22, AV.bool (decide (i < n))), (30, AV.bool (n_1 != 0))], b := [], r := [], g := [], rd := [], wr := [] } else none)) else some (AV.tup [AV.sl 1 false ys, AV.str s, AV.int .i64 0], []) := by kernel_rfl
def voS (s : List UInt8) (b : Bool) (v : AV) (n i : Int) : St := ⟨35, [(0, .ptr 1000000 0 0), (2, .sl 0 true []), (3, v), (9, .int .i64 n), (10, .int .i64 i)], [(1000000, [.str s, .bool b])], [], [], [], []⟩
theorem b45a (F : Fns) (N : Nat) (s : List UInt8) (b : Bool) (n i : Int) (KN : St → Res) : zBy F 45 0 N (voS s b (.sl 0 true []) n i) (brk (zCt F 45 0 N 1) KN) =
 bif decide (i < n) then zRe (F 40 [AV.ptr 0 0 0, AV.int .i64 1] [[AV.str s, AV.bool b]]) fun v bs => zIn .i64 v fun n_1 => zB2 bs fun s b => (zRe (F 64 [AV.str s] []) fun v bs => zTC v fun v r => asSl v fun m fl xs => zCo r fun v r => zSt v fun s_1 => zCo r fun v r => zIn .i64 v fun n_2 => zNi r (zNi bs (zRe (F 93 [AV.ptr 0 0 0, AV.sl m fl xs, AV.str s_1, AV.int .i64 n_2] [[AV.str s, AV.bool b]]) fun v bs => asSl v fun m_1 fl_1 xs_1 => zB2 bs fun s b => (KN { nt := 35, t := [(0, AV.ptr 1000000 0 0), (2, AV.sl 0 true []), (3, AV.tip 32 0 2 [AV.agg [AV.int .i64 n_1, AV.sl m_1 fl_1 xs_1]]), (4, AV.int .i64 n_1), (5, AV.sl m fl xs), (6, AV.str s_1), (7, AV.int .i64 n_2), (9, AV.int .i64 n), (10, AV.int .i64 (IntKind.wrap .i64 (i + 1))), (11, AV.bool (decide (i < n)))], b := [(1000000, [AV.str s, AV.bool b])], r := [], g := [], rd := [], wr := [] })))) else some (AV.sl 0 true [], [[AV.str s, AV.bool b]]) := by kernel_rfl
theorem b45 (F : Fns) (N : Nat) (s : List UInt8) (b : Bool) (ys : List AV) (n i : Int) (KN : St → Res) : zBy F 45 0 N (voS s b (.tip 32 0 2 ys) n i) (brk (zCt F 45 0 N 1) KN) =
 bif decide (i < n) then zRe (F 40 [AV.ptr 0 0 0, AV.int .i64 1] [[AV.str s, AV.bool b]]) fun v bs => zIn .i64 v fun n_1 => zB2 bs fun s_1 b_1 => (zRe (F 64 [AV.str s_1] []) fun v bs => zTC v fun v r => asSl v fun m fl xs => zCo r fun v r => zSt v fun s_2 => zCo r fun v r => zIn .i64 v fun n_2 => zNi r (zNi bs (zRe (F 93 [AV.ptr 0 0 0, AV.sl m fl xs, AV.str s_2, AV.int .i64 n_2] [[AV.str s_1, AV.bool b_1]]) fun v bs => asSl v fun m_1 fl_1 xs_1 => zB2 bs fun s_3 b_2 => (bif decide (2 = 2 ∧ fitsB (List.length ys + List.length [AV.agg [AV.int .i64 n_1, AV.sl m_1 fl_1 xs_1]]) 32 = true ∧ List.length ys + List.length [AV.agg [AV.int .i64 n_1, AV.sl m_1 fl_1 xs_1]] ≤ 4611686018427387904) then KN { nt := 35, t := [(0, AV.ptr 1000000 0 0), (2, AV.sl 0 true []), (3, AV.tip 32 0 2 (ys ++ [AV.agg [AV.int .i64 n_1, AV.sl m_1 fl_1 xs_1]])), (4, AV.int .i64 n_1), (5, AV.sl m fl xs), (6, AV.str s_2), (7, AV.int .i64 n_2), (9, AV.int .i64 n), (10, AV.int .i64 (IntKind.wrap .i64 (i + 1))), (11, AV.bool (decide (i < n)))], b := [(1000000, [AV.str s_3, AV.bool b_2])], r := [], g := [], rd := [], wr := [] } else none)))) else some (AV.sl 2 false ys, [[AV.str s, AV.bool b]]) := by kernel_rfl
theorem x103n (k : Nat) (hk : 12 ≤ k) {s : List UInt8} (h : takeT s = none) : W k 103 [.str s] [] = some (.tup [.str [], .str [], .int .i64 2], []) := by
 have e := e85 k hk s
 rw [h] at e
 exact W_old0 e (by omega) (by kernel_rfl)
theorem x103s (k : Nat) (hk : 12 ≤ k) {s a t : List UInt8} (h : takeT s = some (a, t)) : W k 103 [.str s] [] = some (.tup [.str a, .str t, .int .i64 0], []) := by
 have e := e85 k hk s
 rw [h] at e
 exact W_old0 e (by omega) (by kernel_rfl)
def gtV (K z : Nat) (ys : List AV) : AV := match ys with
 | [] => .sl 0 true []
 | y :: r => .tip K 0 z (y :: r)
def gsV (z : Nat) (ys : List AV) : AV := match ys with
 | [] => .sl 0 true []
 | y :: r => .sl z false (y :: r)
theorem x64 (k : Nat) (hk : 66000 ≤ k) (s : List UInt8) : W k 64 [.str s] [] = match items s with
  | none => some (.tup [ssV [], .str [], .int .i64 2], [])
  | some (l, t) => some (.tup [ssV l, .str t, .int .i64 0], []) := by
 obtain ⟨k, rfl⟩ := succ1 (show 1 ≤ k by omega)
 suffices hh : runOf (W k) 64 k [.str s] [] = match items s with
   | none => some (.tup [.sl 0 true [], .str [], .int .i64 2], [])
   | some (l, t) => some (.tup [gsV 1 (l.map AV.str), .str t, .int .i64 0], []) by
  refine (W_tree hh (by kernel_rfl)).trans ?_
  cases items s with
  | none => exact (by kernel_rfl)
  | some a =>
   obtain ⟨l, t⟩ := a
   cases l <;> exact (by kernel_rfl)
 rw [t64]
 refine qO (x88 k (by omega) s 2 (by omega) (by omega)) ?_
 repeat with_reducible first|apply qT|apply qC|apply qN|apply qS|apply qB|apply qI|apply qA|apply qL
 unfold items num
 by_cases he : numE 2 s = 0
 ·rw [he, if_pos rfl]
  refine qX rfl ?_
  have hn : numN 2 s < 65536 := (num_lt (w := 2) (s := s) (n := numN 2 s) (t := s.drop 2) (by rw [num, if_pos he])).1
  have hR : numR 2 s = s.drop 2 := by rw [numR, if_pos he]
  rw [hR]
  generalize numN 2 s = n at hn ⊢
  generalize s.drop 2 = u
  simp only
  refine loopA_ind (fun a : List UInt8 × List (List UInt8) => itS s a.1 (gtV 35 1 (a.2.map AV.str)) n a.2.length) (fun a => n - a.2.length) (fun a r => a.2.length ≤ n → r = match txts (n - a.2.length) a.1 with
   | none => some (.tup [.sl 0 true [], .str [], .int .i64 2], [])
   | some (l, t) => some (.tup [gsV 1 ((a.2 ++ l).map AV.str), .str t, .int .i64 0], [])) (fun a m ih h0 => ?_) k (u, []) _ (by simp; omega) (by kernel_rfl) (by simp)
  obtain ⟨v, acc⟩ := a
  simp only at ih h0 ⊢
  by_cases hlt : acc.length < n
  ·obtain ⟨d, hd⟩ : ∃ d, n - acc.length = d + 1 := ⟨n - acc.length - 1, by omega⟩
   have hd2 : n - (acc.length + 1) = d := by omega
   rw [hd, txts]
   have hgo : ∀ (a w : List UInt8) (st : St), st.clean (zDe 64 0) = itS s w (gtV 35 1 (acc.map AV.str ++ [.str a])) n ((acc.length + 1 : Nat) : Int) → loopA (zBy (W k) 64 0 k) (zDe 64 0) (zCt (W k) 64 0 k 0) m st = match txts d w with
     | none => some (.tup [.sl 0 true [], .str [], .int .i64 2], [])
     | some (l, t) => some (.tup [gsV 1 ((acc ++ a :: l).map AV.str), .str t, .int .i64 0], []) := by
    intro a w st hst
    refine (ih (w, acc ++ [a]) st (by simp; omega) (by rw [List.map_append, List.length_append]; exact hst) (by simp; omega)).trans ?_
    simp only [List.length_append, List.length_cons, List.length_nil, Nat.zero_add, hd2, List.append_assoc, List.singleton_append]
   cases ht : takeT v with
   | none =>
    cases acc with
    | nil =>
     rw [List.map_nil, gtV, b64a]
     refine qY (decide_eq_true (by first | omega | (simp only [List.length_append, List.length_cons, List.length_nil, List.length_map]; omega))) ?_
     refine qO (x103n k (by omega) ht) ?_
     repeat with_reducible first|apply qT|apply qC|apply qN|apply qS|apply qB|apply qI|apply qA|apply qL
     rfl
    | cons y r =>
     rw [List.map_cons, gtV, b64]
     refine qY (decide_eq_true (by first | omega | (simp only [List.length_append, List.length_cons, List.length_nil, List.length_map]; omega))) ?_
     refine qO (x103n k (by omega) ht) ?_
     repeat with_reducible first|apply qT|apply qC|apply qN|apply qS|apply qB|apply qI|apply qA|apply qL
     rfl
   | some c =>
    obtain ⟨a, w⟩ := c
    simp only
    have e : (match match txts d w with
      | none => none
      | some (l, s2) => some (a :: l, s2) with
     | none => (some (.tup [.sl 0 true [], .str [], .int .i64 2], []) : Res)
     | some (l, t) => some (.tup [gsV 1 ((acc ++ l).map AV.str), .str t, .int .i64 0], [])) = match txts d w with
     | none => some (.tup [.sl 0 true [], .str [], .int .i64 2], [])
     | some (l, t) => some (.tup [gsV 1 ((acc ++ a :: l).map AV.str), .str t, .int .i64 0], []) := by
     cases txts d w with
     | none => rfl
     | some _ => rfl
    refine Eq.trans ?_ e.symm
    cases acc with
    | nil =>
     rw [List.map_nil, gtV, b64a]
     refine qY (decide_eq_true (by first | omega | (simp only [List.length_append, List.length_cons, List.length_nil, List.length_map]; omega))) ?_
     refine qO (x103s k (by omega) ht) ?_
     repeat with_reducible first|apply qT|apply qC|apply qN|apply qS|apply qB|apply qI|apply qA|apply qL
     refine qX rfl ?_
     exact hgo a w _ (by kernel_rfl)
    | cons y r =>
     rw [List.map_cons, gtV, b64]
     refine qY (decide_eq_true (by first | omega | (simp only [List.length_append, List.length_cons, List.length_nil, List.length_map]; omega))) ?_
     refine qO (x103s k (by omega) ht) ?_
     repeat with_reducible first|apply qT|apply qC|apply qN|apply qS|apply qB|apply qI|apply qA|apply qL
     refine qX rfl ?_
     simp only [List.length_cons] at hlt
     refine qY (decide_eq_true (by refine ⟨by first | rfl | exact .inr rfl, fitsB_small ?_, ?_⟩ <;> simp only [ofBytes, List.length_map, List.length_append, List.length_cons, List.length_nil] <;> omega)) ?_
     rw [wi (by simp only [List.length_cons]; omega)]
     exact hgo a w _ (by kernel_rfl)
  ·rw [show n - acc.length = 0 by omega, txts]
   cases acc with
   | nil =>
    rw [List.map_nil, gtV, b64a]
    refine qX (decide_eq_false (by simp only [List.length_nil] at hlt ⊢; omega)) ?_
    rfl
   | cons y r =>
    rw [List.map_cons, gtV, b64]
    refine qX (decide_eq_false (by omega)) ?_
    simp only [List.append_nil]
    rfl
 ·rw [if_neg he]
  refine qY (by simpa using he) ?_
  rfl
theorem it_ex (k : Nat) (hk : 66000 ≤ k) (s : List UInt8) : ∃ (l : List (List UInt8)) (t : List UInt8) (e : Int), W k 64 [.str s] [] = some (.tup [ssV l, .str t, .int .i64 e], []) ∧ ∀ b, W k 93 [.ptr 0 0 0, ssV l, .str t, .int .i64 e] [[.str s, .bool b]] = some (ssV (itR (s, b)).1, bxR (itR (s, b)).2) := by
 have h := x64 k hk s
 unfold itR stp
 simp only
 cases hx : items s with
 | none =>
  rw [hx] at h
  refine ⟨_, _, _, h, fun b => ?_⟩
  refine (x93b k (by omega) (s, b) [] [] 2 (.inr (by omega))).trans ?_
  cases b <;> rfl
 | some a =>
  obtain ⟨l, u⟩ := a
  rw [hx] at h
  refine ⟨_, _, _, h, fun b => ?_⟩
  cases b with
  | true => exact (x93b k (by omega) (s, true) l u 0 (.inl rfl)).trans rfl
  | false => exact (x93g k (by omega) s l u).trans rfl
theorem nu1_lt (r : Rd) : (nuR 1 r).1 < 256 := by
 unfold nuR stp
 cases r.2 with
 | true => simp
 | false =>
  simp only [Bool.false_eq_true, if_false]
  cases h : num 1 r.1 with
  | none => simp
  | some a =>
   obtain ⟨n, t⟩ := a
   exact (num_lt h).1
theorem x45 (k : Nat) (hk : 66100 ≤ k) (r : Rd) : W k 45 [.ptr 0 0 0] (bxR r) = some (vsV (vsR r).1, bxR (vsR r).2) := by
 obtain ⟨k, rfl⟩ := succ1 (show 1 ≤ k by omega)
 suffices hh : runOf (W k) 45 k [.ptr 0 0 0] (bxR r) = some (gsV 2 ((vsR r).1.map (volV false)), bxR (vsR r).2) by
  refine (W_tree hh (by kernel_rfl)).trans ?_
  cases (vsR r).1 <;> exact (by kernel_rfl)
 refine (t45 (W k) k r.1 r.2).trans ?_
 refine qO (x40 k (by omega) r 1 (by omega) (by omega)) ?_
 repeat with_reducible first|apply qT|apply qC|apply qN|apply qS|apply qB|apply qI|apply qA|apply qL
 have hn := nu1_lt r
 unfold vsR
 generalize (nuR 1 r).1 = n at hn ⊢
 generalize (nuR 1 r).2 = u
 refine loopA_ind (fun a : Rd × List Vol => voS a.1.1 a.1.2 (gtV 32 2 (a.2.map (volV false))) n a.2.length) (fun a => n - a.2.length) (fun a r => a.2.length ≤ n → r = some (gsV 2 ((a.2 ++ (voR (n - a.2.length) a.1).1).map (volV false)), bxR (voR (n - a.2.length) a.1).2)) (fun a m ih h0 => ?_) k (u, []) _ (by simp; omega) (by kernel_rfl) (by simp)
 obtain ⟨v, acc⟩ := a
 simp only at ih h0 ⊢
 by_cases hlt : acc.length < n
 ·obtain ⟨d, hd⟩ : ∃ d, n - acc.length = d + 1 := ⟨n - acc.length - 1, by omega⟩
  have hd2 : n - (acc.length + 1) = d := by omega
  have hgo : ∀ (a : Vol) (w : Rd) (st : St), st.clean (zDe 45 0) = voS w.1 w.2 (gtV 32 2 (acc.map (volV false) ++ [volV false a])) n ((acc.length + 1 : Nat) : Int) → loopA (zBy (W k) 45 0 k) (zDe 45 0) (zCt (W k) 45 0 k 1) m st = some (gsV 2 ((acc ++ a :: (voR d w).1).map (volV false)), bxR (voR d w).2) := by
   intro a w st hst
   refine (ih (w, acc ++ [a]) st (by simp; omega) (by rw [List.map_append, List.length_append]; exact hst) (by simp; omega)).trans ?_
   simp only [List.length_append, List.length_cons, List.length_nil, Nat.zero_add, hd2, List.append_assoc, List.singleton_append]
  rw [hd, voR]
  obtain ⟨l0, t0, e0, g1, g2⟩ := it_ex k (by omega) (nuR 1 v).2.1
  simp only
  cases acc with
  | nil =>
   rw [List.map_nil, gtV, b45a]
   refine qY (decide_eq_true (by first | omega | (simp only [List.length_append, List.length_cons, List.length_nil, List.length_map]; omega))) ?_
   refine qO (x40 k (by omega) v 1 (by omega) (by omega)) ?_
   repeat with_reducible first|apply qT|apply qC|apply qN|apply qS|apply qB|apply qI|apply qA|apply qL
   refine qO g1 ?_
   repeat with_reducible first|apply qT|apply qC|apply qN|apply qS|apply qB|apply qI|apply qA|apply qL
   refine qO (g2 _) ?_
   repeat with_reducible first|apply qT|apply qC|apply qN|apply qS|apply qB|apply qI|apply qA|apply qL
   exact hgo _ _ _ (by kernel_rfl)
  | cons y r =>
   rw [List.map_cons, gtV, b45]
   refine qY (decide_eq_true (by first | omega | (simp only [List.length_append, List.length_cons, List.length_nil, List.length_map]; omega))) ?_
   refine qO (x40 k (by omega) v 1 (by omega) (by omega)) ?_
   repeat with_reducible first|apply qT|apply qC|apply qN|apply qS|apply qB|apply qI|apply qA|apply qL
   refine qO g1 ?_
   repeat with_reducible first|apply qT|apply qC|apply qN|apply qS|apply qB|apply qI|apply qA|apply qL
   refine qO (g2 _) ?_
   repeat with_reducible first|apply qT|apply qC|apply qN|apply qS|apply qB|apply qI|apply qA|apply qL
   simp only [List.length_cons] at hlt
   refine qY (decide_eq_true (by refine ⟨by first | rfl | exact .inr rfl, fitsB_small ?_, ?_⟩ <;> simp only [ofBytes, List.length_map, List.length_append, List.length_cons, List.length_nil] <;> omega)) ?_
   rw [wi (by simp only [List.length_cons]; omega)]
   exact hgo _ _ _ (by kernel_rfl)
 ·rw [show n - acc.length = 0 by omega, voR]
  cases acc with
  | nil =>
   rw [List.map_nil, gtV, b45a]
   refine qX (decide_eq_false (by simp only [List.length_nil] at hlt ⊢; omega)) ?_
   rfl
  | cons y r =>
   rw [List.map_cons, gtV, b45]
   refine qX (decide_eq_false (by omega)) ?_
   simp only [List.append_nil]
   rfl
theorem t11 (F : Fns) (N : Nat) (s : List UInt8) : runOf F 11 N [.str s] [] =
 zRe (F 40 [AV.ptr 0 0 0, AV.int .i64 1] [[AV.str s, AV.bool false]]) fun v bs => zIn .i64 v fun n => zB2 bs fun s_1 b => (zRe (F 41 [AV.ptr 0 0 0] [[AV.str s_1, AV.bool b]]) fun v bs => zBo v fun b => zB2 bs fun s_2 b_1 => (zRe (F 41 [AV.ptr 0 0 0] [[AV.str s_2, AV.bool b_1]]) fun v bs => zBo v fun b_2 => zB2 bs fun s_3 b_3 => (zRe (F 41 [AV.ptr 0 0 0] [[AV.str s_3, AV.bool b_3]]) fun v bs => zBo v fun b_4 => zB2 bs fun s_4 b_5 => (zRe (F 41 [AV.ptr 0 0 0] [[AV.str s_4, AV.bool b_5]]) fun v bs => zBo v fun b_6 => zB2 bs fun s_5 b_7 => (zRe (F 40 [AV.ptr 0 0 0, AV.int .i64 1] [[AV.str s_5, AV.bool b_7]]) fun v bs => zIn .i64 v fun n_1 => zB2 bs fun s_6 b_8 => (zRe (F 40 [AV.ptr 0 0 0, AV.int .i64 8] [[AV.str s_6, AV.bool b_8]]) fun v bs => zIn .i64 v fun n_2 => zB2 bs fun s_7 b_9 => (zRe (F 40 [AV.ptr 0 0 0, AV.int .i64 8] [[AV.str s_7, AV.bool b_9]]) fun v bs => zIn .i64 v fun n_3 => zB2 bs fun s_8 b_10 => (zRe (F 40 [AV.ptr 0 0 0, AV.int .i64 8] [[AV.str s_8, AV.bool b_10]]) fun v bs => zIn .i64 v fun n_4 => zB2 bs fun s_9 b_11 => (zRe (F 40 [AV.ptr 0 0 0, AV.int .i64 8] [[AV.str s_9, AV.bool b_11]]) fun v bs => zIn .i64 v fun n_5 => zB2 bs fun s_10 b_12 => (zRe (F 40 [AV.ptr 0 0 0, AV.int .i64 8] [[AV.str s_10, AV.bool b_12]]) fun v bs => zIn .i64 v fun n_6 => zB2 bs fun s_11 b_13 => (zRe (F 40 [AV.ptr 0 0 0, AV.int .i64 8] [[AV.str s_11, AV.bool b_13]]) fun v bs => zIn .i64 v fun n_7 => zB2 bs fun s_12 b_14 => (zRe (F 40 [AV.ptr 0 0 0, AV.int .i64 8] [[AV.str s_12, AV.bool b_14]]) fun v bs => zIn .i64 v fun n_8 => zB2 bs fun s_13 b_15 => (zRe (F 40 [AV.ptr 0 0 0, AV.int .i64 8] [[AV.str s_13, AV.bool b_15]]) fun v bs => zIn .i64 v fun n_9 => zB2 bs fun s_14 b_16 => (zRe (F 42 [AV.ptr 0 0 0] [[AV.str s_14, AV.bool b_16]]) fun v bs => asSl v fun m fl xs => zB2 bs fun s_15 b_17 => (zRe (F 42 [AV.ptr 0 0 0] [[AV.str s_15, AV.bool b_17]]) fun v bs => asSl v fun m_1 fl_1 xs_1 => zB2 bs fun s_16 b_18 => (zRe (F 40 [AV.ptr 0 0 0, AV.int .i64 8] [[AV.str s_16, AV.bool b_18]]) fun v bs => zIn .i64 v fun n_10 => zB2 bs fun s_17 b_19 => (zRe (F 43 [AV.str s_17] []) fun v bs => zTC v fun v r => asSl v fun m_2 fl_2 xs_2 => zCo r fun v r => zSt v fun s_18 => zCo r fun v r => zIn .i64 v fun n_11 => zNi r (zNi bs (zRe (F 44 [AV.ptr 0 0 0, AV.sl m_2 fl_2 xs_2, AV.str s_18, AV.int .i64 n_11] [[AV.str s_17, AV.bool b_19]]) fun v bs => asSl v fun m_3 fl_3 xs_3 => zB2 bs fun s_19 b_20 => (zRe (F 45 [AV.ptr 0 0 0] [[AV.str s_19, AV.bool b_20]]) fun v bs => asSl v fun m_4 fl_4 xs_4 => zB2 bs fun s_20 b_21 => (zRe (F 46 [AV.ptr 0 0 0] [[AV.str s_20, AV.bool b_21]]) fun v bs => asSl v fun m_5 fl_5 xs_5 => zB2 bs fun s_21 b_22 => (zRe (F 40 [AV.ptr 0 0 0, AV.int .i64 1] [[AV.str s_21, AV.bool b_22]]) fun v bs => zIn .i64 v fun n_12 => zB2 bs fun s_22 b_23 => (loopA (zBy F 11 0 N) (zDe 11 0) (zCt F 11 0 N 0) N { nt := 160, t := [(0, AV.str s), (2, AV.ptr 2 0 0), (3, AV.int .i64 0), (4, AV.ptr 11 0 0), (5, AV.ptr 5 0 0), (6, AV.sl m_2 fl_2 xs_2), (7, AV.str s_18), (8, AV.int .i64 n_11), (88, AV.int .i64 n_12), (89, AV.int .i64 0)], b := [(2, [AV.int .i64 0, AV.bool false, AV.bool false, AV.int .i64 0, AV.sl 0 true [], AV.int .i64 0, AV.sl 0 true [], AV.bool false, AV.sl 0 true [], AV.sl 0 true [], AV.int .i64 0, AV.sl 0 true [], AV.sl 0 true [], AV.int .i64 0, AV.int .i64 0, AV.int .i64 0, AV.bool false, AV.sl 0 true [], AV.int .i64 0, AV.sl 0 true [], AV.sl 0 true [], AV.int .i64 0, AV.int .i64 0, AV.int .i64 0, AV.int .i64 0, AV.int .i64 0]), (5, [AV.int .i64 n, AV.bool b, AV.bool b_2, AV.int .i64 n_2, AV.sl m fl xs, AV.int .i64 n_3, AV.sl m_4 fl_4 xs_4, AV.bool b_4, AV.sl m_5 fl_5 xs_5, AV.sl m_1 fl_1 xs_1, AV.int .i64 n_10, AV.sl m_3 fl_3 xs_3, AV.sl 0 true [], AV.int .i64 n_4, AV.int .i64 n_1, AV.int .i64 n_5, AV.bool b_6, AV.sl 0 true [], AV.int .i64 (IntKind.wrap .i64 (n_6 - 1)), AV.sl 0 true [], AV.sl 0 true [], AV.int .i64 0, AV.int .i64 0, AV.int .i64 n_7, AV.int .i64 n_8, AV.int .i64 n_9]), (11, [AV.str s_22, AV.bool b_23])], r := [], g := [], rd := [], wr := [] }))))))))))))))))))))))) := by kernel_rfl
def deL (n : Nd) (ss cp qs qo : AV) : List AV := [.int .i64 n.ro, .bool n.st, .bool n.va, .int .i64 n.kn, lnV n.ln, .int .i64 n.sq, vsV n.vs, .bool n.sh, wsV n.kp, lnV n.al, .int .i64 n.aq, btsV n.ch, ss, .int .i64 n.sn, .int .i64 n.md, .int .i64 n.sy, .bool n.fu, cp, .int .i64 n.go, qs, qo, .int .i64 0, .int .i64 0, .int .i64 n.fr, .int .i64 n.fn, .int .i64 n.nx]
def zdL : List AV := [.int .i64 0, .bool false, .bool false, .int .i64 0, .sl 0 true [], .int .i64 0, .sl 0 true [], .bool false, .sl 0 true [], .sl 0 true [], .int .i64 0, .sl 0 true [], .sl 0 true [], .int .i64 0, .int .i64 0, .int .i64 0, .bool false, .sl 0 true [], .int .i64 0, .sl 0 true [], .sl 0 true [], .int .i64 0, .int .i64 0, .int .i64 0, .int .i64 0, .int .i64 0]
def deS (s0 t0 : List UInt8) (l0 : List (Int × Int)) (e0 : Int) (n : Nd) (v : AV) (s : List UInt8) (b : Bool) (c i : Int) : St := ⟨160, [(0, .str s0), (2, .ptr 2 0 0), (3, .int .i64 0), (4, .ptr 11 0 0), (5, .ptr 5 0 0), (6, btsV l0), (7, .str t0), (8, .int .i64 e0), (88, .int .i64 c), (89, .int .i64 i)], [(2, zdL), (5, deL n v (.sl 0 true []) (.sl 0 true []) (.sl 0 true [])), (11, [.str s, .bool b])], [], [], [], []⟩
theorem b11a (F : Fns) (N : Nat) (s0 t0 : List UInt8) (l0 : List (Int × Int)) (e0 : Int) (n : Nd) (s : List UInt8) (b : Bool) (c i : Int) (KN : St → Res) : zBy F 11 0 N (deS s0 t0 l0 e0 n (.sl 0 true []) s b c i) (brk (zCt F 11 0 N 0) KN) =
 bif decide (i < c) then zRe (F 40 [AV.ptr 0 0 0, AV.int .i64 8] [[AV.str s, AV.bool b]]) fun v bs => zIn .i64 v fun n_1 => zB2 bs fun s b => (zRe (F 40 [AV.ptr 0 0 0, AV.int .i64 8] [[AV.str s, AV.bool b]]) fun v bs => zIn .i64 v fun n_2 => zB2 bs fun s b => (zRe (F 46 [AV.ptr 0 0 0] [[AV.str s, AV.bool b]]) fun v bs => asSl v fun m fl xs => zB2 bs fun s b => (KN { nt := 160, t := [(0, AV.str s0), (2, AV.ptr 2 0 0), (3, AV.int .i64 0), (4, AV.ptr 11 0 0), (5, AV.ptr 5 0 0), (6, btsV l0), (7, AV.str t0), (8, AV.int .i64 e0), (88, AV.int .i64 c), (89, AV.int .i64 (IntKind.wrap .i64 (i + 1))), (90, AV.bool (decide (i < c)))], b := [(2, [AV.int .i64 0, AV.bool false, AV.bool false, AV.int .i64 0, AV.sl 0 true [], AV.int .i64 0, AV.sl 0 true [], AV.bool false, AV.sl 0 true [], AV.sl 0 true [], AV.int .i64 0, AV.sl 0 true [], AV.sl 0 true [], AV.int .i64 0, AV.int .i64 0, AV.int .i64 0, AV.bool false, AV.sl 0 true [], AV.int .i64 0, AV.sl 0 true [], AV.sl 0 true [], AV.int .i64 0, AV.int .i64 0, AV.int .i64 0, AV.int .i64 0, AV.int .i64 0]), (5, (ndG n (vsV (Nd.vs n)) (wsV (Nd.kp n)) (AV.tip 101 0 3 [AV.agg [AV.int .i64 n_1, AV.int .i64 n_2, AV.sl m fl xs]]) (AV.sl 0 true []) (AV.sl 0 true []) (AV.sl 0 true []) (AV.int .i64 0) (AV.int .i64 0))), (11, [AV.str s, AV.bool b])], r := [], g := [], rd := [], wr := [] }))) else zRe (F 46 [AV.ptr 0 0 0] [[AV.str s, AV.bool b]]) fun v bs => asSl v fun m fl xs => zB2 bs fun s b => (zRe (F 40 [AV.ptr 0 0 0, AV.int .i64 2] [[AV.str s, AV.bool b]]) fun v bs => zIn .i64 v fun n_1 => zB2 bs fun s b => (loopA (zBy F 11 1 N) (zDe 11 1) (zCt F 11 1 N 0) N { nt := 160, t := [(0, AV.str s0), (2, AV.ptr 2 0 0), (3, AV.int .i64 0), (4, AV.ptr 11 0 0), (5, AV.ptr 5 0 0), (6, btsV l0), (7, AV.str t0), (8, AV.int .i64 e0), (88, AV.int .i64 c), (89, AV.int .i64 i), (90, AV.bool (decide (i < c))), (108, AV.int .i64 n_1), (109, AV.int .i64 0)], b := [(2, [AV.int .i64 0, AV.bool false, AV.bool false, AV.int .i64 0, AV.sl 0 true [], AV.int .i64 0, AV.sl 0 true [], AV.bool false, AV.sl 0 true [], AV.sl 0 true [], AV.int .i64 0, AV.sl 0 true [], AV.sl 0 true [], AV.int .i64 0, AV.int .i64 0, AV.int .i64 0, AV.bool false, AV.sl 0 true [], AV.int .i64 0, AV.sl 0 true [], AV.sl 0 true [], AV.int .i64 0, AV.int .i64 0, AV.int .i64 0, AV.int .i64 0, AV.int .i64 0]), (5, (ndG n (vsV (Nd.vs n)) (wsV (Nd.kp n)) (AV.sl 0 true []) (AV.sl m fl xs) (AV.sl 0 true []) (AV.sl 0 true []) (AV.int .i64 0) (AV.int .i64 0))), (11, [AV.str s, AV.bool b])], r := [], g := [], rd := [], wr := [] })) := by kernel_rfl
theorem b11 (F : Fns) (N : Nat) (s0 t0 : List UInt8) (l0 : List (Int × Int)) (e0 : Int) (n : Nd) (ys : List AV) (s : List UInt8) (b : Bool) (c i : Int) (KN : St → Res) : zBy F 11 0 N (deS s0 t0 l0 e0 n (.tip 101 0 3 ys) s b c i) (brk (zCt F 11 0 N 0) KN) =
 bif decide (i < c) then zRe (F 40 [AV.ptr 0 0 0, AV.int .i64 8] [[AV.str s, AV.bool b]]) fun v bs => zIn .i64 v fun n_1 => zB2 bs fun s_1 b_1 => (zRe (F 40 [AV.ptr 0 0 0, AV.int .i64 8] [[AV.str s_1, AV.bool b_1]]) fun v bs => zIn .i64 v fun n_2 => zB2 bs fun s_2 b_2 => (zRe (F 46 [AV.ptr 0 0 0] [[AV.str s_2, AV.bool b_2]]) fun v bs => asSl v fun m fl xs => zB2 bs fun s_3 b_3 => (bif decide (3 = 3 ∧ fitsB (List.length ys + List.length [AV.agg [AV.int .i64 n_1, AV.int .i64 n_2, AV.sl m fl xs]]) 40 = true ∧ List.length ys + List.length [AV.agg [AV.int .i64 n_1, AV.int .i64 n_2, AV.sl m fl xs]] ≤ 4611686018427387904) then KN { nt := 160, t := [(0, AV.str s0), (2, AV.ptr 2 0 0), (3, AV.int .i64 0), (4, AV.ptr 11 0 0), (5, AV.ptr 5 0 0), (6, btsV l0), (7, AV.str t0), (8, AV.int .i64 e0), (88, AV.int .i64 c), (89, AV.int .i64 (IntKind.wrap .i64 (i + 1))), (90, AV.bool (decide (i < c)))], b := [(2, [AV.int .i64 0, AV.bool false, AV.bool false, AV.int .i64 0, AV.sl 0 true [], AV.int .i64 0, AV.sl 0 true [], AV.bool false, AV.sl 0 true [], AV.sl 0 true [], AV.int .i64 0, AV.sl 0 true [], AV.sl 0 true [], AV.int .i64 0, AV.int .i64 0, AV.int .i64 0, AV.bool false, AV.sl 0 true [], AV.int .i64 0, AV.sl 0 true [], AV.sl 0 true [], AV.int .i64 0, AV.int .i64 0, AV.int .i64 0, AV.int .i64 0, AV.int .i64 0]), (5, (ndG n (vsV (Nd.vs n)) (wsV (Nd.kp n)) (AV.tip 101 0 3 (ys ++ [AV.agg [AV.int .i64 n_1, AV.int .i64 n_2, AV.sl m fl xs]])) (AV.sl 0 true []) (AV.sl 0 true []) (AV.sl 0 true []) (AV.int .i64 0) (AV.int .i64 0))), (11, [AV.str s_3, AV.bool b_3])], r := [], g := [], rd := [], wr := [] } else none))) else zRe (F 46 [AV.ptr 0 0 0] [[AV.str s, AV.bool b]]) fun v bs => asSl v fun m fl xs => zB2 bs fun s b => (zRe (F 40 [AV.ptr 0 0 0, AV.int .i64 2] [[AV.str s, AV.bool b]]) fun v bs => zIn .i64 v fun n_1 => zB2 bs fun s b => (loopA (zBy F 11 1 N) (zDe 11 1) (zCt F 11 1 N 0) N { nt := 160, t := [(0, AV.str s0), (2, AV.ptr 2 0 0), (3, AV.int .i64 0), (4, AV.ptr 11 0 0), (5, AV.ptr 5 0 0), (6, btsV l0), (7, AV.str t0), (8, AV.int .i64 e0), (88, AV.int .i64 c), (89, AV.int .i64 i), (90, AV.bool (decide (i < c))), (108, AV.int .i64 n_1), (109, AV.int .i64 0)], b := [(2, [AV.int .i64 0, AV.bool false, AV.bool false, AV.int .i64 0, AV.sl 0 true [], AV.int .i64 0, AV.sl 0 true [], AV.bool false, AV.sl 0 true [], AV.sl 0 true [], AV.int .i64 0, AV.sl 0 true [], AV.sl 0 true [], AV.int .i64 0, AV.int .i64 0, AV.int .i64 0, AV.bool false, AV.sl 0 true [], AV.int .i64 0, AV.sl 0 true [], AV.sl 0 true [], AV.int .i64 0, AV.int .i64 0, AV.int .i64 0, AV.int .i64 0, AV.int .i64 0]), (5, (ndG n (vsV (Nd.vs n)) (wsV (Nd.kp n)) (AV.tip 101 0 3 ys) (AV.sl m fl xs) (AV.sl 0 true []) (AV.sl 0 true []) (AV.int .i64 0) (AV.int .i64 0))), (11, [AV.str s, AV.bool b])], r := [], g := [], rd := [], wr := [] })) := by kernel_rfl
def dfS (s0 t0 : List UInt8) (l0 : List (Int × Int)) (e0 : Int) (n : Nd) (v w : AV) (s : List UInt8) (b : Bool) (c i : Int) (b2 : Bool) (c2 j : Int) : St := ⟨160, [(0, .str s0), (2, .ptr 2 0 0), (3, .int .i64 0), (4, .ptr 11 0 0), (5, .ptr 5 0 0), (6, btsV l0), (7, .str t0), (8, .int .i64 e0), (88, .int .i64 c), (89, .int .i64 i), (90, .bool b2), (108, .int .i64 c2), (109, .int .i64 j)], [(2, zdL), (5, deL n v (wsV n.cp) w (.sl 0 true [])), (11, [.str s, .bool b])], [], [], [], []⟩
theorem c11aa (F : Fns) (N : Nat) (s0 t0 : List UInt8) (l0 : List (Int × Int)) (e0 : Int) (n : Nd) (s : List UInt8) (b : Bool) (c i : Int) (b2 : Bool) (c2 j : Int) (KN : St → Res) : zBy F 11 1 N (dfS s0 t0 l0 e0 n (.sl 0 true []) (.sl 0 true []) s b c i b2 c2 j) (brk (zCt F 11 1 N 0) KN) =
 bif decide (j < c2) then zRe (F 40 [AV.ptr 0 0 0, AV.int .i64 8] [[AV.str s, AV.bool b]]) fun v bs => zIn .i64 v fun n_1 => zB2 bs fun s b => (zRe (F 40 [AV.ptr 0 0 0, AV.int .i64 8] [[AV.str s, AV.bool b]]) fun v bs => zIn .i64 v fun n_2 => zB2 bs fun s b => (zRe (F 46 [AV.ptr 0 0 0] [[AV.str s, AV.bool b]]) fun v bs => asSl v fun m fl xs => zB2 bs fun s b => (bif b then zRe (F 46 [AV.ptr 0 0 0] [[AV.str s, AV.bool b]]) fun v bs => asSl v fun m_1 fl_1 xs_1 => zB2 bs fun s b => (zRe (F 40 [AV.ptr 0 0 0, AV.int .i64 8] [[AV.str s, AV.bool b]]) fun v bs => zIn .i64 v fun n_3 => zB2 bs fun s b => (zRe (F 40 [AV.ptr 0 0 0, AV.int .i64 8] [[AV.str s, AV.bool b]]) fun v bs => zIn .i64 v fun n_4 => zB2 bs fun s b => (bif b then some (AV.tup [AV.agg [AV.int .i64 0, AV.bool false, AV.bool false, AV.int .i64 0, AV.sl 0 true [], AV.int .i64 0, AV.sl 0 true [], AV.bool false, AV.sl 0 true [], AV.sl 0 true [], AV.int .i64 0, AV.sl 0 true [], AV.sl 0 true [], AV.int .i64 0, AV.int .i64 0, AV.int .i64 0, AV.bool false, AV.sl 0 true [], AV.int .i64 0, AV.sl 0 true [], AV.sl 0 true [], AV.int .i64 0, AV.int .i64 0, AV.int .i64 0, AV.int .i64 0, AV.int .i64 0], AV.int .i64 3], []) else bif !s == Array.toList (ByteArray.data { data := #[] }) then some (AV.tup [AV.agg [AV.int .i64 0, AV.bool false, AV.bool false, AV.int .i64 0, AV.sl 0 true [], AV.int .i64 0, AV.sl 0 true [], AV.bool false, AV.sl 0 true [], AV.sl 0 true [], AV.int .i64 0, AV.sl 0 true [], AV.sl 0 true [], AV.int .i64 0, AV.int .i64 0, AV.int .i64 0, AV.bool false, AV.sl 0 true [], AV.int .i64 0, AV.sl 0 true [], AV.sl 0 true [], AV.int .i64 0, AV.int .i64 0, AV.int .i64 0, AV.int .i64 0, AV.int .i64 0], AV.int .i64 3], []) else zRe (F 22 [AV.agg (ndG n (vsV (Nd.vs n)) (wsV (Nd.kp n)) (AV.sl 0 true []) (wsV (Nd.cp n)) (AV.sl 3 false ([] ++ [AV.agg [AV.int .i64 n_1, AV.int .i64 n_2, AV.sl m fl xs]])) (AV.sl m_1 fl_1 xs_1) (AV.int .i64 n_3) (AV.int .i64 n_4))] []) fun v bs => zBo v fun b => zNi bs (bif !b then some (AV.tup [AV.agg [AV.int .i64 0, AV.bool false, AV.bool false, AV.int .i64 0, AV.sl 0 true [], AV.int .i64 0, AV.sl 0 true [], AV.bool false, AV.sl 0 true [], AV.sl 0 true [], AV.int .i64 0, AV.sl 0 true [], AV.sl 0 true [], AV.int .i64 0, AV.int .i64 0, AV.int .i64 0, AV.bool false, AV.sl 0 true [], AV.int .i64 0, AV.sl 0 true [], AV.sl 0 true [], AV.int .i64 0, AV.int .i64 0, AV.int .i64 0, AV.int .i64 0, AV.int .i64 0], AV.int .i64 3], []) else some (AV.tup [AV.agg (ndG n (vsV (Nd.vs n)) (wsV (Nd.kp n)) (AV.sl 0 true []) (wsV (Nd.cp n)) (AV.sl 3 false [AV.agg [AV.int .i64 n_1, AV.int .i64 n_2, AV.sl m fl xs]]) (AV.sl m_1 fl_1 xs_1) (AV.int .i64 n_3) (AV.int .i64 n_4)), AV.int .i64 0], []))))) else KN { nt := 160, t := [(0, AV.str s0), (2, AV.ptr 2 0 0), (3, AV.int .i64 0), (4, AV.ptr 11 0 0), (5, AV.ptr 5 0 0), (6, btsV l0), (7, AV.str t0), (8, AV.int .i64 e0), (88, AV.int .i64 c), (89, AV.int .i64 i), (90, AV.bool b2), (108, AV.int .i64 c2), (109, AV.int .i64 (IntKind.wrap .i64 (j + 1))), (110, AV.bool (decide (j < c2))), (128, AV.bool b)], b := [(2, [AV.int .i64 0, AV.bool false, AV.bool false, AV.int .i64 0, AV.sl 0 true [], AV.int .i64 0, AV.sl 0 true [], AV.bool false, AV.sl 0 true [], AV.sl 0 true [], AV.int .i64 0, AV.sl 0 true [], AV.sl 0 true [], AV.int .i64 0, AV.int .i64 0, AV.int .i64 0, AV.bool false, AV.sl 0 true [], AV.int .i64 0, AV.sl 0 true [], AV.sl 0 true [], AV.int .i64 0, AV.int .i64 0, AV.int .i64 0, AV.int .i64 0, AV.int .i64 0]), (5, (ndG n (vsV (Nd.vs n)) (wsV (Nd.kp n)) (AV.sl 0 true []) (wsV (Nd.cp n)) (AV.tip 122 0 3 [AV.agg [AV.int .i64 n_1, AV.int .i64 n_2, AV.sl m fl xs]]) (AV.sl 0 true []) (AV.int .i64 0) (AV.int .i64 0))), (11, [AV.str s, AV.bool b])], r := [], g := [], rd := [], wr := [] }))) else zRe (F 46 [AV.ptr 0 0 0] [[AV.str s, AV.bool b]]) fun v bs => asSl v fun m fl xs => zB2 bs fun s b => (zRe (F 40 [AV.ptr 0 0 0, AV.int .i64 8] [[AV.str s, AV.bool b]]) fun v bs => zIn .i64 v fun n_1 => zB2 bs fun s b => (zRe (F 40 [AV.ptr 0 0 0, AV.int .i64 8] [[AV.str s, AV.bool b]]) fun v bs => zIn .i64 v fun n_2 => zB2 bs fun s b => (bif b then some (AV.tup [AV.agg [AV.int .i64 0, AV.bool false, AV.bool false, AV.int .i64 0, AV.sl 0 true [], AV.int .i64 0, AV.sl 0 true [], AV.bool false, AV.sl 0 true [], AV.sl 0 true [], AV.int .i64 0, AV.sl 0 true [], AV.sl 0 true [], AV.int .i64 0, AV.int .i64 0, AV.int .i64 0, AV.bool false, AV.sl 0 true [], AV.int .i64 0, AV.sl 0 true [], AV.sl 0 true [], AV.int .i64 0, AV.int .i64 0, AV.int .i64 0, AV.int .i64 0, AV.int .i64 0], AV.int .i64 3], []) else bif !s == [] then some (AV.tup [AV.agg [AV.int .i64 0, AV.bool false, AV.bool false, AV.int .i64 0, AV.sl 0 true [], AV.int .i64 0, AV.sl 0 true [], AV.bool false, AV.sl 0 true [], AV.sl 0 true [], AV.int .i64 0, AV.sl 0 true [], AV.sl 0 true [], AV.int .i64 0, AV.int .i64 0, AV.int .i64 0, AV.bool false, AV.sl 0 true [], AV.int .i64 0, AV.sl 0 true [], AV.sl 0 true [], AV.int .i64 0, AV.int .i64 0, AV.int .i64 0, AV.int .i64 0, AV.int .i64 0], AV.int .i64 3], []) else zRe (F 22 [AV.agg (ndG n (vsV (Nd.vs n)) (wsV (Nd.kp n)) (AV.sl 0 true []) (wsV (Nd.cp n)) (AV.sl 0 true []) (AV.sl m fl xs) (AV.int .i64 n_1) (AV.int .i64 n_2))] []) fun v bs => zBo v fun b => zNi bs (bif !b then some (AV.tup [AV.agg [AV.int .i64 0, AV.bool false, AV.bool false, AV.int .i64 0, AV.sl 0 true [], AV.int .i64 0, AV.sl 0 true [], AV.bool false, AV.sl 0 true [], AV.sl 0 true [], AV.int .i64 0, AV.sl 0 true [], AV.sl 0 true [], AV.int .i64 0, AV.int .i64 0, AV.int .i64 0, AV.bool false, AV.sl 0 true [], AV.int .i64 0, AV.sl 0 true [], AV.sl 0 true [], AV.int .i64 0, AV.int .i64 0, AV.int .i64 0, AV.int .i64 0, AV.int .i64 0], AV.int .i64 3], []) else some (AV.tup [AV.agg (ndG n (vsV (Nd.vs n)) (wsV (Nd.kp n)) (AV.sl 0 true []) (wsV (Nd.cp n)) (AV.sl 0 true []) (AV.sl m fl xs) (AV.int .i64 n_1) (AV.int .i64 n_2)), AV.int .i64 0], []))))) := by kernel_rfl
theorem c11ab (F : Fns) (N : Nat) (s0 t0 : List UInt8) (l0 : List (Int × Int)) (e0 : Int) (n : Nd) (ys : List AV) (s : List UInt8) (b : Bool) (c i : Int) (b2 : Bool) (c2 j : Int) (KN : St → Res) : zBy F 11 1 N (dfS s0 t0 l0 e0 n (.sl 0 true []) (.tip 122 0 3 ys) s b c i b2 c2 j) (brk (zCt F 11 1 N 0) KN) =
 bif decide (j < c2) then zRe (F 40 [AV.ptr 0 0 0, AV.int .i64 8] [[AV.str s, AV.bool b]]) fun v bs => zIn .i64 v fun n_1 => zB2 bs fun s_1 b_1 => (zRe (F 40 [AV.ptr 0 0 0, AV.int .i64 8] [[AV.str s_1, AV.bool b_1]]) fun v bs => zIn .i64 v fun n_2 => zB2 bs fun s_2 b_2 => (zRe (F 46 [AV.ptr 0 0 0] [[AV.str s_2, AV.bool b_2]]) fun v bs => asSl v fun m fl xs => zB2 bs fun s_3 b_3 => (bif decide (3 = 3 ∧ fitsB (List.length ys + List.length [AV.agg [AV.int .i64 n_1, AV.int .i64 n_2, AV.sl m fl xs]]) 40 = true ∧ List.length ys + List.length [AV.agg [AV.int .i64 n_1, AV.int .i64 n_2, AV.sl m fl xs]] ≤ 4611686018427387904) then bif b_3 then zRe (F 46 [AV.ptr 0 0 0] [[AV.str s_3, AV.bool b_3]]) fun v bs => asSl v fun m_1 fl_1 xs_1 => zB2 bs fun s b => (zRe (F 40 [AV.ptr 0 0 0, AV.int .i64 8] [[AV.str s, AV.bool b]]) fun v bs => zIn .i64 v fun n_3 => zB2 bs fun s b => (zRe (F 40 [AV.ptr 0 0 0, AV.int .i64 8] [[AV.str s, AV.bool b]]) fun v bs => zIn .i64 v fun n_4 => zB2 bs fun s b => (bif b then some (AV.tup [AV.agg [AV.int .i64 0, AV.bool false, AV.bool false, AV.int .i64 0, AV.sl 0 true [], AV.int .i64 0, AV.sl 0 true [], AV.bool false, AV.sl 0 true [], AV.sl 0 true [], AV.int .i64 0, AV.sl 0 true [], AV.sl 0 true [], AV.int .i64 0, AV.int .i64 0, AV.int .i64 0, AV.bool false, AV.sl 0 true [], AV.int .i64 0, AV.sl 0 true [], AV.sl 0 true [], AV.int .i64 0, AV.int .i64 0, AV.int .i64 0, AV.int .i64 0, AV.int .i64 0], AV.int .i64 3], []) else bif !s == Array.toList (ByteArray.data { data := #[] }) then some (AV.tup [AV.agg [AV.int .i64 0, AV.bool false, AV.bool false, AV.int .i64 0, AV.sl 0 true [], AV.int .i64 0, AV.sl 0 true [], AV.bool false, AV.sl 0 true [], AV.sl 0 true [], AV.int .i64 0, AV.sl 0 true [], AV.sl 0 true [], AV.int .i64 0, AV.int .i64 0, AV.int .i64 0, AV.bool false, AV.sl 0 true [], AV.int .i64 0, AV.sl 0 true [], AV.sl 0 true [], AV.int .i64 0, AV.int .i64 0, AV.int .i64 0, AV.int .i64 0, AV.int .i64 0], AV.int .i64 3], []) else zRe (F 22 [AV.agg (ndG n (vsV (Nd.vs n)) (wsV (Nd.kp n)) (AV.sl 0 true []) (wsV (Nd.cp n)) (AV.sl 3 false (ys ++ [AV.agg [AV.int .i64 n_1, AV.int .i64 n_2, AV.sl m fl xs]])) (AV.sl m_1 fl_1 xs_1) (AV.int .i64 n_3) (AV.int .i64 n_4))] []) fun v bs => zBo v fun b => zNi bs (bif !b then some (AV.tup [AV.agg [AV.int .i64 0, AV.bool false, AV.bool false, AV.int .i64 0, AV.sl 0 true [], AV.int .i64 0, AV.sl 0 true [], AV.bool false, AV.sl 0 true [], AV.sl 0 true [], AV.int .i64 0, AV.sl 0 true [], AV.sl 0 true [], AV.int .i64 0, AV.int .i64 0, AV.int .i64 0, AV.bool false, AV.sl 0 true [], AV.int .i64 0, AV.sl 0 true [], AV.sl 0 true [], AV.int .i64 0, AV.int .i64 0, AV.int .i64 0, AV.int .i64 0, AV.int .i64 0], AV.int .i64 3], []) else some (AV.tup [AV.agg (ndG n (vsV (Nd.vs n)) (wsV (Nd.kp n)) (AV.sl 0 true []) (wsV (Nd.cp n)) (AV.sl 3 false (ys ++ [AV.agg [AV.int .i64 n_1, AV.int .i64 n_2, AV.sl m fl xs]])) (AV.sl m_1 fl_1 xs_1) (AV.int .i64 n_3) (AV.int .i64 n_4)), AV.int .i64 0], []))))) else KN { nt := 160, t := [(0, AV.str s0), (2, AV.ptr 2 0 0), (3, AV.int .i64 0), (4, AV.ptr 11 0 0), (5, AV.ptr 5 0 0), (6, btsV l0), (7, AV.str t0), (8, AV.int .i64 e0), (88, AV.int .i64 c), (89, AV.int .i64 i), (90, AV.bool b2), (108, AV.int .i64 c2), (109, AV.int .i64 (IntKind.wrap .i64 (j + 1))), (110, AV.bool (decide (j < c2))), (128, AV.bool b_3)], b := [(2, [AV.int .i64 0, AV.bool false, AV.bool false, AV.int .i64 0, AV.sl 0 true [], AV.int .i64 0, AV.sl 0 true [], AV.bool false, AV.sl 0 true [], AV.sl 0 true [], AV.int .i64 0, AV.sl 0 true [], AV.sl 0 true [], AV.int .i64 0, AV.int .i64 0, AV.int .i64 0, AV.bool false, AV.sl 0 true [], AV.int .i64 0, AV.sl 0 true [], AV.sl 0 true [], AV.int .i64 0, AV.int .i64 0, AV.int .i64 0, AV.int .i64 0, AV.int .i64 0]), (5, (ndG n (vsV (Nd.vs n)) (wsV (Nd.kp n)) (AV.sl 0 true []) (wsV (Nd.cp n)) (AV.tip 122 0 3 (ys ++ [AV.agg [AV.int .i64 n_1, AV.int .i64 n_2, AV.sl m fl xs]])) (AV.sl 0 true []) (AV.int .i64 0) (AV.int .i64 0))), (11, [AV.str s_3, AV.bool b_3])], r := [], g := [], rd := [], wr := [] } else none))) else zRe (F 46 [AV.ptr 0 0 0] [[AV.str s, AV.bool b]]) fun v bs => asSl v fun m fl xs => zB2 bs fun s b => (zRe (F 40 [AV.ptr 0 0 0, AV.int .i64 8] [[AV.str s, AV.bool b]]) fun v bs => zIn .i64 v fun n_1 => zB2 bs fun s b => (zRe (F 40 [AV.ptr 0 0 0, AV.int .i64 8] [[AV.str s, AV.bool b]]) fun v bs => zIn .i64 v fun n_2 => zB2 bs fun s b => (bif b then some (AV.tup [AV.agg [AV.int .i64 0, AV.bool false, AV.bool false, AV.int .i64 0, AV.sl 0 true [], AV.int .i64 0, AV.sl 0 true [], AV.bool false, AV.sl 0 true [], AV.sl 0 true [], AV.int .i64 0, AV.sl 0 true [], AV.sl 0 true [], AV.int .i64 0, AV.int .i64 0, AV.int .i64 0, AV.bool false, AV.sl 0 true [], AV.int .i64 0, AV.sl 0 true [], AV.sl 0 true [], AV.int .i64 0, AV.int .i64 0, AV.int .i64 0, AV.int .i64 0, AV.int .i64 0], AV.int .i64 3], []) else bif !s == [] then some (AV.tup [AV.agg [AV.int .i64 0, AV.bool false, AV.bool false, AV.int .i64 0, AV.sl 0 true [], AV.int .i64 0, AV.sl 0 true [], AV.bool false, AV.sl 0 true [], AV.sl 0 true [], AV.int .i64 0, AV.sl 0 true [], AV.sl 0 true [], AV.int .i64 0, AV.int .i64 0, AV.int .i64 0, AV.bool false, AV.sl 0 true [], AV.int .i64 0, AV.sl 0 true [], AV.sl 0 true [], AV.int .i64 0, AV.int .i64 0, AV.int .i64 0, AV.int .i64 0, AV.int .i64 0], AV.int .i64 3], []) else zRe (F 22 [AV.agg (ndG n (vsV (Nd.vs n)) (wsV (Nd.kp n)) (AV.sl 0 true []) (wsV (Nd.cp n)) (AV.sl 3 false ys) (AV.sl m fl xs) (AV.int .i64 n_1) (AV.int .i64 n_2))] []) fun v bs => zBo v fun b => zNi bs (bif !b then some (AV.tup [AV.agg [AV.int .i64 0, AV.bool false, AV.bool false, AV.int .i64 0, AV.sl 0 true [], AV.int .i64 0, AV.sl 0 true [], AV.bool false, AV.sl 0 true [], AV.sl 0 true [], AV.int .i64 0, AV.sl 0 true [], AV.sl 0 true [], AV.int .i64 0, AV.int .i64 0, AV.int .i64 0, AV.bool false, AV.sl 0 true [], AV.int .i64 0, AV.sl 0 true [], AV.sl 0 true [], AV.int .i64 0, AV.int .i64 0, AV.int .i64 0, AV.int .i64 0, AV.int .i64 0], AV.int .i64 3], []) else some (AV.tup [AV.agg (ndG n (vsV (Nd.vs n)) (wsV (Nd.kp n)) (AV.sl 0 true []) (wsV (Nd.cp n)) (AV.sl 3 false ys) (AV.sl m fl xs) (AV.int .i64 n_1) (AV.int .i64 n_2)), AV.int .i64 0], []))))) := by kernel_rfl
theorem c11ba (F : Fns) (N : Nat) (s0 t0 : List UInt8) (l0 : List (Int × Int)) (e0 : Int) (n : Nd) (xs : List AV) (s : List UInt8) (b : Bool) (c i : Int) (b2 : Bool) (c2 j : Int) (KN : St → Res) : zBy F 11 1 N (dfS s0 t0 l0 e0 n (.tip 101 0 3 xs) (.sl 0 true []) s b c i b2 c2 j) (brk (zCt F 11 1 N 0) KN) =
 bif decide (j < c2) then zRe (F 40 [AV.ptr 0 0 0, AV.int .i64 8] [[AV.str s, AV.bool b]]) fun v bs => zIn .i64 v fun n_1 => zB2 bs fun s b => (zRe (F 40 [AV.ptr 0 0 0, AV.int .i64 8] [[AV.str s, AV.bool b]]) fun v bs => zIn .i64 v fun n_2 => zB2 bs fun s b => (zRe (F 46 [AV.ptr 0 0 0] [[AV.str s, AV.bool b]]) fun v bs => asSl v fun m fl xs_1 => zB2 bs fun s b => (bif b then zRe (F 46 [AV.ptr 0 0 0] [[AV.str s, AV.bool b]]) fun v bs => asSl v fun m_1 fl_1 xs_2 => zB2 bs fun s b => (zRe (F 40 [AV.ptr 0 0 0, AV.int .i64 8] [[AV.str s, AV.bool b]]) fun v bs => zIn .i64 v fun n_3 => zB2 bs fun s b => (zRe (F 40 [AV.ptr 0 0 0, AV.int .i64 8] [[AV.str s, AV.bool b]]) fun v bs => zIn .i64 v fun n_4 => zB2 bs fun s b => (bif b then some (AV.tup [AV.agg [AV.int .i64 0, AV.bool false, AV.bool false, AV.int .i64 0, AV.sl 0 true [], AV.int .i64 0, AV.sl 0 true [], AV.bool false, AV.sl 0 true [], AV.sl 0 true [], AV.int .i64 0, AV.sl 0 true [], AV.sl 0 true [], AV.int .i64 0, AV.int .i64 0, AV.int .i64 0, AV.bool false, AV.sl 0 true [], AV.int .i64 0, AV.sl 0 true [], AV.sl 0 true [], AV.int .i64 0, AV.int .i64 0, AV.int .i64 0, AV.int .i64 0, AV.int .i64 0], AV.int .i64 3], []) else bif !s == Array.toList (ByteArray.data { data := #[] }) then some (AV.tup [AV.agg [AV.int .i64 0, AV.bool false, AV.bool false, AV.int .i64 0, AV.sl 0 true [], AV.int .i64 0, AV.sl 0 true [], AV.bool false, AV.sl 0 true [], AV.sl 0 true [], AV.int .i64 0, AV.sl 0 true [], AV.sl 0 true [], AV.int .i64 0, AV.int .i64 0, AV.int .i64 0, AV.bool false, AV.sl 0 true [], AV.int .i64 0, AV.sl 0 true [], AV.sl 0 true [], AV.int .i64 0, AV.int .i64 0, AV.int .i64 0, AV.int .i64 0, AV.int .i64 0], AV.int .i64 3], []) else zRe (F 22 [AV.agg (ndG n (vsV (Nd.vs n)) (wsV (Nd.kp n)) (AV.sl 3 false xs) (wsV (Nd.cp n)) (AV.sl 3 false ([] ++ [AV.agg [AV.int .i64 n_1, AV.int .i64 n_2, AV.sl m fl xs_1]])) (AV.sl m_1 fl_1 xs_2) (AV.int .i64 n_3) (AV.int .i64 n_4))] []) fun v bs => zBo v fun b => zNi bs (bif !b then some (AV.tup [AV.agg [AV.int .i64 0, AV.bool false, AV.bool false, AV.int .i64 0, AV.sl 0 true [], AV.int .i64 0, AV.sl 0 true [], AV.bool false, AV.sl 0 true [], AV.sl 0 true [], AV.int .i64 0, AV.sl 0 true [], AV.sl 0 true [], AV.int .i64 0, AV.int .i64 0, AV.int .i64 0, AV.bool false, AV.sl 0 true [], AV.int .i64 0, AV.sl 0 true [], AV.sl 0 true [], AV.int .i64 0, AV.int .i64 0, AV.int .i64 0, AV.int .i64 0, AV.int .i64 0], AV.int .i64 3], []) else some (AV.tup [AV.agg (ndG n (vsV (Nd.vs n)) (wsV (Nd.kp n)) (AV.sl 3 false xs) (wsV (Nd.cp n)) (AV.sl 3 false [AV.agg [AV.int .i64 n_1, AV.int .i64 n_2, AV.sl m fl xs_1]]) (AV.sl m_1 fl_1 xs_2) (AV.int .i64 n_3) (AV.int .i64 n_4)), AV.int .i64 0], []))))) else KN { nt := 160, t := [(0, AV.str s0), (2, AV.ptr 2 0 0), (3, AV.int .i64 0), (4, AV.ptr 11 0 0), (5, AV.ptr 5 0 0), (6, btsV l0), (7, AV.str t0), (8, AV.int .i64 e0), (88, AV.int .i64 c), (89, AV.int .i64 i), (90, AV.bool b2), (108, AV.int .i64 c2), (109, AV.int .i64 (IntKind.wrap .i64 (j + 1))), (110, AV.bool (decide (j < c2))), (128, AV.bool b)], b := [(2, [AV.int .i64 0, AV.bool false, AV.bool false, AV.int .i64 0, AV.sl 0 true [], AV.int .i64 0, AV.sl 0 true [], AV.bool false, AV.sl 0 true [], AV.sl 0 true [], AV.int .i64 0, AV.sl 0 true [], AV.sl 0 true [], AV.int .i64 0, AV.int .i64 0, AV.int .i64 0, AV.bool false, AV.sl 0 true [], AV.int .i64 0, AV.sl 0 true [], AV.sl 0 true [], AV.int .i64 0, AV.int .i64 0, AV.int .i64 0, AV.int .i64 0, AV.int .i64 0]), (5, (ndG n (vsV (Nd.vs n)) (wsV (Nd.kp n)) (AV.tip 101 0 3 xs) (wsV (Nd.cp n)) (AV.tip 122 0 3 [AV.agg [AV.int .i64 n_1, AV.int .i64 n_2, AV.sl m fl xs_1]]) (AV.sl 0 true []) (AV.int .i64 0) (AV.int .i64 0))), (11, [AV.str s, AV.bool b])], r := [], g := [], rd := [], wr := [] }))) else zRe (F 46 [AV.ptr 0 0 0] [[AV.str s, AV.bool b]]) fun v bs => asSl v fun m fl xs_1 => zB2 bs fun s b => (zRe (F 40 [AV.ptr 0 0 0, AV.int .i64 8] [[AV.str s, AV.bool b]]) fun v bs => zIn .i64 v fun n_1 => zB2 bs fun s b => (zRe (F 40 [AV.ptr 0 0 0, AV.int .i64 8] [[AV.str s, AV.bool b]]) fun v bs => zIn .i64 v fun n_2 => zB2 bs fun s b => (bif b then some (AV.tup [AV.agg [AV.int .i64 0, AV.bool false, AV.bool false, AV.int .i64 0, AV.sl 0 true [], AV.int .i64 0, AV.sl 0 true [], AV.bool false, AV.sl 0 true [], AV.sl 0 true [], AV.int .i64 0, AV.sl 0 true [], AV.sl 0 true [], AV.int .i64 0, AV.int .i64 0, AV.int .i64 0, AV.bool false, AV.sl 0 true [], AV.int .i64 0, AV.sl 0 true [], AV.sl 0 true [], AV.int .i64 0, AV.int .i64 0, AV.int .i64 0, AV.int .i64 0, AV.int .i64 0], AV.int .i64 3], []) else bif !s == [] then some (AV.tup [AV.agg [AV.int .i64 0, AV.bool false, AV.bool false, AV.int .i64 0, AV.sl 0 true [], AV.int .i64 0, AV.sl 0 true [], AV.bool false, AV.sl 0 true [], AV.sl 0 true [], AV.int .i64 0, AV.sl 0 true [], AV.sl 0 true [], AV.int .i64 0, AV.int .i64 0, AV.int .i64 0, AV.bool false, AV.sl 0 true [], AV.int .i64 0, AV.sl 0 true [], AV.sl 0 true [], AV.int .i64 0, AV.int .i64 0, AV.int .i64 0, AV.int .i64 0, AV.int .i64 0], AV.int .i64 3], []) else zRe (F 22 [AV.agg (ndG n (vsV (Nd.vs n)) (wsV (Nd.kp n)) (AV.sl 3 false xs) (wsV (Nd.cp n)) (AV.sl 0 true []) (AV.sl m fl xs_1) (AV.int .i64 n_1) (AV.int .i64 n_2))] []) fun v bs => zBo v fun b => zNi bs (bif !b then some (AV.tup [AV.agg [AV.int .i64 0, AV.bool false, AV.bool false, AV.int .i64 0, AV.sl 0 true [], AV.int .i64 0, AV.sl 0 true [], AV.bool false, AV.sl 0 true [], AV.sl 0 true [], AV.int .i64 0, AV.sl 0 true [], AV.sl 0 true [], AV.int .i64 0, AV.int .i64 0, AV.int .i64 0, AV.bool false, AV.sl 0 true [], AV.int .i64 0, AV.sl 0 true [], AV.sl 0 true [], AV.int .i64 0, AV.int .i64 0, AV.int .i64 0, AV.int .i64 0, AV.int .i64 0], AV.int .i64 3], []) else some (AV.tup [AV.agg (ndG n (vsV (Nd.vs n)) (wsV (Nd.kp n)) (AV.sl 3 false xs) (wsV (Nd.cp n)) (AV.sl 0 true []) (AV.sl m fl xs_1) (AV.int .i64 n_1) (AV.int .i64 n_2)), AV.int .i64 0], []))))) := by kernel_rfl
theorem c11bb (F : Fns) (N : Nat) (s0 t0 : List UInt8) (l0 : List (Int × Int)) (e0 : Int) (n : Nd) (xs ys : List AV) (s : List UInt8) (b : Bool) (c i : Int) (b2 : Bool) (c2 j : Int) (KN : St → Res) : zBy F 11 1 N (dfS s0 t0 l0 e0 n (.tip 101 0 3 xs) (.tip 122 0 3 ys) s b c i b2 c2 j) (brk (zCt F 11 1 N 0) KN) =
 bif decide (j < c2) then zRe (F 40 [AV.ptr 0 0 0, AV.int .i64 8] [[AV.str s, AV.bool b]]) fun v bs => zIn .i64 v fun n_1 => zB2 bs fun s_1 b_1 => (zRe (F 40 [AV.ptr 0 0 0, AV.int .i64 8] [[AV.str s_1, AV.bool b_1]]) fun v bs => zIn .i64 v fun n_2 => zB2 bs fun s_2 b_2 => (zRe (F 46 [AV.ptr 0 0 0] [[AV.str s_2, AV.bool b_2]]) fun v bs => asSl v fun m fl xs_1 => zB2 bs fun s_3 b_3 => (bif decide (3 = 3 ∧ fitsB (List.length ys + List.length [AV.agg [AV.int .i64 n_1, AV.int .i64 n_2, AV.sl m fl xs_1]]) 40 = true ∧ List.length ys + List.length [AV.agg [AV.int .i64 n_1, AV.int .i64 n_2, AV.sl m fl xs_1]] ≤ 4611686018427387904) then bif b_3 then zRe (F 46 [AV.ptr 0 0 0] [[AV.str s_3, AV.bool b_3]]) fun v bs => asSl v fun m_1 fl_1 xs_2 => zB2 bs fun s b => (zRe (F 40 [AV.ptr 0 0 0, AV.int .i64 8] [[AV.str s, AV.bool b]]) fun v bs => zIn .i64 v fun n_3 => zB2 bs fun s b => (zRe (F 40 [AV.ptr 0 0 0, AV.int .i64 8] [[AV.str s, AV.bool b]]) fun v bs => zIn .i64 v fun n_4 => zB2 bs fun s b => (bif b then some (AV.tup [AV.agg [AV.int .i64 0, AV.bool false, AV.bool false, AV.int .i64 0, AV.sl 0 true [], AV.int .i64 0, AV.sl 0 true [], AV.bool false, AV.sl 0 true [], AV.sl 0 true [], AV.int .i64 0, AV.sl 0 true [], AV.sl 0 true [], AV.int .i64 0, AV.int .i64 0, AV.int .i64 0, AV.bool false, AV.sl 0 true [], AV.int .i64 0, AV.sl 0 true [], AV.sl 0 true [], AV.int .i64 0, AV.int .i64 0, AV.int .i64 0, AV.int .i64 0, AV.int .i64 0], AV.int .i64 3], []) else bif !s == Array.toList (ByteArray.data { data := #[] }) then some (AV.tup [AV.agg [AV.int .i64 0, AV.bool false, AV.bool false, AV.int .i64 0, AV.sl 0 true [], AV.int .i64 0, AV.sl 0 true [], AV.bool false, AV.sl 0 true [], AV.sl 0 true [], AV.int .i64 0, AV.sl 0 true [], AV.sl 0 true [], AV.int .i64 0, AV.int .i64 0, AV.int .i64 0, AV.bool false, AV.sl 0 true [], AV.int .i64 0, AV.sl 0 true [], AV.sl 0 true [], AV.int .i64 0, AV.int .i64 0, AV.int .i64 0, AV.int .i64 0, AV.int .i64 0], AV.int .i64 3], []) else zRe (F 22 [AV.agg (ndG n (vsV (Nd.vs n)) (wsV (Nd.kp n)) (AV.sl 3 false xs) (wsV (Nd.cp n)) (AV.sl 3 false (ys ++ [AV.agg [AV.int .i64 n_1, AV.int .i64 n_2, AV.sl m fl xs_1]])) (AV.sl m_1 fl_1 xs_2) (AV.int .i64 n_3) (AV.int .i64 n_4))] []) fun v bs => zBo v fun b => zNi bs (bif !b then some (AV.tup [AV.agg [AV.int .i64 0, AV.bool false, AV.bool false, AV.int .i64 0, AV.sl 0 true [], AV.int .i64 0, AV.sl 0 true [], AV.bool false, AV.sl 0 true [], AV.sl 0 true [], AV.int .i64 0, AV.sl 0 true [], AV.sl 0 true [], AV.int .i64 0, AV.int .i64 0, AV.int .i64 0, AV.bool false, AV.sl 0 true [], AV.int .i64 0, AV.sl 0 true [], AV.sl 0 true [], AV.int .i64 0, AV.int .i64 0, AV.int .i64 0, AV.int .i64 0, AV.int .i64 0], AV.int .i64 3], []) else some (AV.tup [AV.agg (ndG n (vsV (Nd.vs n)) (wsV (Nd.kp n)) (AV.sl 3 false xs) (wsV (Nd.cp n)) (AV.sl 3 false (ys ++ [AV.agg [AV.int .i64 n_1, AV.int .i64 n_2, AV.sl m fl xs_1]])) (AV.sl m_1 fl_1 xs_2) (AV.int .i64 n_3) (AV.int .i64 n_4)), AV.int .i64 0], []))))) else KN { nt := 160, t := [(0, AV.str s0), (2, AV.ptr 2 0 0), (3, AV.int .i64 0), (4, AV.ptr 11 0 0), (5, AV.ptr 5 0 0), (6, btsV l0), (7, AV.str t0), (8, AV.int .i64 e0), (88, AV.int .i64 c), (89, AV.int .i64 i), (90, AV.bool b2), (108, AV.int .i64 c2), (109, AV.int .i64 (IntKind.wrap .i64 (j + 1))), (110, AV.bool (decide (j < c2))), (128, AV.bool b_3)], b := [(2, [AV.int .i64 0, AV.bool false, AV.bool false, AV.int .i64 0, AV.sl 0 true [], AV.int .i64 0, AV.sl 0 true [], AV.bool false, AV.sl 0 true [], AV.sl 0 true [], AV.int .i64 0, AV.sl 0 true [], AV.sl 0 true [], AV.int .i64 0, AV.int .i64 0, AV.int .i64 0, AV.bool false, AV.sl 0 true [], AV.int .i64 0, AV.sl 0 true [], AV.sl 0 true [], AV.int .i64 0, AV.int .i64 0, AV.int .i64 0, AV.int .i64 0, AV.int .i64 0]), (5, (ndG n (vsV (Nd.vs n)) (wsV (Nd.kp n)) (AV.tip 101 0 3 xs) (wsV (Nd.cp n)) (AV.tip 122 0 3 (ys ++ [AV.agg [AV.int .i64 n_1, AV.int .i64 n_2, AV.sl m fl xs_1]])) (AV.sl 0 true []) (AV.int .i64 0) (AV.int .i64 0))), (11, [AV.str s_3, AV.bool b_3])], r := [], g := [], rd := [], wr := [] } else none))) else zRe (F 46 [AV.ptr 0 0 0] [[AV.str s, AV.bool b]]) fun v bs => asSl v fun m fl xs_1 => zB2 bs fun s b => (zRe (F 40 [AV.ptr 0 0 0, AV.int .i64 8] [[AV.str s, AV.bool b]]) fun v bs => zIn .i64 v fun n_1 => zB2 bs fun s b => (zRe (F 40 [AV.ptr 0 0 0, AV.int .i64 8] [[AV.str s, AV.bool b]]) fun v bs => zIn .i64 v fun n_2 => zB2 bs fun s b => (bif b then some (AV.tup [AV.agg [AV.int .i64 0, AV.bool false, AV.bool false, AV.int .i64 0, AV.sl 0 true [], AV.int .i64 0, AV.sl 0 true [], AV.bool false, AV.sl 0 true [], AV.sl 0 true [], AV.int .i64 0, AV.sl 0 true [], AV.sl 0 true [], AV.int .i64 0, AV.int .i64 0, AV.int .i64 0, AV.bool false, AV.sl 0 true [], AV.int .i64 0, AV.sl 0 true [], AV.sl 0 true [], AV.int .i64 0, AV.int .i64 0, AV.int .i64 0, AV.int .i64 0, AV.int .i64 0], AV.int .i64 3], []) else bif !s == [] then some (AV.tup [AV.agg [AV.int .i64 0, AV.bool false, AV.bool false, AV.int .i64 0, AV.sl 0 true [], AV.int .i64 0, AV.sl 0 true [], AV.bool false, AV.sl 0 true [], AV.sl 0 true [], AV.int .i64 0, AV.sl 0 true [], AV.sl 0 true [], AV.int .i64 0, AV.int .i64 0, AV.int .i64 0, AV.bool false, AV.sl 0 true [], AV.int .i64 0, AV.sl 0 true [], AV.sl 0 true [], AV.int .i64 0, AV.int .i64 0, AV.int .i64 0, AV.int .i64 0, AV.int .i64 0], AV.int .i64 3], []) else zRe (F 22 [AV.agg (ndG n (vsV (Nd.vs n)) (wsV (Nd.kp n)) (AV.sl 3 false xs) (wsV (Nd.cp n)) (AV.sl 3 false ys) (AV.sl m fl xs_1) (AV.int .i64 n_1) (AV.int .i64 n_2))] []) fun v bs => zBo v fun b => zNi bs (bif !b then some (AV.tup [AV.agg [AV.int .i64 0, AV.bool false, AV.bool false, AV.int .i64 0, AV.sl 0 true [], AV.int .i64 0, AV.sl 0 true [], AV.bool false, AV.sl 0 true [], AV.sl 0 true [], AV.int .i64 0, AV.sl 0 true [], AV.sl 0 true [], AV.int .i64 0, AV.int .i64 0, AV.int .i64 0, AV.bool false, AV.sl 0 true [], AV.int .i64 0, AV.sl 0 true [], AV.sl 0 true [], AV.int .i64 0, AV.int .i64 0, AV.int .i64 0, AV.int .i64 0, AV.int .i64 0], AV.int .i64 3], []) else some (AV.tup [AV.agg (ndG n (vsV (Nd.vs n)) (wsV (Nd.kp n)) (AV.sl 3 false xs) (wsV (Nd.cp n)) (AV.sl 3 false ys) (AV.sl m fl xs_1) (AV.int .i64 n_1) (AV.int .i64 n_2)), AV.int .i64 0], []))))) := by kernel_rfl
def endN (n : Nd) (r : Rd) : Nd := { n with qo := (wrR r).1, qf := ((nuR 8 (wrR r).2).1 : Nat), qt := ((nuR 8 (nuR 8 (wrR r).2).2).1 : Nat) }
def endR (r : Rd) : Rd := (nuR 8 (nuR 8 (wrR r).2).2).2
def rwL (n : Nd) : List AV := [.int .i64 n.ro, .bool n.st, .bool n.va, .int .i64 n.kn, lnV n.ln, .int .i64 n.sq, vsV n.vs, .bool n.sh, wsV n.kp, lnV n.al, .int .i64 n.aq, btsV n.ch, gsV 3 (n.ss.map shV), .int .i64 n.sn, .int .i64 n.md, .int .i64 n.sy, .bool n.fu, wsV n.cp, .int .i64 n.go, gsV 3 (n.qs.map shV), wsV n.qo, .int .i64 n.qf, .int .i64 n.qt, .int .i64 n.fr, .int .i64 n.fn, .int .i64 n.nx]
open Classical in
def outD (n : Nd) (r : Rd) : Res := if r.2 = false ∧ r.1 = [] ∧ nodeOk n = true then some (.tup [.agg (rwL n), .int .i64 0], []) else some (.tup [.agg zdL, .int .i64 3], [])
theorem can22 (ro kn sq aq sn md sy go qf qt fr fn nx : Int) (st va sh fu : Bool) (ln vs kp al ch cp qo : AV) (a b : List AV) : canVs (ctA ct 22) [.agg [.int .i64 ro, .bool st, .bool va, .int .i64 kn, ln, .int .i64 sq, vs, .bool sh, kp, al, .int .i64 aq, ch, gsV 3 a, .int .i64 sn, .int .i64 md, .int .i64 sy, .bool fu, cp, .int .i64 go, gsV 3 b, qo, .int .i64 qf, .int .i64 qt, .int .i64 fr, .int .i64 fn, .int .i64 nx]] = canVs (ctA ct 22) [.agg [.int .i64 ro, .bool st, .bool va, .int .i64 kn, ln, .int .i64 sq, vs, .bool sh, kp, al, .int .i64 aq, ch, .sl 3 false a, .int .i64 sn, .int .i64 md, .int .i64 sy, .bool fu, cp, .int .i64 go, .sl 3 false b, qo, .int .i64 qf, .int .i64 qt, .int .i64 fr, .int .i64 fn, .int .i64 nx]] := by
 cases a <;> cases b <;> kernel_rfl
theorem x22r (k : Nat) (hk : 70500 ≤ k) (n : Nd) (hb : NdB n) : W k 22 [.agg (rwL n)] [] = some (.bool (nodeOk n), []) := W_arg (x22 k hk n hb) (can22 ..)
theorem tail11 (k : Nat) (hk : 70600 ≤ k) (n : Nd) (q : List Shot) (r0 : Rd) (vss vqs : AV) (h1 : vss = gsV 3 (n.ss.map shV)) (h2 : vqs = gsV 3 (q.map shV)) (hB : (endR r0).2 = false → (endR r0).1 = [] → NdB (endN { n with qs := q } r0)) :
 (zRe (W k 46 [AV.ptr 0 0 0] [[AV.str r0.1, AV.bool r0.2]]) fun v bs => asSl v fun m fl xs => zB2 bs fun s b => (zRe (W k 40 [AV.ptr 0 0 0, AV.int .i64 8] [[AV.str s, AV.bool b]]) fun v bs => zIn .i64 v fun n_1 => zB2 bs fun s b => (zRe (W k 40 [AV.ptr 0 0 0, AV.int .i64 8] [[AV.str s, AV.bool b]]) fun v bs => zIn .i64 v fun n_2 => zB2 bs fun s b => (bif b then some (AV.tup [AV.agg [AV.int .i64 0, AV.bool false, AV.bool false, AV.int .i64 0, AV.sl 0 true [], AV.int .i64 0, AV.sl 0 true [], AV.bool false, AV.sl 0 true [], AV.sl 0 true [], AV.int .i64 0, AV.sl 0 true [], AV.sl 0 true [], AV.int .i64 0, AV.int .i64 0, AV.int .i64 0, AV.bool false, AV.sl 0 true [], AV.int .i64 0, AV.sl 0 true [], AV.sl 0 true [], AV.int .i64 0, AV.int .i64 0, AV.int .i64 0, AV.int .i64 0, AV.int .i64 0], AV.int .i64 3], []) else bif !s == [] then some (AV.tup [AV.agg [AV.int .i64 0, AV.bool false, AV.bool false, AV.int .i64 0, AV.sl 0 true [], AV.int .i64 0, AV.sl 0 true [], AV.bool false, AV.sl 0 true [], AV.sl 0 true [], AV.int .i64 0, AV.sl 0 true [], AV.sl 0 true [], AV.int .i64 0, AV.int .i64 0, AV.int .i64 0, AV.bool false, AV.sl 0 true [], AV.int .i64 0, AV.sl 0 true [], AV.sl 0 true [], AV.int .i64 0, AV.int .i64 0, AV.int .i64 0, AV.int .i64 0, AV.int .i64 0], AV.int .i64 3], []) else zRe (W k 22 [AV.agg (ndG n (vsV (Nd.vs n)) (wsV (Nd.kp n)) vss (wsV (Nd.cp n)) vqs (AV.sl m fl xs) (AV.int .i64 n_1) (AV.int .i64 n_2))] []) fun v bs => zBo v fun b => zNi bs (bif !b then some (AV.tup [AV.agg [AV.int .i64 0, AV.bool false, AV.bool false, AV.int .i64 0, AV.sl 0 true [], AV.int .i64 0, AV.sl 0 true [], AV.bool false, AV.sl 0 true [], AV.sl 0 true [], AV.int .i64 0, AV.sl 0 true [], AV.sl 0 true [], AV.int .i64 0, AV.int .i64 0, AV.int .i64 0, AV.bool false, AV.sl 0 true [], AV.int .i64 0, AV.sl 0 true [], AV.sl 0 true [], AV.int .i64 0, AV.int .i64 0, AV.int .i64 0, AV.int .i64 0, AV.int .i64 0], AV.int .i64 3], []) else some (AV.tup [AV.agg (ndG n (vsV (Nd.vs n)) (wsV (Nd.kp n)) vss (wsV (Nd.cp n)) vqs (AV.sl m fl xs) (AV.int .i64 n_1) (AV.int .i64 n_2)), AV.int .i64 0], [])))))) = outD (endN { n with qs := q } r0) (endR r0) := by
 subst h1 h2
 refine qO (x46 k (by omega) r0) ?_
 repeat with_reducible first|apply qT|apply qC|apply qN|apply qS|apply qB|apply qI|apply qA|apply qL
 refine qO (x40 k (by omega) _ 8 (by omega) (by omega)) ?_
 repeat with_reducible first|apply qT|apply qC|apply qN|apply qS|apply qB|apply qI|apply qA|apply qL
 refine qO (x40 k (by omega) _ 8 (by omega) (by omega)) ?_
 repeat with_reducible first|apply qT|apply qC|apply qN|apply qS|apply qB|apply qI|apply qA|apply qL
 have he : (nuR 8 (nuR 8 (wrR r0).2).2).2 = endR r0 := rfl
 rw [he]
 unfold outD
 cases hb : (endR r0).2 with
 | true =>
  rw [if_neg (by simp)]
  rfl
 | false =>
  by_cases hs : (endR r0).1 = []
  ·refine qX rfl ?_
   refine qX (by rw [hs]; rfl) ?_
   refine qO (x22r k (by omega) (endN { n with qs := q } r0) (hB hb hs)) ?_
   repeat with_reducible first|apply qT|apply qC|apply qN|apply qS|apply qB|apply qI|apply qA|apply qL
   cases hok : nodeOk (endN { n with qs := q } r0) with
   | true => rw [if_pos ⟨rfl, hs, rfl⟩]; rfl
   | false => rw [if_neg (by simp)]; rfl
  ·refine qX rfl ?_
   refine qY (by simpa using hs) ?_
   rw [if_neg (by simp [hs])]
   rfl
theorem gs_app (y : Shot) (r : List Shot) (x : Shot) : AV.sl 3 false (shV y :: r.map shV ++ [shV x]) = gsV 3 ((y :: r ++ [x]).map shV) := by
 rw [List.map_append]
 rfl
theorem sets11 (k : Nat) (hk : 70600 ≤ k) (s0 t0 : List UInt8) (l0 : List (Int × Int)) (e0 : Int) (n : Nd) (xs : List AV) (hx : xs = n.ss.map shV) (c i : Int) (b2 : Bool) (r0 : Rd) (c2 : Nat) (hc : c2 ≤ 65535) (L : List Shot) (R : Rd) (hL : seR c2 r0 = (L, R)) (hB : (endR R).2 = false → (endR R).1 = [] → NdB (endN { n with qs := L } R)) (st : St) (hst : st.clean (zDe 11 1) = dfS s0 t0 l0 e0 n (gtV 101 3 xs) (.sl 0 true []) r0.1 r0.2 c i b2 c2 (0 : Nat)) : loopA (zBy (W k) 11 1 k) (zDe 11 1) (zCt (W k) 11 1 k 0) k st = outD (endN { n with qs := L } R) (endR R) := by
 refine loopA_ind (fun a : Rd × List Shot => dfS s0 t0 l0 e0 n (gtV 101 3 xs) (gtV 122 3 (a.2.map shV)) a.1.1 a.1.2 c i b2 c2 a.2.length) (fun a => c2 - a.2.length) (fun a r => a.2.length ≤ c2 → a.2 ++ (seR (c2 - a.2.length) a.1).1 = L → (seR (c2 - a.2.length) a.1).2 = R → r = outD (endN { n with qs := L } R) (endR R)) (fun a m ih h0 g1 g2 => ?_) k (r0, []) st (by simp; omega) hst (by simp) (by simp [hL]) (by simp [hL])
 obtain ⟨v, acc⟩ := a
 simp only at ih h0 g1 g2 ⊢
 have hgo : ∀ (st : St), acc.length < c2 → (s1R v).2.2 = false → st.clean (zDe 11 1) = dfS s0 t0 l0 e0 n (gtV 101 3 xs) (gtV 122 3 (acc.map shV ++ [shV (s1R v).1])) (s1R v).2.1 (s1R v).2.2 c i b2 c2 ((acc.length + 1 : Nat) : Int) → loopA (zBy (W k) 11 1 k) (zDe 11 1) (zCt (W k) 11 1 k 0) m st = outD (endN { n with qs := L } R) (endR R) := by
  intro st hlt hbad hst
  obtain ⟨d, hd⟩ : ∃ d, c2 - acc.length = d + 1 := ⟨c2 - acc.length - 1, by omega⟩
  have hd2 : c2 - (acc.length + 1) = d := by omega
  rw [hd, seR, if_neg (by rw [hbad]; simp)] at g1 g2
  refine ih ((s1R v).2, acc ++ [(s1R v).1]) st (by simp; omega) (by rw [List.map_append, List.length_append]; exact hst) (by simp; omega) ?_ ?_
  ·simp only [List.length_append, List.length_cons, List.length_nil, Nat.zero_add, hd2, List.append_assoc, List.singleton_append]
   exact g1
  ·simp only [List.length_append, List.length_cons, List.length_nil, Nat.zero_add, hd2]
   exact g2
 have hend : acc.length < c2 → (s1R v).2.2 = true → acc ++ [(s1R v).1] = L ∧ (s1R v).2 = R := by
  intro hlt hbad
  obtain ⟨d, hd⟩ : ∃ d, c2 - acc.length = d + 1 := ⟨c2 - acc.length - 1, by omega⟩
  rw [hd, seR, if_pos hbad] at g1 g2
  exact ⟨g1, g2⟩
 have hfin : ¬ acc.length < c2 → acc = L ∧ v = R := by
  intro hlt
  rw [show c2 - acc.length = 0 by omega, seR] at g1 g2
  exact ⟨by simpa using g1, g2⟩
 have hw := wi (n := acc.length) (by omega)
 cases xs with
 | nil =>
  cases acc with
  | nil =>
   rw [List.map_nil, gtV, gtV, c11aa]
   by_cases hlt : ([] : List Shot).length < c2
   ·refine qY (decide_eq_true (by exact_mod_cast hlt)) ?_
    refine qO (x40 k (by omega) v 8 (by omega) (by omega)) ?_
    repeat with_reducible first|apply qT|apply qC|apply qN|apply qS|apply qB|apply qI|apply qA|apply qL
    refine qO (x40 k (by omega) _ 8 (by omega) (by omega)) ?_
    repeat with_reducible first|apply qT|apply qC|apply qN|apply qS|apply qB|apply qI|apply qA|apply qL
    refine qO (x46 k (by omega) _) ?_
    repeat with_reducible first|apply qT|apply qC|apply qN|apply qS|apply qB|apply qI|apply qA|apply qL
    cases hbad : (s1R v).2.2 with
    | true =>
     obtain ⟨rfl, rfl⟩ := hend hlt hbad
     refine qY hbad ?_
     exact tail11 k hk n _ _ _ _ (by rw [← hx]; rfl) rfl hB
    | false =>
     refine qX hbad ?_
     rw [hw]
     exact hgo _ hlt hbad (by kernel_rfl)
   ·obtain ⟨rfl, rfl⟩ := hfin hlt
    refine qX (decide_eq_false (by exact_mod_cast hlt)) ?_
    exact tail11 k hk n _ _ _ _ (by rw [← hx]; rfl) rfl hB
  | cons y z =>
   rw [List.map_cons, gtV, gtV, c11ab]
   by_cases hlt : (y :: z).length < c2
   ·refine qY (decide_eq_true (by exact_mod_cast hlt)) ?_
    refine qO (x40 k (by omega) v 8 (by omega) (by omega)) ?_
    repeat with_reducible first|apply qT|apply qC|apply qN|apply qS|apply qB|apply qI|apply qA|apply qL
    refine qO (x40 k (by omega) _ 8 (by omega) (by omega)) ?_
    repeat with_reducible first|apply qT|apply qC|apply qN|apply qS|apply qB|apply qI|apply qA|apply qL
    refine qO (x46 k (by omega) _) ?_
    repeat with_reducible first|apply qT|apply qC|apply qN|apply qS|apply qB|apply qI|apply qA|apply qL
    have hlt2 := hlt
    simp only [List.length_cons] at hlt2
    refine qY (decide_eq_true (by refine ⟨by first | rfl | exact .inr rfl, fitsB_small ?_, ?_⟩ <;> simp only [ofBytes, List.length_map, List.length_append, List.length_cons, List.length_nil] <;> omega)) ?_
    cases hbad : (s1R v).2.2 with
    | true =>
     obtain ⟨rfl, rfl⟩ := hend hlt hbad
     refine qY hbad ?_
     exact tail11 k hk n _ _ _ _ (by rw [← hx]; rfl) (gs_app y z (s1R v).1) hB
    | false =>
     refine qX hbad ?_
     rw [hw]
     exact hgo _ hlt hbad (by kernel_rfl)
   ·obtain ⟨rfl, rfl⟩ := hfin hlt
    refine qX (decide_eq_false (by exact_mod_cast hlt)) ?_
    exact tail11 k hk n _ _ _ _ (by rw [← hx]; rfl) rfl hB
 | cons x0 xr =>
  cases acc with
  | nil =>
   rw [List.map_nil, gtV, gtV, c11ba]
   by_cases hlt : ([] : List Shot).length < c2
   ·refine qY (decide_eq_true (by exact_mod_cast hlt)) ?_
    refine qO (x40 k (by omega) v 8 (by omega) (by omega)) ?_
    repeat with_reducible first|apply qT|apply qC|apply qN|apply qS|apply qB|apply qI|apply qA|apply qL
    refine qO (x40 k (by omega) _ 8 (by omega) (by omega)) ?_
    repeat with_reducible first|apply qT|apply qC|apply qN|apply qS|apply qB|apply qI|apply qA|apply qL
    refine qO (x46 k (by omega) _) ?_
    repeat with_reducible first|apply qT|apply qC|apply qN|apply qS|apply qB|apply qI|apply qA|apply qL
    cases hbad : (s1R v).2.2 with
    | true =>
     obtain ⟨rfl, rfl⟩ := hend hlt hbad
     refine qY hbad ?_
     exact tail11 k hk n _ _ _ _ (by rw [← hx]; rfl) rfl hB
    | false =>
     refine qX hbad ?_
     rw [hw]
     exact hgo _ hlt hbad (by kernel_rfl)
   ·obtain ⟨rfl, rfl⟩ := hfin hlt
    refine qX (decide_eq_false (by exact_mod_cast hlt)) ?_
    exact tail11 k hk n _ _ _ _ (by rw [← hx]; rfl) rfl hB
  | cons y z =>
   rw [List.map_cons, gtV, gtV, c11bb]
   by_cases hlt : (y :: z).length < c2
   ·refine qY (decide_eq_true (by exact_mod_cast hlt)) ?_
    refine qO (x40 k (by omega) v 8 (by omega) (by omega)) ?_
    repeat with_reducible first|apply qT|apply qC|apply qN|apply qS|apply qB|apply qI|apply qA|apply qL
    refine qO (x40 k (by omega) _ 8 (by omega) (by omega)) ?_
    repeat with_reducible first|apply qT|apply qC|apply qN|apply qS|apply qB|apply qI|apply qA|apply qL
    refine qO (x46 k (by omega) _) ?_
    repeat with_reducible first|apply qT|apply qC|apply qN|apply qS|apply qB|apply qI|apply qA|apply qL
    have hlt2 := hlt
    simp only [List.length_cons] at hlt2
    refine qY (decide_eq_true (by refine ⟨by first | rfl | exact .inr rfl, fitsB_small ?_, ?_⟩ <;> simp only [ofBytes, List.length_map, List.length_append, List.length_cons, List.length_nil] <;> omega)) ?_
    cases hbad : (s1R v).2.2 with
    | true =>
     obtain ⟨rfl, rfl⟩ := hend hlt hbad
     refine qY hbad ?_
     exact tail11 k hk n _ _ _ _ (by rw [← hx]; rfl) (gs_app y z (s1R v).1) hB
    | false =>
     refine qX hbad ?_
     rw [hw]
     exact hgo _ hlt hbad (by kernel_rfl)
   ·obtain ⟨rfl, rfl⟩ := hfin hlt
    refine qX (decide_eq_false (by exact_mod_cast hlt)) ?_
    exact tail11 k hk n _ _ _ _ (by rw [← hx]; rfl) rfl hB
theorem bt_ex (k : Nat) (hk : 500 ≤ k) (s : List UInt8) : ∃ (l : List (Int × Int)) (t : List UInt8) (e : Int), W k 43 [.str s] [] = some (.tup [btsV l, .str t, .int .i64 e], []) ∧ ∀ b, W k 44 [.ptr 0 0 0, btsV l, .str t, .int .i64 e] [[.str s, .bool b]] = some (btsV (btR (s, b)).1, bxR (btR (s, b)).2) := by
 have h := e50 k (by omega) s
 unfold btR stp
 simp only
 cases hx : parseB s with
 | none =>
  rw [hx] at h
  obtain ⟨e, he, h⟩ := h
  refine ⟨[], [], e, (W_old h (by omega) (by kernel_rfl)).trans (by kernel_rfl), fun b => ?_⟩
  refine (x44b k (by omega) (s, b) [] [] e (.inr he)).trans ?_
  cases b <;> rfl
 | some a =>
  obtain ⟨l, u⟩ := a
  rw [hx] at h
  have h : evF pr k 43 [.str s] [] = some (.tup [slT l, .str u, .int .i64 0], []) := h
  refine ⟨l, u, 0, (W_old h (by omega) (by kernel_rfl)).trans ?_, fun b => ?_⟩
  ·cases l <;> exact (by kernel_rfl)
  ·cases b with
   | true => exact (x44b k (by omega) (s, true) l u 0 (.inl rfl)).trans rfl
   | false => exact (x44g k (by omega) s l u).trans rfl
inductive Dec : List UInt8 → Nd → Rd → Prop where
 | mk {s : List UInt8} {a1 a6 a7 a8 a9 a10 a11 a12 a13 a14 a17 a21 a23 : Nat} {b2 b3 b4 b5 : Bool} {l15 l16 l18 : List (Int × Int)} {vs : List Vol} {kp cp : List Wr} {ss qs : List Shot} {r1 r2 r3 r4 r5 r6 r7 r8 r9 r10 r11 r12 r13 r14 r15 r16 r17 r18 r19 r20 r21 r22 r23 r24 r25 : Rd}
  (h1 : nuR 1 (s, false) = (a1, r1)) (h2 : flR r1 = (b2, r2)) (h3 : flR r2 = (b3, r3)) (h4 : flR r3 = (b4, r4)) (h5 : flR r4 = (b5, r5)) (h6 : nuR 1 r5 = (a6, r6))
  (h7 : nuR 8 r6 = (a7, r7)) (h8 : nuR 8 r7 = (a8, r8)) (h9 : nuR 8 r8 = (a9, r9)) (h10 : nuR 8 r9 = (a10, r10)) (h11 : nuR 8 r10 = (a11, r11)) (h12 : nuR 8 r11 = (a12, r12)) (h13 : nuR 8 r12 = (a13, r13)) (h14 : nuR 8 r13 = (a14, r14))
  (h15 : liR r14 = (l15, r15)) (h16 : liR r15 = (l16, r16)) (h17 : nuR 8 r16 = (a17, r17)) (h18 : btR r17 = (l18, r18)) (h19 : vsR r18 = (vs, r19)) (h20 : wrR r19 = (kp, r20)) (h21 : nuR 1 r20 = (a21, r21)) (h22 : shR a21 r21 = (ss, r22)) (h23 : wrR r22 = (cp, r23)) (h24 : nuR 2 r23 = (a23, r24)) (h25 : seR a23 r24 = (qs, r25)) :
  Dec s (endN { ro := a1, st := b2, va := b3, kn := a7, ln := l15, sq := a8, vs := vs, sh := b4, kp := kp, al := l16, aq := a17, ch := l18, ss := ss, sn := a9, md := a6, sy := a10, fu := b5, cp := cp, go := IntKind.wrap .i64 ((a11 : Int) - 1), qs := qs, qo := [], qf := 0, qt := 0, fr := a12, fn := a13, nx := a14 } r25) (endR r25)
def zN : Nd := { ro := 0, st := false, va := false, kn := 0, ln := [], sq := 0, vs := [], sh := false, kp := [], al := [], aq := 0, ch := [], ss := [], sn := 0, md := 0, sy := 0, fu := false, cp := [], go := 0, qs := [], qo := [], qf := 0, qt := 0, fr := 0, fn := 0, nx := 0 }
def outC (n : Nd) (r : Rd) : Res := if r.2 = false ∧ r.1 = [] ∧ nodeOk n = true then some (.tup [.agg (ndL n), .int .i64 0], []) else some (.tup [.agg (ndL zN), .int .i64 3], [])
theorem can11 (ro kn sq aq sn md sy go qf qt fr fn nx : Int) (st va sh fu : Bool) (ln al ch : List (Int × Int)) (vs : List Vol) (kp cp qo : List Wr) (ss qs : List Shot) : cRes (ctR ct 11) (some (.tup [.agg [.int .i64 ro, .bool st, .bool va, .int .i64 kn, lnV ln, .int .i64 sq, vsV vs, .bool sh, wsV kp, lnV al, .int .i64 aq, btsV ch, gsV 3 (ss.map shV), .int .i64 sn, .int .i64 md, .int .i64 sy, .bool fu, wsV cp, .int .i64 go, gsV 3 (qs.map shV), wsV qo, .int .i64 qf, .int .i64 qt, .int .i64 fr, .int .i64 fn, .int .i64 nx], .int .i64 0], [])) = some (.tup [.agg [.int .i64 ro, .bool st, .bool va, .int .i64 kn, lnV ln, .int .i64 sq, vsV vs, .bool sh, wsV kp, lnV al, .int .i64 aq, btsV ch, shsV ss, .int .i64 sn, .int .i64 md, .int .i64 sy, .bool fu, wsV cp, .int .i64 go, shsV qs, wsV qo, .int .i64 qf, .int .i64 qt, .int .i64 fr, .int .i64 fn, .int .i64 nx], .int .i64 0], []) := by
 cases ss <;> cases qs <;> kernel_rfl
theorem can11z : cRes (ctR ct 11) (some (.tup [.agg zdL, .int .i64 3], [])) = some (.tup [.agg (ndL zN), .int .i64 3], []) := by kernel_rfl
theorem outD_C (n : Nd) (r : Rd) : cRes (ctR ct 11) (outD n r) = outC n r := by
 unfold outD outC
 by_cases h : r.2 = false ∧ r.1 = [] ∧ nodeOk n = true
 ·rw [if_pos h, if_pos h]
  exact can11 ..
 ·rw [if_neg h, if_neg h]
  exact can11z
theorem x40e (k : Nat) (hk : 12 ≤ k) {w : Nat} {r r' : Rd} {a : Nat} (h : nuR w r = (a, r')) (hw1 : 1 ≤ w) (hw : w ≤ 8) : W k 40 [.ptr 0 0 0, .int .i64 w] (bxR r) = some (.int .i64 (a : Nat), bxR r') := by
 have := x40 k hk r w hw1 hw
 rwa [h] at this
theorem x40e1 (k : Nat) (hk : 12 ≤ k) {r r' : Rd} {a : Nat} (h : nuR 1 r = (a, r')) : W k 40 [.ptr 0 0 0, .int .i64 1] (bxR r) = some (.int .i64 (a : Nat), bxR r') := x40e (w := 1) k hk h (by omega) (by omega)
theorem x40e8 (k : Nat) (hk : 12 ≤ k) {r r' : Rd} {a : Nat} (h : nuR 8 r = (a, r')) : W k 40 [.ptr 0 0 0, .int .i64 8] (bxR r) = some (.int .i64 (a : Nat), bxR r') := x40e (w := 8) k hk h (by omega) (by omega)
theorem x41e (k : Nat) (hk : 13 ≤ k) {r r' : Rd} {b : Bool} (h : flR r = (b, r')) : W k 41 [.ptr 0 0 0] (bxR r) = some (.bool b, bxR r') := by
 have := x41 k hk r
 rwa [h] at this
theorem x42e (k : Nat) (hk : 1300 ≤ k) {r r' : Rd} {l : List (Int × Int)} (h : liR r = (l, r')) : W k 42 [.ptr 0 0 0] (bxR r) = some (lnV l, bxR r') := by
 have := x42 k hk r
 rwa [h] at this
theorem x46e (k : Nat) (hk : 66200 ≤ k) {r r' : Rd} {l : List Wr} (h : wrR r = (l, r')) : W k 46 [.ptr 0 0 0] (bxR r) = some (wsV l, bxR r') := by
 have := x46 k hk r
 rwa [h] at this
theorem x45e (k : Nat) (hk : 66100 ≤ k) {r r' : Rd} {l : List Vol} (h : vsR r = (l, r')) : W k 45 [.ptr 0 0 0] (bxR r) = some (vsV l, bxR r') := by
 have := x45 k hk r
 rwa [h] at this
theorem nu2_lt {r r' : Rd} {a : Nat} (h : nuR 2 r = (a, r')) : a ≤ 65535 := by
 unfold nuR stp at h
 split at h
 ·simp only [Prod.mk.injEq] at h; omega
 ·split at h
  ·simp only [Prod.mk.injEq] at h; omega
  ·rename_i h2
   simp only [Prod.mk.injEq] at h
   have := (num_lt h2).1
   omega
theorem shots11 (k : Nat) (hk : 70600 ≤ k) (s0 t0 : List UInt8) (l0 : List (Int × Int)) (e0 : Int) (n : Nd) (r0 : Rd) (c : Nat) (hc : c ≤ 255) {ss qs : List Shot} {cp : List Wr} {a23 : Nat} {r22 r23 r24 r25 : Rd} (h22 : shR c r0 = (ss, r22)) (h23 : wrR r22 = (cp, r23)) (h24 : nuR 2 r23 = (a23, r24)) (h25 : seR a23 r24 = (qs, r25)) (hB : (endR r25).2 = false → (endR r25).1 = [] → NdB (endN { n with ss := ss, cp := cp, qs := qs } r25)) (st : St) (hst : st.clean (zDe 11 0) = deS s0 t0 l0 e0 n (.sl 0 true []) r0.1 r0.2 c (0 : Nat)) : loopA (zBy (W k) 11 0 k) (zDe 11 0) (zCt (W k) 11 0 k 0) k st = outD (endN { n with ss := ss, cp := cp, qs := qs } r25) (endR r25) := by
 refine loopA_ind (fun a : Rd × List Shot => deS s0 t0 l0 e0 n (gtV 101 3 (a.2.map shV)) a.1.1 a.1.2 c a.2.length) (fun a => c - a.2.length) (fun a r => a.2.length ≤ c → a.2 ++ (shR (c - a.2.length) a.1).1 = ss → (shR (c - a.2.length) a.1).2 = r22 → r = outD (endN { n with ss := ss, cp := cp, qs := qs } r25) (endR r25)) (fun a m ih h0 g1 g2 => ?_) k (r0, []) st (by simp; omega) hst (by simp) (by simp [h22]) (by simp [h22])
 obtain ⟨v, acc⟩ := a
 simp only at ih h0 g1 g2 ⊢
 have hgo : ∀ (st : St), acc.length < c → st.clean (zDe 11 0) = deS s0 t0 l0 e0 n (gtV 101 3 (acc.map shV ++ [shV (s1R v).1])) (s1R v).2.1 (s1R v).2.2 c ((acc.length + 1 : Nat) : Int) → loopA (zBy (W k) 11 0 k) (zDe 11 0) (zCt (W k) 11 0 k 0) m st = outD (endN { n with ss := ss, cp := cp, qs := qs } r25) (endR r25) := by
  intro st hlt hst
  obtain ⟨d, hd⟩ : ∃ d, c - acc.length = d + 1 := ⟨c - acc.length - 1, by omega⟩
  have hd2 : c - (acc.length + 1) = d := by omega
  rw [hd, shR] at g1 g2
  refine ih ((s1R v).2, acc ++ [(s1R v).1]) st (by simp; omega) (by rw [List.map_append, List.length_append]; exact hst) (by simp; omega) ?_ ?_
  ·simp only [List.length_append, List.length_cons, List.length_nil, Nat.zero_add, hd2, List.append_assoc, List.singleton_append]
   exact g1
  ·simp only [List.length_append, List.length_cons, List.length_nil, Nat.zero_add, hd2]
   exact g2
 have hfin : ¬ acc.length < c → acc = ss ∧ v = r22 := by
  intro hlt
  rw [show c - acc.length = 0 by omega, shR] at g1 g2
  exact ⟨by simpa using g1, g2⟩
 have hw := wi (n := acc.length) (by omega)
 cases acc with
 | nil =>
  rw [List.map_nil, gtV, b11a]
  by_cases hlt : ([] : List Shot).length < c
  ·refine qY (decide_eq_true (by exact_mod_cast hlt)) ?_
   refine qO (x40 k (by omega) v 8 (by omega) (by omega)) ?_
   repeat with_reducible first|apply qT|apply qC|apply qN|apply qS|apply qB|apply qI|apply qA|apply qL
   refine qO (x40 k (by omega) _ 8 (by omega) (by omega)) ?_
   repeat with_reducible first|apply qT|apply qC|apply qN|apply qS|apply qB|apply qI|apply qA|apply qL
   refine qO (x46 k (by omega) _) ?_
   repeat with_reducible first|apply qT|apply qC|apply qN|apply qS|apply qB|apply qI|apply qA|apply qL
   rw [hw]
   exact hgo _ hlt (by kernel_rfl)
  ·obtain ⟨rfl, rfl⟩ := hfin hlt
   refine qX (decide_eq_false (by exact_mod_cast hlt)) ?_
   refine qO (x46e k (by omega) h23) ?_
   repeat with_reducible first|apply qT|apply qC|apply qN|apply qS|apply qB|apply qI|apply qA|apply qL
   refine qO (x40e (w := 2) k (by omega) h24 (by omega) (by omega)) ?_
   repeat with_reducible first|apply qT|apply qC|apply qN|apply qS|apply qB|apply qI|apply qA|apply qL
   exact sets11 k hk s0 t0 l0 e0 { n with ss := [], cp := cp } [] rfl (c : Int) ((([] : List Shot).length : Nat) : Int) (decide (((([] : List Shot).length : Nat) : Int) < (c : Int))) r24 a23 (nu2_lt h24) qs r25 h25 hB _ (by kernel_rfl)
 | cons y z =>
  rw [List.map_cons, gtV, b11]
  by_cases hlt : (y :: z).length < c
  ·refine qY (decide_eq_true (by exact_mod_cast hlt)) ?_
   refine qO (x40 k (by omega) v 8 (by omega) (by omega)) ?_
   repeat with_reducible first|apply qT|apply qC|apply qN|apply qS|apply qB|apply qI|apply qA|apply qL
   refine qO (x40 k (by omega) _ 8 (by omega) (by omega)) ?_
   repeat with_reducible first|apply qT|apply qC|apply qN|apply qS|apply qB|apply qI|apply qA|apply qL
   refine qO (x46 k (by omega) _) ?_
   repeat with_reducible first|apply qT|apply qC|apply qN|apply qS|apply qB|apply qI|apply qA|apply qL
   have hlt2 := hlt
   simp only [List.length_cons] at hlt2
   refine qY (decide_eq_true (by refine ⟨by first | rfl | exact .inr rfl, fitsB_small ?_, ?_⟩ <;> simp only [ofBytes, List.length_map, List.length_append, List.length_cons, List.length_nil] <;> omega)) ?_
   rw [hw]
   exact hgo _ hlt (by kernel_rfl)
  ·obtain ⟨rfl, rfl⟩ := hfin hlt
   refine qX (decide_eq_false (by exact_mod_cast hlt)) ?_
   refine qO (x46e k (by omega) h23) ?_
   repeat with_reducible first|apply qT|apply qC|apply qN|apply qS|apply qB|apply qI|apply qA|apply qL
   refine qO (x40e (w := 2) k (by omega) h24 (by omega) (by omega)) ?_
   repeat with_reducible first|apply qT|apply qC|apply qN|apply qS|apply qB|apply qI|apply qA|apply qL
   exact sets11 k hk s0 t0 l0 e0 { n with ss := y :: z, cp := cp } _ rfl (c : Int) ((((y :: z) : List Shot).length : Nat) : Int) (decide (((((y :: z) : List Shot).length : Nat) : Int) < (c : Int))) r24 a23 (nu2_lt h24) qs r25 h25 hB _ (by kernel_rfl)
theorem pr_ex {α β : Type} (p : α × β) : ∃ a b, p = (a, b) := ⟨p.1, p.2, rfl⟩
theorem x11 (k : Nat) (hk : 70700 ≤ k) (s : List UInt8) : ∃ n r, Dec s n r ∧ ((r.2 = false → r.1 = [] → NdB n) → W k 11 [.str s] [] = outC n r) := by
 obtain ⟨a1, r1, h1⟩ := pr_ex (nuR 1 (s, false))
 obtain ⟨b2, r2, h2⟩ := pr_ex (flR r1)
 obtain ⟨b3, r3, h3⟩ := pr_ex (flR r2)
 obtain ⟨b4, r4, h4⟩ := pr_ex (flR r3)
 obtain ⟨b5, r5, h5⟩ := pr_ex (flR r4)
 obtain ⟨a6, r6, h6⟩ := pr_ex (nuR 1 r5)
 obtain ⟨a7, r7, h7⟩ := pr_ex (nuR 8 r6)
 obtain ⟨a8, r8, h8⟩ := pr_ex (nuR 8 r7)
 obtain ⟨a9, r9, h9⟩ := pr_ex (nuR 8 r8)
 obtain ⟨a10, r10, h10⟩ := pr_ex (nuR 8 r9)
 obtain ⟨a11, r11, h11⟩ := pr_ex (nuR 8 r10)
 obtain ⟨a12, r12, h12⟩ := pr_ex (nuR 8 r11)
 obtain ⟨a13, r13, h13⟩ := pr_ex (nuR 8 r12)
 obtain ⟨a14, r14, h14⟩ := pr_ex (nuR 8 r13)
 obtain ⟨l15, r15, h15⟩ := pr_ex (liR r14)
 obtain ⟨l16, r16, h16⟩ := pr_ex (liR r15)
 obtain ⟨a17, r17, h17⟩ := pr_ex (nuR 8 r16)
 obtain ⟨l18, r18, h18⟩ := pr_ex (btR r17)
 obtain ⟨vs, r19, h19⟩ := pr_ex (vsR r18)
 obtain ⟨kp, r20, h20⟩ := pr_ex (wrR r19)
 obtain ⟨a21, r21, h21⟩ := pr_ex (nuR 1 r20)
 obtain ⟨ss, r22, h22⟩ := pr_ex (shR a21 r21)
 obtain ⟨cp, r23, h23⟩ := pr_ex (wrR r22)
 obtain ⟨a23, r24, h24⟩ := pr_ex (nuR 2 r23)
 obtain ⟨qs, r25, h25⟩ := pr_ex (seR a23 r24)
 refine ⟨_, _, .mk h1 h2 h3 h4 h5 h6 h7 h8 h9 h10 h11 h12 h13 h14 h15 h16 h17 h18 h19 h20 h21 h22 h23 h24 h25, fun hB => ?_⟩
 obtain ⟨k, rfl⟩ := succ1 (show 1 ≤ k by omega)
 rw [← outD_C]
 refine W_tree (vs' := [.str s]) ?_ (by kernel_rfl)
 rw [t11]
 obtain ⟨l0, t0, e0, y1, y2⟩ := bt_ex k (by omega) r17.1
 have y3 := y2 r17.2
 rw [show ((r17.1, r17.2) : Rd) = r17 from rfl, h18] at y3
 have hc := nu1_lt r20
 rw [h21] at hc
 refine qO (x40e1 k (by omega) h1) ?_
 repeat with_reducible first|apply qT|apply qC|apply qN|apply qS|apply qB|apply qI|apply qA|apply qL
 refine qO (x41e k (by omega) h2) ?_
 repeat with_reducible first|apply qT|apply qC|apply qN|apply qS|apply qB|apply qI|apply qA|apply qL
 refine qO (x41e k (by omega) h3) ?_
 repeat with_reducible first|apply qT|apply qC|apply qN|apply qS|apply qB|apply qI|apply qA|apply qL
 refine qO (x41e k (by omega) h4) ?_
 repeat with_reducible first|apply qT|apply qC|apply qN|apply qS|apply qB|apply qI|apply qA|apply qL
 refine qO (x41e k (by omega) h5) ?_
 repeat with_reducible first|apply qT|apply qC|apply qN|apply qS|apply qB|apply qI|apply qA|apply qL
 refine qO (x40e1 k (by omega) h6) ?_
 repeat with_reducible first|apply qT|apply qC|apply qN|apply qS|apply qB|apply qI|apply qA|apply qL
 refine qO (x40e8 k (by omega) h7) ?_
 repeat with_reducible first|apply qT|apply qC|apply qN|apply qS|apply qB|apply qI|apply qA|apply qL
 refine qO (x40e8 k (by omega) h8) ?_
 repeat with_reducible first|apply qT|apply qC|apply qN|apply qS|apply qB|apply qI|apply qA|apply qL
 refine qO (x40e8 k (by omega) h9) ?_
 repeat with_reducible first|apply qT|apply qC|apply qN|apply qS|apply qB|apply qI|apply qA|apply qL
 refine qO (x40e8 k (by omega) h10) ?_
 repeat with_reducible first|apply qT|apply qC|apply qN|apply qS|apply qB|apply qI|apply qA|apply qL
 refine qO (x40e8 k (by omega) h11) ?_
 repeat with_reducible first|apply qT|apply qC|apply qN|apply qS|apply qB|apply qI|apply qA|apply qL
 refine qO (x40e8 k (by omega) h12) ?_
 repeat with_reducible first|apply qT|apply qC|apply qN|apply qS|apply qB|apply qI|apply qA|apply qL
 refine qO (x40e8 k (by omega) h13) ?_
 repeat with_reducible first|apply qT|apply qC|apply qN|apply qS|apply qB|apply qI|apply qA|apply qL
 refine qO (x40e8 k (by omega) h14) ?_
 repeat with_reducible first|apply qT|apply qC|apply qN|apply qS|apply qB|apply qI|apply qA|apply qL
 refine qO (x42e k (by omega) h15) ?_
 repeat with_reducible first|apply qT|apply qC|apply qN|apply qS|apply qB|apply qI|apply qA|apply qL
 refine qO (x42e k (by omega) h16) ?_
 repeat with_reducible first|apply qT|apply qC|apply qN|apply qS|apply qB|apply qI|apply qA|apply qL
 refine qO (x40e8 k (by omega) h17) ?_
 repeat with_reducible first|apply qT|apply qC|apply qN|apply qS|apply qB|apply qI|apply qA|apply qL
 refine qO y1 ?_
 repeat with_reducible first|apply qT|apply qC|apply qN|apply qS|apply qB|apply qI|apply qA|apply qL
 refine qO y3 ?_
 repeat with_reducible first|apply qT|apply qC|apply qN|apply qS|apply qB|apply qI|apply qA|apply qL
 refine qO (x45e k (by omega) h19) ?_
 repeat with_reducible first|apply qT|apply qC|apply qN|apply qS|apply qB|apply qI|apply qA|apply qL
 refine qO (x46e k (by omega) h20) ?_
 repeat with_reducible first|apply qT|apply qC|apply qN|apply qS|apply qB|apply qI|apply qA|apply qL
 refine qO (x40e1 k (by omega) h21) ?_
 repeat with_reducible first|apply qT|apply qC|apply qN|apply qS|apply qB|apply qI|apply qA|apply qL
 exact shots11 k (by omega) s t0 l0 e0 { ro := a1, st := b2, va := b3, kn := a7, ln := l15, sq := a8, vs := vs, sh := b4, kp := kp, al := l16, aq := a17, ch := l18, ss := [], sn := a9, md := a6, sy := a10, fu := b5, cp := [], go := IntKind.wrap .i64 ((a11 : Int) - 1), qs := [], qo := [], qf := 0, qt := 0, fr := a12, fn := a13, nx := a14 } r21 a21 (by simp only at hc; omega) h22 h23 h24 h25 hB _ (by kernel_rfl)
end Go.AM.YtnhfjkckgicidaaGreat
