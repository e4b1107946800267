/- ref18.Right, part by part: queues. -/
import Derived.Test.YtnhfjkckgicidaaGreatAmP06
set_option linter.unusedVariables false
set_option linter.unusedSimpArgs false
namespace Go.AM.YtnhfjkckgicidaaGreat
open Go.AM Go.Proofs Go
theorem t125 (F : Fns) (N : Nat) (z : Int) : runOf F 125 N [.int .i64 z] [] =
 bif decide (z ≥ 0) then some (AV.bool (decide (z ≤ 1099511627776)), []) else some (AV.bool false, []) := by kernel_rfl
theorem x125 (k : Nat) (hk : 1 ≤ k) (z : Int) : W k 125 [.int .i64 z] [] = some (.bool (fitsI z), []) := by
 obtain ⟨k, rfl⟩ := succ1 (show 1 ≤ k by omega)
 rw [W_tree0 (t125 (W k) k z) (by kernel_rfl)]
 grind [fitsI]
theorem t82 (F : Fns) (N : Nat) (n : Nd) : runOf F 82 N [.agg (ndL n)] [] =
 bif Nd.md n == 2 then some (AV.bool true, []) else some (AV.bool (Nd.md n == 3), []) := by kernel_rfl
theorem x82 (k : Nat) (hk : 1 ≤ k) (n : Nd) : W k 82 [.agg (ndL n)] [] = some (.bool (decide (n.md = 2 ∨ n.md = 3)), []) := by
 obtain ⟨k, rfl⟩ := succ1 (show 1 ≤ k by omega)
 rw [W_tree0 (t82 (W k) k n) (by kernel_rfl), show (n.md == 2) = decide (n.md = 2) from rfl, show (n.md == 3) = decide (n.md = 3) from rfl]
 by_cases h : n.md = 2
 ·rw [decide_eq_true h, decide_eq_true (show n.md = 2 ∨ n.md = 3 from .inl h)]; rfl
 ·rw [decide_eq_false h, show decide (n.md = 2 ∨ n.md = 3) = decide (n.md = 3) by rw [decide_eq_decide]; omega]; rfl
theorem t84 (F : Fns) (N : Nat) (qs : List Shot) (qo : List Wr) (x y : Int) : runOf F 84 N [.agg [shsV qs, wsV qo, .int .i64 x, .int .i64 y]] [] =
 bif ((List.length (List.map shV qs) : Nat) : Int) == 0 then some (AV.int .i64 x, []) else zOp (List.map shV qs)[Int.toNat 0]? fun x => zAg x fun cs => zCo cs fun v r => zIn .i64 v fun n => zCo r fun v r => zIn .i64 v fun n_1 => zCo r fun v r => asSl v fun m fl xs => zNi r (some (AV.int .i64 n, [])) := by kernel_rfl
theorem x84 (k : Nat) (hk : 1 ≤ k) (qs : List Shot) (qo : List Wr) (x y : Int) : W k 84 [.agg [shsV qs, wsV qo, .int .i64 x, .int .i64 y]] [] = some (.int .i64 (qtail qs x), []) := by
 obtain ⟨k, rfl⟩ := succ1 (show 1 ≤ k by omega)
 rw [W_tree0 (t84 (W k) k qs qo x y) (by kernel_rfl), List.length_map, len0]
 cases qs <;> rfl
theorem t87 (F : Fns) (N : Nat) (n : Nd) : runOf F 87 N [.agg (ndL n)] [] =
 loopA (zBy F 87 0 N) (zDe 87 0) (zCt F 87 0 N 0) N { nt := 13, t := [(0, AV.agg (ndL n)), (1, AV.ptr 1 0 0), (2, AV.int .i64 0), (3, AV.int .i64 0)], b := [(1, (ndL n))], r := [], g := [], rd := [], wr := [] } := by kernel_rfl
def rprtS (n : Nd) (i : Int) : St := ⟨13, [(0, .agg (ndL n)), (1, .ptr 1 0 0), (2, .int .i64 0), (3, .int .i64 i)], [(1, ndL n)], [], [], [], []⟩
theorem b87 (F : Fns) (N : Nat) (n : Nd) (i : Int) (KN : St → Res) : zBy F 87 0 N (rprtS n i) (brk (zCt F 87 0 N 0) KN) =
 bif decide (IntKind.wrap .i64 (8 * i) < ((List.length (List.map wrV (Nd.cp n)) : Nat) : Int)) then KN { nt := 13, t := [(0, AV.agg (ndL n)), (1, AV.ptr 1 0 0), (2, AV.int .i64 0), (3, AV.int .i64 (IntKind.wrap .i64 (i + 1))), (9, AV.bool (decide (IntKind.wrap .i64 (8 * i) < ((List.length (List.map wrV (Nd.cp n)) : Nat) : Int))))], b := [(1, (ndL n))], r := [], g := [], rd := [], wr := [] } else some (AV.int .i64 i, []) := by kernel_rfl
theorem x87 (k : Nat) (n : Nd) (h : n.cp.length ≤ 70000) (hk : 70010 ≤ k) : W k 87 [.agg (ndL n)] [] = some (.int .i64 (partsN n : Int), []) := by
 obtain ⟨k, rfl⟩ := succ1 (show 1 ≤ k by omega)
 rw [W_tree0 (t87 (W k) k n) (by kernel_rfl)]
 refine loopA_ind (fun i : Nat => rprtS n i) (fun i => partsN n - i) (fun i r => i ≤ partsN n → r = some (.int .i64 (partsN n : Int), [])) (fun i m ih hi => ?_) k 0 _ (by unfold partsN; omega) (by kernel_rfl) (by omega)
 have hp : partsN n ≤ 10000 := by unfold partsN; omega
 rw [b87, List.length_map, wrap_small (n := 8 * (i : Int)) (by omega) (by omega)]
 by_cases h8 : 8 * i < n.cp.length
 ·rw [decide_eq_true (by omega), wi (by omega)]
  exact ih (i + 1) _ (by unfold partsN at hi hp ⊢; omega) (by kernel_rfl) (by unfold partsN at hi ⊢; omega)
 ·rw [decide_eq_false (by omega), show i = partsN n by unfold partsN at hi ⊢; omega]; rfl
theorem t83 (F : Fns) (N : Nat) (qs : List Shot) (qo : List Wr) (x y : Int) : runOf F 83 N [.agg [shsV qs, wsV qo, .int .i64 x, .int .i64 y]] [] =
 loopA (zBy F 83 0 N) (zDe 83 0) (zCt F 83 0 N 0) N { nt := 104, t := [(0, AV.agg [shsV qs, wsV qo, AV.int .i64 x, AV.int .i64 y]), (1, AV.ptr 1 0 0), (2, AV.bool false), (3, AV.int .i64 ((List.length (List.map shV qs) : Nat) : Int)), (4, AV.int .i64 0)], b := [(1, [shsV qs, wsV qo, AV.int .i64 x, AV.int .i64 y])], r := [], g := [], rd := [], wr := [] } := by kernel_rfl
def rqS (qs : List Shot) (qo : List Wr) (x y len i : Int) : St := ⟨104, [(0, .agg [shsV qs, wsV qo, .int .i64 x, .int .i64 y]), (1, .ptr 1 0 0), (2, .bool false), (3, .int .i64 len), (4, .int .i64 i)], [(1, [shsV qs, wsV qo, .int .i64 x, .int .i64 y])], [], [], [], []⟩
theorem b83 (F : Fns) (N : Nat) (qs : List Shot) (qo : List Wr) (x y len i : Int) (KN : St → Res) : zBy F 83 0 N (rqS qs qo x y len i) (brk (zCt F 83 0 N 0) KN) =
 bif decide (i < len) then bif decide (0 ≤ i) then zOp (List.map shV qs)[Int.toNat i]? fun x_1 => zAg x_1 fun cs => zCo cs fun v r => zIn .i64 v fun n => zCo r fun v r => zIn .i64 v fun n_1 => zCo r fun v r => asSl v fun m fl xs => zNi r (zRe (F 125 [AV.int .i64 n] []) fun v bs => zBo v fun b => zNi bs (bif !b then some (AV.bool false, []) else zRe (F 125 [AV.int .i64 n_1] []) fun v bs => zBo v fun b => zNi bs (bif !b then some (AV.bool false, []) else bif decide (n ≥ n_1) then some (AV.bool false, []) else zRe (F 126 [AV.sl m fl xs] []) fun v bs => zBo v fun b => zNi bs (bif !b then some (AV.bool false, []) else bif decide (i > 0) then bif decide (0 ≤ IntKind.wrap .i64 (i - 1)) then zOp (List.map shV qs)[Int.toNat (IntKind.wrap .i64 (i - 1))]? fun x_2 => zAg x_2 fun cs => zCo cs fun v r => zIn .i64 v fun n_2 => zCo r fun v r => zIn .i64 v fun n_3 => zCo r fun v r => asSl v fun m_1 fl_1 xs_1 => zNi r (bif n_3 != n then some (AV.bool false, []) else KN { nt := 104, t := [(0, AV.agg [shsV qs, wsV qo, AV.int .i64 x, AV.int .i64 y]), (1, AV.ptr 1 0 0), (2, AV.bool false), (3, AV.int .i64 len), (4, AV.int .i64 (IntKind.wrap .i64 (i + 1))), (5, AV.ptr 5 0 0), (11, AV.bool (decide (i < len))), (41, AV.bool !b), (55, AV.bool (n_3 != n))], b := [(1, [shsV qs, wsV qo, AV.int .i64 x, AV.int .i64 y]), (5, [AV.int .i64 n, AV.int .i64 n_1, AV.sl m fl xs])], r := [], g := [], rd := [], wr := [] }) else none else KN { nt := 104, t := [(0, AV.agg [shsV qs, wsV qo, AV.int .i64 x, AV.int .i64 y]), (1, AV.ptr 1 0 0), (2, AV.bool false), (3, AV.int .i64 len), (4, AV.int .i64 (IntKind.wrap .i64 (i + 1))), (5, AV.ptr 5 0 0), (11, AV.bool (decide (i < len))), (41, AV.bool !b), (55, AV.bool false)], b := [(1, [shsV qs, wsV qo, AV.int .i64 x, AV.int .i64 y]), (5, [AV.int .i64 n, AV.int .i64 n_1, AV.sl m fl xs])], r := [], g := [], rd := [], wr := [] })))) else none else bif decide (len > 0) then bif decide (0 ≤ IntKind.wrap .i64 (len - 1)) then zOp (List.map shV qs)[Int.toNat (IntKind.wrap .i64 (len - 1))]? fun x_1 => zAg x_1 fun cs => zCo cs fun v r => zIn .i64 v fun n => zCo r fun v r => zIn .i64 v fun n => zCo r fun v r => asSl v fun m fl xs => zNi r (bif n != x then some (AV.bool false, []) else zRe (F 125 [AV.int .i64 x] []) fun v bs => zBo v fun b => zNi bs (bif !b then some (AV.bool false, []) else zRe (F 125 [AV.int .i64 y] []) fun v bs => zBo v fun b => zNi bs (bif !b then some (AV.bool false, []) else bif decide (x > y) then some (AV.bool false, []) else zRe (F 126 [wsV qo] []) fun v bs => zBo v fun b => zNi bs (bif !b then some (AV.bool false, []) else bif decide (x < y) then some (AV.bool true, []) else some (AV.bool (((List.length (List.map wrV qo) : Nat) : Int) == 0), []))))) else none else zRe (F 125 [AV.int .i64 x] []) fun v bs => zBo v fun b => zNi bs (bif !b then some (AV.bool false, []) else zRe (F 125 [AV.int .i64 y] []) fun v bs => zBo v fun b => zNi bs (bif !b then some (AV.bool false, []) else bif decide (x > y) then some (AV.bool false, []) else zRe (F 126 [wsV qo] []) fun v bs => zBo v fun b => zNi bs (bif !b then some (AV.bool false, []) else bif decide (x < y) then some (AV.bool true, []) else some (AV.bool (((List.length (List.map wrV qo) : Nat) : Int) == 0), [])))) := by kernel_rfl
def prevTo (qs : List Shot) (x : Int) (i : Nat) : Int := if i = 0 then qtail qs x else (qs.getD (i - 1) (0, 0, [])).2.1
theorem getM1 {α : Type} (f : α → AV) (d : α) (l : List α) (i : Nat) (h : i ≤ l.length) (h0 : 0 < i) (h2 : i < 1000000000) : 0 ≤ IntKind.wrap .i64 ((i : Int) - 1) ∧ (l.map f)[Int.toNat (IntKind.wrap .i64 ((i : Int) - 1))]? = some (f (l.getD (i - 1) d)) := by
 rw [wrap_small (by omega) (by omega), show Int.toNat ((i : Int) - 1) = i - 1 by omega, List.getElem?_map, List.getElem?_eq_getElem (by omega), List.getD_eq_getElem?_getD, List.getElem?_eq_getElem (by omega)]
 exact ⟨by omega, rfl⟩
theorem x83 (k : Nat) (hk : 70300 ≤ k) (qs : List Shot) (qo : List Wr) (x y : Int) (h1 : qs.length ≤ 70000) (h2 : ∀ s ∈ qs, s.2.2.length ≤ 200) (h3 : qo.length ≤ 200) : W k 83 [.agg [shsV qs, wsV qo, .int .i64 x, .int .i64 y]] [] = some (.bool (queueOk qs qo x y), []) := by
 obtain ⟨k, rfl⟩ := succ1 (show 1 ≤ k by omega)
 rw [W_tree0 (t83 (W k) k qs qo x y) (by kernel_rfl), List.length_map, queueOk]
 generalize hT : (fitsI x && (decide (x ≤ y) && (fitsI y && (sortedW qo && (decide (x < y) || decide (qo.length = 0)))))) = T
 refine loopA_ind (fun i : Nat => rqS qs qo x y qs.length i) (fun i => qs.length - i) (fun i r => i ≤ qs.length → r = some (.bool (qch x (prevTo qs x i) (qs.drop i) && T), [])) (fun i m ih hi0 => ?_) k 0 _ (by omega) (by kernel_rfl) (by omega)
 rw [b83]
 by_cases hi : i < qs.length
 ·rw [getM _ _ _ hi, List.drop_eq_getElem_cons hi, wi (by omega), qch]
  simp only [decide_eq_true (show (i : Int) < qs.length by omega), decide_eq_true (show (0 : Int) ≤ i by omega), zOp, shV, zAg, zCo, zIn, asSl, if_true, zNi, cond_true]
  have hk2 := h2 _ (List.getElem_mem hi)
  rw [x125 k (by omega), x125 k (by omega), x126 k qs[i].2.2 (by omega) (by omega)]
  simp only [zRe, zBo, zNi]
  rw [show decide (qs[i].1 ≥ qs[i].2.1) = !decide (qs[i].1 < qs[i].2.1) by rw [lt_le, Bool.not_not]]
  have go : ∀ (st : St), st.clean (zDe 83 0) = rqS qs qo x y qs.length ((i + 1 : Nat) : Int) → loopA (zBy (W k) 83 0 k) (zDe 83 0) (zCt (W k) 83 0 k 0) m st = some (.bool (qch x qs[i].2.1 (qs.drop (i + 1)) && T), []) := fun st h => by
   have := ih (i + 1) st (by omega) h (by omega)
   rw [show prevTo qs x (i + 1) = qs[i].2.1 by unfold prevTo; rw [if_neg (by omega), List.getD_eq_getElem?_getD, Nat.add_sub_cancel, List.getElem?_eq_getElem hi]; rfl] at this
   exact this
  cases fitsI qs[i].1 with
  | false => rfl
  | true =>
   cases fitsI qs[i].2.1 with
   | false => cases decide (qs[i].1 = prevTo qs x i) <;> cases decide (qs[i].1 < qs[i].2.1) <;> rfl
   | true =>
    cases decide (qs[i].1 < qs[i].2.1) with
    | false => cases decide (qs[i].1 = prevTo qs x i) <;> rfl
    | true =>
     cases sortedW qs[i].2.2 with
     | false => cases decide (qs[i].1 = prevTo qs x i) <;> rfl
     | true =>
      simp only [Bool.not_true, cond_false, Bool.true_and]
      by_cases h0 : i = 0
      ·subst h0
       rw [decide_eq_false (show ¬ ((0 : Nat) : Int) > 0 by omega), decide_eq_true (show qs[0].1 = prevTo qs x 0 by
        unfold prevTo qtail
        rw [if_pos rfl]
        cases qs with
        | nil => simp at hi
        | cons s r => rfl)]
       exact go _ (by kernel_rfl)
      ·obtain ⟨g1, g2⟩ := getM1 shV (0, 0, []) qs i (by omega) (by omega) (by omega)
       rw [decide_eq_true (show (i : Int) > 0 by omega), decide_eq_true g1, g2]
       simp only [cond_true, zOp, shV, zAg, zCo, zIn, asSl, if_true, zNi]
       rw [show prevTo qs x i = (qs.getD (i - 1) (0, 0, [])).2.1 by unfold prevTo; rw [if_neg h0]]
       by_cases he : qs[i].1 = (qs.getD (i - 1) (0, 0, [])).2.1
       ·rw [decide_eq_true he, show ((qs.getD (i - 1) (0, 0, [])).2.1 != qs[i].1) = false from bne_eq_false_iff_eq.2 he.symm]
        exact go _ (by kernel_rfl)
       ·rw [decide_eq_false he, bne_iff_ne.2 (fun e => he e.symm)]; rfl
 ·have hie : i = qs.length := by omega
  rw [decide_eq_false (show ¬ (i : Int) < qs.length by omega), List.drop_eq_nil_of_le (by omega), qch, x125 k (by omega), x125 k (by omega), x126 k qo (by omega) (by omega), List.length_map, len0, ← hT]
  simp only [zRe, zBo, zNi]
  rw [show decide (x > y) = !decide (x ≤ y) from lt_le y x]
  have fin : (bif !fitsI x then some (AV.bool false, []) else bif !fitsI y then some (AV.bool false, []) else bif !decide (x ≤ y) then some (AV.bool false, []) else bif !sortedW qo then some (AV.bool false, []) else bif decide (x < y) then some (AV.bool true, []) else some (AV.bool (decide (qo.length = 0)), [])) = some (AV.bool (fitsI x && (decide (x ≤ y) && (fitsI y && (sortedW qo && (decide (x < y) || decide (qo.length = 0)))))), ([] : Boxes)) := by
   cases fitsI x <;> cases fitsI y <;> cases decide (x ≤ y) <;> cases sortedW qo <;> cases decide (x < y) <;> rfl
  by_cases h0 : qs.length = 0
  ·rw [decide_eq_false (show ¬ ((qs.length : Nat) : Int) > 0 by omega), show decide (x = prevTo qs x i) = true by
    rw [decide_eq_true_eq]; unfold prevTo qtail
    rw [if_pos (by omega)]
    cases qs with
    | nil => rfl
    | cons s r => simp at h0, Bool.true_and]
   exact fin
  ·obtain ⟨g1, g2⟩ := getM1 shV (0, 0, []) qs qs.length (by omega) (by omega) (by omega)
   rw [decide_eq_true (show ((qs.length : Nat) : Int) > 0 by omega), decide_eq_true g1, g2]
   simp only [cond_true, zOp, shV, zAg, zCo, zIn, asSl, if_true, zNi]
   rw [show prevTo qs x i = (qs.getD (qs.length - 1) (0, 0, [])).2.1 by unfold prevTo; rw [if_neg (by omega), hie]]
   by_cases he : x = (qs.getD (qs.length - 1) (0, 0, [])).2.1
   ·rw [decide_eq_true he, show ((qs.getD (qs.length - 1) (0, 0, [])).2.1 != x) = false from bne_eq_false_iff_eq.2 he.symm, Bool.true_and]
    exact fin
   ·rw [decide_eq_false he, bne_iff_ne.2 (fun e => he e.symm)]; rfl
theorem t85 (F : Fns) (N : Nat) (qs : List Shot) (qo : List Wr) (x y : Int) : runOf F 85 N [.agg [shsV qs, wsV qo, .int .i64 x, .int .i64 y]] [] =
 loopA (zBy F 85 0 N) (zDe 85 0) (zCt F 85 0 N 0) N { nt := 24, t := [(0, AV.agg [shsV qs, wsV qo, AV.int .i64 x, AV.int .i64 y]), (1, AV.ptr 1 0 0), (2, AV.sl 0 true []), (3, AV.sl 0 true []), (4, AV.int .i64 0)], b := [(1, [shsV qs, wsV qo, AV.int .i64 x, AV.int .i64 y])], r := [], g := [], rd := [], wr := [] } := by kernel_rfl
def rjS (qs : List Shot) (qo : List Wr) (x y : Int) (v : AV) (i : Int) : St := ⟨24, [(0, .agg [shsV qs, wsV qo, .int .i64 x, .int .i64 y]), (1, .ptr 1 0 0), (2, .sl 0 true []), (3, v), (4, .int .i64 i)], [(1, [shsV qs, wsV qo, .int .i64 x, .int .i64 y])], [], [], [], []⟩
theorem b85 (F : Fns) (N : Nat) (qs : List Shot) (qo : List Wr) (x y i : Int) (KN : St → Res) : zBy F 85 0 N (rjS qs qo x y (.sl 0 true []) i) (brk (zCt F 85 0 N 0) KN) =
 bif decide (i < ((List.length (List.map shV qs) : Nat) : Int)) then bif decide (0 ≤ i) then zOp (List.map shV qs)[Int.toNat i]? fun x_1 => zAg x_1 fun cs => zCo cs fun v r => zIn .i64 v fun n => zCo r fun v r => zIn .i64 v fun n => zCo r fun v r => asSl v fun m fl xs => zNi r (bif decide (m = 3 ∧ 3 ≠ 0 ∧ List.length [AV.int .i64 0, AV.int .i64 0, AV.str []] = 3 ∧ Option.isSome (some (AV.agg [AV.int .i64 0, AV.int .i64 0, AV.str []])) = true) && decide ((0 = 3 ∨ ([] : List AV) = []) ∧ fitsB (List.length ([] : List AV) + List.length xs) 32 = true ∧ List.length ([] : List AV) + List.length xs ≤ 4611686018427387904) then KN { nt := 24, t := [(0, AV.agg [shsV qs, wsV qo, AV.int .i64 x, AV.int .i64 y]), (1, AV.ptr 1 0 0), (2, AV.sl 0 true []), (3, AV.tip 19 0 3 ([] ++ xs)), (4, AV.int .i64 (IntKind.wrap .i64 (i + 1))), (9, AV.bool (decide (i < ((List.length (List.map shV qs) : Nat) : Int))))], b := [(1, [shsV qs, wsV qo, AV.int .i64 x, AV.int .i64 y])], r := [], g := [], rd := [], wr := [] } else none) else none else bif decide ((0 = 3 ∨ ([] : List AV) = []) ∧ fitsB (List.length ([] : List AV) + List.length (List.map wrV qo)) 32 = true ∧ List.length ([] : List AV) + List.length (List.map wrV qo) ≤ 4611686018427387904) then some (AV.sl 3 false ([] ++ List.map wrV qo), []) else none := by kernel_rfl
theorem b85b (F : Fns) (N : Nat) (qs : List Shot) (qo : List Wr) (x y i : Int) (ys : List Wr) (KN : St → Res) : zBy F 85 0 N (rjS qs qo x y (.tip 19 0 3 (ys.map wrV)) i) (brk (zCt F 85 0 N 0) KN) =
 bif decide (i < ((List.length (List.map shV qs) : Nat) : Int)) then bif decide (0 ≤ i) then zOp (List.map shV qs)[Int.toNat i]? fun x_1 => zAg x_1 fun cs => zCo cs fun v r => zIn .i64 v fun n => zCo r fun v r => zIn .i64 v fun n => zCo r fun v r => asSl v fun m fl xs => zNi r (bif decide (m = 3 ∧ 3 ≠ 0 ∧ List.length [AV.int .i64 0, AV.int .i64 0, AV.str []] = 3 ∧ Option.isSome (some (AV.agg [AV.int .i64 0, AV.int .i64 0, AV.str []])) = true) && decide (3 = 3 ∧ fitsB (List.length (List.map wrV ys) + List.length xs) 32 = true ∧ List.length (List.map wrV ys) + List.length xs ≤ 4611686018427387904) then KN { nt := 24, t := [(0, AV.agg [shsV qs, wsV qo, AV.int .i64 x, AV.int .i64 y]), (1, AV.ptr 1 0 0), (2, AV.sl 0 true []), (3, AV.tip 19 0 3 (List.map wrV ys ++ xs)), (4, AV.int .i64 (IntKind.wrap .i64 (i + 1))), (9, AV.bool (decide (i < ((List.length (List.map shV qs) : Nat) : Int))))], b := [(1, [shsV qs, wsV qo, AV.int .i64 x, AV.int .i64 y])], r := [], g := [], rd := [], wr := [] } else none) else none else bif decide (3 = 3 ∧ fitsB (List.length (List.map wrV ys) + List.length (List.map wrV qo)) 32 = true ∧ List.length (List.map wrV ys) + List.length (List.map wrV qo) ≤ 4611686018427387904) then some (AV.sl 3 false (List.map wrV ys ++ List.map wrV qo), []) else none := by kernel_rfl
def flatQ (qs : List Shot) : List Wr := qs.flatMap fun s => s.2.2
theorem x85 (k : Nat) (hk : 70300 ≤ k) (qs : List Shot) (qo : List Wr) (x y : Int) (h1 : qs.length ≤ 70000) (h3 : qo.length ≤ 200) (h4 : (flatQ qs).length ≤ 60000) : W k 85 [.agg [shsV qs, wsV qo, .int .i64 x, .int .i64 y]] [] = some (wsV (flatQ qs ++ qo), []) := by
 obtain ⟨k, rfl⟩ := succ1 (show 1 ≤ k by omega)
 suffices h : runOf (W k) 85 k [.agg [shsV qs, wsV qo, .int .i64 x, .int .i64 y]] [] = some (wsV (flatQ qs ++ qo), []) by
  exact (W_tree h (by kernel_rfl)).trans (by kernel_rfl)
 rw [t85]
 have later : ∀ (m i : Nat) (ys : List Wr) (st : St), qs.length - i < m → ys ++ flatQ (qs.drop i) = flatQ qs → st.clean (zDe 85 0) = rjS qs qo x y (.tip 19 0 3 (ys.map wrV)) i → loopA (zBy (W k) 85 0 k) (zDe 85 0) (zCt (W k) 85 0 k 0) m st = some (wsV (flatQ qs ++ qo), []) := by
  intro m i ys st hm hy hst
  refine loopA_ind (fun a : Nat × List Wr => rjS qs qo x y (.tip 19 0 3 (a.2.map wrV)) a.1) (fun a => qs.length - a.1) (fun a r => a.2 ++ flatQ (qs.drop a.1) = flatQ qs → r = some (wsV (flatQ qs ++ qo), [])) (fun a m ih hy => ?_) m (i, ys) st hm hst hy
  obtain ⟨i, ys⟩ := a
  simp only at ih hy ⊢
  have hle : ys.length ≤ 60000 := by have := congrArg List.length hy; rw [List.length_append] at this; omega
  rw [b85b, List.length_map]
  by_cases hi : i < qs.length
  ·rw [List.drop_eq_getElem_cons hi, flatQ, List.flatMap_cons, ← List.append_assoc] at hy
   have hle2 : (ys ++ qs[i].2.2).length ≤ 60000 := by have := congrArg List.length hy; rw [List.length_append] at this; omega
   rw [getM _ _ _ hi, wi (by omega)]
   simp only [decide_eq_true (show (i : Int) < qs.length by omega), decide_eq_true (show (0 : Int) ≤ i by omega), zOp, shV, zAg, zCo, zIn, asSl, if_true, zNi, cond_true]
   rw [show (decide (True ∧ 3 ≠ 0 ∧ List.length [AV.int .i64 0, AV.int .i64 0, AV.str []] = 3 ∧ Option.isSome (some (AV.agg [AV.int .i64 0, AV.int .i64 0, AV.str []])) = true)) = true from rfl, decide_eq_true (by
    refine ⟨trivial, fitsB_small ?_, ?_⟩ <;> simp only [List.length_map, List.length_append] at hle2 ⊢ <;> omega)]
   exact ih (i + 1, ys ++ qs[i].2.2) _ (by simp; omega) (by rw [List.map_append]; kernel_rfl) hy
  ·rw [List.drop_eq_nil_of_le (by omega)] at hy
   simp only [decide_eq_false (show ¬ (i : Int) < qs.length by omega), cond_false]
   rw [decide_eq_true (by
    refine ⟨trivial, fitsB_small ?_, ?_⟩ <;> simp only [List.length_map, List.length_append] at hle ⊢ <;> omega), ← hy]
   simp [flatQ]
 cases qs with
 | nil =>
  obtain ⟨k', hk'⟩ : ∃ k', k = k' + 1 := ⟨k - 1, by omega⟩
  have first : ∀ (m : Nat) (st : St), st.clean (zDe 85 0) = rjS [] qo x y (.sl 0 true []) 0 → loopA (zBy (W k) 85 0 k) (zDe 85 0) (zCt (W k) 85 0 k 0) (m + 1) st = some (wsV (flatQ [] ++ qo), []) := by
   intro m st h
   rw [loopA_succ, h, b85]
   simp only [decide_eq_false (show ¬ (0 : Int) < ((List.length (List.map shV []) : Nat) : Int) by simp), cond_false]
   rw [decide_eq_true (by
    refine ⟨.inr trivial, fitsB_small ?_, ?_⟩ <;> simp only [List.length_map, List.length_nil] <;> omega)]
   rfl
  have := first k' { nt := 24, t := [(0, AV.agg [shsV [], wsV qo, AV.int .i64 x, AV.int .i64 y]), (1, AV.ptr 1 0 0), (2, AV.sl 0 true []), (3, AV.sl 0 true []), (4, AV.int .i64 0)], b := [(1, [shsV [], wsV qo, AV.int .i64 x, AV.int .i64 y])], r := [], g := [], rd := [], wr := [] } (by kernel_rfl)
  rw [← hk'] at this
  exact this
 | cons s r =>
  obtain ⟨k', hk'⟩ : ∃ k', k = k' + 1 := ⟨k - 1, by omega⟩
  have hle2 : s.2.2.length ≤ 60000 := by rw [flatQ, List.flatMap_cons, List.length_append] at h4; omega
  have first : ∀ (m : Nat) (st : St), (s :: r).length < m + 1 → st.clean (zDe 85 0) = rjS (s :: r) qo x y (.sl 0 true []) (0 : Nat) → loopA (zBy (W k) 85 0 k) (zDe 85 0) (zCt (W k) 85 0 k 0) (m + 1) st = some (wsV (flatQ (s :: r) ++ qo), []) := by
   intro m st hm h
   rw [loopA_succ, h, b85, getM _ _ _ (show 0 < (s :: r).length by simp), wi (by omega), List.length_map]
   simp only [decide_eq_true (show ((0 : Nat) : Int) < ((s :: r).length : Nat) by simp only [List.length_cons]; omega), decide_eq_true (show (0 : Int) ≤ ((0 : Nat) : Int) by omega), zOp, shV, zAg, zCo, zIn, asSl, if_true, zNi, cond_true, List.getElem_cons_zero]
   rw [show (decide (True ∧ 3 ≠ 0 ∧ List.length [AV.int .i64 0, AV.int .i64 0, AV.str []] = 3 ∧ Option.isSome (some (AV.agg [AV.int .i64 0, AV.int .i64 0, AV.str []])) = true)) = true from rfl, decide_eq_true (by
    refine ⟨.inr trivial, fitsB_small ?_, ?_⟩ <;> simp only [List.length_map, List.length_nil] <;> omega)]
   exact later m 1 s.2.2 _ (by simp only [List.length_cons] at hm ⊢; omega) rfl (by kernel_rfl)
  have := first k' { nt := 24, t := [(0, AV.agg [shsV (s :: r), wsV qo, AV.int .i64 x, AV.int .i64 y]), (1, AV.ptr 1 0 0), (2, AV.sl 0 true []), (3, AV.sl 0 true []), (4, AV.int .i64 0)], b := [(1, [shsV (s :: r), wsV qo, AV.int .i64 x, AV.int .i64 y])], r := [], g := [], rd := [], wr := [] } (by simp only [List.length_cons] at h1 ⊢; omega) (by kernel_rfl)
  rw [← hk'] at this
  exact this
open Go.AM Go.Proofs Go
theorem t59 (F : Fns) (N : Nat) (qs : List Shot) (qo : List Wr) (x y : Int) (ps : List Shot) (po : List Wr) (u w : Int) : runOf F 59 N [.agg [shsV qs, wsV qo, .int .i64 x, .int .i64 y], .agg [shsV ps, wsV po, .int .i64 u, .int .i64 w]] [] =
 bif ((List.length (List.map shV qs) : Nat) : Int) != ((List.length (List.map shV ps) : Nat) : Int) then some (AV.bool false, []) else bif x != u then some (AV.bool false, []) else bif y != w then some (AV.bool false, []) else zRe (F 55 [wsV qo, wsV po] []) fun v bs => zBo v fun b => zNi bs (bif !b then some (AV.bool false, []) else loopA (zBy F 59 0 N) (zDe 59 0) (zCt F 59 0 N 0) N { nt := 86, t := [(0, AV.agg [shsV qs, wsV qo, AV.int .i64 x, AV.int .i64 y]), (1, AV.agg [shsV ps, wsV po, AV.int .i64 u, AV.int .i64 w]), (2, AV.ptr 2 0 0), (3, AV.ptr 3 0 0), (4, AV.bool false), (5, AV.int .i64 0), (34, AV.bool !b)], b := [(2, [shsV qs, wsV qo, AV.int .i64 x, AV.int .i64 y]), (3, [shsV ps, wsV po, AV.int .i64 u, AV.int .i64 w])], r := [], g := [], rd := [], wr := [] }) := by kernel_rfl
def qeS (qs : List Shot) (qo : List Wr) (x y : Int) (ps : List Shot) (po : List Wr) (u w : Int) (i : Int) (b : Bool) : St := ⟨86, [(0, .agg [shsV qs, wsV qo, .int .i64 x, .int .i64 y]), (1, .agg [shsV ps, wsV po, .int .i64 u, .int .i64 w]), (2, .ptr 2 0 0), (3, .ptr 3 0 0), (4, .bool false), (5, .int .i64 i), (34, .bool b)], [(2, [shsV qs, wsV qo, .int .i64 x, .int .i64 y]), (3, [shsV ps, wsV po, .int .i64 u, .int .i64 w])], [], [], [], []⟩
theorem b59 (F : Fns) (N : Nat) (qs : List Shot) (qo : List Wr) (x y : Int) (ps : List Shot) (po : List Wr) (u w : Int) (i : Int) (b : Bool) (KN : St → Res) : zBy F 59 0 N (qeS qs qo x y ps po u w i b) (brk (zCt F 59 0 N 0) KN) =
 bif decide (i < ((List.length (List.map shV qs) : Nat) : Int)) then bif decide (0 ≤ i) then zOp (List.map shV qs)[Int.toNat i]? fun x_1 => zAg x_1 fun cs => zCo cs fun v r => zIn .i64 v fun n => zCo r fun v r => zIn .i64 v fun n_1 => zCo r fun v r => asSl v fun m fl xs => zNi r (bif decide (0 ≤ i) then zOp (List.map shV ps)[Int.toNat i]? fun x_2 => zAg x_2 fun cs => zCo cs fun v r => zIn .i64 v fun n_2 => zCo r fun v r => zIn .i64 v fun n_3 => zCo r fun v r => asSl v fun m fl xs => zNi r (bif n != n_2 then some (AV.bool false, []) else bif decide (0 ≤ i) then zOp (List.map shV qs)[Int.toNat i]? fun x_3 => zAg x_3 fun cs => zCo cs fun v r => zIn .i64 v fun n => zCo r fun v r => zIn .i64 v fun n => zCo r fun v r => asSl v fun m fl xs => zNi r (bif decide (0 ≤ i) then zOp (List.map shV ps)[Int.toNat i]? fun x_4 => zAg x_4 fun cs => zCo cs fun v r => zIn .i64 v fun n_4 => zCo r fun v r => zIn .i64 v fun n_5 => zCo r fun v r => asSl v fun m fl xs => zNi r (bif n != n_5 then some (AV.bool false, []) else bif decide (0 ≤ i) then zOp (List.map shV qs)[Int.toNat i]? fun x_5 => zAg x_5 fun cs => zCo cs fun v r => zIn .i64 v fun n => zCo r fun v r => zIn .i64 v fun n => zCo r fun v r => asSl v fun m fl xs => zNi r (bif decide (0 ≤ i) then zOp (List.map shV ps)[Int.toNat i]? fun x_6 => zAg x_6 fun cs => zCo cs fun v r => zIn .i64 v fun n => zCo r fun v r => zIn .i64 v fun n => zCo r fun v r => asSl v fun m_1 fl_1 xs_1 => zNi r (zRe (F 55 [AV.sl m fl xs, AV.sl m_1 fl_1 xs_1] []) fun v bs => zBo v fun b_1 => zNi bs (bif !b_1 then some (AV.bool false, []) else KN { nt := 86, t := [(0, AV.agg [shsV qs, wsV qo, AV.int .i64 x, AV.int .i64 y]), (1, AV.agg [shsV ps, wsV po, AV.int .i64 u, AV.int .i64 w]), (2, AV.ptr 2 0 0), (3, AV.ptr 3 0 0), (4, AV.bool false), (5, AV.int .i64 (IntKind.wrap .i64 (i + 1))), (34, AV.bool b), (39, AV.bool (decide (i < ((List.length (List.map shV qs) : Nat) : Int)))), (85, AV.bool !b_1)], b := [(2, [shsV qs, wsV qo, AV.int .i64 x, AV.int .i64 y]), (3, [shsV ps, wsV po, AV.int .i64 u, AV.int .i64 w])], r := [], g := [], rd := [], wr := [] })) else none) else none) else none) else none) else none) else none else some (AV.bool true, []) := by kernel_rfl
theorem nat_bne (a b : Nat) : (((a : Nat) : Int) != ((b : Nat) : Int)) = !decide (a = b) := by
 by_cases h : a = b
 ·subst h; simp
 ·rw [decide_eq_false h, bne_iff_ne.2 (by omega)]; rfl
theorem shot_ext (a b : Shot) : decide (a = b) = (decide (a.1 = b.1) && (decide (a.2.1 = b.2.1) && decide (a.2.2 = b.2.2))) := by
 rw [Bool.eq_iff_iff, decide_eq_true_eq, ← shot_eq]
 simp
theorem x59 (k : Nat) (hk : 70300 ≤ k) (qs : List Shot) (qo : List Wr) (x y : Int) (ps : List Shot) (po : List Wr) (u w : Int) (h1 : qs.length ≤ 70000) (h2 : ∀ s ∈ qs, s.2.2.length ≤ 70000) (h3 : qo.length ≤ 70000) : W k 59 [.agg [shsV qs, wsV qo, .int .i64 x, .int .i64 y], .agg [shsV ps, wsV po, .int .i64 u, .int .i64 w]] [] = some (.bool (decide (qs = ps) && (decide (x = u) && (decide (y = w) && decide (qo = po)))), []) := by
 obtain ⟨k, rfl⟩ := succ1 (show 1 ≤ k by omega)
 rw [W_tree0 (t59 (W k) k qs qo x y ps po u w) (by kernel_rfl), List.length_map, List.length_map, nat_bne, x55 k qo po (by omega) h3, show (x != u) = !decide (x = u) from rfl, show (y != w) = !decide (y = w) from rfl]
 simp only [zRe, zBo, zNi]
 by_cases hl : qs.length = ps.length
 ·rw [decide_eq_true hl]
  cases decide (x = u) with
  | false => cases decide (qs = ps) <;> rfl
  | true =>
   cases decide (y = w) with
   | false => cases decide (qs = ps) <;> rfl
   | true =>
    cases decide (qo = po) with
    | false => cases decide (qs = ps) <;> rfl
    | true =>
     simp only [Bool.not_true, cond_false, Bool.and_true]
     refine loopA_ind (fun i : Nat => qeS qs qo x y ps po u w i false) (fun i => qs.length - i) (fun i r => r = some (.bool (decide (qs.drop i = ps.drop i)), [])) (fun i m ih => ?_) k 0 _ (by omega) (by kernel_rfl)
     rw [b59, List.length_map]
     by_cases hi : i < qs.length
     ·have hj : i < ps.length := by omega
      have hs := h2 _ (List.getElem_mem hi)
      rw [getM _ _ _ hi, getM _ _ _ hj, List.drop_eq_getElem_cons hi, List.drop_eq_getElem_cons hj, wi (by omega)]
      simp only [decide_eq_true (show (i : Int) < qs.length by omega), decide_eq_true (show (0 : Int) ≤ i by omega), zOp, shV, zAg, zCo, zIn, asSl, if_true, zNi, cond_true]
      rw [x55 k qs[i].2.2 ps[i].2.2 (by omega) hs, show (qs[i].1 != ps[i].1) = !decide (qs[i].1 = ps[i].1) from rfl, show (qs[i].2.1 != ps[i].2.1) = !decide (qs[i].2.1 = ps[i].2.1) from rfl]
      simp only [zRe, zBo, zNi]
      rw [show decide (qs[i] :: qs.drop (i + 1) = ps[i] :: ps.drop (i + 1)) = (decide (qs[i] = ps[i]) && decide (qs.drop (i + 1) = ps.drop (i + 1))) by rw [Bool.eq_iff_iff, decide_eq_true_eq, Bool.and_eq_true, decide_eq_true_eq, decide_eq_true_eq, List.cons.injEq], shot_ext]
      cases decide (qs[i].1 = ps[i].1) with
      | false => rfl
      | true =>
       cases decide (qs[i].2.1 = ps[i].2.1) with
       | false => rfl
       | true =>
        cases decide (qs[i].2.2 = ps[i].2.2) with
        | false => rfl
        | true => exact ih (i + 1) _ (by omega) (by kernel_rfl)
     ·rw [decide_eq_false (show ¬ (i : Int) < qs.length by omega), List.drop_eq_nil_of_le (by omega), List.drop_eq_nil_of_le (by omega)]; rfl
 ·rw [decide_eq_false hl, decide_eq_false (show ¬ qs = ps from fun e => hl (by rw [e]))]; rfl
theorem chkW_append (vs : List Vol) : ∀ a b : List Wr, (chkW vs (a ++ b) = 0) ↔ (chkW vs a = 0 ∧ chkW vs b = 0)
 | [], b => by simp [chkW]
 | w :: a, b => by
  simp only [List.cons_append, chkW]
  split
  ·rename_i h; simp [h]
  ·split
   ·simp
   ·exact chkW_append vs a b
theorem able_flat (n : Nd) : decide (chkE n.vs (flatQ n.qs ++ n.qo) = 0) = ableOk n := by
 unfold ableOk chkE
 cases vOk n.vs with
 | false => simp
 | true =>
  simp only [if_true]
  generalize n.qs = qs
  rw [Bool.eq_iff_iff, Bool.and_eq_true, decide_eq_true_eq, decide_eq_true_eq, chkW_append]
  have : chkW n.vs (flatQ qs) = 0 ↔ (qs.all fun s => decide (chkW n.vs s.2.2 = 0)) = true := by
   induction qs with
   | nil => simp [flatQ, chkW]
   | cons s r ih =>
    rw [flatQ, List.flatMap_cons, chkW_append, List.all_cons, Bool.and_eq_true, decide_eq_true_eq]
    exact and_congr Iff.rfl ih
  rw [this]
theorem x86 (k : Nat) (ws : List Wr) (hl : ws.length ≤ 200) (hk : 1000 ≤ k) : W k 86 [wsV ws] [] = some (.bool (wOk ws), []) := W_old0 (e12 k false ws (by omega)) (by omega) (by kernel_rfl)
theorem t39 (F : Fns) (N : Nat) (n : Nd) : runOf F 39 N [.agg (ndL n)] [] =
 zRe (F 82 [AV.agg (ndL n)] []) fun v bs => zBo v fun b => zNi bs (bif b then zRe (F 83 [AV.agg [shsV (Nd.qs n), wsV (Nd.qo n), AV.int .i64 (Nd.qf n), AV.int .i64 (Nd.qt n)]] []) fun v bs => zBo v fun b => zNi bs (bif !b then some (AV.bool false, []) else bif Nd.qt n != Nd.sq n then some (AV.bool false, []) else zRe (F 84 [AV.agg [shsV (Nd.qs n), wsV (Nd.qo n), AV.int .i64 (Nd.qf n), AV.int .i64 (Nd.qt n)]] []) fun v bs => zIn .i64 v fun n_1 => zNi bs (bif decide (0 ≤ IntKind.wrap .i64 (((List.length (List.map brV (Nd.ln n)) : Nat) : Int) - 1)) then zOp (List.map brV (Nd.ln n))[Int.toNat (IntKind.wrap .i64 (((List.length (List.map brV (Nd.ln n)) : Nat) : Int) - 1))]? fun x => zAg x fun cs => zCo cs fun v r => zIn .i64 v fun n_2 => zCo r fun v r => zIn .i64 v fun n_3 => zNi r (bif decide (n_1 < n_3) then some (AV.bool false, []) else zRe (F 85 [AV.agg [shsV (Nd.qs n), wsV (Nd.qo n), AV.int .i64 (Nd.qf n), AV.int .i64 (Nd.qt n)]] []) fun v bs => asSl v fun m fl xs => zNi bs (zRe (F 76 [vsV (Nd.vs n), AV.sl m fl xs] []) fun v bs => zIn .i64 v fun n_4 => zNi bs (bif n_4 != 0 then some (AV.bool false, []) else bif Nd.md n == 2 then zRe (F 86 [wsV (Nd.cp n)] []) fun v bs => zBo v fun b => zNi bs (bif b then zRe (F 76 [vsV (Nd.vs n), wsV (Nd.cp n)] []) fun v bs => zIn .i64 v fun n_5 => zNi bs (bif n_5 == 0 then bif decide (Nd.go n ≥ -1) then zRe (F 87 [AV.agg (ndL n)] []) fun v bs => zIn .i64 v fun n_6 => zNi bs (some (AV.bool (decide (Nd.go n ≤ n_6)), [])) else some (AV.bool false, []) else some (AV.bool false, [])) else some (AV.bool false, [])) else bif ((List.length (List.map wrV (Nd.cp n)) : Nat) : Int) == 0 then bif Nd.go n == 0 then some (AV.bool !Nd.fu n, []) else some (AV.bool false, []) else some (AV.bool false, [])))) else none)) else zRe (F 59 [AV.agg [shsV (Nd.qs n), wsV (Nd.qo n), AV.int .i64 (Nd.qf n), AV.int .i64 (Nd.qt n)], AV.agg [AV.sl 0 true [], AV.sl 0 true [], AV.int .i64 0, AV.int .i64 0]] []) fun v bs => zBo v fun b => zNi bs (bif !b then some (AV.bool false, []) else bif Nd.md n == 2 then zRe (F 86 [wsV (Nd.cp n)] []) fun v bs => zBo v fun b => zNi bs (bif b then zRe (F 76 [vsV (Nd.vs n), wsV (Nd.cp n)] []) fun v bs => zIn .i64 v fun n_1 => zNi bs (bif n_1 == 0 then bif decide (Nd.go n ≥ -1) then zRe (F 87 [AV.agg (ndL n)] []) fun v bs => zIn .i64 v fun n_2 => zNi bs (some (AV.bool (decide (Nd.go n ≤ n_2)), [])) else some (AV.bool false, []) else some (AV.bool false, [])) else some (AV.bool false, [])) else bif ((List.length (List.map wrV (Nd.cp n)) : Nat) : Int) == 0 then bif Nd.go n == 0 then some (AV.bool !Nd.fu n, []) else some (AV.bool false, []) else some (AV.bool false, []))) := by kernel_rfl
theorem x39 (k : Nat) (hk : 70500 ≤ k) (n : Nd) (hb : NdB n) (hline : n.md = 2 ∨ n.md = 3 → lineOk n.ln = true) : W k 39 [.agg (ndL n)] [] = some (.bool (sendsOk n), []) := by
 obtain ⟨k, rfl⟩ := succ1 (show 1 ≤ k by omega)
 have hcp := hb.cp
 have hqs := hb.qs
 have hqo := hb.qo
 have h59 := W_arg (x59 k (by omega) n.qs n.qo n.qf n.qt [] [] 0 0 hqs (fun s hs => by have := hb.qk s hs; omega) (by omega)) (vs := [AV.agg [shsV n.qs, wsV n.qo, AV.int .i64 n.qf, AV.int .i64 n.qt], AV.agg [AV.sl 0 true [], AV.sl 0 true [], AV.int .i64 0, AV.int .i64 0]]) (by kernel_rfl)
 have h76 := x76 k n.vs (flatQ n.qs ++ n.qo) (by have := hb.tot; rw [List.length_append]; unfold flatQ; omega) (by omega)
 rw [W_tree0 (t39 (W k) k n) (by kernel_rfl), x82 k (by omega) n, x83 k (by omega) n.qs n.qo n.qf n.qt hqs hb.qk hqo, x84 k (by omega), x85 k (by omega) n.qs n.qo n.qf n.qt hqs hqo hb.tot, x86 k n.cp hcp (by omega), x76 k n.vs n.cp (by omega) (by omega), x87 k n (by omega) (by omega), h59]
 simp only [zRe, zBo, zIn, asSl, if_true, zNi, List.length_map, len0]
 rw [h76]
 simp only [zRe, zBo, zIn, asSl, if_true, zNi]
 rw [show (n.md == 2) = decide (n.md = 2) from rfl, show (n.go == 0) = decide (n.go = 0) from rfl, show (chkE n.vs n.cp == 0) = decide (chkE n.vs n.cp = 0) from rfl, show (chkE n.vs (flatQ n.qs ++ n.qo) != 0) = !decide (chkE n.vs (flatQ n.qs ++ n.qo) = 0) from rfl, able_flat, show (n.qt != n.sq) = !decide (n.qt = n.sq) from rfl]
 unfold sendsOk
 by_cases hm : n.md = 2 ∨ n.md = 3
 ·rw [decide_eq_true hm, if_pos hm]
  obtain ⟨l1, l2⟩ := line_len (hline hm)
  obtain ⟨l3, l4⟩ := last_br l1 (by omega)
  rw [decide_eq_true l3, l4]
  simp only [cond_true, zOp, brV, zAg, zCo, zIn, if_true, zNi]
  rw [show decide (qtail n.qs n.qf < (n.ln.getD (n.ln.length - 1) (0, 0)).2) = !decide (lastAt n.ln ≤ qtail n.qs n.qf) from lt_le _ _]
  generalize queueOk n.qs n.qo n.qf n.qt = c1
  generalize decide (n.qt = n.sq) = c2
  generalize decide (lastAt n.ln ≤ qtail n.qs n.qf) = c3
  generalize ableOk n = c4
  by_cases h2 : n.md = 2
  ·rw [decide_eq_true h2, if_pos h2]
   have e : decide (-1 ≤ n.go ∧ n.go ≤ partsN n) = (decide (n.go ≥ -1) && decide (n.go ≤ (partsN n : Int))) := by rw [Bool.eq_iff_iff]; simp
   rw [e]
   generalize wOk n.cp = c5
   generalize decide (chkE n.vs n.cp = 0) = c6
   generalize decide (n.go ≥ -1) = c7
   generalize decide (n.go ≤ (partsN n : Int)) = c8
   cases c1 <;> cases c2 <;> cases c3 <;> cases c4 <;> cases c5 <;> cases c6 <;> cases c7 <;> cases c8 <;> rfl
  ·rw [decide_eq_false h2, if_neg h2]
   generalize decide (n.cp.length = 0) = c5
   generalize decide (n.go = 0) = c6
   cases c1 <;> cases c2 <;> cases c3 <;> cases c4 <;> cases c5 <;> cases c6 <;> rfl
 ·rw [decide_eq_false hm, if_neg hm, if_neg (show ¬ n.md = 2 by omega), decide_eq_false (show ¬ n.md = 2 by omega)]
  rw [show decide (n.qs = []) = decide (n.qs.length = 0) by rw [decide_eq_decide]; exact List.length_eq_zero_iff.symm, show decide (n.qo = []) = decide (n.qo.length = 0) by rw [decide_eq_decide]; exact List.length_eq_zero_iff.symm]
  generalize decide (n.qs.length = 0) = c1
  generalize decide (n.qo.length = 0) = c2
  generalize decide (n.qf = 0) = c3
  generalize decide (n.qt = 0) = c4
  generalize decide (n.cp.length = 0) = c5
  generalize decide (n.go = 0) = c6
  cases c1 <;> cases c2 <;> cases c3 <;> cases c4 <;> cases c5 <;> cases c6 <;> rfl
def rrS (n : Nd) (k : Nat) (b : Bool) : St := ⟨254, [(1, .ptr 1 0 0), (2, .bool false), (k, .bool b)], [(1, ndL n)], [], [], [], []⟩
def rrL (n : Nd) (i : Int) (b : Bool) : St := ⟨254, [(1, .ptr 1 0 0), (2, .bool false), (3, .int .i64 i), (187, .bool b)], [(1, ndL n)], [], [], [], []⟩
theorem t10 (F : Fns) (N : Nat) (n : Nd) : runOf F 10 N [.agg (ndL n)] [] =
 bif Nd.ro n != 1 then bif Nd.ro n != 2 then joinA 1 (joinOf F 10 1 N 0) (rrS n 58 true) else bif decide (Nd.md n < 0) then joinA 1 (joinOf F 10 1 N 0) (rrS n 58 true) else bif decide (Nd.md n > 4) then joinA 1 (joinOf F 10 1 N 0) (rrS n 58 true) else zRe (F 30 [AV.int .i64 (Nd.kn n)] []) fun v bs => zBo v fun b => zNi bs (bif !b then joinA 1 (joinOf F 10 1 N 0) (rrS n 58 true) else zRe (F 30 [AV.int .i64 (Nd.sy n)] []) fun v bs => zBo v fun b => zNi bs (bif !b then joinA 1 (joinOf F 10 1 N 0) (rrS n 58 true) else zRe (F 30 [AV.int .i64 (Nd.sn n)] []) fun v bs => zBo v fun b => zNi bs (bif !b then joinA 1 (joinOf F 10 1 N 0) (rrS n 58 true) else zRe (F 30 [AV.int .i64 (Nd.fr n)] []) fun v bs => zBo v fun b => zNi bs (bif !b then joinA 1 (joinOf F 10 1 N 0) (rrS n 58 true) else zRe (F 30 [AV.int .i64 (Nd.fn n)] []) fun v bs => zBo v fun b => zNi bs (bif !b then joinA 1 (joinOf F 10 1 N 0) (rrS n 58 true) else zRe (F 30 [AV.int .i64 (Nd.nx n)] []) fun v bs => zBo v fun b => zNi bs (joinA 1 (joinOf F 10 1 N 0) (rrS n 58 (!b)))))))) else bif decide (Nd.md n < 0) then joinA 1 (joinOf F 10 1 N 0) (rrS n 58 true) else bif decide (Nd.md n > 4) then joinA 1 (joinOf F 10 1 N 0) (rrS n 58 true) else zRe (F 30 [AV.int .i64 (Nd.kn n)] []) fun v bs => zBo v fun b => zNi bs (bif !b then joinA 1 (joinOf F 10 1 N 0) (rrS n 58 true) else zRe (F 30 [AV.int .i64 (Nd.sy n)] []) fun v bs => zBo v fun b => zNi bs (bif !b then joinA 1 (joinOf F 10 1 N 0) (rrS n 58 true) else zRe (F 30 [AV.int .i64 (Nd.sn n)] []) fun v bs => zBo v fun b => zNi bs (bif !b then joinA 1 (joinOf F 10 1 N 0) (rrS n 58 true) else zRe (F 30 [AV.int .i64 (Nd.fr n)] []) fun v bs => zBo v fun b => zNi bs (bif !b then joinA 1 (joinOf F 10 1 N 0) (rrS n 58 true) else zRe (F 30 [AV.int .i64 (Nd.fn n)] []) fun v bs => zBo v fun b => zNi bs (bif !b then joinA 1 (joinOf F 10 1 N 0) (rrS n 58 true) else zRe (F 30 [AV.int .i64 (Nd.nx n)] []) fun v bs => zBo v fun b => zNi bs (joinA 1 (joinOf F 10 1 N 0) (rrS n 58 (!b)))))))) := by kernel_rfl
theorem j1 (F : Fns) (N : Nat) (n : Nd) (b : Bool) : joinOf F 10 1 N 0 (rrS n 58 b) =
 bif b then some (AV.bool false, []) else zRe (F 32 [AV.agg (ndL n)] []) fun v bs => zAg v fun cs => zCo cs fun v r => asSl v fun m fl xs => zCo r fun v r => zIn .i64 v fun n_1 => zNi r (zNi bs (zRe (F 31 [AV.agg [AV.sl m fl xs, AV.int .i64 n_1]] []) fun v bs => zBo v fun b => zNi bs (joinA 3 (joinOf F 10 3 N 0) (rrS n 61 b)))) := by kernel_rfl
theorem j3 (F : Fns) (N : Nat) (n : Nd) (b : Bool) : joinOf F 10 3 N 0 (rrS n 61 b) =
 bif b then bif Nd.ro n == 1 then some (AV.bool false, []) else bif Nd.va n then some (AV.bool false, []) else bif Nd.ro n == 1 then bif !Nd.va n then joinA 8 (joinOf F 10 8 N 0) (rrS n 100 true) else bif Nd.st n then joinA 8 (joinOf F 10 8 N 0) (rrS n 100 true) else zRe (F 34 [lnV (Nd.ln n)] []) fun v bs => zIn .i64 v fun n_1 => zNi bs (joinA 8 (joinOf F 10 8 N 0) { nt := 254, t := [(1, AV.ptr 1 0 0), (2, AV.bool false), (100, AV.bool (Nd.kn n != n_1))], b := [(1, (ndL n))], r := [], g := [], rd := [], wr := [] }) else joinA 8 (joinOf F 10 8 N 0) (rrS n 100 false) else zRe (F 32 [AV.agg (ndL n)] []) fun v bs => zAg v fun cs => zCo cs fun v r => asSl v fun m fl xs => zCo r fun v r => zIn .i64 v fun n_1 => zNi r (zNi bs (zRe (F 33 [AV.agg [AV.sl m fl xs, AV.int .i64 n_1]] []) fun v bs => zBo v fun b => zNi bs (bif !b then joinA 6 (joinOf F 10 6 N 0) (rrS n 80 true) else zRe (F 34 [lnV (Nd.ln n)] []) fun v bs => zIn .i64 v fun n_2 => zNi bs (joinA 6 (joinOf F 10 6 N 0) { nt := 254, t := [(1, AV.ptr 1 0 0), (2, AV.bool false), (80, AV.bool (decide (n_2 > Nd.kn n)))], b := [(1, (ndL n))], r := [], g := [], rd := [], wr := [] })))) := by kernel_rfl
theorem j6 (F : Fns) (N : Nat) (n : Nd) (b : Bool) : joinOf F 10 6 N 0 (rrS n 80 b) =
 bif b then some (AV.bool false, []) else bif Nd.ro n == 1 then bif !Nd.va n then joinA 8 (joinOf F 10 8 N 0) (rrS n 100 true) else bif Nd.st n then joinA 8 (joinOf F 10 8 N 0) (rrS n 100 true) else zRe (F 34 [lnV (Nd.ln n)] []) fun v bs => zIn .i64 v fun n_1 => zNi bs (joinA 8 (joinOf F 10 8 N 0) { nt := 254, t := [(1, AV.ptr 1 0 0), (2, AV.bool false), (100, AV.bool (Nd.kn n != n_1))], b := [(1, (ndL n))], r := [], g := [], rd := [], wr := [] }) else joinA 8 (joinOf F 10 8 N 0) (rrS n 100 false) := by kernel_rfl
theorem j8 (F : Fns) (N : Nat) (n : Nd) (b : Bool) : joinOf F 10 8 N 0 (rrS n 100 b) =
 bif b then some (AV.bool false, []) else zRe (F 35 [vsV (Nd.vs n)] []) fun v bs => zBo v fun b => zNi bs (bif !b then joinA 10 (joinOf F 10 10 N 0) (rrS n 137 true) else zRe (F 36 [wsV (Nd.kp n), vsV (Nd.vs n)] []) fun v bs => zBo v fun b => zNi bs (bif !b then joinA 10 (joinOf F 10 10 N 0) (rrS n 137 true) else bif decide (((List.length (List.map wrV (Nd.kp n)) : Nat) : Int) > 0) then bif !Nd.sh n then joinA 10 (joinOf F 10 10 N 0) (rrS n 137 true) else bif Nd.sh n then bif Nd.ro n == 1 then joinA 10 (joinOf F 10 10 N 0) (rrS n 137 true) else joinA 10 (joinOf F 10 10 N 0) (rrS n 137 (!Nd.va n)) else joinA 10 (joinOf F 10 10 N 0) (rrS n 137 false) else bif Nd.sh n then bif Nd.ro n == 1 then joinA 10 (joinOf F 10 10 N 0) (rrS n 137 true) else joinA 10 (joinOf F 10 10 N 0) (rrS n 137 (!Nd.va n)) else joinA 10 (joinOf F 10 10 N 0) (rrS n 137 false))) := by kernel_rfl
theorem j10 (F : Fns) (N : Nat) (n : Nd) (b : Bool) : joinOf F 10 10 N 0 (rrS n 137 b) =
 bif b then some (AV.bool false, []) else zRe (F 31 [AV.agg [lnV (Nd.al n), AV.int .i64 (Nd.aq n)]] []) fun v bs => zBo v fun b => zNi bs (joinA 12 (joinOf F 10 12 N 0) (rrS n 140 b)) := by kernel_rfl
theorem j12 (F : Fns) (N : Nat) (n : Nd) (b : Bool) : joinOf F 10 12 N 0 (rrS n 140 b) =
 bif b then bif decide (((List.length (List.map btV (Nd.ch n)) : Nat) : Int) > 0) then some (AV.bool false, []) else bif Nd.ro n == 2 then bif Nd.md n != 0 then joinA 17 (joinOf F 10 17 N 0) (rrS n 187 true) else bif decide (((List.length (List.map shV (Nd.ss n)) : Nat) : Int) > 0) then joinA 17 (joinOf F 10 17 N 0) (rrS n 187 true) else joinA 17 (joinOf F 10 17 N 0) { nt := 254, t := [(1, AV.ptr 1 0 0), (2, AV.bool false), (187, AV.bool (decide (((List.length (List.map shV (Nd.ss n)) : Nat) : Int) > 2)))], b := [(1, (ndL n))], r := [], g := [], rd := [], wr := [] } else joinA 17 (joinOf F 10 17 N 0) { nt := 254, t := [(1, AV.ptr 1 0 0), (2, AV.bool false), (187, AV.bool (decide (((List.length (List.map shV (Nd.ss n)) : Nat) : Int) > 2)))], b := [(1, (ndL n))], r := [], g := [], rd := [], wr := [] } else zRe (F 32 [AV.agg (ndL n)] []) fun v bs => zAg v fun cs => zCo cs fun v r => asSl v fun m fl xs => zCo r fun v r => zIn .i64 v fun n_1 => zNi r (zNi bs (zRe (F 37 [AV.agg [lnV (Nd.al n), AV.int .i64 (Nd.aq n)], AV.agg [AV.sl m fl xs, AV.int .i64 n_1]] []) fun v bs => zIn .i64 v fun n_2 => zNi bs (bif n_2 != Nd.aq n then joinA 15 (joinOf F 10 15 N 0) (rrS n 167 true) else zRe (F 33 [AV.agg [lnV (Nd.al n), AV.int .i64 (Nd.aq n)]] []) fun v bs => zBo v fun b => zNi bs (bif !b then joinA 15 (joinOf F 10 15 N 0) (rrS n 167 true) else zRe (F 38 [btsV (Nd.ch n), vsV (Nd.vs n)] []) fun v bs => zBo v fun b => zNi bs (joinA 15 (joinOf F 10 15 N 0) (rrS n 167 (!b))))))) := by kernel_rfl
theorem j15 (F : Fns) (N : Nat) (n : Nd) (b : Bool) : joinOf F 10 15 N 0 (rrS n 167 b) =
 bif b then some (AV.bool false, []) else bif Nd.ro n == 2 then bif Nd.md n != 0 then joinA 17 (joinOf F 10 17 N 0) (rrS n 187 true) else bif decide (((List.length (List.map shV (Nd.ss n)) : Nat) : Int) > 0) then joinA 17 (joinOf F 10 17 N 0) (rrS n 187 true) else joinA 17 (joinOf F 10 17 N 0) { nt := 254, t := [(1, AV.ptr 1 0 0), (2, AV.bool false), (187, AV.bool (decide (((List.length (List.map shV (Nd.ss n)) : Nat) : Int) > 2)))], b := [(1, (ndL n))], r := [], g := [], rd := [], wr := [] } else joinA 17 (joinOf F 10 17 N 0) { nt := 254, t := [(1, AV.ptr 1 0 0), (2, AV.bool false), (187, AV.bool (decide (((List.length (List.map shV (Nd.ss n)) : Nat) : Int) > 2)))], b := [(1, (ndL n))], r := [], g := [], rd := [], wr := [] } := by kernel_rfl
theorem j17 (F : Fns) (N : Nat) (n : Nd) (b : Bool) : joinOf F 10 17 N 0 (rrS n 187 b) =
 bif b then some (AV.bool false, []) else loopA (zBy F 10 0 N) (zDe 10 0) (zCt F 10 0 N 0) N { nt := 254, t := [(1, AV.ptr 1 0 0), (2, AV.bool false), (3, AV.int .i64 0), (187, AV.bool b)], b := [(1, (ndL n))], r := [], g := [], rd := [], wr := [] } := by kernel_rfl
theorem b10 (F : Fns) (N : Nat) (n : Nd) (i : Int) (b : Bool) (KN : St → Res) : zBy F 10 0 N (rrL n i b) (brk (zCt F 10 0 N 0) KN) =
 bif decide (i < ((List.length (List.map shV (Nd.ss n)) : Nat) : Int)) then bif decide (0 ≤ i) then zOp (List.map shV (Nd.ss n))[Int.toNat i]? fun x => zAg x fun cs => zCo cs fun v r => zIn .i64 v fun n_1 => zCo r fun v r => zIn .i64 v fun n_2 => zCo r fun v r => asSl v fun m fl xs => zNi r (bif decide (n_1 < 1) then some (AV.bool false, []) else bif decide (n_1 > Nd.sn n) then some (AV.bool false, []) else bif decide (i > 0) then bif decide (0 ≤ IntKind.wrap .i64 (i - 1)) then zOp (List.map shV (Nd.ss n))[Int.toNat (IntKind.wrap .i64 (i - 1))]? fun x => zAg x fun cs => zCo cs fun v r => zIn .i64 v fun n_3 => zCo r fun v r => zIn .i64 v fun n_4 => zCo r fun v r => asSl v fun m_1 fl_1 xs_1 => zNi r (bif decide (n_3 ≥ n_1) then some (AV.bool false, []) else bif decide (n_2 < 0) then some (AV.bool false, []) else bif decide (n_2 > Nd.sq n) then some (AV.bool false, []) else bif decide ((xs.length : Int) > 16) then some (AV.bool false, []) else zRe (F 36 [AV.sl m fl xs, vsV (Nd.vs n)] []) fun v bs => zBo v fun b_1 => zNi bs (bif !b_1 then some (AV.bool false, []) else KN { nt := 254, t := [(1, AV.ptr 1 0 0), (2, AV.bool false), (3, AV.int .i64 (IntKind.wrap .i64 (i + 1))), (4, AV.ptr 4 0 0), (187, AV.bool b), (192, AV.bool (decide (i < ((List.length (List.map shV (Nd.ss n)) : Nat) : Int)))), (251, AV.bool !b_1)], b := [(1, (ndL n)), (4, [AV.int .i64 n_1, AV.int .i64 n_2, AV.sl m fl xs])], r := [], g := [], rd := [], wr := [] })) else none else bif decide (n_2 < 0) then some (AV.bool false, []) else bif decide (n_2 > Nd.sq n) then some (AV.bool false, []) else bif decide ((xs.length : Int) > 16) then some (AV.bool false, []) else zRe (F 36 [AV.sl m fl xs, vsV (Nd.vs n)] []) fun v bs => zBo v fun b_1 => zNi bs (bif !b_1 then some (AV.bool false, []) else KN { nt := 254, t := [(1, AV.ptr 1 0 0), (2, AV.bool false), (3, AV.int .i64 (IntKind.wrap .i64 (i + 1))), (4, AV.ptr 4 0 0), (187, AV.bool b), (192, AV.bool (decide (i < ((List.length (List.map shV (Nd.ss n)) : Nat) : Int)))), (251, AV.bool !b_1)], b := [(1, (ndL n)), (4, [AV.int .i64 n_1, AV.int .i64 n_2, AV.sl m fl xs])], r := [], g := [], rd := [], wr := [] })) else none else zRe (F 39 [AV.agg (ndL n)] []) fun v bs => zBo v fun b => zNi bs (some (AV.bool b, [])) := by kernel_rfl
def prevN (n : Nd) (i : Nat) : Int := if i = 0 then 0 else (n.ss.getD (i - 1) (0, 0, [])).1
theorem r17 (k : Nat) (hk : 70600 ≤ k) (n : Nd) (hb : NdB n) (hline : n.md = 2 ∨ n.md = 3 → lineOk n.ln = true) (b : Bool) : joinA 17 (joinOf (W k) 10 17 k 0) (rrS n 187 b) = some (.bool (!b && (shsOk n.sn n.sq n.vs 0 n.ss && sendsOk n)), []) := by
 rw [joinA_eq, j17]
 cases b with
 | true => rfl
 | false =>
  have hs := hb.ss
  simp only [cond_false, Bool.not_false, Bool.true_and]
  refine loopA_ind (fun i : Nat => rrL n i false) (fun i => n.ss.length - i) (fun i r => i ≤ n.ss.length → 0 ≤ prevN n i → r = some (.bool (shsOk n.sn n.sq n.vs (prevN n i) (n.ss.drop i) && sendsOk n), [])) (fun i m ih hi0 hp => ?_) k 0 _ (by omega) (by kernel_rfl) (by omega) (by simp [prevN])
  rw [b10, List.length_map]
  by_cases hi : i < n.ss.length
  ·rw [getM _ _ _ hi, List.drop_eq_getElem_cons hi, wi (by omega), shsOk]
   simp only [decide_eq_true (show (i : Int) < n.ss.length by omega), decide_eq_true (show (0 : Int) ≤ i by omega), zOp, shV, zAg, zCo, zIn, asSl, if_true, zNi, cond_true, List.length_map]
   have hk2 := hb.sk _ (List.getElem_mem hi)
   rw [x36 k n.vs n.ss[i].2.2 (by omega) (by omega)]
   simp only [zRe, zBo, zNi]
   have en : prevN n (i + 1) = n.ss[i].1 := by unfold prevN; rw [if_neg (by omega), List.getD_eq_getElem?_getD, Nat.add_sub_cancel, List.getElem?_eq_getElem hi]; rfl
   have tail : ∀ (z : Int), z = prevN n i → z < n.ss[i].1 → 1 ≤ n.ss[i].1 → n.ss[i].1 ≤ n.sn → ∀ KN : Res, (keptOk n.ss[i].2.2 n.vs = true → KN = some (.bool (shsOk n.sn n.sq n.vs n.ss[i].1 (n.ss.drop (i + 1)) && sendsOk n), [])) → (bif decide (n.ss[i].2.1 < 0) then some (AV.bool false, []) else bif decide (n.ss[i].2.1 > n.sq) then some (AV.bool false, []) else bif decide (((n.ss[i].2.2.length : Nat) : Int) > 16) then some (AV.bool false, []) else bif !keptOk n.ss[i].2.2 n.vs then some (AV.bool false, []) else KN) = some (.bool (decide (z < n.ss[i].1 ∧ n.ss[i].1 ≤ n.sn ∧ 0 ≤ n.ss[i].2.1 ∧ n.ss[i].2.1 ≤ n.sq ∧ n.ss[i].2.2.length ≤ 16) && (keptOk n.ss[i].2.2 n.vs && shsOk n.sn n.sq n.vs n.ss[i].1 (n.ss.drop (i + 1))) && sendsOk n), []) := by
    intro z hz g1 g2 g3 KN hKN
    by_cases h3 : n.ss[i].2.1 < 0
    ·rw [decide_eq_true h3, decide_eq_false (show ¬ (z < n.ss[i].1 ∧ n.ss[i].1 ≤ n.sn ∧ 0 ≤ n.ss[i].2.1 ∧ n.ss[i].2.1 ≤ n.sq ∧ n.ss[i].2.2.length ≤ 16) by omega)]; rfl
    by_cases h4 : n.ss[i].2.1 > n.sq
    ·rw [decide_eq_false h3, decide_eq_true h4, decide_eq_false (show ¬ (z < n.ss[i].1 ∧ n.ss[i].1 ≤ n.sn ∧ 0 ≤ n.ss[i].2.1 ∧ n.ss[i].2.1 ≤ n.sq ∧ n.ss[i].2.2.length ≤ 16) by omega)]; rfl
    by_cases h5 : n.ss[i].2.2.length ≤ 16
    ·rw [decide_eq_false h3, decide_eq_false h4, decide_eq_false (show ¬ ((n.ss[i].2.2.length : Nat) : Int) > 16 by omega), decide_eq_true (show (z < n.ss[i].1 ∧ n.ss[i].1 ≤ n.sn ∧ 0 ≤ n.ss[i].2.1 ∧ n.ss[i].2.1 ≤ n.sq ∧ n.ss[i].2.2.length ≤ 16) by omega)]
     cases hkp : keptOk n.ss[i].2.2 n.vs with
     | false => rfl
     | true => rw [hKN hkp]; rfl
    ·rw [decide_eq_false h3, decide_eq_false h4, decide_eq_true (show ((n.ss[i].2.2.length : Nat) : Int) > 16 by omega), decide_eq_false (show ¬ (z < n.ss[i].1 ∧ n.ss[i].1 ≤ n.sn ∧ 0 ≤ n.ss[i].2.1 ∧ n.ss[i].2.1 ≤ n.sq ∧ n.ss[i].2.2.length ≤ 16) by omega)]; rfl
   have bad : ∀ (z : Int), ¬ (z < n.ss[i].1 ∧ n.ss[i].1 ≤ n.sn) → some (AV.bool false, ([] : Boxes)) = some (.bool (decide (z < n.ss[i].1 ∧ n.ss[i].1 ≤ n.sn ∧ 0 ≤ n.ss[i].2.1 ∧ n.ss[i].2.1 ≤ n.sq ∧ n.ss[i].2.2.length ≤ 16) && (keptOk n.ss[i].2.2 n.vs && shsOk n.sn n.sq n.vs n.ss[i].1 (n.ss.drop (i + 1))) && sendsOk n), []) := by
    intro z h
    rw [decide_eq_false (fun g => h ⟨g.1, g.2.1⟩)]; rfl
   by_cases h1 : n.ss[i].1 < 1
   ·rw [decide_eq_true h1]
    exact bad _ (by omega)
   by_cases h2 : n.ss[i].1 > n.sn
   ·rw [decide_eq_false h1, decide_eq_true h2]
    exact bad _ (by omega)
   rw [decide_eq_false h1, decide_eq_false h2]
   by_cases h0 : i = 0
   ·subst h0
    rw [decide_eq_false (show ¬ ((0 : Nat) : Int) > 0 by omega)]
    refine tail (prevN n 0) rfl (by simp [prevN]; omega) (by omega) (by omega) _ fun hkp => ?_
    exact (ih 1 _ (by omega) (by rw [hkp]; kernel_rfl) (by omega) (by rw [en]; omega)).trans (by rw [en])
   ·obtain ⟨g1, g2⟩ := getM1 shV (0, 0, []) n.ss i (by omega) (by omega) (by omega)
    rw [decide_eq_true (show (i : Int) > 0 by omega), decide_eq_true g1, g2]
    simp only [cond_true, cond_false, zOp, shV, zAg, zCo, zIn, asSl, if_true, zNi]
    have ep : prevN n i = (n.ss.getD (i - 1) (0, 0, [])).1 := by unfold prevN; rw [if_neg h0]
    rw [← ep]
    by_cases h3 : prevN n i ≥ n.ss[i].1
    ·rw [decide_eq_true h3]
     exact bad _ (by omega)
    ·rw [decide_eq_false h3]
     refine tail (prevN n i) rfl (by omega) (by omega) (by omega) _ fun hkp => ?_
     exact (ih (i + 1) _ (by omega) (by rw [hkp]; kernel_rfl) (by omega) (by rw [en]; omega)).trans (by rw [en])
  ·rw [decide_eq_false (show ¬ (i : Int) < n.ss.length by omega), List.drop_eq_nil_of_le (by omega), x39 k (by omega) n hb hline]
   rfl
section
variable (k : Nat) (n : Nd)
noncomputable def G10 (k j s : Nat) (n : Nd) (b : Bool) : Res := joinA j (joinOf (W k) 10 j k 0) (rrS n s b)
def T15 (n : Nd) : Bool := (decide (n.ss.length ≤ 2) && (!decide (n.ro = 2) || (decide (n.md = 0) && decide (n.ss.length = 0)))) && (shsOk n.sn n.sq n.vs 0 n.ss && sendsOk n)
theorem r17f (b : Bool) (hb : b = true) : G10 k 17 187 n b = some (.bool false, []) := by
 subst hb
 rw [G10, joinA_eq, j17]; rfl
theorem r17g (hk : 70600 ≤ k) (hb : NdB n) (H : n.ro = 2 ∧ n.md = 0 ∨ lineOk n.ln = true) (b : Bool) : G10 k 17 187 n b = some (.bool (!b && (shsOk n.sn n.sq n.vs 0 n.ss && sendsOk n)), []) :=
 r17 k hk n hb (fun h => by rcases H with H | H; omega; exact H) b
theorem tree15 (hk : 70600 ≤ k) (hb : NdB n) (H : n.ro = 2 ∨ lineOk n.ln = true) : (bif n.ro == 2 then bif n.md != 0 then G10 k 17 187 n true else bif decide (((n.ss.length : Nat) : Int) > 0) then G10 k 17 187 n true else G10 k 17 187 n (decide (((n.ss.length : Nat) : Int) > 2)) else G10 k 17 187 n (decide (((n.ss.length : Nat) : Int) > 2))) = some (.bool (T15 n), []) := by
 unfold T15
 rw [show (n.ro == 2) = decide (n.ro = 2) from rfl, show (n.md != 0) = !decide (n.md = 0) from rfl]
 have e2 : decide (((n.ss.length : Nat) : Int) > 2) = !decide (n.ss.length ≤ 2) := by
  by_cases h : n.ss.length ≤ 2
  ·rw [decide_eq_true h, decide_eq_false (by omega)]; rfl
  ·rw [decide_eq_false h, decide_eq_true (by omega)]; rfl
 have e0 : decide (((n.ss.length : Nat) : Int) > 0) = !decide (n.ss.length = 0) := by
  by_cases h : n.ss.length = 0
  ·rw [decide_eq_true h, decide_eq_false (by omega)]; rfl
  ·rw [decide_eq_false h, decide_eq_true (by omega)]; rfl
 rw [e2, e0]
 by_cases h2 : n.ro = 2
 ·rw [decide_eq_true h2]
  by_cases h3 : n.md = 0
  ·rw [decide_eq_true h3, r17f k n true rfl, r17g k n hk hb (.inl ⟨h2, h3⟩)]
   cases decide (n.ss.length = 0) <;> cases decide (n.ss.length ≤ 2) <;> rfl
  ·rw [decide_eq_false h3, r17f k n true rfl]
   cases decide (n.ss.length ≤ 2) <;> rfl
 ·rw [decide_eq_false h2]
  simp only [cond_false]
  rw [r17g k n hk hb (.inr (H.resolve_left h2))]
  cases decide (n.ss.length ≤ 2) <;> rfl
theorem r15 (hk : 70600 ≤ k) (hb : NdB n) (H : n.ro = 2 ∨ lineOk n.ln = true) (b : Bool) : G10 k 15 167 n b = some (.bool (!b && T15 n), []) := by
 rw [G10, joinA_eq, j15]
 simp only [List.length_map]
 cases b with
 | true => rfl
 | false => exact tree15 k n hk hb H
def T12 (n : Nd) (b : Bool) : Bool := (bif b then decide (n.ch.length = 0) else decide (comE n.al n.aq n.ln n.sq = n.aq) && (placedOk n.al n.aq && withinOk n.ch n.vs)) && T15 n
theorem r12 (hk : 70600 ≤ k) (hb : NdB n) (H : n.ro = 2 ∨ lineOk n.ln = true) (b : Bool) : G10 k 12 140 n b = some (.bool (T12 n b), []) := by
 rw [G10, joinA_eq, j12]
 unfold T12
 cases b with
 | true =>
  simp only [List.length_map, cond_true]
  have e0 : decide (((n.ch.length : Nat) : Int) > 0) = !decide (n.ch.length = 0) := by
   by_cases h : n.ch.length = 0
   ·rw [decide_eq_true h, decide_eq_false (by omega)]; rfl
   ·rw [decide_eq_false h, decide_eq_true (by omega)]; rfl
  rw [e0]
  cases decide (n.ch.length = 0) with
  | false => rfl
  | true => exact tree15 k n hk hb H
 | false =>
  simp only [cond_false]
  rw [x32 k (by omega) n, x33 k (by omega), x38 k n.ch n.vs hb.ch hb.vs hb.um (by omega)]
  simp only [zRe, zAg, zCo, asSl, zIn, zBo, if_true, zNi]
  rw [x37 k (by omega) n.al n.aq n.ln n.sq]
  simp only [zRe, zIn, if_true, zNi]
  rw [show (comE n.al n.aq n.ln n.sq != n.aq) = !decide (comE n.al n.aq n.ln n.sq = n.aq) from rfl]
  have e := r15 k n hk hb H
  unfold G10 at e
  rw [e, e]
  cases decide (comE n.al n.aq n.ln n.sq = n.aq) with
  | false => rfl
  | true =>
   cases placedOk n.al n.aq with
   | false => rfl
   | true => simp
theorem r10 (hk : 70600 ≤ k) (hb : NdB n) (H : n.ro = 2 ∨ lineOk n.ln = true) (b : Bool) : G10 k 10 137 n b = some (.bool (!b && T12 n (noneOk n.al n.aq)), []) := by
 rw [G10, joinA_eq, j10, x31 k (by omega)]
 simp only [zRe, zBo, zNi]
 have e := r12 k n hk hb H (noneOk n.al n.aq)
 unfold G10 at e
 rw [e]
 cases b <;> rfl
def T8 (n : Nd) : Bool := vOk n.vs && (keptOk n.kp n.vs && ((decide (n.kp.length = 0) || n.sh) && ((!n.sh || !decide (n.ro = 1) && n.va) && T12 n (noneOk n.al n.aq))))
theorem r8 (hk : 70600 ≤ k) (hb : NdB n) (H : n.ro = 2 ∨ lineOk n.ln = true) (b : Bool) : G10 k 8 100 n b = some (.bool (!b && T8 n), []) := by
 rw [G10, joinA_eq, j8, x35 k n.vs (by omega), x36 k n.vs n.kp (by have := hb.kp; omega) (by omega), List.length_map]
 simp only [zRe, zBo, zNi]
 have e := r10 k n hk hb H
 unfold G10 at e
 have e0 : decide (((n.kp.length : Nat) : Int) > 0) = !decide (n.kp.length = 0) := by
  by_cases h : n.kp.length = 0
  ·rw [decide_eq_true h, decide_eq_false (by omega)]; rfl
  ·rw [decide_eq_false h, decide_eq_true (by omega)]; rfl
 rw [e, e, e, e0, show (n.ro == 1) = decide (n.ro = 1) from rfl]
 unfold T8
 generalize T12 n (noneOk n.al n.aq) = t
 generalize vOk n.vs = c1
 generalize keptOk n.kp n.vs = c2
 generalize decide (n.kp.length = 0) = c3
 generalize decide (n.ro = 1) = c4
 generalize n.sh = c5
 generalize n.va = c6
 cases b <;> cases c1 <;> cases c2 <;> cases c3 <;> cases c4 <;> cases c5 <;> cases c6 <;> cases t <;> rfl
def lastD (n : Nd) : Int := (n.ln.getD (n.ln.length - 1) (0, 0)).1
def T6 (n : Nd) : Bool := (!decide (n.ro = 1) || (n.va && (!n.st && decide (n.kn = lastD n)))) && T8 n
theorem tree6 (hk : 70600 ≤ k) (hb : NdB n) (H : n.ro = 2 ∨ lineOk n.ln = true) (hro : n.ro = 1 ∨ n.ro = 2) : (bif n.ro == 1 then bif !n.va then G10 k 8 100 n true else bif n.st then G10 k 8 100 n true else zRe (W k 34 [lnV n.ln] []) fun v bs => zIn .i64 v fun n_1 => zNi bs (G10 k 8 100 n (n.kn != n_1)) else G10 k 8 100 n false) = some (.bool (T6 n), []) := by
 unfold T6
 rw [show (n.ro == 1) = decide (n.ro = 1) from rfl]
 by_cases h : n.ro = 1
 ·have hl := H.resolve_left (by omega)
  obtain ⟨l1, l2⟩ := line_len hl
  rw [decide_eq_true h, x34 k (by omega) n.ln l1 (by omega)]
  simp only [cond_true, zRe, zIn, if_true, zNi]
  rw [r8 k n hk hb H, r8 k n hk hb H, show (n.kn != (n.ln.getD (n.ln.length - 1) (0, 0)).1) = !decide (n.kn = lastD n) from rfl]
  cases n.va <;> cases n.st <;> cases decide (n.kn = lastD n) <;> rfl
 ·rw [decide_eq_false h]
  simp only [cond_false]
  rw [r8 k n hk hb H]; rfl
theorem r6 (hk : 70600 ≤ k) (hb : NdB n) (H : n.ro = 2 ∨ lineOk n.ln = true) (hro : n.ro = 1 ∨ n.ro = 2) (b : Bool) : G10 k 6 80 n b = some (.bool (!b && T6 n), []) := by
 rw [G10, joinA_eq, j6]
 cases b with
 | true => rfl
 | false => exact tree6 k n hk hb H hro
theorem r6f : G10 k 6 80 n true = some (.bool false, []) := by
 rw [G10, joinA_eq, j6]; rfl
def T3 (n : Nd) (b : Bool) : Bool := bif b then !decide (n.ro = 1) && (!n.va && T6 n) else placedOk n.ln n.sq && (decide (lastD n ≤ n.kn) && T6 n)
theorem r3 (hk : 70600 ≤ k) (hb : NdB n) (hro : n.ro = 1 ∨ n.ro = 2) (b : Bool) : G10 k 3 61 n b = some (.bool (T3 n b), []) := by
 rw [G10, joinA_eq, j3]
 unfold T3
 cases b with
 | true =>
  simp only [cond_true]
  by_cases h : n.ro = 1
  ·rw [show (n.ro == 1) = true by simp [h], decide_eq_true h]; rfl
  ·rw [decide_eq_false h]
   have := tree6 k n hk hb (.inl (by omega)) hro
   rw [show (n.ro == 1) = false by simp [h]] at this ⊢
   cases n.va with
   | true => rfl
   | false => exact this
 | false =>
  simp only [cond_false]
  rw [x32 k (by omega) n]
  simp only [zRe, zAg, zCo, asSl, zIn, zBo, if_true, zNi]
  rw [x33 k (by omega) n.ln n.sq]
  simp only [zRe, zBo, zNi]
  cases hp : placedOk n.ln n.sq with
  | false => exact r6f k n
  | true =>
   obtain ⟨l1, l2⟩ := line_len (placed_line hp)
   rw [x34 k (by omega) n.ln l1 (by omega)]
   simp only [zRe, zIn, if_true, zNi, Bool.not_true, cond_false]
   refine (r6 k n hk hb (.inr (placed_line hp)) hro _).trans ?_
   rw [show decide ((n.ln.getD (n.ln.length - 1) (0, 0)).1 > n.kn) = !decide (lastD n ≤ n.kn) from lt_le _ _]
   simp
theorem r1 (hk : 70600 ≤ k) (hb : NdB n) (b : Bool) (hro : b = false → n.ro = 1 ∨ n.ro = 2) : G10 k 1 58 n b = some (.bool (!b && T3 n (noneOk n.ln n.sq)), []) := by
 rw [G10, joinA_eq, j1]
 cases b with
 | true => rfl
 | false =>
  simp only [cond_false]
  rw [x32 k (by omega) n]
  simp only [zRe, zAg, zCo, asSl, zIn, zBo, if_true, zNi]
  rw [x31 k (by omega) n.ln n.sq]
  exact r3 k n hk hb (hro rfl) _
end
def T0 (n : Nd) : Bool := decide ((n.ro = 1 ∨ n.ro = 2) ∧ 0 ≤ n.md ∧ n.md ≤ 4) && [n.kn, n.sy, n.sn, n.fr, n.fn, n.nx].all fitsI && T3 n (noneOk n.ln n.sq)
theorem T8_eq (n : Nd) (hro : n.ro = 1 ∨ n.ro = 2) : T8 n = (holdsOk n && (shotsOk n && sendsOk n)) := by
 have hr2 : decide (n.ro = 2) = !decide (n.ro = 1) := by
  rcases hro with h | h <;> rw [h] <;> rfl
 unfold T8 T12 T15 holdsOk shotsOk
 rw [hr2]
 generalize sendsOk n = c1
 generalize shsOk n.sn n.sq n.vs 0 n.ss = c2
 generalize decide (n.ss.length ≤ 2) = c3
 generalize decide (n.ro = 1) = c4
 generalize decide (n.md = 0) = c5
 generalize decide (n.ss.length = 0) = c6
 generalize withinOk n.ch n.vs = c9
 generalize decide (n.ch.length = 0) = d1
 generalize decide (comE n.al n.aq n.ln n.sq = n.aq) = d2
 generalize noneOk n.al n.aq = d3
 generalize placedOk n.al n.aq = d4
 generalize vOk n.vs = d5
 generalize keptOk n.kp n.vs = d6
 generalize decide (n.kp.length = 0) = d7
 generalize n.sh = d8
 generalize n.va = d9
 cases d5 with
 | false => rfl
 | true =>
 cases d6 with
 | false => rfl
 | true =>
 cases c1 with
 | false => simp
 | true =>
 cases c2 with
 | false => simp
 | true =>
 cases c3 with
 | false => simp
 | true => cases d3 <;> cases c4 <;> cases d8 <;> cases d9 <;> cases d7 <;> cases c5 <;> cases c6 <;> cases d1 <;> cases d2 <;> cases d4 <;> cases c9 <;> rfl
theorem T0_eq (n : Nd) : T0 n = nodeOk n := by
 unfold T0 nodeOk standsOk
 cases h0 : (decide ((n.ro = 1 ∨ n.ro = 2) ∧ 0 ≤ n.md ∧ n.md ≤ 4) && [n.kn, n.sy, n.sn, n.fr, n.fn, n.nx].all fitsI) with
 | false => rfl
 | true =>
  have hro : n.ro = 1 ∨ n.ro = 2 := by
   rw [Bool.and_eq_true, decide_eq_true_eq] at h0; exact h0.1.1
  have hr2 : decide (n.ro = 2) = !decide (n.ro = 1) := by
   rcases hro with h | h <;> rw [h] <;> rfl
  unfold T3 T6
  rw [T8_eq n hro, hr2]
  generalize (holdsOk n && (shotsOk n && sendsOk n)) = t
  cases hn : noneOk n.ln n.sq with
  | true =>
   simp only [cond_true, if_true, Bool.true_and]
   cases decide (n.ro = 1) <;> cases n.va <;> rfl
  | false =>
   cases hp : placedOk n.ln n.sq with
   | false => rfl
   | true =>
    have hl : lastE n.ln = lastD n := by unfold lastE; rw [if_pos (placed_line hp)]; rfl
    rw [hl]
    cases decide (lastD n ≤ n.kn) <;> cases decide (n.ro = 1) <;> cases n.va <;> cases n.st <;> cases decide (n.kn = lastD n) <;> rfl
theorem x10 (k : Nat) (hk : 70700 ≤ k) (n : Nd) (hb : NdB n) : W k 10 [.agg (ndL n)] [] = some (.bool (nodeOk n), []) := by
 obtain ⟨k, rfl⟩ := succ1 (show 1 ≤ k by omega)
 rw [← T0_eq]
 have e := fun b h => r1 k n (by omega) hb b h
 unfold G10 at e
 refine (W_tree0 (t10 (W k) k n) (by kernel_rfl)).trans ?_
 have bad := e true (fun h => by simp at h)
 rw [bad]
 simp only [x30 k (by omega), zRe, zBo, zNi, Bool.not_true, Bool.false_and]
 unfold T0
 rw [show (n.ro != 1) = !decide (n.ro = 1) from rfl, show (n.ro != 2) = !decide (n.ro = 2) from rfl]
 simp only [List.all_cons, List.all_nil, Bool.and_true]
 by_cases h3 : n.md < 0
 ·rw [decide_eq_true h3, decide_eq_false (show ¬ ((n.ro = 1 ∨ n.ro = 2) ∧ 0 ≤ n.md ∧ n.md ≤ 4) by omega)]
  cases decide (n.ro = 1) <;> cases decide (n.ro = 2) <;> rfl
 by_cases h4 : n.md > 4
 ·rw [decide_eq_false h3, decide_eq_true h4, decide_eq_false (show ¬ ((n.ro = 1 ∨ n.ro = 2) ∧ 0 ≤ n.md ∧ n.md ≤ 4) by omega)]
  cases decide (n.ro = 1) <;> cases decide (n.ro = 2) <;> rfl
 rw [decide_eq_false h3, decide_eq_false h4]
 by_cases hro : n.ro = 1 ∨ n.ro = 2
 ·rw [decide_eq_true (show ((n.ro = 1 ∨ n.ro = 2) ∧ 0 ≤ n.md ∧ n.md ≤ 4) by omega), e _ (fun _ => hro)]
  rcases hro with h | h
  ·rw [decide_eq_true h]
   cases fitsI n.kn <;> cases fitsI n.sy <;> cases fitsI n.sn <;> cases fitsI n.fr <;> cases fitsI n.fn <;> cases fitsI n.nx <;> rfl
  ·rw [decide_eq_false (show ¬ n.ro = 1 by omega), decide_eq_true h]
   cases fitsI n.kn <;> cases fitsI n.sy <;> cases fitsI n.sn <;> cases fitsI n.fr <;> cases fitsI n.fn <;> cases fitsI n.nx <;> rfl
 ·rw [decide_eq_false (show ¬ n.ro = 1 by omega), decide_eq_false (show ¬ n.ro = 2 by omega), decide_eq_false (show ¬ ((n.ro = 1 ∨ n.ro = 2) ∧ 0 ≤ n.md ∧ n.md ≤ 4) by omega)]
  rfl
theorem vol_eq (a b : Vol) : (a.1 = b.1 ∧ a.2 = b.2) ↔ a = b := by
 obtain ⟨a1, a2⟩ := a
 obtain ⟨b1, b2⟩ := b
 simp
instance dVol : DecidableEq Vol := fun a b => decidable_of_iff _ (vol_eq a b)
def veS (a b : List Vol) (i : Int) (c : Bool) : St := ⟨71, [(0, vsV a), (1, vsV b), (4, .bool false), (5, .int .i64 i), (11, .bool c)], [], [], [], [], []⟩
theorem b57 (F : Fns) (N : Nat) (a b : List Vol) (i : Int) (c : Bool) (KN : St → Res) : zBy F 57 0 N (veS a b i c) (brk (zCt F 57 0 N 0) KN) =
 bif decide (i < ((List.length (List.map (volV false) a) : Nat) : Int)) then bif decide (0 ≤ i) then zOp (List.map (volV false) a)[Int.toNat i]? fun x => zAg x fun cs => zCo cs fun v r => zIn .i64 v fun n => zCo r fun v r => asSl v fun m fl xs => zNi r (bif decide (0 ≤ i) then zOp (List.map (volV false) b)[Int.toNat i]? fun x => zAg x fun cs => zCo cs fun v r => zIn .i64 v fun n_1 => zCo r fun v r => asSl v fun m fl xs => zNi r (bif n != n_1 then some (AV.bool false, []) else bif decide (0 ≤ i) then zOp (List.map (volV false) a)[Int.toNat i]? fun x => zAg x fun cs => zCo cs fun v r => zIn .i64 v fun n => zCo r fun v r => asSl v fun m fl xs => zNi r (bif decide (0 ≤ i) then zOp (List.map (volV false) b)[Int.toNat i]? fun x => zAg x fun cs => zCo cs fun v r => zIn .i64 v fun n => zCo r fun v r => asSl v fun m fl xs_1 => zNi r (bif (xs.length : Int) != (xs_1.length : Int) then some (AV.bool false, []) else loopA (zBy F 57 1 N) (zDe 57 1) (zCb F 57 0 0 N (brk (zCt F 57 0 N 0) KN)) N { nt := 71, t := [(0, vsV a), (1, vsV b), (4, AV.bool false), (5, AV.int .i64 i), (6, AV.int .i64 0), (11, AV.bool c), (15, AV.bool (decide (i < ((List.length (List.map (volV false) a) : Nat) : Int)))), (43, AV.bool ((xs.length : Int) != (xs_1.length : Int)))], b := [], r := [], g := [], rd := [], wr := [] }) else none) else none) else none) else none else some (AV.bool true, []) := by kernel_rfl
def veT (a b : List Vol) (i j : Int) (c d e : Bool) : St := ⟨71, [(0, vsV a), (1, vsV b), (4, .bool false), (5, .int .i64 i), (6, .int .i64 j), (11, .bool c), (15, .bool d), (43, .bool e)], [], [], [], [], []⟩
theorem c57 (F : Fns) (N : Nat) (a b : List Vol) (i j : Int) (c d e : Bool) (KO KN : St → Res) : zBy F 57 1 N (veT a b i j c d e) (brk (zCb F 57 0 0 N (brk (zCt F 57 0 N 0) KO)) KN) =
 bif decide (0 ≤ i) then zOp (List.map (volV false) a)[Int.toNat i]? fun x => zAg x fun cs => zCo cs fun v r => zIn .i64 v fun n => zCo r fun v r => asSl v fun m fl xs => zNi r (bif decide (j < (xs.length : Int)) then bif decide (0 ≤ i) then zOp (List.map (volV false) a)[Int.toNat i]? fun x => zAg x fun cs => zCo cs fun v r => zIn .i64 v fun n => zCo r fun v r => asSl v fun m fl xs_1 => zNi r (bif decide (m = 1) && decide (0 ≤ j) then zOp xs_1[Int.toNat j]? fun x => zSt x fun s => bif decide (0 ≤ i) then zOp (List.map (volV false) b)[Int.toNat i]? fun x => zAg x fun cs => zCo cs fun v r => zIn .i64 v fun n => zCo r fun v r => asSl v fun m fl xs_2 => zNi r (bif decide (m = 1) && decide (0 ≤ j) then zOp xs_2[Int.toNat j]? fun x => zSt x fun s_1 => bif !s == s_1 then some (AV.bool false, []) else KN { nt := 71, t := [(0, vsV a), (1, vsV b), (4, AV.bool false), (5, AV.int .i64 i), (6, AV.int .i64 (IntKind.wrap .i64 (j + 1))), (11, AV.bool c), (15, AV.bool d), (43, AV.bool e), (51, AV.bool (decide (j < (xs.length : Int)))), (70, AV.bool !s == s_1)], b := [], r := [], g := [], rd := [], wr := [] } else none) else none else none) else none else KO { nt := 71, t := [(0, vsV a), (1, vsV b), (4, AV.bool false), (5, AV.int .i64 (IntKind.wrap .i64 (i + 1))), (6, AV.int .i64 j), (11, AV.bool c), (15, AV.bool d), (43, AV.bool e), (51, AV.bool (decide (j < (xs.length : Int))))], b := [], r := [], g := [], rd := [], wr := [] }) else none := by kernel_rfl
theorem t57 (F : Fns) (N : Nat) (a b : List Vol) : runOf F 57 N [vsV a, vsV b] [] =
 bif ((List.length (List.map (volV false) a) : Nat) : Int) != ((List.length (List.map (volV false) b) : Nat) : Int) then some (AV.bool false, []) else loopA (zBy F 57 0 N) (zDe 57 0) (zCt F 57 0 N 0) N { nt := 71, t := [(0, vsV a), (1, vsV b), (4, AV.bool false), (5, AV.int .i64 0), (11, AV.bool (((List.length (List.map (volV false) a) : Nat) : Int) != ((List.length (List.map (volV false) b) : Nat) : Int)))], b := [], r := [], g := [], rd := [], wr := [] } := by kernel_rfl
theorem str_get (l : List (List UInt8)) (j : Nat) (h : j < l.length) : (l.map AV.str)[Int.toNat (j : Int)]? = some (.str l[j]) := getM AV.str l j h
theorem x57 (k : Nat) (hk : 70100 ≤ k) (a b : List Vol) (ha : a.length ≤ 70000) (hB : ∀ v ∈ a, v.2.length ≤ 70000) : W k 57 [vsV a, vsV b] [] = some (.bool (decide (a = b)), []) := by
 obtain ⟨k, rfl⟩ := succ1 (show 1 ≤ k by omega)
 rw [W_tree0 (t57 (W k) k a b) (by kernel_rfl), List.length_map, List.length_map, nat_bne]
 by_cases hl : a.length = b.length
 ·rw [decide_eq_true hl]
  simp only [Bool.not_true, cond_false]
  refine loopA_ind (fun i : Nat => veS a b i false) (fun i => a.length - i) (fun i r => r = some (.bool (decide (a.drop i = b.drop i)), [])) (fun i m ih => ?_) k 0 _ (by omega) (by kernel_rfl)
  rw [b57, List.length_map]
  by_cases hi : i < a.length
  ·have hj : i < b.length := by omega
   have hv := hB _ (List.getElem_mem hi)
   rw [getM _ _ _ hi, getM _ _ _ hj, List.drop_eq_getElem_cons hi, List.drop_eq_getElem_cons hj]
   simp only [decide_eq_true (show (i : Int) < a.length by omega), decide_eq_true (show (0 : Int) ≤ i by omega), zOp, volV, zAg, zCo, zIn, asSl, if_true, zNi, cond_true, List.length_map, nat_bne]
   rw [show (a[i].1 != b[i].1) = !decide (a[i].1 = b[i].1) from rfl, show decide (a[i] :: a.drop (i + 1) = b[i] :: b.drop (i + 1)) = ((decide (a[i].1 = b[i].1) && decide (a[i].2 = b[i].2)) && decide (a.drop (i + 1) = b.drop (i + 1))) by rw [Bool.eq_iff_iff, decide_eq_true_eq, Bool.and_eq_true, Bool.and_eq_true, decide_eq_true_eq, decide_eq_true_eq, decide_eq_true_eq, List.cons.injEq, ← vol_eq]]
   cases decide (a[i].1 = b[i].1) with
   | false => rfl
   | true =>
    by_cases h2 : a[i].2.length = b[i].2.length
    ·rw [decide_eq_true h2]
     simp only [Bool.not_true, cond_false, Bool.true_and]
     refine loopA_ind (fun j : Nat => veT a b i j false true false) (fun j => a[i].2.length - j) (fun j r => r = some (.bool (decide (a[i].2.drop j = b[i].2.drop j) && decide (a.drop (i + 1) = b.drop (i + 1))), [])) (fun j m2 ih2 => ?_) k 0 _ (by omega) (by kernel_rfl)
     rw [c57, getM _ _ _ hi, getM _ _ _ hj]
     simp only [decide_eq_true (show (0 : Int) ≤ i by omega), zOp, volV, zAg, zCo, zIn, asSl, if_true, zNi, cond_true, List.length_map]
     by_cases hjj : j < a[i].2.length
     ·rw [str_get _ _ hjj, str_get _ _ (show j < b[i].2.length by omega), List.drop_eq_getElem_cons hjj, List.drop_eq_getElem_cons (show j < b[i].2.length by omega), wi (show j < 1000000000 by omega)]
      simp only [decide_eq_true (show (j : Int) < a[i].2.length by omega), decide_eq_true (show (0 : Int) ≤ j by omega), zOp, zSt, cond_true, show (decide True) = true from rfl, Bool.true_and]
      by_cases he : a[i].2[j] = b[i].2[j]
      ·rw [show (a[i].2[j] == b[i].2[j]) = true by simp [he], show decide (a[i].2[j] :: a[i].2.drop (j + 1) = b[i].2[j] :: b[i].2.drop (j + 1)) = decide (a[i].2.drop (j + 1) = b[i].2.drop (j + 1)) by rw [decide_eq_decide, List.cons.injEq]; exact ⟨fun h => h.2, fun h => ⟨he, h⟩⟩]
       exact ih2 (j + 1) _ (by omega) (by kernel_rfl)
      ·rw [show (a[i].2[j] == b[i].2[j]) = false by simp [he], decide_eq_false (show ¬ a[i].2[j] :: a[i].2.drop (j + 1) = b[i].2[j] :: b[i].2.drop (j + 1) from fun h => he (List.cons.inj h).1)]; rfl
     ·simp only [decide_eq_false (show ¬ (j : Int) < a[i].2.length by omega), cond_false]
      rw [List.drop_eq_nil_of_le (show a[i].2.length ≤ j by omega), List.drop_eq_nil_of_le (show b[i].2.length ≤ j by omega), wi (show i < 1000000000 by omega)]
      exact ih (i + 1) _ (by omega) (by kernel_rfl)
    ·rw [decide_eq_false h2, decide_eq_false (show ¬ a[i].2 = b[i].2 from fun e => h2 (by rw [e]))]; rfl
  ·rw [decide_eq_false (show ¬ (i : Int) < a.length by omega), List.drop_eq_nil_of_le (by omega), List.drop_eq_nil_of_le (by omega)]; rfl
 ·rw [decide_eq_false hl, decide_eq_false (show ¬ a = b from fun e => hl (by rw [e]))]; rfl
theorem x56 (k : Nat) (l l' : List (Int × Int)) (hk : l.length + 3 ≤ k) (hb : l.length ≤ 70000) : W k 56 [lnV l, lnV l'] [] = some (.bool (decide (l = l')), []) := W_old0 (e22' k (.inl ⟨false, rfl⟩) (.inl ⟨false, rfl⟩) hk (by omega)) (by omega) (by kernel_rfl)
theorem x58 (k : Nat) (l l' : List (Int × Int)) (hk : l.length + 3 ≤ k) (hb : l.length ≤ 70000) : W k 58 [btsV l, btsV l'] [] = some (.bool (decide (l = l')), []) := W_old0 (e52' k (.inl ⟨false, rfl⟩) (.inl ⟨false, rfl⟩) hk (by omega)) (by omega) (by kernel_rfl)
def eqN (n m : Nd) : Bool := decide (n.ss = m.ss) && (decide (n.ro = m.ro ∧ n.st = m.st ∧ n.va = m.va ∧ n.kn = m.kn ∧ n.sq = m.sq ∧ n.sh = m.sh ∧ n.sn = m.sn ∧ n.md = m.md ∧ n.sy = m.sy ∧ n.fu = m.fu ∧ n.go = m.go ∧ n.fr = m.fr ∧ n.fn = m.fn ∧ n.nx = m.nx) &&
 (decide (n.ln = m.ln) && (decide (n.vs = m.vs) && (decide (n.kp = m.kp) && (decide (n.al = m.al) && (decide (n.aq = m.aq) && (decide (n.ch = m.ch) && (decide (n.cp = m.cp) && (decide (n.qs = m.qs) && (decide (n.qf = m.qf) && (decide (n.qt = m.qt) && decide (n.qo = m.qo))))))))))))
theorem eqN_iff (n m : Nd) : eqN n m = true ↔ n = m := by
 constructor
 ·intro h
  simp only [eqN, Bool.and_eq_true, decide_eq_true_eq] at h
  obtain ⟨h1, ⟨g1, g2, g3, g4, g5, g6, g7, g8, g9, g10, g11, g12, g13, g14⟩, h2, h3, h4, h5, h6, h7, h8, h9, h10, h11, h12⟩ := h
  cases n; cases m
  simp only at *
  subst_vars
  rfl
 ·rintro rfl
  simp [eqN]
structure NdC (n : Nd) : Prop where
 ln : n.ln.length ≤ 70000
 al : n.al.length ≤ 70000
 vs : n.vs.length ≤ 70000
 vb : ∀ v ∈ n.vs, v.2.length ≤ 70000
 kp : n.kp.length ≤ 70000
 ch : n.ch.length ≤ 70000
 ss : n.ss.length ≤ 70000
 sk : ∀ s ∈ n.ss, s.2.2.length ≤ 70000
 cp : n.cp.length ≤ 70000
 qs : n.qs.length ≤ 70000
 qk : ∀ s ∈ n.qs, s.2.2.length ≤ 70000
 qo : n.qo.length ≤ 70000
def neS (n m : Nd) (i : Int) (b : Bool) : St := ⟨218, [(0, .agg (ndL n)), (1, .agg (ndL m)), (2, .ptr 2 0 0), (3, .ptr 3 0 0), (4, .bool false), (5, .int .i64 i), (12, .bool b)], [(2, ndL n), (3, ndL m)], [], [], [], []⟩
def neJ (n m : Nd) (b : Bool) : St := ⟨218, [(2, .ptr 2 0 0), (3, .ptr 3 0 0), (4, .bool false), (159, .bool b)], [(2, ndL n), (3, ndL m)], [], [], [], []⟩
theorem k13 (F : Fns) (N : Nat) (n m : Nd) (i : Int) (b : Bool) : zCt F 13 0 N 0 (.exit 0) ⟨218, [(0, .agg (ndL n)), (1, .agg (ndL m)), (2, .ptr 2 0 0), (3, .ptr 3 0 0), (4, .bool false), (5, .int .i64 i), (12, .bool b), (17, .bool false)], [(2, ndL n), (3, ndL m)], [], [], [], []⟩ =
 bif Nd.ro n != Nd.ro m then joinA 8 (joinOf F 13 8 N 0) (neJ n m true) else bif !Nd.st n == Nd.st m then joinA 8 (joinOf F 13 8 N 0) (neJ n m true) else bif !Nd.va n == Nd.va m then joinA 8 (joinOf F 13 8 N 0) (neJ n m true) else bif Nd.kn n != Nd.kn m then joinA 8 (joinOf F 13 8 N 0) (neJ n m true) else bif Nd.sq n != Nd.sq m then joinA 8 (joinOf F 13 8 N 0) (neJ n m true) else bif !Nd.sh n == Nd.sh m then joinA 8 (joinOf F 13 8 N 0) (neJ n m true) else bif Nd.sn n != Nd.sn m then joinA 8 (joinOf F 13 8 N 0) (neJ n m true) else bif Nd.md n != Nd.md m then joinA 8 (joinOf F 13 8 N 0) (neJ n m true) else bif Nd.sy n != Nd.sy m then joinA 8 (joinOf F 13 8 N 0) (neJ n m true) else bif !Nd.fu n == Nd.fu m then joinA 8 (joinOf F 13 8 N 0) (neJ n m true) else bif Nd.go n != Nd.go m then joinA 8 (joinOf F 13 8 N 0) (neJ n m true) else bif Nd.fr n != Nd.fr m then joinA 8 (joinOf F 13 8 N 0) (neJ n m true) else bif Nd.fn n != Nd.fn m then joinA 8 (joinOf F 13 8 N 0) (neJ n m true) else joinA 8 (joinOf F 13 8 N 0) (neJ n m (Nd.nx n != Nd.nx m)) := by kernel_rfl
theorem j13 (F : Fns) (N : Nat) (n m : Nd) (b : Bool) : joinOf F 13 8 N 0 (neJ n m b) =
 bif b then some (AV.bool false, []) else zRe (F 56 [lnV (Nd.ln n), lnV (Nd.ln m)] []) fun v bs => zBo v fun b => zNi bs (bif b then zRe (F 57 [vsV (Nd.vs n), vsV (Nd.vs m)] []) fun v bs => zBo v fun b => zNi bs (bif b then zRe (F 55 [wsV (Nd.kp n), wsV (Nd.kp m)] []) fun v bs => zBo v fun b => zNi bs (bif b then zRe (F 56 [lnV (Nd.al n), lnV (Nd.al m)] []) fun v bs => zBo v fun b => zNi bs (bif b then bif Nd.aq n == Nd.aq m then zRe (F 58 [btsV (Nd.ch n), btsV (Nd.ch m)] []) fun v bs => zBo v fun b => zNi bs (bif b then zRe (F 55 [wsV (Nd.cp n), wsV (Nd.cp m)] []) fun v bs => zBo v fun b => zNi bs (bif b then zRe (F 59 [AV.agg [shsV (Nd.qs n), wsV (Nd.qo n), AV.int .i64 (Nd.qf n), AV.int .i64 (Nd.qt n)], AV.agg [shsV (Nd.qs m), wsV (Nd.qo m), AV.int .i64 (Nd.qf m), AV.int .i64 (Nd.qt m)]] []) fun v bs => zBo v fun b => zNi bs (some (AV.bool b, [])) else some (AV.bool false, [])) else some (AV.bool false, [])) else some (AV.bool false, []) else some (AV.bool false, [])) else some (AV.bool false, [])) else some (AV.bool false, [])) else some (AV.bool false, [])) := by kernel_rfl
theorem b13 (F : Fns) (N : Nat) (n m : Nd) (i : Int) (b : Bool) (KN : St → Res) (KO : Ex → St → Res) : zBy F 13 0 N (neS n m i b) (brk KO KN) =
 bif decide (i < ((List.length (List.map shV (Nd.ss n)) : Nat) : Int)) then bif decide (0 ≤ i) then zOp (List.map shV (Nd.ss n))[Int.toNat i]? fun x => zAg x fun cs => zCo cs fun v r => zIn .i64 v fun n_1 => zCo r fun v r => zIn .i64 v fun n_2 => zCo r fun v r => asSl v fun m_1 fl xs => zNi r (bif decide (0 ≤ i) then zOp (List.map shV (Nd.ss m))[Int.toNat i]? fun x => zAg x fun cs => zCo cs fun v r => zIn .i64 v fun n_3 => zCo r fun v r => zIn .i64 v fun n_4 => zCo r fun v r => asSl v fun m_2 fl xs => zNi r (bif n_1 != n_3 then KO Ex.ret { nt := 218, t := [(0, AV.agg (ndL n)), (1, AV.agg (ndL m)), (2, AV.ptr 2 0 0), (3, AV.ptr 3 0 0), (4, AV.bool false), (5, AV.int .i64 i), (12, AV.bool b), (17, AV.bool (decide (i < ((List.length (List.map shV (Nd.ss n)) : Nat) : Int)))), (63, AV.bool true)], b := [(2, (ndL n)), (3, (ndL m))], r := [], g := [], rd := [], wr := [] } else bif decide (0 ≤ i) then zOp (List.map shV (Nd.ss n))[Int.toNat i]? fun x => zAg x fun cs => zCo cs fun v r => zIn .i64 v fun n_5 => zCo r fun v r => zIn .i64 v fun n_6 => zCo r fun v r => asSl v fun m_3 fl xs => zNi r (bif decide (0 ≤ i) then zOp (List.map shV (Nd.ss m))[Int.toNat i]? fun x => zAg x fun cs => zCo cs fun v r => zIn .i64 v fun n_7 => zCo r fun v r => zIn .i64 v fun n_8 => zCo r fun v r => asSl v fun m_4 fl xs => zNi r (bif n_6 != n_8 then KO Ex.ret { nt := 218, t := [(0, AV.agg (ndL n)), (1, AV.agg (ndL m)), (2, AV.ptr 2 0 0), (3, AV.ptr 3 0 0), (4, AV.bool false), (5, AV.int .i64 i), (12, AV.bool b), (17, AV.bool (decide (i < ((List.length (List.map shV (Nd.ss n)) : Nat) : Int)))), (63, AV.bool true)], b := [(2, (ndL n)), (3, (ndL m))], r := [], g := [], rd := [], wr := [] } else bif decide (0 ≤ i) then zOp (List.map shV (Nd.ss n))[Int.toNat i]? fun x => zAg x fun cs => zCo cs fun v r => zIn .i64 v fun n_9 => zCo r fun v r => zIn .i64 v fun n_10 => zCo r fun v r => asSl v fun m_5 fl xs => zNi r (bif decide (0 ≤ i) then zOp (List.map shV (Nd.ss m))[Int.toNat i]? fun x => zAg x fun cs => zCo cs fun v r => zIn .i64 v fun n_11 => zCo r fun v r => zIn .i64 v fun n_12 => zCo r fun v r => asSl v fun m_6 fl_1 xs_1 => zNi r (zRe (F 55 [AV.sl m_5 fl xs, AV.sl m_6 fl_1 xs_1] []) fun v bs => zBo v fun b_1 => zNi bs (bif !b_1 then KO Ex.ret { nt := 218, t := [(0, AV.agg (ndL n)), (1, AV.agg (ndL m)), (2, AV.ptr 2 0 0), (3, AV.ptr 3 0 0), (4, AV.bool false), (5, AV.int .i64 i), (12, AV.bool b), (17, AV.bool (decide (i < ((List.length (List.map shV (Nd.ss n)) : Nat) : Int)))), (63, AV.bool !b_1)], b := [(2, (ndL n)), (3, (ndL m))], r := [], g := [], rd := [], wr := [] } else KN { nt := 218, t := [(0, AV.agg (ndL n)), (1, AV.agg (ndL m)), (2, AV.ptr 2 0 0), (3, AV.ptr 3 0 0), (4, AV.bool false), (5, AV.int .i64 (IntKind.wrap .i64 (i + 1))), (12, AV.bool b), (17, AV.bool (decide (i < ((List.length (List.map shV (Nd.ss n)) : Nat) : Int)))), (63, AV.bool !b_1)], b := [(2, (ndL n)), (3, (ndL m))], r := [], g := [], rd := [], wr := [] })) else none) else none) else none) else none) else none) else none else KO (Ex.exit 0) { nt := 218, t := [(0, AV.agg (ndL n)), (1, AV.agg (ndL m)), (2, AV.ptr 2 0 0), (3, AV.ptr 3 0 0), (4, AV.bool false), (5, AV.int .i64 i), (12, AV.bool b), (17, AV.bool (decide (i < ((List.length (List.map shV (Nd.ss n)) : Nat) : Int))))], b := [(2, (ndL n)), (3, (ndL m))], r := [], g := [], rd := [], wr := [] } := by kernel_rfl
theorem t13 (F : Fns) (N : Nat) (n m : Nd) : runOf F 13 N [.agg (ndL n), .agg (ndL m)] [] =
 bif ((List.length (List.map shV (Nd.ss n)) : Nat) : Int) != ((List.length (List.map shV (Nd.ss m)) : Nat) : Int) then some (AV.bool false, []) else loopA (zBy F 13 0 N) (zDe 13 0) (zCt F 13 0 N 0) N { nt := 218, t := [(0, AV.agg (ndL n)), (1, AV.agg (ndL m)), (2, AV.ptr 2 0 0), (3, AV.ptr 3 0 0), (4, AV.bool false), (5, AV.int .i64 0), (12, AV.bool (((List.length (List.map shV (Nd.ss n)) : Nat) : Int) != ((List.length (List.map shV (Nd.ss m)) : Nat) : Int)))], b := [(2, (ndL n)), (3, (ndL m))], r := [], g := [], rd := [], wr := [] } := by kernel_rfl
theorem ret13 (F : Fns) (N : Nat) (n m : Nd) (i : Int) (b c d : Bool) : zCt F 13 0 N 0 .ret ⟨218, [(0, .agg (ndL n)), (1, .agg (ndL m)), (2, .ptr 2 0 0), (3, .ptr 3 0 0), (4, .bool false), (5, .int .i64 i), (12, .bool b), (17, .bool c), (63, .bool d)], [(2, ndL n), (3, ndL m)], [], [], [], []⟩ = some (.bool false, []) := by kernel_rfl
theorem rest13 (k : Nat) (hk : 70400 ≤ k) (n m : Nd) (hc : NdC n) (b : Bool) : joinA 8 (joinOf (W k) 13 8 k 0) (neJ n m b) = some (.bool (!b && (decide (n.ln = m.ln) && (decide (n.vs = m.vs) && (decide (n.kp = m.kp) && (decide (n.al = m.al) && (decide (n.aq = m.aq) && (decide (n.ch = m.ch) && (decide (n.cp = m.cp) && (decide (n.qs = m.qs) && (decide (n.qf = m.qf) && (decide (n.qt = m.qt) && decide (n.qo = m.qo)))))))))))), []) := by
 rw [joinA_eq, j13, x56 k n.ln m.ln (by have := hc.ln; omega) hc.ln, x57 k (by omega) n.vs m.vs hc.vs hc.vb, x55 k n.kp m.kp (by have := hc.kp; omega) hc.kp, x56 k n.al m.al (by have := hc.al; omega) hc.al, x58 k n.ch m.ch (by have := hc.ch; omega) hc.ch, x55 k n.cp m.cp (by have := hc.cp; omega) hc.cp, x59 k (by omega) n.qs n.qo n.qf n.qt m.qs m.qo m.qf m.qt hc.qs hc.qk hc.qo]
 simp only [zRe, zBo, zNi]
 rw [show (n.aq == m.aq) = decide (n.aq = m.aq) from rfl]
 cases b with
 | true => rfl
 | false => cases decide (n.ln = m.ln) <;> cases decide (n.vs = m.vs) <;> cases decide (n.kp = m.kp) <;> cases decide (n.al = m.al) <;> cases decide (n.aq = m.aq) <;> cases decide (n.ch = m.ch) <;> cases decide (n.cp = m.cp) <;> rfl
theorem x13 (k : Nat) (hk : 70500 ≤ k) (n m : Nd) (hc : NdC n) : W k 13 [.agg (ndL n), .agg (ndL m)] [] = some (.bool (eqN n m), []) := by
 obtain ⟨k, rfl⟩ := succ1 (show 1 ≤ k by omega)
 rw [W_tree0 (t13 (W k) k n m) (by kernel_rfl), List.length_map, List.length_map, nat_bne]
 by_cases hl : n.ss.length = m.ss.length
 ·rw [decide_eq_true hl]
  simp only [Bool.not_true, cond_false]
  generalize hT : (decide (n.ln = m.ln) && (decide (n.vs = m.vs) && (decide (n.kp = m.kp) && (decide (n.al = m.al) && (decide (n.aq = m.aq) && (decide (n.ch = m.ch) && (decide (n.cp = m.cp) && (decide (n.qs = m.qs) && (decide (n.qf = m.qf) && (decide (n.qt = m.qt) && decide (n.qo = m.qo))))))))))) = T
  obtain ⟨P, hP⟩ : ∃ P, P = decide (n.ro = m.ro ∧ n.st = m.st ∧ n.va = m.va ∧ n.kn = m.kn ∧ n.sq = m.sq ∧ n.sh = m.sh ∧ n.sn = m.sn ∧ n.md = m.md ∧ n.sy = m.sy ∧ n.fu = m.fu ∧ n.go = m.go ∧ n.fr = m.fr ∧ n.fn = m.fn ∧ n.nx = m.nx) := ⟨_, rfl⟩
  have hE : eqN n m = (decide (n.ss = m.ss) && (P && T)) := by
   rw [hP, ← hT]; rfl
  rw [hE]
  have hs := hc.ss
  refine loopA_ind (fun i : Nat => neS n m i false) (fun i => n.ss.length - i) (fun i r => r = some (.bool (decide (n.ss.drop i = m.ss.drop i) && (P && T)), [])) (fun i m2 ih => ?_) k 0 _ (by omega) (by kernel_rfl)
  rw [b13, List.length_map]
  by_cases hi : i < n.ss.length
  ·have hj : i < m.ss.length := by omega
   have hk2 := hc.sk _ (List.getElem_mem hi)
   rw [getM _ _ _ hi, getM _ _ _ hj, List.drop_eq_getElem_cons hi, List.drop_eq_getElem_cons hj, wi (by omega)]
   simp only [decide_eq_true (show (i : Int) < n.ss.length by omega), decide_eq_true (show (0 : Int) ≤ i by omega), zOp, shV, zAg, zCo, zIn, asSl, if_true, zNi, cond_true]
   rw [x55 k n.ss[i].2.2 m.ss[i].2.2 (by omega) hk2, show (n.ss[i].1 != m.ss[i].1) = !decide (n.ss[i].1 = m.ss[i].1) from rfl, show (n.ss[i].2.1 != m.ss[i].2.1) = !decide (n.ss[i].2.1 = m.ss[i].2.1) from rfl]
   simp only [zRe, zBo, zNi]
   rw [show decide (n.ss[i] :: n.ss.drop (i + 1) = m.ss[i] :: m.ss.drop (i + 1)) = (decide (n.ss[i] = m.ss[i]) && decide (n.ss.drop (i + 1) = m.ss.drop (i + 1))) by rw [Bool.eq_iff_iff, decide_eq_true_eq, Bool.and_eq_true, decide_eq_true_eq, decide_eq_true_eq, List.cons.injEq], shot_ext]
   cases decide (n.ss[i].1 = m.ss[i].1) with
   | false => simp only [Bool.not_false, Bool.not_true, cond_true, cond_false, ret13, Bool.false_and, Bool.true_and, Bool.and_false]
   | true =>
    cases decide (n.ss[i].2.1 = m.ss[i].2.1) with
    | false => simp only [Bool.not_false, Bool.not_true, cond_true, cond_false, ret13, Bool.false_and, Bool.true_and, Bool.and_false]
    | true =>
     cases decide (n.ss[i].2.2 = m.ss[i].2.2) with
     | false => simp only [Bool.not_false, Bool.not_true, cond_true, cond_false, ret13, Bool.false_and, Bool.true_and, Bool.and_false]
     | true => exact ih (i + 1) _ (by omega) (by kernel_rfl)
  ·have e0 : decide (n.ss.drop i = m.ss.drop i) = true := decide_eq_true (by rw [List.drop_eq_nil_of_le (by omega), List.drop_eq_nil_of_le (by omega)])
   rw [e0, Bool.true_and]
   rw [decide_eq_false (show ¬ (i : Int) < n.ss.length by omega), cond_false, k13]
   have r := rest13 k (by omega) n m hc
   rw [hT] at r
   rw [r, r]
   subst hP
   have b1 : ∀ x y : Bool, (!(x == y)) = !decide (x = y) := by decide
   simp only [b1, show ∀ x y : Int, (x != y) = !decide (x = y) from fun _ _ => rfl]
   by_cases g1 : n.ro = m.ro
   ·by_cases g2 : n.st = m.st
    ·by_cases g3 : n.va = m.va
     ·by_cases g4 : n.kn = m.kn
      ·by_cases g5 : n.sq = m.sq
       ·by_cases g6 : n.sh = m.sh
        ·by_cases g7 : n.sn = m.sn
         ·by_cases g8 : n.md = m.md
          ·by_cases g9 : n.sy = m.sy
           ·by_cases g10 : n.fu = m.fu
            ·by_cases g11 : n.go = m.go
             ·by_cases g12 : n.fr = m.fr
              ·by_cases g13 : n.fn = m.fn
               ·by_cases g14 : n.nx = m.nx <;> simp [g1, g2, g3, g4, g5, g6, g7, g8, g9, g10, g11, g12, g13, g14]
               ·simp [g1, g2, g3, g4, g5, g6, g7, g8, g9, g10, g11, g12, g13]
              ·simp [g1, g2, g3, g4, g5, g6, g7, g8, g9, g10, g11, g12]
             ·simp [g1, g2, g3, g4, g5, g6, g7, g8, g9, g10, g11]
            ·simp [g1, g2, g3, g4, g5, g6, g7, g8, g9, g10]
           ·simp [g1, g2, g3, g4, g5, g6, g7, g8, g9]
          ·simp [g1, g2, g3, g4, g5, g6, g7, g8]
         ·simp [g1, g2, g3, g4, g5, g6, g7]
        ·simp [g1, g2, g3, g4, g5, g6]
       ·simp [g1, g2, g3, g4, g5]
      ·simp [g1, g2, g3, g4]
     ·simp [g1, g2, g3]
    ·simp [g1, g2]
   ·simp [g1]
 ·rw [decide_eq_false hl]
  have : eqN n m = false := by
   unfold eqN
   rw [decide_eq_false (show ¬ n.ss = m.ss from fun e => hl (by rw [e]))]; rfl
  rw [this]; rfl
abbrev ssV (l : List (List UInt8)) : AV := .sl 1 false (l.map AV.str)
theorem t25 (F : Fns) (N : Nat) (b : Bool) : runOf F 25 N [.bool b] [] =
 bif b then some (AV.int .u8 1, []) else some (AV.int .u8 0, []) := by kernel_rfl
theorem x25 (k : Nat) (hk : 1 ≤ k) (b : Bool) : W k 25 [.bool b] [] = some (.int .u8 (bif b then 1 else 0), []) := by
 obtain ⟨k, rfl⟩ := succ1 (show 1 ≤ k by omega)
 rw [W_tree0 (t25 (W k) k b) (by kernel_rfl)]
 cases b <;> rfl
theorem x73 (k : Nat) (l : List (Int × Int)) (hk : 1100 ≤ k) (hs : Sm l) (hl : l.length ≤ 1000) : W k 73 [lnV l] [] = some (if lined l then .tup [.str (putL l), .int .i64 0] else .tup [.str [], .int .i64 1], []) := W_old0 (e17' k (.inl ⟨false, rfl⟩) (by omega) hs hl) (by omega) (by kernel_rfl)
theorem t27 (F : Fns) (N : Nat) (l : List (Int × Int)) : runOf F 27 N [lnV l] [] =
 zRe (F 73 [lnV l] []) fun v bs => zTC v fun v r => zSt v fun s => zCo r fun v r => zIn .i64 v fun n => zNi r (zNi bs (some (AV.str s, []))) := by kernel_rfl
theorem x27 (k : Nat) (l : List (Int × Int)) (hk : 1200 ≤ k) (hs : Sm l) (hl : l.length ≤ 1000) (hok : lined l = true) : W k 27 [lnV l] [] = some (.str (putL l), []) := by
 obtain ⟨k, rfl⟩ := succ1 (show 1 ≤ k by omega)
 rw [W_tree0 (t27 (W k) k l) (by kernel_rfl), x73 k l (by omega) hs hl, if_pos hok]
 rfl
theorem t29 (F : Fns) (N : Nat) (l : List Wr) : runOf F 29 N [wsV l] [] =
 zRe (F 74 [wsV l] []) fun v bs => zTC v fun v r => zSt v fun s => zCo r fun v r => zIn .i64 v fun n => zNi r (zNi bs (some (AV.str s, []))) := by kernel_rfl
theorem x29 (k : Nat) (l : List Wr) (hk : 1200 ≤ k) (hl : l.length ≤ 200) (hok : wOk l = true) : W k 29 [wsV l] [] = some (.str (putW l), []) := by
 obtain ⟨k, rfl⟩ := succ1 (show 1 ≤ k by omega)
 rw [W_tree0 (t29 (W k) k l) (by kernel_rfl), x74 k l hl (by omega), if_pos hok]
 rfl
theorem t47 (F : Fns) (N : Nat) (z : Int) : runOf F 47 N [.int .i64 z] [] =
 some (AV.str [UInt8.ofNat (Int.toNat (IntKind.wrap .u8 z))], []) := by kernel_rfl
theorem x47 (k : Nat) (hk : 1 ≤ k) (z : Int) : W k 47 [.int .i64 z] [] = some (.str [UInt8.ofNat (Int.toNat (IntKind.wrap .u8 z))], []) := by
 obtain ⟨k, rfl⟩ := succ1 (show 1 ≤ k by omega)
 rw [W_tree0 (t47 (W k) k z) (by kernel_rfl)]
theorem x47n (k : Nat) (hk : 1 ≤ k) (n : Nat) : W k 47 [.int .i64 (n : Int)] [] = some (.str [UInt8.ofNat n], []) := by
 rw [x47 k hk, byte_wrap]
def flB (b : Bool) : List UInt8 := [if b then 1 else 0]
theorem t48 (F : Fns) (N : Nat) (b : Bool) : runOf F 48 N [.bool b] [] =
 bif b then zRe (F 47 [AV.int .i64 1] []) fun v bs => zSt v fun s => zNi bs (some (AV.str s, [])) else zRe (F 47 [AV.int .i64 0] []) fun v bs => zSt v fun s => zNi bs (some (AV.str s, [])) := by kernel_rfl
theorem x48 (k : Nat) (hk : 2 ≤ k) (b : Bool) : W k 48 [.bool b] [] = some (.str (flB b), []) := by
 obtain ⟨k, rfl⟩ := succ1 (show 1 ≤ k by omega)
 have h1 := x47n k (by omega) 1
 have h0 := x47n k (by omega) 0
 rw [W_tree0 (t48 (W k) k b) (by kernel_rfl), show W k 47 [AV.int .i64 1] [] = some (AV.str [UInt8.ofNat 1], []) from h1, show W k 47 [AV.int .i64 0] [] = some (AV.str [UInt8.ofNat 0], []) from h0]
 cases b <;> rfl
theorem x96 (k : Nat) (hk : 10 ≤ k) (z : Int) (hz : z < 9223372036854775808) : W k 96 [.int .i64 z, .int .i64 8] [] = some (.tup [.str (putV z 8).1, .int .i64 (putV z 8).2], []) := W_old0 (e87 k hk z hz 8 (by omega) (by omega)) (by omega) (by kernel_rfl)
theorem t49 (F : Fns) (N : Nat) (z : Int) : runOf F 49 N [.int .i64 z] [] =
 zRe (F 96 [AV.int .i64 z, AV.int .i64 8] []) fun v bs => zTC v fun v r => zSt v fun s => zCo r fun v r => zIn .i64 v fun n => zNi r (zNi bs (some (AV.str s, []))) := by kernel_rfl
theorem x49 (k : Nat) (hk : 11 ≤ k) (z : Int) (hz : z < 9223372036854775808) : W k 49 [.int .i64 z] [] = some (.str (be8 z), []) := by
 obtain ⟨k, rfl⟩ := succ1 (show 1 ≤ k by omega)
 rw [W_tree0 (t49 (W k) k z) (by kernel_rfl), x96 k (by omega) z hz]
 rfl
def beightS (fl : Bool) (xs : List AV) (len i : Int) (v : AV) : St := ⟨25, [(0, AV.sl 1 fl xs), (2, AV.str []), (3, v), (8, AV.sl 1 fl xs), (9, AV.int .i64 len), (10, AV.int .i64 i)], [], [], [], [], []⟩
theorem beight_tree (F : Fns) (N : Nat) (fl : Bool) (xs : List AV) : runOf F 26 N [.sl 1 fl xs] [] =
 loopA (zBy F 26 0 N) (zDe 26 0) (zCt F 26 0 N 0) N { nt := 25, t := [(0, AV.sl 1 fl xs), (2, AV.str []), (3, AV.sl 0 true []), (8, AV.sl 1 fl xs), (9, AV.int .i64 (xs.length : Int)), (10, AV.int .i64 0)], b := [], r := [], g := [], rd := [], wr := [] } := by kernel_rfl
theorem beight_body0 (F : Fns) (N : Nat) (fl : Bool) (xs : List AV) (len i : Int) (KN : St → Res) : zBy F 26 0 N (beightS fl xs len i (.sl 0 true [])) (brk (zCt F 26 0 N 0) KN) =
 bif decide (i < len) then bif decide (0 ≤ i) then zOp xs[Int.toNat i]? fun x => zIn .i64 x fun n => zRe (F 23 [AV.int .i64 n, AV.int .i64 8] []) fun v bs => zTC v fun v r => zSt v fun s => zCo r fun v r => zIn .i64 v fun n_1 => zNi r (zNi bs (bif decide ((0 = 1 ∨ ([] : List AV) = []) ∧ fitsB (List.length ([] : List AV) + List.length (ofBytes s)) 1 = true ∧ List.length ([] : List AV) + List.length (ofBytes s) ≤ 4611686018427387904) then KN { nt := 25, t := [(0, AV.sl 1 fl xs), (2, AV.str []), (3, AV.tip 21 0 1 ([] ++ ofBytes s)), (5, AV.int .i64 n), (6, AV.str s), (8, AV.sl 1 fl xs), (9, AV.int .i64 len), (10, AV.int .i64 (IntKind.wrap .i64 (i + 1))), (11, AV.bool (decide (i < len)))], b := [], r := [], g := [], rd := [], wr := [] } else none)) else none else some (AV.str [], []) := by kernel_rfl
theorem beight_body1 (F : Fns) (N : Nat) (fl : Bool) (xs ys : List AV) (len i : Int) (KN : St → Res) : zBy F 26 0 N (beightS fl xs len i (.tip 21 0 1 ys)) (brk (zCt F 26 0 N 0) KN) =
 bif decide (i < len) then bif decide (0 ≤ i) then zOp xs[Int.toNat i]? fun x => zIn .i64 x fun n => zRe (F 23 [AV.int .i64 n, AV.int .i64 8] []) fun v bs => zTC v fun v r => zSt v fun s => zCo r fun v r => zIn .i64 v fun n_1 => zNi r (zNi bs (bif decide (1 = 1 ∧ fitsB (List.length ys + List.length (ofBytes s)) 1 = true ∧ List.length ys + List.length (ofBytes s) ≤ 4611686018427387904) then KN { nt := 25, t := [(0, AV.sl 1 fl xs), (2, AV.str []), (3, AV.tip 21 0 1 (ys ++ ofBytes s)), (5, AV.int .i64 n), (6, AV.str s), (8, AV.sl 1 fl xs), (9, AV.int .i64 len), (10, AV.int .i64 (IntKind.wrap .i64 (i + 1))), (11, AV.bool (decide (i < len)))], b := [], r := [], g := [], rd := [], wr := [] } else none)) else none else zOp (Option.map AV.str (bytesOf ys)) fun x => zSt x fun s => some (AV.str s, []) := by kernel_rfl
theorem beight_loop (k : Nat) (hk : 12 ≤ k) (fl : Bool) (ns : List Int) (hn : ∀ n ∈ ns, n < 9223372036854775808) (hl : ns.length ≤ 1000) : ∀ (dd i m : Nat) (acc : List UInt8) (st : St), i + dd = ns.length → dd < m → acc.length ≤ 8 * i →
  st.clean (zDe 26 0) = beightS fl (ns.map (AV.int .i64)) ns.length i (.tip 21 0 1 (ofBytes acc)) →
  loopA (zBy (evF pr k) 26 0 k) (zDe 26 0) (zCt (evF pr k) 26 0 k 0) m st = some (.str (acc ++ (ns.drop i).flatMap be8), []) := by
 intro dd
 induction dd with
 | zero =>
  intro i m acc st hi hm ha hst
  obtain ⟨m, rfl⟩ : ∃ m', m = m' + 1 := ⟨m - 1, by omega⟩
  have : i = ns.length := by omega
  subst this
  rw [loopA_succ, hst, beight_body1, decide_eq_false (by omega), bytesOf_ofBytes, List.drop_length]
  simp [zOp, zSt]
 | succ dd ih =>
  intro i m acc st hi hm ha hst
  obtain ⟨m, rfl⟩ : ∃ m', m = m' + 1 := ⟨m - 1, by omega⟩
  have hlt : i < ns.length := by omega
  have h8 := be8_length ns[i]
  rw [loopA_succ, hst, beight_body1, decide_eq_true (show (i : Int) < ns.length by omega), decide_eq_true (show (0 : Int) ≤ i by omega), Int.toNat_natCast, List.getElem?_map, List.getElem?_eq_getElem hlt]
  simp only [cond_true, Option.map_some, zOp, zIn, if_true]
  rw [show (8 : Int) = ((8 : Nat) : Int) from rfl, e37 k (by omega) _ (hn _ (List.getElem_mem hlt)) 8 (by omega) (by omega)]
  simp only [zRe, zTu, zCo, zSt, zIn, if_true, zNi]
  rw [ofBytes_append, decide_eq_true (by
   have hb : (putV ns[i] ((8 : Nat) : Int)).1.length ≤ 8 := h8
   refine ⟨trivial, fitsB_small ?_, ?_⟩ <;> simp only [ofBytes, List.length_map] <;> omega)]
  simp only [cond_true]
  rw [wrap_small (n := (i : Int) + 1) (by omega) (by omega), List.drop_eq_getElem_cons hlt, List.flatMap_cons, ← List.append_assoc]
  exact ih (i + 1) m _ _ (by omega) (by omega) (by
   have hb : (putV ns[i] ((8 : Nat) : Int)).1.length ≤ 8 := h8
   rw [List.length_append]
   omega) (by kernel_rfl)
theorem e45b (k : Nat) (fl : Bool) (ns : List Int) (hk : 13 + ns.length ≤ k) (hn : ∀ n ∈ ns, n < 9223372036854775808) (hl : ns.length ≤ 1000) : evF pr k 26 [.sl 1 fl (ns.map (AV.int .i64))] [] = some (.str (ns.flatMap be8), []) := by
 obtain ⟨k, rfl⟩ : ∃ m, k = m + 1 := ⟨k - 1, by omega⟩
 rw [ev_step _ _ _ _ (by kernel_rfl), beight_tree, List.length_map]
 cases ns with
 | nil =>
  obtain ⟨k, rfl⟩ : ∃ m, k = m + 1 := ⟨k - 1, by omega⟩
  rw [loopA_succ]
  exact beight_body0 _ _ fl [] 0 0 _
 | cons n r =>
  obtain ⟨k', hk'⟩ : ∃ m, k = m + 1 := ⟨k - 1, by omega⟩
  have h8 := be8_length n
  have hb : (putV n ((8 : Nat) : Int)).1.length ≤ 8 := h8
  conv => lhs; arg 4; rw [hk']
  rw [loopA_succ]
  refine (beight_body0 _ _ fl ((n :: r).map (AV.int .i64)) ((n :: r).length) 0 _).trans ?_
  simp only [List.length_cons] at hk
  rw [decide_eq_true (show (0 : Int) < ((n :: r).length : Nat) by simp only [List.length_cons]; omega)]
  simp only [cond_true, Int.toNat_zero, List.map_cons, List.getElem?_cons_zero, zOp, zIn, if_true, show decide ((0 : Int) ≤ 0) = true from rfl]
  rw [show (8 : Int) = ((8 : Nat) : Int) from rfl, e37 k (by omega) _ (hn _ (List.mem_cons_self ..)) 8 (by omega) (by omega)]
  simp only [zRe, zTu, zCo, zSt, zIn, if_true, zNi]
  rw [decide_eq_true (by
   refine ⟨.inr trivial, fitsB_small ?_, ?_⟩ <;> simp only [ofBytes, List.length_map, List.length_nil] <;> omega)]
  simp only [cond_true, List.nil_append]
  exact beight_loop k (by omega) fl (n :: r) hn hl r.length 1 k' _ _ (by simp only [List.length_cons]; omega) (by omega) (by omega) (by kernel_rfl)
theorem x26 (k : Nat) (ns : List Int) (hk : 1100 ≤ k) (hn : ∀ n ∈ ns, n < 9223372036854775808) (hl : ns.length ≤ 1000) : W k 26 [isV ns] [] = some (.str (ns.flatMap be8), []) := W_old0 (e45b k false ns (by omega) hn hl) (by omega) (by kernel_rfl)
theorem two_be (n : Nat) (hn : n < 9223372036854775808) : [UInt8.ofNat (Int.toNat (IntKind.wrap .u8 (IntKind.wrap .i64 (Int.tdiv (n : Int) 256)))), UInt8.ofNat (Int.toNat (IntKind.wrap .u8 (Int.tmod (n : Int) 256)))] = be 2 n := by
 have e1 : Int.tdiv (n : Int) 256 = ((n / 256 : Nat) : Int) := rfl
 have e2 : Int.tmod (n : Int) 256 = ((n % 256 : Nat) : Int) := rfl
 rw [e1, e2, wrap_small (by omega) (by omega), byte_wrap, byte_wrap]
 simp only [be, List.nil_append, List.cons_append]
 have h1 : UInt8.ofNat (n / 256 % 256) = UInt8.ofNat (n / 256) := by apply UInt8.toNat_inj.1; simp
 rw [h1]
theorem t54 (F : Fns) (N : Nat) (z : Int) : runOf F 54 N [.int .i64 z] [] =
 some (AV.str [UInt8.ofNat (Int.toNat (IntKind.wrap .u8 (IntKind.wrap .i64 (Int.tdiv z 256)))), UInt8.ofNat (Int.toNat (IntKind.wrap .u8 (Int.tmod z 256)))], []) := by kernel_rfl
theorem x54 (k : Nat) (hk : 1 ≤ k) (n : Nat) (hn : n < 9223372036854775808) : W k 54 [.int .i64 (n : Int)] [] = some (.str (be 2 n), []) := by
 obtain ⟨k, rfl⟩ := succ1 (show 1 ≤ k by omega)
 rw [W_tree0 (t54 (W k) k n) (by kernel_rfl), two_be n hn]
theorem t67 (F : Fns) (N : Nat) (s : List UInt8) : runOf F 67 N [.str s] [] =
 bif decide ((s.length : Int) > 65535) then some (AV.tup [AV.str [], AV.int .i64 5], []) else bif decide (List.length [UInt8.ofNat (Int.toNat (IntKind.wrap .u8 (IntKind.wrap .i64 (Int.tdiv ((s.length : Int)) 256)))), UInt8.ofNat (Int.toNat (IntKind.wrap .u8 (Int.tmod ((s.length : Int)) 256)))] + List.length s ≤ 4611686018427387904) then some (AV.tup [AV.str ([UInt8.ofNat (Int.toNat (IntKind.wrap .u8 (IntKind.wrap .i64 (Int.tdiv ((s.length : Int)) 256)))), UInt8.ofNat (Int.toNat (IntKind.wrap .u8 (Int.tmod ((s.length : Int)) 256)))] ++ s), AV.int .i64 0], []) else none := by kernel_rfl
def textE (s : List UInt8) : List UInt8 × Int := if s.length > 65535 then ([], 5) else (be 2 s.length ++ s, 0)
theorem x67 (k : Nat) (hk : 1 ≤ k) (s : List UInt8) : W k 67 [.str s] [] = some (.tup [.str (textE s).1, .int .i64 (textE s).2], []) := by
 obtain ⟨k, rfl⟩ := succ1 (show 1 ≤ k by omega)
 rw [W_tree0 (t67 (W k) k s) (by kernel_rfl), textE]
 by_cases h : s.length > 65535
 ·rw [decide_eq_true (by omega), if_pos h]; rfl
 ·rw [if_neg h, two_be s.length (by omega)]
  have hb : (be 2 s.length).length = 2 := by simp [be]
  rw [decide_eq_false (show ¬ ((s.length : Nat) : Int) > 65535 by omega), decide_eq_true (show (be 2 s.length).length + s.length ≤ 4611686018427387904 by omega)]
  rfl
theorem e38g (k : Nat) (hk : 12 ≤ k) (s : List UInt8) : evF pr k 104 [.str s] [] = some (.tup [.str (textE s).1, .int .i64 (textE s).2], []) := by
 unfold textE
 by_cases h : s.length > 65535
 ·rw [if_pos h]
  obtain ⟨k, rfl⟩ : ∃ m, k = m + 1 := ⟨k - 1, by omega⟩
  rw [ev_step _ _ _ _ (by kernel_rfl), text_tree, decide_eq_true (show ((s.length : Nat) : Int) > 65535 by omega)]
  rfl
 ·rw [if_neg h]
  exact e38 k hk s (by omega)
theorem x104g (k : Nat) (hk : 12 ≤ k) (s : List UInt8) : W k 104 [.str s] [] = some (.tup [.str (textE s).1, .int .i64 (textE s).2], []) := W_old0 (e38g k hk s) (by omega) (by kernel_rfl)
def lst : List (List UInt8) → Option (List UInt8)
 | [] => some []
 | s :: r => if s.length > 65535 then none else (lst r).map fun b => (be 2 s.length ++ s) ++ b
def listE (l : List (List UInt8)) : List UInt8 × Int := if l.length > 65535 then ([], 5) else match lst l with
 | none => ([], 5)
 | some b => (be 2 l.length ++ b, 0)
def outL (acc : List UInt8) (o : Option (List UInt8)) : Res := match o with
 | none => some (.tup [.str [], .int .i64 5], [])
 | some b => some (.tup [.str (acc ++ b), .int .i64 0], [])
theorem be2_len (n : Nat) : (be 2 n).length = 2 := by simp [be]
theorem outL_listE (l : List (List UInt8)) (h : ¬ l.length > 65535) : outL (be 2 l.length) (lst l) = some (.tup [.str (listE l).1, .int .i64 (listE l).2], []) := by
 unfold outL listE
 rw [if_neg h]
 cases lst l <;> rfl
theorem outL_long (s : List UInt8) (r : List (List UInt8)) (acc : List UInt8) (h : s.length > 65535) : outL acc (lst (s :: r)) = some (.tup [.str [], .int .i64 5], []) := by
 rw [lst, if_pos h]; rfl
theorem outL_short (s : List UInt8) (r : List (List UInt8)) (acc : List UInt8) (h : ¬ s.length > 65535) : outL acc (lst (s :: r)) = outL (acc ++ (be 2 s.length ++ s)) (lst r) := by
 rw [lst, if_neg h]
 cases lst r with
 | none => rfl
 | some b => simp [outL]
def liS (l : List (List UInt8)) (s : List UInt8) (ys : List AV) (b : Bool) (len i : Int) : St := ⟨42, [(0, ssV l), (2, .str []), (3, .int .i64 0), (4, .str s), (6, .tip 21 0 1 ys), (13, .bool b), (22, ssV l), (23, .int .i64 len), (24, .int .i64 i)], [], [], [], [], []⟩
theorem b66 (F : Fns) (N : Nat) (l : List (List UInt8)) (s : List UInt8) (ys : List AV) (b : Bool) (len i : Int) (KN : St → Res) : zBy F 66 0 N (liS l s ys b len i) (brk (zCt F 66 0 N 0) KN) =
 bif decide (i < len) then bif decide (0 ≤ i) then zOp (List.map AV.str l)[Int.toNat i]? fun x => zSt x fun s_1 => zRe (F 104 [AV.str s_1] []) fun v bs => zTC v fun v r => zSt v fun s_2 => zCo r fun v r => zIn .i64 v fun n => zNi r (zNi bs (bif n != 0 then some (AV.tup [AV.str [], AV.int .i64 n], []) else bif decide (1 = 1 ∧ fitsB (List.length ys + List.length (ofBytes s_2)) 1 = true ∧ List.length ys + List.length (ofBytes s_2) ≤ 4611686018427387904) then KN { nt := 42, t := [(0, AV.sl 1 false (List.map AV.str l)), (2, AV.str []), (3, AV.int .i64 0), (4, AV.str s), (6, AV.tip 21 0 1 (ys ++ ofBytes s_2)), (8, AV.str s_1), (9, AV.str s_2), (10, AV.int .i64 n), (13, AV.bool b), (22, AV.sl 1 false (List.map AV.str l)), (23, AV.int .i64 len), (24, AV.int .i64 (IntKind.wrap .i64 (i + 1))), (25, AV.bool (decide (i < len))), (34, AV.bool (n != 0))], b := [], r := [], g := [], rd := [], wr := [] } else none)) else none else zOp (Option.map AV.str (bytesOf ys)) fun x => zSt x fun s => some (AV.tup [AV.str s, AV.int .i64 0], []) := by kernel_rfl
theorem t66 (F : Fns) (N : Nat) (l : List (List UInt8)) : runOf F 66 N [ssV l] [] =
 bif decide (((List.length (List.map AV.str l) : Nat) : Int) > 65535) then some (AV.tup [AV.str [], AV.int .i64 5], []) else zRe (F 23 [AV.int .i64 ((List.length (List.map AV.str l) : Nat) : Int), AV.int .i64 2] []) fun v bs => zTC v fun v r => zSt v fun s => zCo r fun v r => zIn .i64 v fun n => zNi r (zNi bs (bif decide (List.length s ≤ 4611686018427387904) then loopA (zBy F 66 0 N) (zDe 66 0) (zCt F 66 0 N 0) N { nt := 42, t := [(0, AV.sl 1 false (List.map AV.str l)), (2, AV.str []), (3, AV.int .i64 0), (4, AV.str s), (6, AV.tip 21 0 1 (ofBytes s)), (13, AV.bool (decide (((List.length (List.map AV.str l) : Nat) : Int) > 65535))), (22, AV.sl 1 false (List.map AV.str l)), (23, AV.int .i64 ((List.length (List.map AV.str l) : Nat) : Int)), (24, AV.int .i64 0)], b := [], r := [], g := [], rd := [], wr := [] } else none)) := by kernel_rfl
theorem x23 (k : Nat) (hk : 10 ≤ k) (n : Nat) (hn : n ≤ 65535) : W k 23 [.int .i64 (n : Int), .int .i64 2] [] = some (.tup [.str (be 2 n), .int .i64 0], []) := by
 refine W_old0 (vs' := [.int .i64 (n : Int), .int .i64 2]) ?_ (by omega) (by kernel_rfl)
 have := e37 k hk (n : Int) (by omega) 2 (by omega) (by omega)
 rw [putV_small n 2 (by omega) (by omega) (by omega)] at this
 exact this
theorem x66 (k : Nat) (hk : 66000 ≤ k) (l : List (List UInt8)) : W k 66 [ssV l] [] = some (.tup [.str (listE l).1, .int .i64 (listE l).2], []) := by
 obtain ⟨k, rfl⟩ := succ1 (show 1 ≤ k by omega)
 rw [W_tree0 (t66 (W k) k l) (by kernel_rfl), List.length_map]
 by_cases h : l.length > 65535
 ·rw [decide_eq_true (show ((l.length : Nat) : Int) > 65535 by omega), listE, if_pos h]; rfl
 ·rw [decide_eq_false (show ¬ ((l.length : Nat) : Int) > 65535 by omega), x23 k (by omega) l.length (by omega), ← outL_listE l h]
  simp only [cond_false, zRe, zTu, zCo, zSt, zIn, if_true, zNi]
  rw [decide_eq_true (show (be 2 l.length).length ≤ 4611686018427387904 by rw [be2_len]; omega)]
  simp only [cond_true]
  refine loopA_ind (fun a : Nat × List UInt8 => liS l (be 2 l.length) (ofBytes a.2) false l.length a.1) (fun a => l.length - a.1) (fun a r => a.2.length ≤ 2 + 65537 * a.1 → r = outL a.2 (lst (l.drop a.1))) (fun a m ih h1 => ?_) k (0, be 2 l.length) _ (by simp; omega) (by kernel_rfl) (by simp [be2_len])
  obtain ⟨i, acc⟩ := a
  simp only at ih h1 ⊢
  rw [b66]
  by_cases hi : i < l.length
  ·rw [getM _ _ _ hi, List.drop_eq_getElem_cons hi, wi (by omega)]
   simp only [decide_eq_true (show (i : Int) < l.length by omega), decide_eq_true (show (0 : Int) ≤ i by omega), zOp, zSt, cond_true]
   rw [x104g k (by omega) l[i]]
   simp only [zRe, zTu, zCo, zSt, zIn, if_true, zNi]
   by_cases hs : l[i].length > 65535
   ·rw [outL_long _ _ _ hs, textE, if_pos hs]; rfl
   ·rw [outL_short _ _ _ hs, textE, if_neg hs]
    simp only [show ((0 : Int) != 0) = false from rfl, cond_false]
    have hlen : (be 2 l[i].length ++ l[i]).length ≤ 65537 := by rw [List.length_append, be2_len]; omega
    rw [decide_eq_true (by
     refine ⟨trivial, fitsB_small ?_, ?_⟩ <;> simp only [ofBytes, List.length_map] <;> omega)]
    simp only [cond_true]
    exact ih (i + 1, acc ++ (be 2 l[i].length ++ l[i])) _ (by simp; omega) (by rw [ofBytes_append]; kernel_rfl) (by rw [List.length_append]; omega)
  ·simp only [decide_eq_false (show ¬ (i : Int) < l.length by omega), cond_false]
   rw [List.drop_eq_nil_of_le (by omega), bytesOf_ofBytes]
   simp [lst, outL, zOp, zSt]
theorem t18 (F : Fns) (N : Nat) (l : List (List UInt8)) : runOf F 18 N [ssV l] [] =
 bif decide (((List.length (List.map AV.str l) : Nat) : Int) > 65535) then some (AV.tup [AV.str [], AV.int .i64 5], []) else loopA (zBy F 18 0 N) (zDe 18 0) (zCt F 18 0 N 0) N { nt := 42, t := [(0, AV.sl 1 false (List.map AV.str l)), (2, AV.str []), (3, AV.int .i64 0), (4, AV.str [UInt8.ofNat (Int.toNat (IntKind.wrap .u8 (IntKind.wrap .i64 (Int.tdiv (((List.length (List.map AV.str l) : Nat) : Int)) 256)))), UInt8.ofNat (Int.toNat (IntKind.wrap .u8 (Int.tmod (((List.length (List.map AV.str l) : Nat) : Int)) 256)))]), (5, AV.int .i64 0), (10, AV.bool (decide (((List.length (List.map AV.str l) : Nat) : Int) > 65535)))], b := [], r := [], g := [], rd := [], wr := [] } := by kernel_rfl
def rliS (l : List (List UInt8)) (s : List UInt8) (b : Bool) (i : Int) : St := ⟨42, [(0, ssV l), (2, .str []), (3, .int .i64 0), (4, .str s), (5, .int .i64 i), (10, .bool b)], [], [], [], [], []⟩
theorem b18 (F : Fns) (N : Nat) (l : List (List UInt8)) (s : List UInt8) (b : Bool) (i : Int) (KN : St → Res) : zBy F 18 0 N (rliS l s b i) (brk (zCt F 18 0 N 0) KN) =
 bif decide (i < ((List.length (List.map AV.str l) : Nat) : Int)) then bif decide (0 ≤ i) then zOp (List.map AV.str l)[Int.toNat i]? fun x => zSt x fun s_1 => zRe (F 67 [AV.str s_1] []) fun v bs => zTC v fun v r => zSt v fun s_2 => zCo r fun v r => zIn .i64 v fun n => zNi r (zNi bs (bif n != 0 then some (AV.tup [AV.str [], AV.int .i64 n], []) else bif decide (List.length s + List.length s_2 ≤ 4611686018427387904) then KN { nt := 42, t := [(0, AV.sl 1 false (List.map AV.str l)), (2, AV.str []), (3, AV.int .i64 0), (4, AV.str (s ++ s_2)), (5, AV.int .i64 (IntKind.wrap .i64 (i + 1))), (6, AV.str s_2), (7, AV.int .i64 n), (10, AV.bool b), (24, AV.bool (decide (i < ((List.length (List.map AV.str l) : Nat) : Int)))), (36, AV.bool (n != 0))], b := [], r := [], g := [], rd := [], wr := [] } else none)) else none else some (AV.tup [AV.str s, AV.int .i64 0], []) := by kernel_rfl
theorem x18 (k : Nat) (hk : 66000 ≤ k) (l : List (List UInt8)) : W k 18 [ssV l] [] = some (.tup [.str (listE l).1, .int .i64 (listE l).2], []) := by
 obtain ⟨k, rfl⟩ := succ1 (show 1 ≤ k by omega)
 rw [W_tree0 (t18 (W k) k l) (by kernel_rfl), List.length_map]
 by_cases h : l.length > 65535
 ·rw [decide_eq_true (show ((l.length : Nat) : Int) > 65535 by omega), listE, if_pos h]; rfl
 ·rw [decide_eq_false (show ¬ ((l.length : Nat) : Int) > 65535 by omega), two_be l.length (by omega), ← outL_listE l h]
  simp only [cond_false]
  refine loopA_ind (fun a : Nat × List UInt8 => rliS l a.2 false a.1) (fun a => l.length - a.1) (fun a r => a.2.length ≤ 2 + 65537 * a.1 → r = outL a.2 (lst (l.drop a.1))) (fun a m ih h1 => ?_) k (0, be 2 l.length) _ (by simp; omega) (by kernel_rfl) (by simp [be2_len])
  obtain ⟨i, acc⟩ := a
  simp only at ih h1 ⊢
  rw [b18, List.length_map]
  by_cases hi : i < l.length
  ·rw [getM _ _ _ hi, List.drop_eq_getElem_cons hi, wi (by omega)]
   simp only [decide_eq_true (show (i : Int) < l.length by omega), decide_eq_true (show (0 : Int) ≤ i by omega), zOp, zSt, cond_true]
   rw [x67 k (by omega) l[i]]
   simp only [zRe, zTu, zCo, zSt, zIn, if_true, zNi]
   by_cases hs : l[i].length > 65535
   ·rw [outL_long _ _ _ hs, textE, if_pos hs]; rfl
   ·rw [outL_short _ _ _ hs, textE, if_neg hs]
    simp only [show ((0 : Int) != 0) = false from rfl, cond_false]
    have hlen : (be 2 l[i].length ++ l[i]).length ≤ 65537 := by rw [List.length_append, be2_len]; omega
    rw [decide_eq_true (show acc.length + (be 2 l[i].length ++ l[i]).length ≤ 4611686018427387904 by omega)]
    simp only [cond_true]
    exact ih (i + 1, acc ++ (be 2 l[i].length ++ l[i])) _ (by simp; omega) (by kernel_rfl) (by rw [List.length_append]; omega)
  ·simp only [decide_eq_false (show ¬ (i : Int) < l.length by omega), cond_false]
   rw [List.drop_eq_nil_of_le (by omega)]
   simp [lst, outL]
theorem lst_len : ∀ (l : List (List UInt8)) (b : List UInt8), lst l = some b → b.length ≤ 65537 * l.length
 | [], b, h => by simp [lst] at h; subst h; simp
 | s :: r, b, h => by
  rw [lst] at h
  split at h
  ·simp at h
  ·rw [Option.map_eq_some_iff] at h
   obtain ⟨c, hc, rfl⟩ := h
   have := lst_len r c hc
   simp only [List.length_append, be2_len, List.length_cons]
   omega
theorem listE_len (l : List (List UInt8)) : (listE l).1.length ≤ 5000000000 := by
 unfold listE
 split
 ·simp
 ·cases h : lst l with
  | none => simp
  | some b =>
   have := lst_len l b h
   simp only [List.length_append, be2_len]
   omega
def vB (v : Vol) : List UInt8 := UInt8.ofNat (Int.toNat (IntKind.wrap .u8 v.1)) :: (listE v.2).1
def volsB (vs : List Vol) : List UInt8 := UInt8.ofNat vs.length :: vs.flatMap vB
theorem t28 (F : Fns) (N : Nat) (l : List Vol) : runOf F 28 N [vsV l] [] =
 loopA (zBy F 28 0 N) (zDe 28 0) (zCt F 28 0 N 0) N { nt := 36, t := [(0, vsV l), (2, AV.str []), (3, AV.str [UInt8.ofNat (Int.toNat (IntKind.wrap .u8 ((List.length (List.map (volV false) l) : Nat) : Int)))]), (13, vsV l), (14, AV.int .i64 ((List.length (List.map (volV false) l) : Nat) : Int)), (15, AV.int .i64 0)], b := [], r := [], g := [], rd := [], wr := [] } := by kernel_rfl
def blS (l : List Vol) (s : List UInt8) (len i : Int) : St := ⟨36, [(0, vsV l), (2, .str []), (3, .str s), (13, vsV l), (14, .int .i64 len), (15, .int .i64 i)], [], [], [], [], []⟩
theorem b28 (F : Fns) (N : Nat) (l : List Vol) (s : List UInt8) (len i : Int) (KN : St → Res) : zBy F 28 0 N (blS l s len i) (brk (zCt F 28 0 N 0) KN) =
 bif decide (i < len) then bif decide (0 ≤ i) then zOp (List.map (volV false) l)[Int.toNat i]? fun x => zAg x fun cs => zCo cs fun v r => zIn .i64 v fun n => zCo r fun v r => asSl v fun m fl xs => zNi r (zRe (F 66 [AV.sl m fl xs] []) fun v bs => zTC v fun v r => zSt v fun s_1 => zCo r fun v r => zIn .i64 v fun n_1 => zNi r (zNi bs (bif decide (List.length [UInt8.ofNat (Int.toNat (IntKind.wrap .u8 n))] + List.length s_1 ≤ 4611686018427387904) then bif decide (List.length s + List.length ([UInt8.ofNat (Int.toNat (IntKind.wrap .u8 n))] ++ s_1) ≤ 4611686018427387904) then KN { nt := 36, t := [(0, vsV l), (2, AV.str []), (3, AV.str (s ++ ([UInt8.ofNat (Int.toNat (IntKind.wrap .u8 n))] ++ s_1))), (5, AV.ptr 5 0 0), (6, AV.str s_1), (13, vsV l), (14, AV.int .i64 len), (15, AV.int .i64 (IntKind.wrap .i64 (i + 1))), (16, AV.bool (decide (i < len)))], b := [(5, [AV.int .i64 n, AV.sl m fl xs])], r := [], g := [], rd := [], wr := [] } else none else none))) else none else some (AV.str s, []) := by kernel_rfl
theorem x28 (k : Nat) (hk : 66100 ≤ k) (l : List Vol) (hl : l.length ≤ 300) : W k 28 [vsV l] [] = some (.str (volsB l), []) := by
 obtain ⟨k, rfl⟩ := succ1 (show 1 ≤ k by omega)
 rw [W_tree0 (t28 (W k) k l) (by kernel_rfl), List.length_map, byte_wrap, volsB]
 refine loopA_ind (fun a : Nat × List UInt8 => blS l a.2 l.length a.1) (fun a => l.length - a.1) (fun a r => a.2.length ≤ 1 + 5000000001 * a.1 → r = some (.str (a.2 ++ (l.drop a.1).flatMap vB), [])) (fun a m ih h1 => ?_) k (0, [UInt8.ofNat l.length]) _ (by simp; omega) (by kernel_rfl) (by simp)
 obtain ⟨i, acc⟩ := a
 simp only at ih h1 ⊢
 rw [b28]
 by_cases hi : i < l.length
 ·rw [getM _ _ _ hi, List.drop_eq_getElem_cons hi, wi (by omega)]
  simp only [decide_eq_true (show (i : Int) < l.length by omega), decide_eq_true (show (0 : Int) ≤ i by omega), zOp, volV, zAg, zCo, zIn, asSl, if_true, zNi, cond_true]
  rw [x66 k (by omega) l[i].2]
  simp only [zRe, zTu, zCo, zSt, zIn, if_true, zNi]
  have hL := listE_len l[i].2
  rw [decide_eq_true (show (List.length [UInt8.ofNat (Int.toNat (IntKind.wrap .u8 l[i].1))]) + (listE l[i].2).1.length ≤ 4611686018427387904 by simp only [List.length_cons, List.length_nil]; omega)]
  rw [decide_eq_true (show acc.length + ([UInt8.ofNat (Int.toNat (IntKind.wrap .u8 l[i].1))] ++ (listE l[i].2).1).length ≤ 4611686018427387904 by simp only [List.length_append, List.length_cons, List.length_nil]; omega)]
  simp only [cond_true]
  refine (ih (i + 1, acc ++ ([UInt8.ofNat (Int.toNat (IntKind.wrap .u8 l[i].1))] ++ (listE l[i].2).1)) _ (by simp; omega) (by kernel_rfl) (by simp only [List.length_append, List.length_cons, List.length_nil]; omega)).trans ?_
  simp only [List.flatMap_cons, vB, List.append_assoc, List.cons_append, List.nil_append]
 ·simp only [decide_eq_false (show ¬ (i : Int) < l.length by omega), cond_false]
  rw [List.drop_eq_nil_of_le (by omega)]
  simp
theorem t52 (F : Fns) (N : Nat) (l : List Vol) : runOf F 52 N [vsV l] [] =
 zRe (F 47 [AV.int .i64 ((List.length (List.map (volV false) l) : Nat) : Int)] []) fun v bs => zSt v fun s => zNi bs (loopA (zBy F 52 0 N) (zDe 52 0) (zCt F 52 0 N 0) N { nt := 36, t := [(0, vsV l), (2, AV.str []), (3, AV.str s), (4, AV.int .i64 0)], b := [], r := [], g := [], rd := [], wr := [] }) := by kernel_rfl
def rvoS (l : List Vol) (s : List UInt8) (i : Int) : St := ⟨36, [(0, vsV l), (2, .str []), (3, .str s), (4, .int .i64 i)], [], [], [], [], []⟩
theorem b52 (F : Fns) (N : Nat) (l : List Vol) (s : List UInt8) (i : Int) (KN : St → Res) : zBy F 52 0 N (rvoS l s i) (brk (zCt F 52 0 N 0) KN) =
 bif decide (i < ((List.length (List.map (volV false) l) : Nat) : Int)) then bif decide (0 ≤ i) then zOp (List.map (volV false) l)[Int.toNat i]? fun x => zAg x fun cs => zCo cs fun v r => zIn .i64 v fun n => zCo r fun v r => asSl v fun m fl xs => zNi r (zRe (F 18 [AV.sl m fl xs] []) fun v bs => zTC v fun v r => zSt v fun s_1 => zCo r fun v r => zIn .i64 v fun n => zNi r (zNi bs (bif decide (0 ≤ i) then zOp (List.map (volV false) l)[Int.toNat i]? fun x => zAg x fun cs => zCo cs fun v r => zIn .i64 v fun n => zCo r fun v r => asSl v fun m fl xs => zNi r (zRe (F 47 [AV.int .i64 n] []) fun v bs => zSt v fun s_2 => zNi bs (bif decide (List.length s + List.length s_2 ≤ 4611686018427387904) then bif decide (List.length (s ++ s_2) + List.length s_1 ≤ 4611686018427387904) then KN { nt := 36, t := [(0, vsV l), (2, AV.str []), (3, AV.str (s ++ s_2 ++ s_1)), (4, AV.int .i64 (IntKind.wrap .i64 (i + 1))), (5, AV.str s_1), (13, AV.bool (decide (i < ((List.length (List.map (volV false) l) : Nat) : Int))))], b := [], r := [], g := [], rd := [], wr := [] } else none else none)) else none))) else none else some (AV.str s, []) := by kernel_rfl
theorem x52 (k : Nat) (hk : 66100 ≤ k) (l : List Vol) (hl : l.length ≤ 300) : W k 52 [vsV l] [] = some (.str (volsB l), []) := by
 obtain ⟨k, rfl⟩ := succ1 (show 1 ≤ k by omega)
 rw [W_tree0 (t52 (W k) k l) (by kernel_rfl), List.length_map, x47n k (by omega) l.length, volsB]
 simp only [zRe, zSt, zNi]
 refine loopA_ind (fun a : Nat × List UInt8 => rvoS l a.2 a.1) (fun a => l.length - a.1) (fun a r => a.2.length ≤ 1 + 5000000001 * a.1 → r = some (.str (a.2 ++ (l.drop a.1).flatMap vB), [])) (fun a m ih h1 => ?_) k (0, [UInt8.ofNat l.length]) _ (by simp; omega) (by kernel_rfl) (by simp)
 obtain ⟨i, acc⟩ := a
 simp only at ih h1 ⊢
 rw [b52, List.length_map]
 by_cases hi : i < l.length
 ·rw [getM _ _ _ hi, List.drop_eq_getElem_cons hi, wi (by omega)]
  simp only [decide_eq_true (show (i : Int) < l.length by omega), decide_eq_true (show (0 : Int) ≤ i by omega), zOp, volV, zAg, zCo, zIn, asSl, if_true, zNi, cond_true]
  rw [x18 k (by omega) l[i].2, x47 k (by omega) l[i].1]
  simp only [zRe, zTu, zCo, zSt, zIn, if_true, zNi]
  have hL := listE_len l[i].2
  rw [decide_eq_true (show acc.length + (List.length [UInt8.ofNat (Int.toNat (IntKind.wrap .u8 l[i].1))]) ≤ 4611686018427387904 by simp only [List.length_cons, List.length_nil]; omega)]
  rw [decide_eq_true (show (acc ++ [UInt8.ofNat (Int.toNat (IntKind.wrap .u8 l[i].1))]).length + (listE l[i].2).1.length ≤ 4611686018427387904 by simp only [List.length_append, List.length_cons, List.length_nil]; omega)]
  simp only [cond_true]
  refine (ih (i + 1, acc ++ [UInt8.ofNat (Int.toNat (IntKind.wrap .u8 l[i].1))] ++ (listE l[i].2).1) _ (by simp; omega) (by kernel_rfl) (by simp only [List.length_append, List.length_cons, List.length_nil]; omega)).trans ?_
  simp only [List.flatMap_cons, vB, List.append_assoc, List.cons_append, List.nil_append]
 ·simp only [decide_eq_false (show ¬ (i : Int) < l.length by omega), cond_false]
  rw [List.drop_eq_nil_of_le (by omega)]
  simp
theorem chkW_all (vs : List Vol) : ∀ ws : List Wr, chkW vs ws = 0 → ∀ w ∈ ws, (getB vs w.1 w.2.1).2 = 0 ∧ w.2.2.length ≤ 8
 | [], _ => by simp
 | w :: r, h => by
  rw [chkW] at h
  split at h
  ·rename_i h1; exact absurd h h1
  ·rename_i h1
   split at h
   ·simp at h
   ·rename_i h2
    intro v hv
    rcases List.mem_cons.1 hv with rfl | hv
    ·exact ⟨Classical.not_not.1 h1, by omega⟩
    ·exact chkW_all vs r h v hv
def posOf : List Vol → Int → Nat
 | [], _ => 0
 | v :: r, a => if v.1 = a then 0 else posOf r a + 1
theorem posOf_lt : ∀ (vs : List Vol) (a : Int), 0 < lenOf vs a → posOf vs a < vs.length
 | [], a, h => by simp [lenOf] at h
 | v :: r, a, h => by
  rw [lenOf] at h
  rw [posOf, List.length_cons]
  split
  ·omega
  ·rename_i hn
   rw [if_neg hn] at h
   have := posOf_lt r a h
   omega
theorem pos_lt : ∀ (vs : List Vol) (e : Int), vsOk e vs = true → ∀ a b : Int, 0 < lenOf vs a → 0 < lenOf vs b → a < b → posOf vs a < posOf vs b
 | [], _, _, a, b, h, _, _ => by simp [lenOf] at h
 | v :: r, e, hok, a, b, ha, hb, hab => by
  rw [vsOk, Bool.and_eq_true, decide_eq_true_eq, Bool.and_eq_true] at hok
  have hg : ∀ x, 0 < lenOf r x → v.1 < x := fun x hx => by
   apply Classical.byContradiction
   intro hn
   rw [lenOf_gt r v.1 hok.2.2 x (by omega)] at hx
   omega
  rw [lenOf] at ha hb
  rw [posOf, posOf]
  by_cases h1 : v.1 = a
  ·rw [if_pos h1, if_neg (by omega)]; omega
  ·rw [if_neg h1] at ha ⊢
   have h2 : ¬ v.1 = b := by have := hg a ha; omega
   rw [if_neg h2] at hb ⊢
   have := pos_lt r v.1 hok.2.2 a b ha hb hab
   omega
theorem inc_len : ∀ (l : List Nat) (N : Nat), l.Pairwise (· < ·) → (∀ x ∈ l, x < N) → l.length ≤ N
 | [], N, _, _ => by simp
 | a :: r, N, hp, hb => by
  rw [List.pairwise_cons] at hp
  have ha := hb a (List.mem_cons_self ..)
  have h2 : ∀ m : Nat, ∀ q : List Nat, q.Pairwise (· < ·) → (∀ x ∈ q, m < x ∧ x < N) → q.length ≤ N - 1 - m := by
   intro m q
   induction q generalizing m with
   | nil => intro _ _; simp
   | cons c q ih =>
    intro hq hm
    rw [List.pairwise_cons] at hq
    have hc := hm c (List.mem_cons_self ..)
    have := ih c hq.2 fun x hx => ⟨hq.1 x hx, (hm x (List.mem_cons_of_mem _ hx)).2⟩
    rw [List.length_cons]
    omega
  have := h2 a r hp.2 fun x hx => ⟨hp.1 x hx, hb x (List.mem_cons_of_mem _ hx)⟩
  rw [List.length_cons]
  omega
theorem few (vs : List Vol) (hv : vOk vs = true) (ws : List Wr) (hc : chkW vs ws = 0) (hs : sortedW ws = true) : ws.length ≤ 128 := by
 have hall := chkW_all vs ws hc
 have hok := vOk_vs hv
 have h4 := vOk_len hv
 have hlen : ∀ w ∈ ws, 0 ≤ w.2.1 ∧ w.2.1 < 32 ∧ 0 < lenOf vs w.1 := fun w hw => by
  have h1 := (getB_err vs w.1 w.2.1).1 (hall w hw).1
  have h2 := lenOf_le hok w.1
  omega
 have hkey : (ws.map fun w => posOf vs w.1 * 32 + w.2.1.toNat).Pairwise (· < ·) := by
  rw [List.pairwise_map]
  have hp := (sortedW_iff ws).1 hs
  refine List.Pairwise.imp_of_mem (fun {a b} ha hb hab => ?_) hp
  have hA := hlen a ha
  have hB := hlen b hb
  unfold wless at hab
  rw [decide_eq_true_eq] at hab
  rcases hab with h | ⟨h1, h2⟩
  ·have := pos_lt vs 0 hok a.1 b.1 hA.2.2 hB.2.2 h
   omega
  ·rw [h1]; omega
 have := inc_len _ 128 hkey (fun x hx => by
  obtain ⟨w, hw, rfl⟩ := List.mem_map.1 hx
  have hA := hlen w hw
  have := posOf_lt vs w.1 hA.2.2
  omega)
 rwa [List.length_map] at this
theorem vol_ids {vs : List Vol} (hv : vOk vs = true) {a : Int} (h : 0 < lenOf vs a) : 1 ≤ a ∧ a ≤ 255 := by
 have hok := vOk_vs hv
 have : ∀ (vs : List Vol) (e : Int), vsOk e vs = true → 0 < lenOf vs a → e < a ∧ a ≤ 255 := by
  intro vs
  induction vs with
  | nil => intro e _ h; simp [lenOf] at h
  | cons v r ih =>
   intro e hok h
   rw [vsOk, Bool.and_eq_true, decide_eq_true_eq, Bool.and_eq_true] at hok
   rw [lenOf] at h
   split at h
   ·omega
   ·have := ih v.1 hok.2.2 h; omega
 have := this vs 0 hok h
 omega
theorem chk_wOk {vs : List Vol} (hv : vOk vs = true) {ws : List Wr} (hc : chkE vs ws = 0) (hs : sortedW ws = true) : wOk ws = true := by
 rw [chkE, if_pos hv] at hc
 have h1 := few vs hv ws hc hs
 have hall := chkW_all vs ws hc
 rw [wOk, decide_eq_true h1, hs]
 simp only [Bool.true_and, Bool.not_eq_true', List.any_eq_false]
 intro w hw
 have h2 := (getB_err vs w.1 w.2.1).1 (hall w hw).1
 have h3 := lenOf_le (vOk_vs hv) w.1
 have h4 := vol_ids hv (show 0 < lenOf vs w.1 by omega)
 have h5 := (hall w hw).2
 unfold badW
 rw [Bool.not_eq_true, decide_eq_false_iff_not]
 omega
theorem kept_wOk {vs : List Vol} (hv : vOk vs = true) {ws : List Wr} (h : keptOk ws vs = true) : wOk ws = true := by
 rw [keptOk, Bool.and_eq_true, decide_eq_true_eq] at h
 exact chk_wOk hv h.1 h.2
theorem fits_iff {z : Int} (h : fitsI z = true) : 0 ≤ z ∧ z ≤ 1099511627776 := by
 unfold fitsI at h; rwa [decide_eq_true_eq] at h
def Fi (z : Int) : Prop := 0 ≤ z ∧ z ≤ 1099511627776
structure Rt (n : Nd) : Prop where
 ro : n.ro = 1 ∨ n.ro = 2
 md : 0 ≤ n.md ∧ n.md ≤ 4
 kn : Fi n.kn
 sy : Fi n.sy
 sn : Fi n.sn
 fr : Fi n.fr
 fn : Fi n.fn
 nx : Fi n.nx
 ln : lined n.ln = true
 sq : Fi n.sq
 vs : vOk n.vs = true
 kp : wOk n.kp = true
 al : lined n.al = true
 aq : Fi n.aq
 ch : bOk n.ch = true
 ss : n.ss.length ≤ 2
 sk : ∀ s ∈ n.ss, Fi s.1 ∧ Fi s.2.1 ∧ wOk s.2.2 = true
 cp : wOk n.cp = true
 go : -1 ≤ n.go ∧ n.go ≤ 1000
 qk : ∀ s ∈ n.qs, Fi s.1 ∧ Fi s.2.1 ∧ wOk s.2.2 = true
 qo : wOk n.qo = true
 qf : Fi n.qf
 qt : Fi n.qt
theorem lined_of_none {l : List (Int × Int)} {z : Int} (h : noneOk l z = true) : lined l = true ∧ Fi z := by
 rw [noneOk, Bool.and_eq_true, decide_eq_true_eq, decide_eq_true_eq] at h
 obtain ⟨h1, rfl⟩ := h
 rw [List.length_eq_zero_iff] at h1
 subst h1
 exact ⟨rfl, by unfold Fi; omega⟩
theorem lined_of_placed {l : List (Int × Int)} {z : Int} (h : placedOk l z = true) : lined l = true ∧ Fi z := by
 have hl := placed_line h
 have h2 := line_len hl
 rw [placedOk, Bool.and_eq_true, decide_eq_true_eq] at h
 refine ⟨by rw [lined, hl]; simp, ?_, h.2.2⟩
 have h3 : 0 ≤ lastAt l := by
  unfold lastAt
  rw [List.getD_eq_getElem?_getD, List.getElem?_eq_getElem (show l.length - 1 < l.length by omega)]
  exact line_at hl _ (List.getElem_mem _)
 omega
theorem shs_all (sn sq : Int) (vs : List Vol) (hv : vOk vs = true) (h1 : sn ≤ 1099511627776) (h2 : sq ≤ 1099511627776) : ∀ (l : List Shot) (z : Int), 0 ≤ z → shsOk sn sq vs z l = true → ∀ s ∈ l, Fi s.1 ∧ Fi s.2.1 ∧ wOk s.2.2 = true
 | [], _, _, _ => by simp
 | a :: r, z, hz, h => by
  rw [shsOk, Bool.and_eq_true, Bool.and_eq_true, decide_eq_true_eq] at h
  obtain ⟨⟨g1, g2, g3, g4, _⟩, g5, g6⟩ := h
  intro s hs
  rcases List.mem_cons.1 hs with rfl | hs
  ·exact ⟨by unfold Fi; omega, by unfold Fi; omega, kept_wOk hv g5⟩
  ·exact shs_all sn sq vs hv h1 h2 r a.1 (by omega) g6 s hs
theorem qch_all (x : Int) : ∀ (l : List Shot) (z : Int), qch x z l = true → ∀ s ∈ l, Fi s.1 ∧ Fi s.2.1 ∧ sortedW s.2.2 = true
 | [], _, _ => by simp
 | a :: r, z, h => by
  simp only [qch, Bool.and_eq_true] at h
  obtain ⟨g1, _, _, g4, g5, g6⟩ := h
  intro s hs
  rcases List.mem_cons.1 hs with rfl | hs
  ·exact ⟨fits_iff g1, fits_iff g4, g5⟩
  ·exact qch_all x r a.2.1 g6 s hs
theorem wOk_nil : wOk [] = true := rfl
theorem rt_of {n : Nd} (h : nodeOk n = true) (hcp : n.cp.length ≤ 200) : Rt n := by
 unfold nodeOk at h
 simp only [Bool.and_eq_true] at h
 obtain ⟨hS, hH, hT, hQ⟩ := h
 unfold standsOk at hS
 unfold holdsOk at hH
 unfold shotsOk at hT
 unfold sendsOk at hQ
 simp only [Bool.and_eq_true, decide_eq_true_eq, List.all_cons, List.all_nil] at hS hH hT
 obtain ⟨⟨⟨s1, s2, s3⟩, f1, f2, f3, f4, f5, f6, _⟩, s4⟩ := hS
 obtain ⟨⟨⟨⟨v1, v2⟩, _⟩, _⟩, v3⟩ := hH
 obtain ⟨t1, t2, t3⟩ := hT
 have hl : lined n.ln = true ∧ Fi n.sq := by
  split at s4
  ·rename_i h; exact lined_of_none h
  ·simp only [Bool.and_eq_true] at s4; exact lined_of_placed s4.1.1
 have ha : (lined n.al = true ∧ Fi n.aq) ∧ bOk n.ch = true := by
  split at v3
  ·rename_i h
   refine ⟨lined_of_none h, ?_⟩
   rw [decide_eq_true_eq, List.length_eq_zero_iff] at v3
   rw [v3]; rfl
  ·simp only [Bool.and_eq_true] at v3
   refine ⟨lined_of_placed v3.1.1, ?_⟩
   have := v3.2
   rw [withinOk, Bool.and_eq_true] at this
   exact this.1
 rw [Bool.and_eq_true, Bool.and_eq_true] at hQ
 obtain ⟨q1, q2, q3⟩ := hQ
 have hq : (∀ s ∈ n.qs, Fi s.1 ∧ Fi s.2.1 ∧ wOk s.2.2 = true) ∧ wOk n.qo = true ∧ Fi n.qf ∧ Fi n.qt := by
  split at q2
  ·simp only [Bool.and_eq_true] at q2
   obtain ⟨g1, _, _, g2⟩ := q2
   unfold queueOk at g1
   simp only [Bool.and_eq_true] at g1
   obtain ⟨a1, a2, _, a3, a4, _⟩ := g1
   unfold ableOk at g2
   simp only [Bool.and_eq_true, decide_eq_true_eq, List.all_eq_true] at g2
   refine ⟨fun s hs => ?_, chk_wOk v1 g2.2 a4, fits_iff a2, fits_iff a3⟩
   have := qch_all _ _ _ a1 s hs
   exact ⟨this.1, this.2.1, chk_wOk v1 (g2.1 s hs) this.2.2⟩
  ·simp only [Bool.and_eq_true, decide_eq_true_eq, List.length_eq_zero_iff] at q2
   obtain ⟨a1, a2, a3, a4⟩ := q2
   rw [a1, a2, a3, a4]
   exact ⟨by simp, wOk_nil, by unfold Fi; omega, by unfold Fi; omega⟩
 have hc : wOk n.cp = true ∧ -1 ≤ n.go ∧ n.go ≤ 1000 := by
  split at q1
  ·simp only [Bool.and_eq_true, decide_eq_true_eq] at q1
   refine ⟨q1.1, q1.2.2.1, ?_⟩
   have := q1.2.2.2
   unfold partsN at this
   omega
  ·rename_i hm
   rw [decide_eq_false hm, Bool.false_or, Bool.and_eq_true, Bool.and_eq_true, decide_eq_true_eq, decide_eq_true_eq, List.length_eq_zero_iff] at q3
   rw [q3.1, q3.2.1]
   exact ⟨wOk_nil, by omega, by omega⟩
 exact ⟨s1, ⟨s2, s3⟩, fits_iff f1, fits_iff f2, fits_iff f3, fits_iff f4, fits_iff f5, fits_iff f6, hl.1, hl.2, v1, kept_wOk v1 v2, ha.1.1, ha.1.2, ha.2, t2, shs_all n.sn n.sq n.vs v1 (fits_iff f3).2 hl.2.2 n.ss 0 (by omega) t1, hc.1, hc.2, hq.1, hq.2.1, hq.2.2.1, hq.2.2.2⟩
def shB (s : Shot) : List UInt8 := be8 s.1 ++ be8 s.2.1 ++ putW s.2.2
def hdB (n : Nd) : List UInt8 := [UInt8.ofNat n.ro.toNat] ++ flB n.st ++ flB n.va ++ flB n.sh ++ flB n.fu ++ [UInt8.ofNat n.md.toNat] ++ be8 n.kn ++ be8 n.sq ++ be8 n.sn ++ be8 n.sy ++ be8 (n.go + 1) ++ be8 n.fr ++ be8 n.fn ++ be8 n.nx ++ putL n.ln ++ putL n.al ++ be8 n.aq ++ putB n.ch ++ volsB n.vs ++ putW n.kp ++ [UInt8.ofNat n.ss.length]
def nodeB (n : Nd) : List UInt8 := hdB n ++ n.ss.flatMap shB ++ putW n.cp ++ be 2 n.qs.length ++ n.qs.flatMap shB ++ putW n.qo ++ be8 n.qf ++ be8 n.qt
theorem chain_sm : ∀ (l : List (Int × Int)) (e a : Int), chain e a l = true → Sm l
 | [], _, _, _ => by intro b hb; simp at hb
 | c :: r, e, a, h => by
  rw [chain, Bool.and_eq_true, decide_eq_true_eq] at h
  intro b hb
  rcases List.mem_cons.1 hb with rfl | hb
  ·omega
  ·exact chain_sm r c.1 c.2 h.2 b hb
theorem lined_sm {l : List (Int × Int)} (h : lined l = true) : Sm l ∧ l.length ≤ 64 := by
 cases l with
 | nil => exact ⟨by intro b hb; simp at hb, by simp⟩
 | cons c r =>
  have h' : lineOk (c :: r) = true := by simpa [lined] using h
  have h2 := line_len h'
  rw [lineOk, Bool.and_eq_true, Bool.and_eq_true] at h'
  exact ⟨chain_sm _ 0 0 h'.2.2, h2.2⟩
theorem x50 (k : Nat) (hk : 1200 ≤ k) {l : List (Int × Int)} (h : lined l = true) : W k 50 [lnV l] [] = some (.str (putL l), []) := W_old0 (e19' k (.inl ⟨false, rfl⟩) (by have := (lined_sm h).2; omega) (lined_sm h).1 (by have := (lined_sm h).2; omega)) (by omega) (by kernel_rfl)
theorem x51 (k : Nat) (hk : 1200 ≤ k) {l : List (Int × Int)} (h : bOk l = true) (hu : UM l) : W k 51 [btsV l] [] = some (.str (putB l), []) := W_old0 (e63' k (.inl ⟨false, rfl⟩) hu (by have := bOk_length h; omega) h) (by omega) (by kernel_rfl)
theorem x53 (k : Nat) (hk : 1200 ≤ k) {l : List Wr} (h : wOk l = true) : W k 53 [wsV l] [] = some (.str (putW l), []) := W_old0 (e13' k (.inl ⟨false, rfl⟩) (by omega) h) (by omega) (by kernel_rfl)
theorem x47i (k : Nat) (hk : 1 ≤ k) (z : Int) (h0 : 0 ≤ z) : W k 47 [.int .i64 z] [] = some (.str [UInt8.ofNat z.toNat], []) := by
 have := x47n k hk z.toNat
 rwa [show ((z.toNat : Nat) : Int) = z by omega] at this
theorem putL_le {l : List (Int × Int)} (h : lined l = true) : (putL l).length ≤ 2000 := by
 have := putL_length l
 have := (lined_sm h).2
 omega
theorem putW_le {l : List Wr} (h : wOk l = true) : (putW l).length ≤ 2000 := by
 have := putW_length h
 rw [wOk, Bool.and_eq_true, decide_eq_true_eq] at h
 omega
theorem putB_le {l : List (Int × Int)} (h : bOk l = true) : (putB l).length ≤ 2000 := by
 have := bOk_length h
 have e : ∀ l : List (Int × Int), (l.flatMap btB).length = 5 * l.length := by
  intro l
  induction l with
  | nil => rfl
  | cons b r ih => rw [List.flatMap_cons, List.length_append, ih]; simp [btB, be]; omega
 rw [putB, List.length_cons, e]
 omega
theorem volsB_le {vs : List Vol} (h : vOk vs = true) : (volsB vs).length ≤ 30000000000 := by
 have h4 := vOk_len h
 have e : ∀ l : List Vol, (l.flatMap vB).length ≤ 5000000001 * l.length := by
  intro l
  induction l with
  | nil => simp
  | cons b r ih =>
   have := listE_len b.2
   rw [List.flatMap_cons, List.length_append, List.length_cons, vB, List.length_cons]
   omega
 have := e vs
 rw [volsB, List.length_cons]
 omega
theorem flB_len (b : Bool) : (flB b).length = 1 := rfl
theorem t12 (F : Fns) (N : Nat) (n : Nd) : runOf F 12 N [.agg (ndL n)] [] =
 zRe (F 47 [AV.int .i64 (Nd.ro n)] []) fun v bs => zSt v fun s => zNi bs (zRe (F 48 [AV.bool (Nd.st n)] []) fun v bs => zSt v fun s_1 => zNi bs (bif decide (List.length s + List.length s_1 ≤ 4611686018427387904) then zRe (F 48 [AV.bool (Nd.va n)] []) fun v bs => zSt v fun s_2 => zNi bs (bif decide (List.length (s ++ s_1) + List.length s_2 ≤ 4611686018427387904) then zRe (F 48 [AV.bool (Nd.sh n)] []) fun v bs => zSt v fun s_3 => zNi bs (bif decide (List.length (s ++ s_1 ++ s_2) + List.length s_3 ≤ 4611686018427387904) then zRe (F 48 [AV.bool (Nd.fu n)] []) fun v bs => zSt v fun s_4 => zNi bs (bif decide (List.length (s ++ s_1 ++ s_2 ++ s_3) + List.length s_4 ≤ 4611686018427387904) then zRe (F 47 [AV.int .i64 (Nd.md n)] []) fun v bs => zSt v fun s_5 => zNi bs (bif decide (List.length (s ++ s_1 ++ s_2 ++ s_3 ++ s_4) + List.length s_5 ≤ 4611686018427387904) then zRe (F 49 [AV.int .i64 (Nd.kn n)] []) fun v bs => zSt v fun s_6 => zNi bs (bif decide (List.length (s ++ s_1 ++ s_2 ++ s_3 ++ s_4 ++ s_5) + List.length s_6 ≤ 4611686018427387904) then zRe (F 49 [AV.int .i64 (Nd.sq n)] []) fun v bs => zSt v fun s_7 => zNi bs (bif decide (List.length (s ++ s_1 ++ s_2 ++ s_3 ++ s_4 ++ s_5 ++ s_6) + List.length s_7 ≤ 4611686018427387904) then zRe (F 49 [AV.int .i64 (Nd.sn n)] []) fun v bs => zSt v fun s_8 => zNi bs (bif decide (List.length (s ++ s_1 ++ s_2 ++ s_3 ++ s_4 ++ s_5 ++ s_6 ++ s_7) + List.length s_8 ≤ 4611686018427387904) then zRe (F 49 [AV.int .i64 (Nd.sy n)] []) fun v bs => zSt v fun s_9 => zNi bs (bif decide (List.length (s ++ s_1 ++ s_2 ++ s_3 ++ s_4 ++ s_5 ++ s_6 ++ s_7 ++ s_8) + List.length s_9 ≤ 4611686018427387904) then zRe (F 49 [AV.int .i64 (IntKind.wrap .i64 (Nd.go n + 1))] []) fun v bs => zSt v fun s_10 => zNi bs (bif decide (List.length (s ++ s_1 ++ s_2 ++ s_3 ++ s_4 ++ s_5 ++ s_6 ++ s_7 ++ s_8 ++ s_9) + List.length s_10 ≤ 4611686018427387904) then zRe (F 49 [AV.int .i64 (Nd.fr n)] []) fun v bs => zSt v fun s_11 => zNi bs (bif decide (List.length (s ++ s_1 ++ s_2 ++ s_3 ++ s_4 ++ s_5 ++ s_6 ++ s_7 ++ s_8 ++ s_9 ++ s_10) + List.length s_11 ≤ 4611686018427387904) then zRe (F 49 [AV.int .i64 (Nd.fn n)] []) fun v bs => zSt v fun s_12 => zNi bs (bif decide (List.length (s ++ s_1 ++ s_2 ++ s_3 ++ s_4 ++ s_5 ++ s_6 ++ s_7 ++ s_8 ++ s_9 ++ s_10 ++ s_11) + List.length s_12 ≤ 4611686018427387904) then zRe (F 49 [AV.int .i64 (Nd.nx n)] []) fun v bs => zSt v fun s_13 => zNi bs (bif decide (List.length (s ++ s_1 ++ s_2 ++ s_3 ++ s_4 ++ s_5 ++ s_6 ++ s_7 ++ s_8 ++ s_9 ++ s_10 ++ s_11 ++ s_12) + List.length s_13 ≤ 4611686018427387904) then zRe (F 50 [lnV (Nd.ln n)] []) fun v bs => zSt v fun s_14 => zNi bs (bif decide (List.length (s ++ s_1 ++ s_2 ++ s_3 ++ s_4 ++ s_5 ++ s_6 ++ s_7 ++ s_8 ++ s_9 ++ s_10 ++ s_11 ++ s_12 ++ s_13) + List.length s_14 ≤ 4611686018427387904) then zRe (F 50 [lnV (Nd.al n)] []) fun v bs => zSt v fun s_15 => zNi bs (bif decide (List.length (s ++ s_1 ++ s_2 ++ s_3 ++ s_4 ++ s_5 ++ s_6 ++ s_7 ++ s_8 ++ s_9 ++ s_10 ++ s_11 ++ s_12 ++ s_13 ++ s_14) + List.length s_15 ≤ 4611686018427387904) then zRe (F 49 [AV.int .i64 (Nd.aq n)] []) fun v bs => zSt v fun s_16 => zNi bs (bif decide (List.length (s ++ s_1 ++ s_2 ++ s_3 ++ s_4 ++ s_5 ++ s_6 ++ s_7 ++ s_8 ++ s_9 ++ s_10 ++ s_11 ++ s_12 ++ s_13 ++ s_14 ++ s_15) + List.length s_16 ≤ 4611686018427387904) then zRe (F 51 [btsV (Nd.ch n)] []) fun v bs => zSt v fun s_17 => zNi bs (bif decide (List.length (s ++ s_1 ++ s_2 ++ s_3 ++ s_4 ++ s_5 ++ s_6 ++ s_7 ++ s_8 ++ s_9 ++ s_10 ++ s_11 ++ s_12 ++ s_13 ++ s_14 ++ s_15 ++ s_16) + List.length s_17 ≤ 4611686018427387904) then zRe (F 52 [vsV (Nd.vs n)] []) fun v bs => zSt v fun s_18 => zNi bs (bif decide (List.length (s ++ s_1 ++ s_2 ++ s_3 ++ s_4 ++ s_5 ++ s_6 ++ s_7 ++ s_8 ++ s_9 ++ s_10 ++ s_11 ++ s_12 ++ s_13 ++ s_14 ++ s_15 ++ s_16 ++ s_17) + List.length s_18 ≤ 4611686018427387904) then zRe (F 53 [wsV (Nd.kp n)] []) fun v bs => zSt v fun s_19 => zNi bs (bif decide (List.length (s ++ s_1 ++ s_2 ++ s_3 ++ s_4 ++ s_5 ++ s_6 ++ s_7 ++ s_8 ++ s_9 ++ s_10 ++ s_11 ++ s_12 ++ s_13 ++ s_14 ++ s_15 ++ s_16 ++ s_17 ++ s_18) + List.length s_19 ≤ 4611686018427387904) then zRe (F 47 [AV.int .i64 ((List.length (List.map shV (Nd.ss n)) : Nat) : Int)] []) fun v bs => zSt v fun s_20 => zNi bs (bif decide (List.length (s ++ s_1 ++ s_2 ++ s_3 ++ s_4 ++ s_5 ++ s_6 ++ s_7 ++ s_8 ++ s_9 ++ s_10 ++ s_11 ++ s_12 ++ s_13 ++ s_14 ++ s_15 ++ s_16 ++ s_17 ++ s_18 ++ s_19) + List.length s_20 ≤ 4611686018427387904) then loopA (zBy F 12 0 N) (zDe 12 0) (zCt F 12 0 N 0) N { nt := 182, t := [(0, AV.agg (ndL n)), (1, AV.ptr 1 0 0), (2, AV.str (Array.toList (ByteArray.data { data := #[] }))), (3, AV.str (s ++ s_1 ++ s_2 ++ s_3 ++ s_4 ++ s_5 ++ s_6 ++ s_7 ++ s_8 ++ s_9 ++ s_10 ++ s_11 ++ s_12 ++ s_13 ++ s_14 ++ s_15 ++ s_16 ++ s_17 ++ s_18 ++ s_19 ++ s_20)), (4, AV.int .i64 0)], b := [(1, (ndL n))], r := [], g := [], rd := [], wr := [] } else none) else none) else none) else none) else none) else none) else none) else none) else none) else none) else none) else none) else none) else none) else none) else none) else none) else none) else none) else none)) := by kernel_rfl
def reS (n : Nd) (s : List UInt8) (i : Int) : St := ⟨182, [(0, .agg (ndL n)), (1, .ptr 1 0 0), (2, .str []), (3, .str s), (4, .int .i64 i)], [(1, ndL n)], [], [], [], []⟩
theorem head12 (k : Nat) (hk : 66200 ≤ k) (n : Nd) (hr : Rt n) (hu : UM n.ch) : runOf (W k) 12 k [.agg (ndL n)] [] = loopA (zBy (W k) 12 0 k) (zDe 12 0) (zCt (W k) 12 0 k 0) k (reS n (hdB n) 0) := by
 have a1 := hr.kn.2
 have a2 := hr.sq.2
 have a3 := hr.sn.2
 have a4 := hr.sy.2
 have a5 := hr.go
 have a6 := hr.fr.2
 have a7 := hr.fn.2
 have a8 := hr.nx.2
 have a9 := hr.aq.2
 have b1 := be8_length n.kn
 have b2 := be8_length n.sq
 have b3 := be8_length n.sn
 have b4 := be8_length n.sy
 have b5 := be8_length (n.go + 1)
 have b6 := be8_length n.fr
 have b7 := be8_length n.fn
 have b8 := be8_length n.nx
 have b9 := be8_length n.aq
 have c1 := putL_le hr.ln
 have c2 := putL_le hr.al
 have c3 := putB_le hr.ch
 have c4 := volsB_le hr.vs
 have c5 := putW_le hr.kp
 rw [t12, List.length_map, x47i k (by omega) n.ro (by have := hr.ro; omega), x48 k (by omega), x48 k (by omega), x48 k (by omega), x48 k (by omega), x47i k (by omega) n.md hr.md.1, x49 k (by omega) n.kn (by omega), x49 k (by omega) n.sq (by omega), x49 k (by omega) n.sn (by omega), x49 k (by omega) n.sy (by omega), wrap_small (n := n.go + 1) (by omega) (by omega), x49 k (by omega) (n.go + 1) (by omega), x49 k (by omega) n.fr (by omega), x49 k (by omega) n.fn (by omega), x49 k (by omega) n.nx (by omega), x50 k (by omega) hr.ln, x50 k (by omega) hr.al, x49 k (by omega) n.aq (by omega), x51 k (by omega) hr.ch hu, x52 k (by omega) n.vs (by have := vOk_len hr.vs; omega), x53 k (by omega) hr.kp, x47n k (by omega) n.ss.length]
 simp (disch := omega) only [zRe, zSt, zNi, decide_eq_true, cond_true, List.length_append, List.length_cons, List.length_nil, flB_len]
 rfl
end Go.AM.YtnhfjkckgicidaaGreat
