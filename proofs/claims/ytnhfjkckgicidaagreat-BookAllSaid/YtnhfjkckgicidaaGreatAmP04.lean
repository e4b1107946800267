/- Writes: what may be written (msg.writable, ref17.Writable): what they answer, plain. -/
import Derived.Test.YtnhfjkckgicidaaGreatAmP03
set_option linter.unusedVariables false
set_option linter.unusedSimpArgs false
namespace Go.AM.YtnhfjkckgicidaaGreat
open Go.AM Go.Proofs Go
abbrev Wr := Int × Int × List UInt8
def wrV (w : Wr) : AV := .agg [.int .i64 w.1, .int .i64 w.2.1, .str w.2.2]
def wless (a b : Wr) : Bool := decide (a.1 < b.1 ∨ a.1 = b.1 ∧ a.2.1 < b.2.1)
def sortedW : List Wr → Bool
 | a :: b :: r => wless a b && sortedW (b :: r)
 | _ => true
def badW (w : Wr) : Bool := decide (w.1 < 1 ∨ w.1 > 255 ∨ w.2.1 < 0 ∨ w.2.1 ≥ 32 ∨ (w.2.2.length : Int) > 8)
def wOk (l : List Wr) : Bool := decide (l.length ≤ 128) && (sortedW l && !(l.any badW))
theorem getWr (l : List Wr) (i : Nat) (h : i < l.length) : (l.map wrV)[Int.toNat (i : Int)]? = some (.agg [.int .i64 (l[i]).1, .int .i64 (l[i]).2.1, .str (l[i]).2.2]) := by
 rw [Int.toNat_natCast, List.getElem?_map, List.getElem?_eq_getElem h]
 rfl
theorem nan_tree (F : Fns) (N : Nat) (a : Int) : runOf F 153 N [.int .i64 a] [] =
 some (AV.bool (a != a), []) := by kernel_rfl
theorem e132 (k : Nat) (hk : 1 ≤ k) (a : Int) : evF pr k 153 [.int .i64 a] [] = some (.bool false, []) := by
 obtain ⟨k, rfl⟩ : ∃ m, k = m + 1 := ⟨k - 1, by omega⟩
 rw [ev_step _ _ _ _ (by kernel_rfl), nan_tree, show (a != a) = false by simp]
theorem compare_tree (F : Fns) (N : Nat) (a b : Int) : runOf F 152 N [.int .i64 a, .int .i64 b] [] =
 zRe (F 153 [AV.int .i64 a] []) fun v bs => zBo v fun b_1 => zNi bs (zRe (F 153 [AV.int .i64 b] []) fun v bs => zBo v fun b_2 => zNi bs (bif b_1 then bif b_2 then some (AV.int .i64 0, []) else some (AV.int .i64 (-1), []) else bif b_2 then some (AV.int .i64 1, []) else bif decide (a < b) then some (AV.int .i64 (-1), []) else bif decide (a > b) then some (AV.int .i64 1, []) else some (AV.int .i64 0, []))) := by kernel_rfl
def cmpI (a b : Int) : Int := if a < b then -1 else if a > b then 1 else 0
theorem e122 (k : Nat) (hk : 2 ≤ k) (a b : Int) : evF pr k 152 [.int .i64 a, .int .i64 b] [] = some (.int .i64 (cmpI a b), []) := by
 obtain ⟨k, rfl⟩ : ∃ m, k = m + 1 := ⟨k - 1, by omega⟩
 rw [ev_step _ _ _ _ (by kernel_rfl), compare_tree, e132 k (by omega), e132 k (by omega)]
 simp only [zRe, zBo, zNi, cond_false, cmpI]
 by_cases h1 : a < b
 ·rw [decide_eq_true h1, if_pos h1]; rfl
 by_cases h2 : a > b
 ·rw [decide_eq_false h1, if_neg h1, decide_eq_true h2, if_pos h2]; rfl
 ·rw [decide_eq_false h1, if_neg h1, decide_eq_false h2, if_neg h2]; rfl
def orV : List Int → Int
 | [] => 0
 | n :: r => if n = 0 then orV r else n
def orS (fl : Bool) (xs : List AV) (len i : Int) : St := ⟨18, [(0, AV.sl 1 fl xs), (2, AV.int .i64 0), (3, AV.int .i64 0), (6, AV.sl 1 fl xs), (7, AV.int .i64 len), (8, AV.int .i64 i)], [], [], [], [], []⟩
theorem or_body (F : Fns) (N : Nat) (fl : Bool) (xs : List AV) (len i : Int) (KN : St → Res) : zBy F 151 0 N (orS fl xs len i) (brk (zCt F 151 0 N 0) KN) =
 bif decide (i < len) then bif decide (0 ≤ i) then zOp xs[Int.toNat i]? fun x => zIn .i64 x fun n => bif n != 0 then some (AV.int .i64 n, []) else KN { nt := 18, t := [(0, AV.sl 1 fl xs), (2, AV.int .i64 0), (3, AV.int .i64 0), (5, AV.int .i64 n), (6, AV.sl 1 fl xs), (7, AV.int .i64 len), (8, AV.int .i64 (IntKind.wrap .i64 (i + 1))), (9, AV.bool (decide (i < len))), (14, AV.bool (n != 0))], b := [], r := [], g := [], rd := [], wr := [] } else none else some (AV.int .i64 0, []) := by kernel_rfl
theorem or_tree (F : Fns) (N : Nat) (fl : Bool) (xs : List AV) : runOf F 151 N [.sl 1 fl xs] [] =
 loopA (zBy F 151 0 N) (zDe 151 0) (zCt F 151 0 N 0) N { nt := 18, t := [(0, AV.sl 1 fl xs), (2, AV.int .i64 0), (3, AV.int .i64 0), (6, AV.sl 1 fl xs), (7, AV.int .i64 (xs.length : Int)), (8, AV.int .i64 0)], b := [], r := [], g := [], rd := [], wr := [] } := by kernel_rfl
theorem or_loop (F : Fns) (N : Nat) (fl : Bool) (ns : List Int) (hl : ns.length ≤ 1000) : ∀ (dd i m : Nat) (st : St), i + dd = ns.length → dd < m → st.clean (zDe 151 0) = orS fl (ns.map (AV.int .i64)) ns.length i →
  loopA (zBy F 151 0 N) (zDe 151 0) (zCt F 151 0 N 0) m st = some (.int .i64 (orV (ns.drop i)), []) := by
 intro dd
 induction dd with
 | zero =>
  intro i m st hi hm hst
  obtain ⟨m, rfl⟩ : ∃ m', m = m' + 1 := ⟨m - 1, by omega⟩
  have : i = ns.length := by omega
  subst this
  rw [loopA_succ, hst, or_body, decide_eq_false (by omega), List.drop_length]
  rfl
 | succ dd ih =>
  intro i m st hi hm hst
  obtain ⟨m, rfl⟩ : ∃ m', m = m' + 1 := ⟨m - 1, by omega⟩
  have hlt : i < ns.length := by omega
  rw [loopA_succ, hst, or_body, decide_eq_true (show (i : Int) < ns.length by omega), decide_eq_true (show (0 : Int) ≤ i by omega), Int.toNat_natCast, List.getElem?_map, List.getElem?_eq_getElem hlt, List.drop_eq_getElem_cons hlt, orV]
  simp only [cond_true, Option.map_some, zOp, zIn, if_true]
  by_cases h : ns[i] = 0
  ·rw [show (ns[i] != 0) = false by simp [h], if_pos h]
   simp only [cond_false]
   rw [wrap_small (n := (i : Int) + 1) (by omega) (by omega)]
   exact ih (i + 1) m _ (by omega) (by omega) (by kernel_rfl)
  ·rw [show (ns[i] != 0) = true by simp [h], if_neg h]
   rfl
theorem order_tree (F : Fns) (N : Nat) (v b v' b' : Int) (s s' : List UInt8) : runOf F 149 N [.agg [.int .i64 v, .int .i64 b, .str s], .agg [.int .i64 v', .int .i64 b', .str s']] [] =
 zRe (F 152 [AV.int .i64 v, AV.int .i64 v'] []) fun v bs => zIn .i64 v fun n => zNi bs (zRe (F 152 [AV.int .i64 b, AV.int .i64 b'] []) fun v bs => zIn .i64 v fun n_1 => zNi bs (zRe (F 151 [AV.sl 1 true [AV.int .i64 n, AV.int .i64 n_1]] []) fun v bs => zIn .i64 v fun n => zNi bs (some (AV.int .i64 n, [])))) := by kernel_rfl
def ordV (a b : Wr) : Int := orV [cmpI a.1 b.1, cmpI a.2.1 b.2.1]
theorem ordV_ge (a b : Wr) : decide (ordV a b ≥ 0) = !wless a b := by
 unfold ordV orV orV orV cmpI wless
 by_cases h1 : a.1 < b.1
 ·simp [h1]
 ·by_cases h2 : a.1 > b.1
  ·have : ¬ a.1 = b.1 := by omega
   simp [h1, h2, this]
  ·have : a.1 = b.1 := by omega
   simp only [this, Int.lt_irrefl, gt_iff_lt, if_false, if_true, false_or, true_and]
   by_cases h3 : a.2.1 < b.2.1
   ·simp [h3]
   ·by_cases h4 : a.2.1 > b.2.1
    ·simp [h3, h4]
    ·simp [h3, h4]
theorem e105 (k : Nat) (hk : 6 ≤ k) (a b : Wr) : evF pr k 149 [.agg [.int .i64 a.1, .int .i64 a.2.1, .str a.2.2], .agg [.int .i64 b.1, .int .i64 b.2.1, .str b.2.2]] [] = some (.int .i64 (ordV a b), []) := by
 obtain ⟨k, rfl⟩ : ∃ m, k = m + 1 := ⟨k - 1, by omega⟩
 rw [ev_step _ _ _ _ (by kernel_rfl), order_tree, e122 k (by omega), e122 k (by omega)]
 simp only [zRe, zIn, if_true, zNi]
 obtain ⟨k, rfl⟩ : ∃ m, k = m + 1 := ⟨k - 1, by omega⟩
 have h : evF pr (k + 1) 151 [.sl 1 true [.int .i64 (cmpI a.1 b.1), .int .i64 (cmpI a.2.1 b.2.1)]] [] = some (.int .i64 (ordV a b), []) := by
  rw [ev_step _ _ _ _ (by kernel_rfl), or_tree]
  exact or_loop (evF pr k) k true [cmpI a.1 b.1, cmpI a.2.1 b.2.1] (by simp) 2 0 k _ rfl (by omega) (by kernel_rfl)
 rw [h]
 rfl
def foldedS (fl : Bool) (xs : List AV) (len i : Int) : St := ⟨25, [(0, AV.sl 3 fl xs), (2, AV.bool false), (5, AV.int .i64 len), (6, AV.int .i64 i)], [], [], [], [], []⟩
theorem folded_tree (F : Fns) (N : Nat) (fl : Bool) (xs : List AV) : runOf F 137 N [.sl 3 fl xs] [] =
 loopA (zBy F 137 0 N) (zDe 137 0) (zCt F 137 0 N 0) N { nt := 25, t := [(0, AV.sl 3 fl xs), (2, AV.bool false), (5, AV.int .i64 (xs.length : Int)), (6, AV.int .i64 0)], b := [], r := [], g := [], rd := [], wr := [] } := by kernel_rfl
theorem folded_body (F : Fns) (N : Nat) (fl : Bool) (xs : List AV) (len i : Int) (KN : St → Res) : zBy F 137 0 N (foldedS fl xs len i) (brk (zCt F 137 0 N 0) KN) =
 bif decide (i < len) then bif decide (i > 0) then bif decide (0 ≤ IntKind.wrap .i64 (i - 1)) then zOp xs[Int.toNat (IntKind.wrap .i64 (i - 1))]? fun x => zAg x fun cs => zCo cs fun v r => zIn .i64 v fun n => zCo r fun v r => zIn .i64 v fun n_1 => zCo r fun v r => zSt v fun s => zNi r (bif decide (0 ≤ i) then zOp xs[Int.toNat i]? fun x => zAg x fun cs => zCo cs fun v r => zIn .i64 v fun n_2 => zCo r fun v r => zIn .i64 v fun n_3 => zCo r fun v r => zSt v fun s_1 => zNi r (zRe (F 149 [AV.agg [AV.int .i64 n, AV.int .i64 n_1, AV.str s], AV.agg [AV.int .i64 n_2, AV.int .i64 n_3, AV.str s_1]] []) fun v bs => zIn .i64 v fun n => zNi bs (bif decide (n ≥ 0) then some (AV.bool false, []) else KN { nt := 25, t := [(0, AV.sl 3 fl xs), (2, AV.bool false), (3, AV.int .i64 i), (5, AV.int .i64 len), (6, AV.int .i64 (IntKind.wrap .i64 (i + 1))), (7, AV.bool (decide (i < len))), (23, AV.bool (decide (n ≥ 0)))], b := [], r := [], g := [], rd := [], wr := [] })) else none) else none else KN { nt := 25, t := [(0, AV.sl 3 fl xs), (2, AV.bool false), (3, AV.int .i64 i), (5, AV.int .i64 len), (6, AV.int .i64 (IntKind.wrap .i64 (i + 1))), (7, AV.bool (decide (i < len))), (23, AV.bool false)], b := [], r := [], g := [], rd := [], wr := [] } else some (AV.bool true, []) := by kernel_rfl
theorem folded_loop (k : Nat) (hk : 6 ≤ k) (fl : Bool) (l : List Wr) (hl : l.length ≤ 100000) : ∀ (dd i m : Nat) (st : St), i + 1 + dd = l.length → dd < m → st.clean (zDe 137 0) = foldedS fl (l.map wrV) l.length ((i + 1 : Nat) : Int) →
  loopA (zBy (evF pr k) 137 0 k) (zDe 137 0) (zCt (evF pr k) 137 0 k 0) m st = some (.bool (sortedW (l.drop i)), []) := by
 intro dd
 induction dd with
 | zero =>
  intro i m st hi hm hst
  obtain ⟨m, rfl⟩ : ∃ m', m = m' + 1 := ⟨m - 1, by omega⟩
  have hlt : i < l.length := by omega
  have : l.drop (i + 1) = [] := List.drop_eq_nil_of_le (by omega)
  rw [loopA_succ, hst, folded_body, decide_eq_false (by omega), List.drop_eq_getElem_cons hlt, this]
  rfl
 | succ dd ih =>
  intro i m st hi hm hst
  obtain ⟨m, rfl⟩ : ∃ m', m = m' + 1 := ⟨m - 1, by omega⟩
  have hlt : i < l.length := by omega
  have hlt1 : i + 1 < l.length := by omega
  have hw : IntKind.wrap .i64 (((i + 1 : Nat) : Int) - 1) = (i : Int) := by rw [wrap_small (by omega) (by omega)]; omega
  rw [loopA_succ, hst, folded_body, decide_eq_true (show (((i + 1 : Nat)) : Int) < l.length by omega), decide_eq_true (show (((i + 1 : Nat)) : Int) > 0 by omega), hw, decide_eq_true (show (0 : Int) ≤ i by omega), decide_eq_true (show (0 : Int) ≤ (i + 1 : Nat) by omega), getWr l i hlt, getWr l (i + 1) hlt1]
  simp only [cond_true, zOp, zAg, zCo, zIn, zSt, if_true, zNi]
  rw [e105 k hk]
  simp only [zRe, zIn, if_true, zNi]
  rw [ordV_ge, List.drop_eq_getElem_cons hlt, List.drop_eq_getElem_cons hlt1, sortedW, show IntKind.wrap .i64 (((i + 1 : Nat) : Int) + 1) = ((i + 1 + 1 : Nat) : Int) by rw [wrap_small (by omega) (by omega)]; omega]
  cases hw : wless l[i] l[i + 1] with
  | false => rfl
  | true =>
   simp only [Bool.not_true, cond_false, Bool.true_and]
   refine (ih (i + 1) m _ (by omega) (by omega) (by kernel_rfl)).trans ?_
   rw [List.drop_eq_getElem_cons hlt1]
theorem e81 (k : Nat) (fl : Bool) (l : List Wr) (hk : 8 + l.length ≤ k) (hl : l.length ≤ 100000) : evF pr k 137 [.sl 3 fl (l.map wrV)] [] = some (.bool (sortedW l), []) := by
 obtain ⟨k, rfl⟩ : ∃ m, k = m + 1 := ⟨k - 1, by omega⟩
 rw [ev_step _ _ _ _ (by kernel_rfl), folded_tree, List.length_map]
 obtain ⟨k', hk'⟩ : ∃ m, k = m + 1 := ⟨k - 1, by omega⟩
 conv => lhs; arg 4; rw [hk']
 rw [loopA_succ]
 refine (folded_body _ _ fl (l.map wrV) l.length 0 _).trans ?_
 cases l with
 | nil => rfl
 | cons b r =>
  rw [decide_eq_true (show (0 : Int) < (((b :: r).length : Nat) : Int) by simp only [List.length_cons]; omega), show decide ((0 : Int) > 0) = false from rfl]
  simp only [cond_true, cond_false]
  simp only [List.length_cons] at hk hl
  exact folded_loop k (by omega) fl (b :: r) (by simpa using hl) r.length 0 k' _ (by simp only [List.length_cons]; omega) (by omega) (by kernel_rfl)
theorem bad1_tree (F : Fns) (N : Nat) (v b : Int) (s : List UInt8) : runOf F 145 N [.agg [.int .i64 v, .int .i64 b, .str s]] [] =
 bif decide (v < 1) then some (AV.bool true, []) else bif decide (v > 255) then some (AV.bool true, []) else bif decide (b < 0) then some (AV.bool true, []) else bif decide (b ≥ 32) then some (AV.bool true, []) else some (AV.bool (decide ((s.length : Int) > 8)), []) := by kernel_rfl
theorem e83 (k : Nat) (hk : 1 ≤ k) (w : Wr) : evF pr k 145 [.agg [.int .i64 w.1, .int .i64 w.2.1, .str w.2.2]] [] = some (.bool (badW w), []) := by
 obtain ⟨k, rfl⟩ : ∃ m, k = m + 1 := ⟨k - 1, by omega⟩
 rw [ev_step _ _ _ _ (by kernel_rfl), bad1_tree]
 by_cases h1 : w.1 < 1
 ·rw [decide_eq_true h1, show badW w = true from decide_eq_true (.inl h1)]; rfl
 by_cases h2 : w.1 > 255
 ·rw [decide_eq_false h1, decide_eq_true h2, show badW w = true from decide_eq_true (.inr (.inl h2))]; rfl
 by_cases h3 : w.2.1 < 0
 ·rw [decide_eq_false h1, decide_eq_false h2, decide_eq_true h3, show badW w = true from decide_eq_true (.inr (.inr (.inl h3)))]; rfl
 by_cases h4 : w.2.1 ≥ 32
 ·rw [decide_eq_false h1, decide_eq_false h2, decide_eq_false h3, decide_eq_true h4, show badW w = true from decide_eq_true (.inr (.inr (.inr (.inl h4))))]; rfl
 rw [decide_eq_false h1, decide_eq_false h2, decide_eq_false h3, decide_eq_false h4, show badW w = decide ((w.2.2.length : Int) > 8) by unfold badW; rw [decide_eq_decide]; omega]
 rfl
def indexS (fl : Bool) (xs : List AV) (len i : Int) : St := ⟨19, [(0, AV.sl 3 fl xs), (1, AV.fn 145), (4, AV.int .i64 0), (7, AV.int .i64 len), (8, AV.int .i64 i)], [], [], [], [], []⟩
theorem index_tree (F : Fns) (N : Nat) (fl : Bool) (xs : List AV) : runOf F 150 N [.sl 3 fl xs, .fn 145] [] =
 loopA (zBy F 150 0 N) (zDe 150 0) (zCt F 150 0 N 0) N { nt := 19, t := [(0, AV.sl 3 fl xs), (1, AV.fn 145), (4, AV.int .i64 0), (7, AV.int .i64 (xs.length : Int)), (8, AV.int .i64 0)], b := [], r := [], g := [], rd := [], wr := [] } := by kernel_rfl
theorem index_body (F : Fns) (N : Nat) (fl : Bool) (xs : List AV) (len i : Int) (KN : St → Res) : zBy F 150 0 N (indexS fl xs len i) (brk (zCt F 150 0 N 0) KN) =
 bif decide (i < len) then bif decide (0 ≤ i) then zOp xs[Int.toNat i]? fun x => zAg x fun cs => zCo cs fun v r => zIn .i64 v fun n => zCo r fun v r => zIn .i64 v fun n_1 => zCo r fun v r => zSt v fun s => zNi r (zRe (F 145 [AV.agg [AV.int .i64 n, AV.int .i64 n_1, AV.str s]] []) fun v bs => zBo v fun b => zNi bs (bif b then some (AV.int .i64 i, []) else KN { nt := 19, t := [(0, AV.sl 3 fl xs), (1, AV.fn 145), (4, AV.int .i64 0), (5, AV.int .i64 i), (7, AV.int .i64 len), (8, AV.int .i64 (IntKind.wrap .i64 (i + 1))), (9, AV.bool (decide (i < len))), (16, AV.bool b)], b := [], r := [], g := [], rd := [], wr := [] })) else none else some (AV.int .i64 (-1), []) := by kernel_rfl
theorem index_loop (k : Nat) (hk : 1 ≤ k) (fl : Bool) (l : List Wr) (hl : l.length ≤ 100000) : ∀ (dd i m : Nat) (st : St), i + dd = l.length → dd < m → st.clean (zDe 150 0) = indexS fl (l.map wrV) l.length i →
  ∃ z, loopA (zBy (evF pr k) 150 0 k) (zDe 150 0) (zCt (evF pr k) 150 0 k 0) m st = some (.int .i64 z, []) ∧ decide (z ≥ 0) = (l.drop i).any badW := by
 intro dd
 induction dd with
 | zero =>
  intro i m st hi hm hst
  obtain ⟨m, rfl⟩ : ∃ m', m = m' + 1 := ⟨m - 1, by omega⟩
  have : l.drop i = [] := List.drop_eq_nil_of_le (by omega)
  rw [loopA_succ, hst, index_body, decide_eq_false (by omega), this]
  exact ⟨-1, rfl, rfl⟩
 | succ dd ih =>
  intro i m st hi hm hst
  obtain ⟨m, rfl⟩ : ∃ m', m = m' + 1 := ⟨m - 1, by omega⟩
  have hlt : i < l.length := by omega
  rw [loopA_succ, hst, index_body, decide_eq_true (show (i : Int) < l.length by omega), decide_eq_true (show (0 : Int) ≤ i by omega), getWr l i hlt, List.drop_eq_getElem_cons hlt, List.any_cons]
  simp only [cond_true, zOp, zAg, zCo, zIn, zSt, if_true, zNi]
  rw [e83 k hk]
  simp only [zRe, zBo, zNi]
  cases badW l[i] with
  | true => exact ⟨i, rfl, by simp⟩
  | false =>
   simp only [cond_false, Bool.false_or]
   rw [wrap_small (n := (i : Int) + 1) (by omega) (by omega)]
   exact ih (i + 1) m _ (by omega) (by omega) (by kernel_rfl)
theorem contains_tree (F : Fns) (N : Nat) (fl : Bool) (xs : List AV) : runOf F 144 N [.sl 3 fl xs, .fn 145] [] =
 zRe (F 150 [AV.sl 3 fl xs, AV.fn 145] []) fun v bs => zIn .i64 v fun n => zNi bs (some (AV.bool (decide (n ≥ 0)), [])) := by kernel_rfl
theorem e82 (k : Nat) (fl : Bool) (l : List Wr) (hk : 4 + l.length ≤ k) (hl : l.length ≤ 100000) : evF pr k 144 [.sl 3 fl (l.map wrV), .fn 145] [] = some (.bool (l.any badW), []) := by
 obtain ⟨k, rfl⟩ : ∃ m, k = m + 2 := ⟨k - 2, by omega⟩
 rw [ev_step _ _ _ _ (by kernel_rfl), contains_tree, ev_step _ _ _ _ (by kernel_rfl), index_tree, List.length_map]
 obtain ⟨z, h1, h2⟩ := index_loop k (by omega) fl l hl l.length 0 k ⟨19, [(0, AV.sl 3 fl (l.map wrV)), (1, AV.fn 145), (4, AV.int .i64 0), (7, AV.int .i64 l.length), (8, AV.int .i64 0)], [], [], [], [], []⟩ (Nat.zero_add _) (by omega) (by kernel_rfl)
 rw [List.drop_zero] at h2
 rw [← h2]
 refine (congrArg (fun x => zRe x _) h1).trans ?_
 rfl
theorem writable_tree (F : Fns) (N : Nat) (fl : Bool) (xs : List AV) : runOf F 121 N [.sl 3 fl xs] [] =
 bif decide ((xs.length : Int) ≤ 128) then zRe (F 137 [AV.sl 3 fl xs] []) fun v bs => zBo v fun b => zNi bs (bif b then zRe (F 144 [AV.sl 3 fl xs, AV.fn 145] []) fun v bs => zBo v fun b => zNi bs (some (AV.bool !b, [])) else some (AV.bool false, [])) else some (AV.bool false, []) := by kernel_rfl
theorem e36 (k : Nat) (fl : Bool) (l : List Wr) (hk : 140 ≤ k) : evF pr k 121 [.sl 3 fl (l.map wrV)] [] = some (.bool (wOk l), []) := by
 obtain ⟨k, rfl⟩ : ∃ m, k = m + 1 := ⟨k - 1, by omega⟩
 rw [ev_step _ _ _ _ (by kernel_rfl), writable_tree, List.length_map, wOk]
 by_cases h : l.length ≤ 128
 ·rw [decide_eq_true (show ((l.length : Nat) : Int) ≤ 128 by omega), decide_eq_true h, e81 k fl l (by omega) (by omega), e82 k fl l (by omega) (by omega)]
  cases sortedW l with
  | false => rfl
  | true => rfl
 ·rw [decide_eq_false (show ¬ ((l.length : Nat) : Int) ≤ 128 by omega), decide_eq_false h]
  rfl
theorem e36nil (k : Nat) : evF pr (k + 6) 121 [.sl 0 true []] [] = some (.bool true, []) := by kernel_rfl
open Go.AM Go.Proofs Go
theorem wless_trans {a b c : Wr} (h1 : wless a b = true) (h2 : wless b c = true) : wless a c = true := by
 unfold wless at *
 rw [decide_eq_true_eq] at *
 omega
theorem wless_irrefl (a : Wr) : wless a a = false := by
 unfold wless
 rw [decide_eq_false_iff_not]
 omega
theorem wless_asymm {a b : Wr} (h : wless a b = true) : wless b a = false := by
 unfold wless at *
 rw [decide_eq_true_eq] at h
 rw [decide_eq_false_iff_not]
 omega
theorem sortedW_iff : ∀ l : List Wr, sortedW l = true ↔ l.Pairwise fun a b => wless a b = true
 | [] => by simp [sortedW]
 | [a] => by simp [sortedW]
 | a :: b :: r => by
  rw [sortedW, Bool.and_eq_true, sortedW_iff (b :: r), List.pairwise_cons (a := a)]
  constructor
  ·rintro ⟨h1, h2⟩
   refine ⟨fun c hc => ?_, h2⟩
   rcases List.mem_cons.1 hc with rfl | hc
   ·exact h1
   ·exact wless_trans h1 ((List.pairwise_cons.1 h2).1 c hc)
  ·rintro ⟨h1, h2⟩
   exact ⟨h1 b (List.mem_cons_self ..), h2⟩
def skipW (last : Option Wr) (w : Wr) : Bool := match last with
 | none => false
 | some z => !wless z w
def pick (last : Option Wr) : List Wr → Option Wr → Option Wr
 | [], b => b
 | w :: r, b => if skipW last w then pick last r b else match b with
  | none => pick last r (some w)
  | some x => if wless x w then pick last r (some x) else pick last r (some w)
def foldF : Nat → List Wr → List Wr → Wr → List Wr
 | 0, _, acc, z => acc ++ [z]
 | n + 1, ws, acc, z => match pick (some z) ws none with
  | none => acc ++ [z]
  | some x => foldF n ws (acc ++ [z]) x
def foldAll (ws : List Wr) : List Wr := match pick none ws none with
 | none => []
 | some x => foldF ws.length ws [] x
theorem pick_cons (last : Option Wr) (w : Wr) (r : List Wr) (b : Option Wr) : pick last (w :: r) b = if skipW last w then pick last r b else match b with
  | none => pick last r (some w)
  | some x => if wless x w then pick last r (some x) else pick last r (some w) := by cases b <;> rfl
theorem pick_mem (last : Option Wr) : ∀ (r : List Wr) (b : Option Wr) (x : Wr), pick last r b = some x → b = some x ∨ (x ∈ r ∧ skipW last x = false)
 | [], b, x, h => .inl h
 | w :: r, b, x, h => by
  rw [pick_cons] at h
  split at h
  ·rcases pick_mem last r b x h with h | ⟨h1, h2⟩
   ·exact .inl h
   ·exact .inr ⟨List.mem_cons_of_mem _ h1, h2⟩
  ·rename_i hs
   have hs : skipW last w = false := by simpa using hs
   split at h
   ·rcases pick_mem last r (some w) x h with h | ⟨h1, h2⟩
    ·cases h; exact .inr ⟨List.mem_cons_self .., hs⟩
    ·exact .inr ⟨List.mem_cons_of_mem _ h1, h2⟩
   ·split at h
    ·rcases pick_mem last r _ x h with h | ⟨h1, h2⟩
     ·exact .inl h
     ·exact .inr ⟨List.mem_cons_of_mem _ h1, h2⟩
    ·rcases pick_mem last r (some w) x h with h | ⟨h1, h2⟩
     ·cases h; exact .inr ⟨List.mem_cons_self .., hs⟩
     ·exact .inr ⟨List.mem_cons_of_mem _ h1, h2⟩
theorem pick_append (last : Option Wr) : ∀ (l r : List Wr) (b : Option Wr), pick last (l ++ r) b = pick last r (pick last l b)
 | [], r, b => rfl
 | w :: l, r, b => by
  rw [List.cons_append, pick_cons, pick_cons]
  split
  ·exact pick_append last l r b
  ·split
   ·exact pick_append last l r _
   ·split <;> exact pick_append last l r _
theorem pick_skip (last : Option Wr) : ∀ (l : List Wr) (b : Option Wr), (∀ w ∈ l, skipW last w = true) → pick last l b = b
 | [], b, h => rfl
 | w :: l, b, h => by
  rw [pick_cons, if_pos (h w (List.mem_cons_self ..))]
  exact pick_skip last l b fun v hv => h v (List.mem_cons_of_mem _ hv)
theorem pick_stay (last : Option Wr) (x : Wr) : ∀ (l : List Wr), (∀ w ∈ l, wless x w = true) → pick last l (some x) = some x
 | [], h => rfl
 | w :: l, h => by
  rw [pick_cons]
  have hw := h w (List.mem_cons_self ..)
  have hl := pick_stay last x l fun v hv => h v (List.mem_cons_of_mem _ hv)
  split
  ·exact hl
  ·simp only [hw, if_true, hl]
def cntW (z : Wr) (ws : List Wr) : Nat := ws.countP (wless z)
theorem cntW_le {z x : Wr} (h : wless z x = true) (ws : List Wr) : cntW x ws ≤ cntW z ws :=
 List.countP_mono_left fun w _ hw => wless_trans h hw
theorem cntW_lt {z x : Wr} (h : wless z x = true) : ∀ (ws : List Wr), x ∈ ws → cntW x ws < cntW z ws
 | [], hx => by simp at hx
 | w :: r, hx => by
  have hle := cntW_le h r
  unfold cntW at *
  rw [List.countP_cons, List.countP_cons]
  rcases List.mem_cons.1 hx with rfl | hx
  ·rw [wless_irrefl, h]
   simp
   omega
  ·have := cntW_lt h r hx
   unfold cntW at this
   by_cases hw : wless x w = true
   ·rw [hw, wless_trans h hw]
    simp
    omega
   ·simp only [hw, if_false]
    simp
    omega
theorem foldF_sorted : ∀ (n : Nat) (ws acc : List Wr) (z : Wr), (acc ++ [z]).Pairwise (fun a b => wless a b = true) → (foldF n ws acc z).Pairwise fun a b => wless a b = true
 | 0, ws, acc, z, h => h
 | n + 1, ws, acc, z, h => by
  rw [foldF]
  split
  ·exact h
  ·rename_i x hx
   refine foldF_sorted n ws _ x ?_
   rcases pick_mem _ _ _ _ hx with h0 | ⟨_, h1⟩
   ·simp at h0
   have hz : wless z x = true := by simpa [skipW] using h1
   rw [List.pairwise_append]
   refine ⟨h, by simp, fun a ha b hb => ?_⟩
   rw [List.mem_singleton] at hb
   subst hb
   rcases List.mem_append.1 ha with ha | ha
   ·exact wless_trans ((List.pairwise_append.1 h).2.2 a ha z (by simp)) hz
   ·rw [List.mem_singleton] at ha
    subst ha
    exact hz
theorem foldF_whole : ∀ (post : List Wr) (n : Nat) (ws acc : List Wr) (z : Wr), ws = acc ++ z :: post → ws.Pairwise (fun a b => wless a b = true) → post.length ≤ n → foldF n ws acc z = ws
 | [], n, ws, acc, z, hw, hs, hn => by
  have hp : pick (some z) ws none = none := by
   refine pick_skip _ _ _ fun w hm => ?_
   rw [hw] at hm hs
   rcases List.mem_append.1 hm with hm | hm
   ·have := (List.pairwise_append.1 hs).2.2 w hm z (by simp)
    simp [skipW, wless_asymm this]
   ·simp at hm
    subst hm
    simp [skipW, wless_irrefl]
  cases n with
  | zero => rw [foldF, hw]
  | succ n => rw [foldF, hp, hw]
 | x :: post, n, ws, acc, z, hw, hs, hn => by
  obtain ⟨n, rfl⟩ : ∃ m, n = m + 1 := ⟨n - 1, by simp at hn; omega⟩
  have hp : pick (some z) ws none = some x := by
   rw [hw] at hs
   rw [hw, show acc ++ z :: x :: post = (acc ++ [z]) ++ x :: post by simp, pick_append]
   have hs2 := List.pairwise_append.1 hs
   have hs3 := List.pairwise_cons.1 hs2.2.1
   have hs4 := List.pairwise_cons.1 hs3.2
   rw [pick_skip _ (acc ++ [z]) _ fun w hm => ?_]
   ·rw [pick_cons, if_neg (by simp [skipW, hs3.1 x (by simp)])]
    exact pick_stay _ x post hs4.1
   ·rcases List.mem_append.1 hm with hm | hm
    ·simp [skipW, wless_asymm (hs2.2.2 w hm z (by simp))]
    ·rw [List.mem_singleton] at hm
     subst hm
     simp [skipW, wless_irrefl]
  rw [foldF, hp]
  exact foldF_whole post n ws (acc ++ [z]) x (by rw [hw]; simp) hs (by simp at hn; omega)
theorem foldAll_iff (ws : List Wr) : decide (ws = foldAll ws) = sortedW ws := by
 rw [Bool.eq_iff_iff, decide_eq_true_eq, sortedW_iff]
 constructor
 ·intro h
  rw [h]
  unfold foldAll
  split
  ·simp
  ·exact foldF_sorted _ _ _ _ (by simp)
 ·intro h
  cases ws with
  | nil => rfl
  | cons x r =>
   have hp : pick none (x :: r) none = some x := by
    rw [pick_cons, if_neg (by simp [skipW])]
    exact pick_stay _ x r (List.pairwise_cons.1 h).1
   unfold foldAll
   rw [hp]
   exact (foldF_whole r (x :: r).length (x :: r) [] x rfl h (by simp)).symm
noncomputable def zCb (F : Fns) (f i j n : Nat) (K : Ex → St → Res) : Ex → St → Res := contB F tb sh (fxOf f) n i j K
theorem less_tree (F : Fns) (N : Nat) (v b v' b' : Int) (s s' : List UInt8) : runOf F 122 N [.agg [.int .i64 v, .int .i64 b, .str s], .agg [.int .i64 v', .int .i64 b', .str s']] [] =
 bif decide (v < v') then some (AV.bool true, []) else bif v == v' then some (AV.bool (decide (b < b')), []) else some (AV.bool false, []) := by kernel_rfl
theorem e84 (k : Nat) (hk : 1 ≤ k) (a b : Wr) : evF pr k 122 [.agg [.int .i64 a.1, .int .i64 a.2.1, .str a.2.2], .agg [.int .i64 b.1, .int .i64 b.2.1, .str b.2.2]] [] = some (.bool (wless a b), []) := by
 obtain ⟨k, rfl⟩ : ∃ m, k = m + 1 := ⟨k - 1, by omega⟩
 rw [ev_step _ _ _ _ (by kernel_rfl), less_tree]
 by_cases h1 : a.1 < b.1
 ·rw [decide_eq_true h1, show wless a b = true from decide_eq_true (.inl h1)]; rfl
 rw [decide_eq_false h1]
 by_cases h2 : a.1 = b.1
 ·rw [show (a.1 == b.1) = true by simp [h2], show wless a b = decide (a.2.1 < b.2.1) by unfold wless; rw [decide_eq_decide]; omega]; rfl
 ·rw [show (a.1 == b.1) = false by simp [h2], show wless a b = false by unfold wless; rw [decide_eq_false_iff_not]; omega]; rfl
def foldS (fl : Bool) (xs : List AV) (v : AV) : St := ⟨54, [(0, AV.sl 3 fl xs), (2, AV.sl 0 true []), (3, v)], [], [], [], [], []⟩
def foldI (fl : Bool) (xs : List AV) (v : AV) (best i : Int) : St := ⟨54, [(0, AV.sl 3 fl xs), (2, AV.sl 0 true []), (3, v), (4, AV.int .i64 best), (5, AV.int .i64 i)], [], [], [], [], []⟩
theorem fold_tree (F : Fns) (N : Nat) (fl : Bool) (xs : List AV) : runOf F 77 N [.sl 3 fl xs] [] =
 loopA (zBy F 77 0 N) (zDe 77 0) (zCt F 77 0 N 0) N { nt := 54, t := [(0, AV.sl 3 fl xs), (2, AV.sl 0 true []), (3, AV.sl 0 true [])], b := [], r := [], g := [], rd := [], wr := [] } := by kernel_rfl
theorem fold_body0 (F : Fns) (N : Nat) (fl : Bool) (xs : List AV) (KN : St → Res) : zBy F 77 0 N (foldS fl xs (.sl 0 true [])) (brk (zCt F 77 0 N 0) KN) =
 loopA (zBy F 77 1 N) (zDe 77 1) (zCb F 77 0 0 N (brk (zCt F 77 0 N 0) KN)) N { nt := 54, t := [(0, AV.sl 3 fl xs), (2, AV.sl 0 true []), (3, AV.sl 0 true []), (4, AV.int .i64 (-1)), (5, AV.int .i64 0)], b := [], r := [], g := [], rd := [], wr := [] } := by kernel_rfl
theorem fold_body1 (F : Fns) (N : Nat) (fl : Bool) (xs ys : List AV) (KN : St → Res) : zBy F 77 0 N (foldS fl xs (.tip 53 0 3 ys)) (brk (zCt F 77 0 N 0) KN) =
 loopA (zBy F 77 1 N) (zDe 77 1) (zCb F 77 0 0 N (brk (zCt F 77 0 N 0) KN)) N { nt := 54, t := [(0, AV.sl 3 fl xs), (2, AV.sl 0 true []), (3, AV.tip 53 0 3 ys), (4, AV.int .i64 (-1)), (5, AV.int .i64 0)], b := [], r := [], g := [], rd := [], wr := [] } := by kernel_rfl
theorem fold_in0 (F : Fns) (N : Nat) (fl : Bool) (xs : List AV) (best i : Int) (KO KN : St → Res) : zBy F 77 1 N (foldI fl xs (.sl 0 true []) best i) (brk (zCb F 77 0 0 N (brk (zCt F 77 0 N 0) KO)) KN) =
 bif decide (i < (xs.length : Int)) then bif decide (best < 0) then KN { nt := 54, t := [(0, AV.sl 3 fl xs), (2, AV.sl 0 true []), (3, AV.sl 0 true []), (4, AV.int .i64 i), (5, AV.int .i64 (IntKind.wrap .i64 (i + 1))), (9, AV.bool (decide (i < (xs.length : Int)))), (28, AV.bool false), (42, AV.bool true)], b := [], r := [], g := [], rd := [], wr := [] } else bif decide (0 ≤ best) then zOp xs[Int.toNat best]? fun x => zAg x fun cs => zCo cs fun v r => zIn .i64 v fun n => zCo r fun v r => zIn .i64 v fun n_1 => zCo r fun v r => zSt v fun s => zNi r (bif decide (0 ≤ i) then zOp xs[Int.toNat i]? fun x => zAg x fun cs => zCo cs fun v r => zIn .i64 v fun n_2 => zCo r fun v r => zIn .i64 v fun n_3 => zCo r fun v r => zSt v fun s_1 => zNi r (zRe (F 122 [AV.agg [AV.int .i64 n, AV.int .i64 n_1, AV.str s], AV.agg [AV.int .i64 n_2, AV.int .i64 n_3, AV.str s_1]] []) fun v bs => zBo v fun b => zNi bs (bif !b then KN { nt := 54, t := [(0, AV.sl 3 fl xs), (2, AV.sl 0 true []), (3, AV.sl 0 true []), (4, AV.int .i64 i), (5, AV.int .i64 (IntKind.wrap .i64 (i + 1))), (9, AV.bool (decide (i < (xs.length : Int)))), (28, AV.bool false), (42, AV.bool !b)], b := [], r := [], g := [], rd := [], wr := [] } else KN { nt := 54, t := [(0, AV.sl 3 fl xs), (2, AV.sl 0 true []), (3, AV.sl 0 true []), (4, AV.int .i64 best), (5, AV.int .i64 (IntKind.wrap .i64 (i + 1))), (9, AV.bool (decide (i < (xs.length : Int)))), (28, AV.bool false), (42, AV.bool !b)], b := [], r := [], g := [], rd := [], wr := [] })) else none) else none else bif decide (best < 0) then some (AV.sl 0 true [], []) else bif decide (0 ≤ best) then zOp xs[Int.toNat best]? fun x => zAg x fun cs => zCo cs fun v r => zIn .i64 v fun n => zCo r fun v r => zIn .i64 v fun n_1 => zCo r fun v r => zSt v fun s => zNi r (KO { nt := 54, t := [(0, AV.sl 3 fl xs), (2, AV.sl 0 true []), (3, AV.tip 53 0 3 [AV.agg [AV.int .i64 n, AV.int .i64 n_1, AV.str s]]), (4, AV.int .i64 best), (5, AV.int .i64 i), (9, AV.bool (decide (i < (xs.length : Int)))), (45, AV.bool (decide (best < 0)))], b := [], r := [], g := [], rd := [], wr := [] }) else none := by kernel_rfl
theorem fold_in1 (F : Fns) (N : Nat) (fl : Bool) (xs ys : List AV) (best i : Int) (KO KN : St → Res) : zBy F 77 1 N (foldI fl xs (.tip 53 0 3 ys) best i) (brk (zCb F 77 0 0 N (brk (zCt F 77 0 N 0) KO)) KN) =
 bif decide (i < (xs.length : Int)) then bif decide ((ys.length : Int) > 0) then bif decide (0 ≤ IntKind.wrap .i64 ((ys.length : Int) - 1)) then zOp ys[Int.toNat (IntKind.wrap .i64 ((ys.length : Int) - 1))]? fun x => zAg x fun cs => zCo cs fun v r => zIn .i64 v fun n => zCo r fun v r => zIn .i64 v fun n_1 => zCo r fun v r => zSt v fun s => zNi r (bif decide (0 ≤ i) then zOp xs[Int.toNat i]? fun x => zAg x fun cs => zCo cs fun v r => zIn .i64 v fun n_2 => zCo r fun v r => zIn .i64 v fun n_3 => zCo r fun v r => zSt v fun s_1 => zNi r (zRe (F 122 [AV.agg [AV.int .i64 n, AV.int .i64 n_1, AV.str s], AV.agg [AV.int .i64 n_2, AV.int .i64 n_3, AV.str s_1]] []) fun v bs => zBo v fun b => zNi bs (bif !b then KN { nt := 54, t := [(0, AV.sl 3 fl xs), (2, AV.sl 0 true []), (3, AV.tip 53 0 3 ys), (4, AV.int .i64 best), (5, AV.int .i64 (IntKind.wrap .i64 (i + 1))), (9, AV.bool (decide (i < (xs.length : Int)))), (28, AV.bool !b)], b := [], r := [], g := [], rd := [], wr := [] } else bif decide (best < 0) then KN { nt := 54, t := [(0, AV.sl 3 fl xs), (2, AV.sl 0 true []), (3, AV.tip 53 0 3 ys), (4, AV.int .i64 i), (5, AV.int .i64 (IntKind.wrap .i64 (i + 1))), (9, AV.bool (decide (i < (xs.length : Int)))), (28, AV.bool !b), (42, AV.bool true)], b := [], r := [], g := [], rd := [], wr := [] } else bif decide (0 ≤ best) then zOp xs[Int.toNat best]? fun x => zAg x fun cs => zCo cs fun v r => zIn .i64 v fun n => zCo r fun v r => zIn .i64 v fun n_4 => zCo r fun v r => zSt v fun s => zNi r (bif decide (0 ≤ i) then zOp xs[Int.toNat i]? fun x => zAg x fun cs => zCo cs fun v r => zIn .i64 v fun n_5 => zCo r fun v r => zIn .i64 v fun n_6 => zCo r fun v r => zSt v fun s_2 => zNi r (zRe (F 122 [AV.agg [AV.int .i64 n, AV.int .i64 n_4, AV.str s], AV.agg [AV.int .i64 n_5, AV.int .i64 n_6, AV.str s_2]] []) fun v bs => zBo v fun b_1 => zNi bs (bif !b_1 then KN { nt := 54, t := [(0, AV.sl 3 fl xs), (2, AV.sl 0 true []), (3, AV.tip 53 0 3 ys), (4, AV.int .i64 i), (5, AV.int .i64 (IntKind.wrap .i64 (i + 1))), (9, AV.bool (decide (i < (xs.length : Int)))), (28, AV.bool !b), (42, AV.bool !b_1)], b := [], r := [], g := [], rd := [], wr := [] } else KN { nt := 54, t := [(0, AV.sl 3 fl xs), (2, AV.sl 0 true []), (3, AV.tip 53 0 3 ys), (4, AV.int .i64 best), (5, AV.int .i64 (IntKind.wrap .i64 (i + 1))), (9, AV.bool (decide (i < (xs.length : Int)))), (28, AV.bool !b), (42, AV.bool !b_1)], b := [], r := [], g := [], rd := [], wr := [] })) else none) else none)) else none) else none else bif decide (best < 0) then KN { nt := 54, t := [(0, AV.sl 3 fl xs), (2, AV.sl 0 true []), (3, AV.tip 53 0 3 ys), (4, AV.int .i64 i), (5, AV.int .i64 (IntKind.wrap .i64 (i + 1))), (9, AV.bool (decide (i < (xs.length : Int)))), (28, AV.bool false), (42, AV.bool true)], b := [], r := [], g := [], rd := [], wr := [] } else bif decide (0 ≤ best) then zOp xs[Int.toNat best]? fun x => zAg x fun cs => zCo cs fun v r => zIn .i64 v fun n => zCo r fun v r => zIn .i64 v fun n_1 => zCo r fun v r => zSt v fun s => zNi r (bif decide (0 ≤ i) then zOp xs[Int.toNat i]? fun x => zAg x fun cs => zCo cs fun v r => zIn .i64 v fun n_2 => zCo r fun v r => zIn .i64 v fun n_3 => zCo r fun v r => zSt v fun s_1 => zNi r (zRe (F 122 [AV.agg [AV.int .i64 n, AV.int .i64 n_1, AV.str s], AV.agg [AV.int .i64 n_2, AV.int .i64 n_3, AV.str s_1]] []) fun v bs => zBo v fun b => zNi bs (bif !b then KN { nt := 54, t := [(0, AV.sl 3 fl xs), (2, AV.sl 0 true []), (3, AV.tip 53 0 3 ys), (4, AV.int .i64 i), (5, AV.int .i64 (IntKind.wrap .i64 (i + 1))), (9, AV.bool (decide (i < (xs.length : Int)))), (28, AV.bool false), (42, AV.bool !b)], b := [], r := [], g := [], rd := [], wr := [] } else KN { nt := 54, t := [(0, AV.sl 3 fl xs), (2, AV.sl 0 true []), (3, AV.tip 53 0 3 ys), (4, AV.int .i64 best), (5, AV.int .i64 (IntKind.wrap .i64 (i + 1))), (9, AV.bool (decide (i < (xs.length : Int)))), (28, AV.bool false), (42, AV.bool !b)], b := [], r := [], g := [], rd := [], wr := [] })) else none) else none else bif decide (best < 0) then some (AV.sl 3 false ys, []) else bif decide (0 ≤ best) then zOp xs[Int.toNat best]? fun x => zAg x fun cs => zCo cs fun v r => zIn .i64 v fun n => zCo r fun v r => zIn .i64 v fun n_1 => zCo r fun v r => zSt v fun s => zNi r (bif decide (3 = 3 ∧ fitsB (List.length ys + List.length [AV.agg [AV.int .i64 n, AV.int .i64 n_1, AV.str s]]) 32 = true ∧ List.length ys + List.length [AV.agg [AV.int .i64 n, AV.int .i64 n_1, AV.str s]] ≤ 4611686018427387904) then KO { nt := 54, t := [(0, AV.sl 3 fl xs), (2, AV.sl 0 true []), (3, AV.tip 53 0 3 (ys ++ [AV.agg [AV.int .i64 n, AV.int .i64 n_1, AV.str s]])), (4, AV.int .i64 best), (5, AV.int .i64 i), (9, AV.bool (decide (i < (xs.length : Int)))), (45, AV.bool (decide (best < 0)))], b := [], r := [], g := [], rd := [], wr := [] } else none) else none := by kernel_rfl
def IdxW (ws : List Wr) (b : Option Wr) (bi : Int) : Prop := match b with
 | none => bi = -1
 | some x => ∃ (j : Nat) (h : j < ws.length), bi = j ∧ ws[j] = x
def foldT0 (fl : Bool) (ws : List Wr) (KO : St → Res) (b : Option Wr) (bi : Int) : Res := match b with
 | none => some (.sl 0 true [], [])
 | some x => KO ⟨54, [(0, AV.sl 3 fl (ws.map wrV)), (2, AV.sl 0 true []), (3, AV.tip 53 0 3 [wrV x]), (4, AV.int .i64 bi), (5, AV.int .i64 ws.length), (9, AV.bool false), (45, AV.bool false)], [], [], [], [], []⟩
def foldT1 (fl : Bool) (ws acc : List Wr) (KO : St → Res) (b : Option Wr) (bi : Int) : Res := match b with
 | none => some (.sl 3 false (acc.map wrV), [])
 | some x => KO ⟨54, [(0, AV.sl 3 fl (ws.map wrV)), (2, AV.sl 0 true []), (3, AV.tip 53 0 3 ((acc ++ [x]).map wrV)), (4, AV.int .i64 bi), (5, AV.int .i64 ws.length), (9, AV.bool false), (45, AV.bool false)], [], [], [], [], []⟩
theorem fold_inner0 (k : Nat) (hk : 1 ≤ k) (fl : Bool) (ws : List Wr) (hl : ws.length ≤ 1000) (KO : St → Res) : ∀ (dd i m : Nat) (b : Option Wr) (bi : Int) (st : St), i + dd = ws.length → dd < m → IdxW ws b bi → st.clean (zDe 77 1) = foldI fl (ws.map wrV) (.sl 0 true []) bi i →
  ∃ bi', loopA (zBy (evF pr k) 77 1 k) (zDe 77 1) (zCb (evF pr k) 77 0 0 k (brk (zCt (evF pr k) 77 0 k 0) KO)) m st = foldT0 fl ws KO (pick none (ws.drop i) b) bi' := by
 intro dd
 induction dd with
 | zero =>
  intro i m b bi st hi hm hb hst
  obtain ⟨m, rfl⟩ : ∃ m', m = m' + 1 := ⟨m - 1, by omega⟩
  have hiw : i = ws.length := by omega
  have : ws.drop i = [] := List.drop_eq_nil_of_le (by omega)
  rw [loopA_succ, hst, fold_in0, List.length_map, decide_eq_false (by omega), this]
  refine ⟨bi, ?_⟩
  cases b with
  | none =>
   have hb : bi = -1 := hb
   subst hb
   rfl
  | some x =>
   obtain ⟨j, hj, rfl, rfl⟩ := hb
   rw [decide_eq_false (show ¬ ((j : Nat) : Int) < 0 by omega), decide_eq_true (show 0 ≤ ((j : Nat) : Int) by omega), getWr ws j hj, hiw]
   rfl
 | succ dd ih =>
  intro i m b bi st hi hm hb hst
  obtain ⟨m, rfl⟩ : ∃ m', m = m' + 1 := ⟨m - 1, by omega⟩
  have hlt : i < ws.length := by omega
  have hw : IntKind.wrap .i64 ((i : Int) + 1) = ((i + 1 : Nat) : Int) := by rw [wrap_small (by omega) (by omega)]; omega
  rw [loopA_succ, hst, fold_in0, List.length_map, decide_eq_true (show (i : Int) < ws.length by omega), List.drop_eq_getElem_cons hlt, pick_cons, if_neg (by simp [skipW]), hw]
  cases b with
  | none =>
   have hb : bi = -1 := hb
   subst hb
   exact ih (i + 1) m (some ws[i]) i _ (by omega) (by omega) ⟨i, hlt, rfl, rfl⟩ (by kernel_rfl)
  | some x =>
   obtain ⟨j, hj, rfl, rfl⟩ := hb
   rw [decide_eq_false (show ¬ ((j : Nat) : Int) < 0 by omega), decide_eq_true (show 0 ≤ ((j : Nat) : Int) by omega), getWr ws j hj, decide_eq_true (show 0 ≤ ((i : Nat) : Int) by omega), getWr ws i hlt]
   simp only [cond_true, cond_false, zOp, zAg, zCo, zIn, zSt, if_true, zNi]
   rw [e84 k hk]
   simp only [zRe, zBo, zNi]
   cases hle : wless ws[j] ws[i] with
   | false =>
    simp only [Bool.not_false, cond_true, Bool.false_eq_true, if_false]
    exact ih (i + 1) m (some ws[i]) i _ (by omega) (by omega) ⟨i, hlt, rfl, rfl⟩ (by kernel_rfl)
   | true =>
    simp only [Bool.not_true, cond_false, if_true]
    exact ih (i + 1) m (some ws[j]) j _ (by omega) (by omega) ⟨j, hj, rfl, rfl⟩ (by kernel_rfl)
theorem fold_inner1 (k : Nat) (hk : 1 ≤ k) (fl : Bool) (ws acc : List Wr) (z : Wr) (ha : acc.length ≤ 1000) (hl : ws.length ≤ 1000) (KO : St → Res) : ∀ (dd i m : Nat) (b : Option Wr) (bi : Int) (st : St), i + dd = ws.length → dd < m → IdxW ws b bi → st.clean (zDe 77 1) = foldI fl (ws.map wrV) (.tip 53 0 3 ((acc ++ [z]).map wrV)) bi i →
  ∃ bi', loopA (zBy (evF pr k) 77 1 k) (zDe 77 1) (zCb (evF pr k) 77 0 0 k (brk (zCt (evF pr k) 77 0 k 0) KO)) m st = foldT1 fl ws (acc ++ [z]) KO (pick (some z) (ws.drop i) b) bi' := by
 have hza : ((acc ++ [z]).map wrV)[Int.toNat (IntKind.wrap .i64 (((((acc ++ [z]).map wrV).length : Nat) : Int) - 1))]? = some (.agg [.int .i64 z.1, .int .i64 z.2.1, .str z.2.2]) := by
  rw [List.length_map, List.length_append, List.length_singleton, show IntKind.wrap .i64 (((acc.length + 1 : Nat) : Int) - 1) = ((acc.length : Nat) : Int) by rw [wrap_small (by omega) (by omega)]; omega, Int.toNat_natCast]
  simp [wrV]
 have hlen : (((acc ++ [z]).map wrV).length : Nat) = acc.length + 1 := by simp
 intro dd
 induction dd with
 | zero =>
  intro i m b bi st hi hm hb hst
  obtain ⟨m, rfl⟩ : ∃ m', m = m' + 1 := ⟨m - 1, by omega⟩
  have hiw : i = ws.length := by omega
  have : ws.drop i = [] := List.drop_eq_nil_of_le (by omega)
  have hlw : (ws.map wrV).length = ws.length := by simp
  rw [loopA_succ, hst, fold_in1, hlw, decide_eq_false (by omega), this]
  refine ⟨bi, ?_⟩
  cases b with
  | none =>
   have hb : bi = -1 := hb
   subst hb
   rfl
  | some x =>
   obtain ⟨j, hj, rfl, rfl⟩ := hb
   rw [decide_eq_false (show ¬ ((j : Nat) : Int) < 0 by omega), decide_eq_true (show 0 ≤ ((j : Nat) : Int) by omega), getWr ws j hj, hiw]
   simp only [cond_false, cond_true, zOp, zAg, zCo, zIn, zSt, if_true, zNi]
   rw [decide_eq_true (by
    refine ⟨trivial, fitsB_small ?_, ?_⟩ <;> simp only [List.length_map, List.length_cons, List.length_nil, List.length_append] <;> omega)]
   simp only [cond_true, pick, foldT1, List.map_append, List.map_cons, List.map_nil, wrV]
 | succ dd ih =>
  intro i m b bi st hi hm hb hst
  obtain ⟨m, rfl⟩ : ∃ m', m = m' + 1 := ⟨m - 1, by omega⟩
  have hlt : i < ws.length := by omega
  have hw : IntKind.wrap .i64 ((i : Int) + 1) = ((i + 1 : Nat) : Int) := by rw [wrap_small (by omega) (by omega)]; omega
  have hw2 : 0 ≤ IntKind.wrap .i64 (((((acc ++ [z]).map wrV).length : Nat) : Int) - 1) := by rw [hlen, wrap_small (by omega) (by omega)]; omega
  have hlw : (ws.map wrV).length = ws.length := by simp
  rw [loopA_succ, hst, fold_in1, hlw, decide_eq_true (show (i : Int) < ws.length by omega), decide_eq_true (show ((((acc ++ [z]).map wrV).length : Nat) : Int) > 0 by rw [hlen]; omega), decide_eq_true hw2, hza, decide_eq_true (show 0 ≤ ((i : Nat) : Int) by omega), getWr ws i hlt, List.drop_eq_getElem_cons hlt, pick_cons, hw]
  simp only [cond_true, cond_false, zOp, zAg, zCo, zIn, zSt, if_true, zNi]
  rw [e84 k hk]
  simp only [zRe, zBo, zNi]
  cases hz : wless z ws[i] with
  | false =>
   rw [show skipW (some z) ws[i] = true by simp [skipW, hz]]
   simp only [Bool.not_false, cond_true, if_true]
   exact ih (i + 1) m b bi _ (by omega) (by omega) hb (by kernel_rfl)
  | true =>
   rw [show skipW (some z) ws[i] = false by simp [skipW, hz]]
   simp only [Bool.not_true, cond_false, Bool.false_eq_true, if_false]
   cases b with
   | none =>
    have hb : bi = -1 := hb
    subst hb
    exact ih (i + 1) m (some ws[i]) i _ (by omega) (by omega) ⟨i, hlt, rfl, rfl⟩ (by kernel_rfl)
   | some x =>
    obtain ⟨j, hj, rfl, rfl⟩ := hb
    rw [decide_eq_false (show ¬ ((j : Nat) : Int) < 0 by omega), decide_eq_true (show 0 ≤ ((j : Nat) : Int) by omega), getWr ws j hj]
    simp only [cond_true, cond_false, zOp, zAg, zCo, zIn, zSt, if_true, zNi]
    rw [e84 k hk]
    simp only [zRe, zBo, zNi]
    cases hle : wless ws[j] ws[i] with
    | false =>
     simp only [Bool.not_false, cond_true, Bool.false_eq_true, if_false]
     exact ih (i + 1) m (some ws[i]) i _ (by omega) (by omega) ⟨i, hlt, rfl, rfl⟩ (by kernel_rfl)
    | true =>
     simp only [Bool.not_true, cond_false, if_true]
     exact ih (i + 1) m (some ws[j]) j _ (by omega) (by omega) ⟨j, hj, rfl, rfl⟩ (by kernel_rfl)
theorem pick_cnt0 {z : Wr} : ∀ (ws : List Wr), cntW z ws = 0 → pick (some z) ws none = none := by
 intro ws h
 refine pick_skip _ _ _ fun w hm => ?_
 have := List.countP_eq_zero.1 h w hm
 simp only [skipW, Bool.not_eq_true'] at this ⊢
 simpa using this
theorem fold_outer (k : Nat) (fl : Bool) (ws : List Wr) (hl : ws.length ≤ 200) (hk : 210 ≤ k) : ∀ (n m : Nat) (acc : List Wr) (z : Wr) (st : St), cntW z ws ≤ n → n < m → acc.length + n ≤ 500 → st.clean (zDe 77 0) = foldS fl (ws.map wrV) (.tip 53 0 3 ((acc ++ [z]).map wrV)) →
  loopA (zBy (evF pr k) 77 0 k) (zDe 77 0) (zCt (evF pr k) 77 0 k 0) m st = some (.sl 3 false ((foldF n ws acc z).map wrV), []) := by
 intro n
 induction n with
 | zero =>
  intro m acc z st hc hm ha hst
  obtain ⟨m, rfl⟩ : ∃ m', m = m' + 1 := ⟨m - 1, by omega⟩
  rw [loopA_succ, hst, fold_body1]
  obtain ⟨bi, h⟩ := fold_inner1 k (by omega) fl ws acc z (by omega) (by omega) (fun st' => loopA (zBy (evF pr k) 77 0 k) (zDe 77 0) (zCt (evF pr k) 77 0 k 0) m st') ws.length 0 k none (-1) _ (Nat.zero_add _) (by omega) rfl (by kernel_rfl)
  refine h.trans ?_
  rw [List.drop_zero, pick_cnt0 ws (by omega)]
  rfl
 | succ n ih =>
  intro m acc z st hc hm ha hst
  obtain ⟨m, rfl⟩ : ∃ m', m = m' + 1 := ⟨m - 1, by omega⟩
  rw [loopA_succ, hst, fold_body1]
  obtain ⟨bi, h⟩ := fold_inner1 k (by omega) fl ws acc z (by omega) (by omega) (fun st' => loopA (zBy (evF pr k) 77 0 k) (zDe 77 0) (zCt (evF pr k) 77 0 k 0) m st') ws.length 0 k none (-1) _ (Nat.zero_add _) (by omega) rfl (by kernel_rfl)
  refine h.trans ?_
  rw [List.drop_zero, foldF]
  cases hp : pick (some z) ws none with
  | none => rfl
  | some x =>
   simp only [foldT1]
   rcases pick_mem _ _ _ _ hp with h0 | ⟨h1, h2⟩
   ·simp at h0
   have hz : wless z x = true := by simpa [skipW] using h2
   have := cntW_lt hz ws h1
   exact ih m (acc ++ [z]) x _ (by omega) (by omega) (by simp only [List.length_append, List.length_singleton]; omega) (by kernel_rfl)
def slW (l : List Wr) : AV := if l = [] then .sl 0 true [] else .sl 3 false (l.map wrV)
theorem foldF_ne : ∀ (n : Nat) (ws acc : List Wr) (z : Wr), foldF n ws acc z ≠ []
 | 0, ws, acc, z => by simp [foldF]
 | n + 1, ws, acc, z => by
  rw [foldF]
  split
  ·simp
  ·exact foldF_ne n ws _ _
theorem e39 (k : Nat) (fl : Bool) (ws : List Wr) (hl : ws.length ≤ 200) (hk : 220 ≤ k) : evF pr k 77 [.sl 3 fl (ws.map wrV)] [] = some (slW (foldAll ws), []) := by
 obtain ⟨k, rfl⟩ : ∃ m, k = m + 1 := ⟨k - 1, by omega⟩
 rw [ev_step _ _ _ _ (by kernel_rfl), fold_tree]
 obtain ⟨k', hk'⟩ : ∃ m, k = m + 1 := ⟨k - 1, by omega⟩
 conv => lhs; arg 4; rw [hk']
 rw [loopA_succ]
 refine (fold_body0 _ _ fl (ws.map wrV) _).trans ?_
 obtain ⟨bi, h⟩ := fold_inner0 k (by omega) fl ws (by omega) (fun st' => loopA (zBy (evF pr k) 77 0 k) (zDe 77 0) (zCt (evF pr k) 77 0 k 0) k' st') ws.length 0 k none (-1) _ (Nat.zero_add _) (by omega) rfl (by kernel_rfl)
 refine h.trans ?_
 rw [List.drop_zero, foldAll]
 cases hp : pick none ws none with
 | none => rfl
 | some x =>
  simp only [foldT0]
  rw [slW, if_neg (foldF_ne _ _ _ _)]
  exact fold_outer k fl ws hl (by omega) ws.length k' [] x _ (List.countP_le_length) (by omega) (by simp only [List.length_nil]; omega) (by kernel_rfl)
def weqS (fl fl' c : Bool) (xs ys : List AV) (i : Int) : St := ⟨26, [(0, AV.sl 3 fl xs), (1, AV.sl 3 fl' ys), (4, AV.bool false), (5, AV.int .i64 i), (10, AV.bool c)], [], [], [], [], []⟩
def weqS0 (a b : Nat) (fl fl' c : Bool) : St := ⟨26, [(0, AV.sl a fl []), (1, AV.sl b fl' []), (4, AV.bool false), (5, AV.int .i64 0), (10, AV.bool c)], [], [], [], [], []⟩
theorem weq_tree (F : Fns) (N : Nat) (a b : Nat) (fl fl' : Bool) (xs ys : List AV) : runOf F 55 N [.sl a fl xs, .sl b fl' ys] [] =
 bif (xs.length : Int) != (ys.length : Int) then some (AV.bool false, []) else loopA (zBy F 55 0 N) (zDe 55 0) (zCt F 55 0 N 0) N { nt := 26, t := [(0, AV.sl a fl xs), (1, AV.sl b fl' ys), (4, AV.bool false), (5, AV.int .i64 0), (10, AV.bool ((xs.length : Int) != (ys.length : Int)))], b := [], r := [], g := [], rd := [], wr := [] } := by kernel_rfl
theorem weq_body (F : Fns) (N : Nat) (fl fl' c : Bool) (xs ys : List AV) (i : Int) (KN : St → Res) : zBy F 55 0 N (weqS fl fl' c xs ys i) (brk (zCt F 55 0 N 0) KN) =
 bif decide (i < (xs.length : Int)) then bif decide (0 ≤ i) then zOp xs[Int.toNat i]? fun x => zAg x fun cs => zCo cs fun v r => zIn .i64 v fun n => zCo r fun v r => zIn .i64 v fun n_1 => zCo r fun v r => zSt v fun s => zNi r (bif decide (0 ≤ i) then zOp ys[Int.toNat i]? fun x => zAg x fun cs => zCo cs fun v r => zIn .i64 v fun n_2 => zCo r fun v r => zIn .i64 v fun n_3 => zCo r fun v r => zSt v fun s_1 => zNi r (bif !(n == n_2 && (n_1 == n_3 && (s == s_1 && true))) then some (AV.bool false, []) else KN { nt := 26, t := [(0, AV.sl 3 fl xs), (1, AV.sl 3 fl' ys), (4, AV.bool false), (5, AV.int .i64 (IntKind.wrap .i64 (i + 1))), (10, AV.bool c), (14, AV.bool (decide (i < (xs.length : Int)))), (25, AV.bool !(n == n_2 && (n_1 == n_3 && (s == s_1 && true))))], b := [], r := [], g := [], rd := [], wr := [] }) else none) else none else some (AV.bool true, []) := by kernel_rfl
theorem weq_body0 (F : Fns) (N : Nat) (a b : Nat) (fl fl' c : Bool) (KN : St → Res) : zBy F 55 0 N (weqS0 a b fl fl' c) (brk (zCt F 55 0 N 0) KN) =
 some (AV.bool true, []) := by kernel_rfl
theorem weq_loop (F : Fns) (N : Nat) (fl fl' c : Bool) (l l' : List Wr) (hl : l.length = l'.length) (hb : l.length < 4611686018427387904) : ∀ (dd i m : Nat) (st : St), i + dd = l.length → dd < m → st.clean (zDe 55 0) = weqS fl fl' c (l.map wrV) (l'.map wrV) i →
  loopA (zBy F 55 0 N) (zDe 55 0) (zCt F 55 0 N 0) m st = some (.bool (decide (l.drop i = l'.drop i)), []) := by
 intro dd
 induction dd with
 | zero =>
  intro i m st hi hm hst
  obtain ⟨m, rfl⟩ : ∃ m', m = m' + 1 := ⟨m - 1, by omega⟩
  have h1 : l.drop i = [] := List.drop_eq_nil_of_le (by omega)
  have h2 : l'.drop i = [] := List.drop_eq_nil_of_le (by omega)
  rw [loopA_succ, hst, weq_body, List.length_map, decide_eq_false (by omega), h1, h2]
  rfl
 | succ dd ih =>
  intro i m st hi hm hst
  obtain ⟨m, rfl⟩ : ∃ m', m = m' + 1 := ⟨m - 1, by omega⟩
  have hlt : i < l.length := by omega
  have hlt' : i < l'.length := by omega
  rw [loopA_succ, hst, weq_body, List.length_map, decide_eq_true (show (i : Int) < l.length by omega), decide_eq_true (show (0 : Int) ≤ i by omega), getWr l i hlt, getWr l' i hlt', List.drop_eq_getElem_cons hlt, List.drop_eq_getElem_cons hlt']
  simp only [cond_true, zOp, zAg, zCo, zIn, zSt, if_true, zNi]
  rw [wrap_small (n := (i : Int) + 1) (by omega) (by omega)]
  by_cases hc : l[i] = l'[i]
  ·rw [hc]
   simp only [beq_self_eq_true, Bool.true_and, Bool.not_true, cond_false]
   refine (ih (i + 1) m _ (by omega) (by omega) (by kernel_rfl)).trans ?_
   have : decide (l.drop (i + 1) = l'.drop (i + 1)) = decide (l'[i] :: l.drop (i + 1) = l'[i] :: l'.drop (i + 1)) := by
    rw [decide_eq_decide]
    simp only [List.cons.injEq, true_and]
   rw [this]
  ·have : ((l[i]).1 == (l'[i]).1 && ((l[i]).2.1 == (l'[i]).2.1 && ((l[i]).2.2 == (l'[i]).2.2 && true))) = false := by
    by_cases h1 : (l[i]).1 = (l'[i]).1
    ·by_cases h2 : (l[i]).2.1 = (l'[i]).2.1
     ·have h3 : (l[i]).2.2 ≠ (l'[i]).2.2 := fun h3 => hc (Prod.ext h1 (Prod.ext h2 h3))
      simp [h1, h2, h3]
     ·simp [h1, h2]
    ·simp [h1]
   rw [this, decide_eq_false (fun h => hc (List.cons.inj h).1)]
   rfl
theorem weq_nil (F : Fns) (N m a b : Nat) (fl fl' c : Bool) (st : St) (h : st.clean (zDe 55 0) = weqS0 a b fl fl' c) : loopA (zBy F 55 0 N) (zDe 55 0) (zCt F 55 0 N 0) (m + 1) st = some (.bool true, []) := by rw [loopA_succ, h, weq_body0]
theorem weq_nils (k a b : Nat) (fl fl' : Bool) : evF pr (k + 2) 55 [.sl a fl [], .sl b fl' []] [] = some (.bool true, []) := by
 rw [ev_step _ _ _ _ (by kernel_rfl), weq_tree, show ((((([] : List AV).length : Nat) : Int)) != ((([] : List AV).length : Nat) : Int)) = false from rfl, cond_false]
 exact weq_nil _ _ _ a b fl fl' false _ (by kernel_rfl)
theorem e16 (k : Nat) (fl fl' : Bool) (l l' : List Wr) (hk : l.length + 3 ≤ k) (hb : l.length < 4611686018427387904) : evF pr k 55 [.sl 3 fl (l.map wrV), .sl 3 fl' (l'.map wrV)] [] = some (.bool (decide (l = l')), []) := by
 obtain ⟨k, rfl⟩ : ∃ m, k = m + 1 := ⟨k - 1, by omega⟩
 rw [ev_step _ _ _ _ (by kernel_rfl), weq_tree, List.length_map, List.length_map]
 by_cases h : l.length = l'.length
 ·rw [show (((l.length : Nat) : Int) != ((l'.length : Nat) : Int)) = false by simp [h]]
  exact weq_loop (evF pr k) k fl fl' false l l' h hb l.length 0 k _ (Nat.zero_add _) (by omega) (by kernel_rfl)
 ·rw [show (((l.length : Nat) : Int) != ((l'.length : Nat) : Int)) = true by simp only [bne_iff_ne, ne_eq]; omega, decide_eq_false (fun e => h (by rw [e]))]
  rfl
def IsW (v : AV) (l : List Wr) : Prop := (∃ fl, v = .sl 3 fl (l.map wrV)) ∨ (l = [] ∧ ∃ a fl, v = .sl a fl [])
theorem IsW.slW (l : List Wr) : IsW (slW l) l := by
 unfold AM.YtnhfjkckgicidaaGreat.slW
 split
 ·rename_i h; exact .inr ⟨h, _, _, rfl⟩
 ·exact .inl ⟨_, rfl⟩
theorem e16' (k : Nat) {v v' : AV} {l l' : List Wr} (hv : IsW v l) (hv' : IsW v' l') (hk : l.length + 3 ≤ k) (hb : l.length < 4611686018427387904) : evF pr k 55 [v, v'] [] = some (.bool (decide (l = l')), []) := by
 rcases hv with ⟨fl, rfl⟩ | ⟨rfl, a, fl, rfl⟩
 ·rcases hv' with ⟨fl', rfl⟩ | ⟨rfl, a', fl', rfl⟩
  ·exact e16 k fl fl' l l' hk hb
  ·cases l with
   | nil =>
    obtain ⟨k, rfl⟩ : ∃ m, k = m + 2 := ⟨k - 2, by omega⟩
    exact weq_nils k 3 a' fl fl'
   | cons b r =>
    obtain ⟨k, rfl⟩ : ∃ m, k = m + 1 := ⟨k - 1, by omega⟩
    rw [ev_step _ _ _ _ (by kernel_rfl), weq_tree, List.length_map]
    rw [show ((((b :: r).length : Nat) : Int) != ((([] : List AV).length : Nat) : Int)) = true by simp only [bne_iff_ne, ne_eq, List.length_cons, List.length_nil]; omega]
    rfl
 ·rcases hv' with ⟨fl', rfl⟩ | ⟨rfl, a', fl', rfl⟩
  ·cases l' with
   | nil =>
    obtain ⟨k, rfl⟩ : ∃ m, k = m + 2 := ⟨k - 2, by simp at hk; omega⟩
    exact weq_nils k a 3 fl fl'
   | cons b r =>
    obtain ⟨k, rfl⟩ : ∃ m, k = m + 1 := ⟨k - 1, by omega⟩
    rw [ev_step _ _ _ _ (by kernel_rfl), weq_tree, List.length_map]
    rw [show (((([] : List AV).length : Nat) : Int) != (((b :: r).length : Nat) : Int)) = true by simp only [bne_iff_ne, ne_eq, List.length_cons, List.length_nil]; omega]
    rfl
  ·obtain ⟨k, rfl⟩ : ∃ m, k = m + 2 := ⟨k - 2, by simp at hk; omega⟩
   exact weq_nils k a a' fl fl'
theorem slW_sl (l : List Wr) : ∃ m fl xs, slW l = .sl m fl xs ∧ xs.length = l.length := by
 unfold slW
 split
 ·rename_i h; exact ⟨_, _, _, rfl, by simp [h]⟩
 ·exact ⟨_, _, _, rfl, by simp⟩
def rwableS (fl d : Bool) (xs : List AV) (i : Int) : St := ⟨59, [(0, AV.sl 3 fl xs), (2, AV.bool false), (3, AV.int .i64 i), (13, AV.bool d)], [], [], [], [], []⟩
theorem rwable_tree (F : Fns) (N : Nat) (fl : Bool) (xs : List AV) : runOf F 86 N [.sl 3 fl xs] [] =
 bif decide ((xs.length : Int) > 128) then some (AV.bool false, []) else zRe (F 77 [AV.sl 3 fl xs] []) fun v bs => asSl v fun m fl_1 xs_1 => zNi bs (zRe (F 55 [AV.sl 3 fl xs, AV.sl m fl_1 xs_1] []) fun v bs => zBo v fun b => zNi bs (bif !b then some (AV.bool false, []) else loopA (zBy F 86 0 N) (zDe 86 0) (zCt F 86 0 N 0) N { nt := 59, t := [(0, AV.sl 3 fl xs), (2, AV.bool false), (3, AV.int .i64 0), (13, AV.bool !b)], b := [], r := [], g := [], rd := [], wr := [] })) := by kernel_rfl
theorem rwable_body (F : Fns) (N : Nat) (fl d : Bool) (xs : List AV) (i : Int) (KN : St → Res) : zBy F 86 0 N (rwableS fl d xs i) (brk (zCt F 86 0 N 0) KN) =
 bif decide (i < (xs.length : Int)) then bif decide (0 ≤ i) then zOp xs[Int.toNat i]? fun x => zAg x fun cs => zCo cs fun v r => zIn .i64 v fun n => zCo r fun v r => zIn .i64 v fun n_1 => zCo r fun v r => zSt v fun s => zNi r (bif decide (n < 1) then some (AV.bool false, []) else bif decide (0 ≤ i) then zOp xs[Int.toNat i]? fun x => zAg x fun cs => zCo cs fun v r => zIn .i64 v fun n => zCo r fun v r => zIn .i64 v fun n_2 => zCo r fun v r => zSt v fun s => zNi r (bif decide (n > 255) then some (AV.bool false, []) else bif decide (0 ≤ i) then zOp xs[Int.toNat i]? fun x => zAg x fun cs => zCo cs fun v r => zIn .i64 v fun n => zCo r fun v r => zIn .i64 v fun n => zCo r fun v r => zSt v fun s => zNi r (bif decide (n < 0) then some (AV.bool false, []) else bif decide (0 ≤ i) then zOp xs[Int.toNat i]? fun x => zAg x fun cs => zCo cs fun v r => zIn .i64 v fun n => zCo r fun v r => zIn .i64 v fun n => zCo r fun v r => zSt v fun s => zNi r (bif decide (n > 31) then some (AV.bool false, []) else bif decide (0 ≤ i) then zOp xs[Int.toNat i]? fun x => zAg x fun cs => zCo cs fun v r => zIn .i64 v fun n => zCo r fun v r => zIn .i64 v fun n => zCo r fun v r => zSt v fun s => zNi r (bif decide ((s.length : Int) > 8) then some (AV.bool false, []) else KN { nt := 59, t := [(0, AV.sl 3 fl xs), (2, AV.bool false), (3, AV.int .i64 (IntKind.wrap .i64 (i + 1))), (13, AV.bool d), (17, AV.bool (decide (i < (xs.length : Int)))), (58, AV.bool (decide ((s.length : Int) > 8)))], b := [], r := [], g := [], rd := [], wr := [] }) else none) else none) else none) else none) else none else some (AV.bool true, []) := by kernel_rfl
theorem rwable_loop (F : Fns) (N : Nat) (fl d : Bool) (l : List Wr) (hl : l.length ≤ 1000) : ∀ (dd i m : Nat) (st : St), i + dd = l.length → dd < m → st.clean (zDe 86 0) = rwableS fl d (l.map wrV) i →
  loopA (zBy F 86 0 N) (zDe 86 0) (zCt F 86 0 N 0) m st = some (.bool (!((l.drop i).any badW)), []) := by
 intro dd
 induction dd with
 | zero =>
  intro i m st hi hm hst
  obtain ⟨m, rfl⟩ : ∃ m', m = m' + 1 := ⟨m - 1, by omega⟩
  have h1 : l.drop i = [] := List.drop_eq_nil_of_le (by omega)
  rw [loopA_succ, hst, rwable_body, List.length_map, decide_eq_false (by omega), h1]
  rfl
 | succ dd ih =>
  intro i m st hi hm hst
  obtain ⟨m, rfl⟩ : ∃ m', m = m' + 1 := ⟨m - 1, by omega⟩
  have hlt : i < l.length := by omega
  rw [loopA_succ, hst, rwable_body, List.length_map, decide_eq_true (show (i : Int) < l.length by omega), decide_eq_true (show (0 : Int) ≤ i by omega), getWr l i hlt, List.drop_eq_getElem_cons hlt, List.any_cons]
  simp only [cond_true, zOp, zAg, zCo, zIn, zSt, if_true, zNi]
  rw [wrap_small (n := (i : Int) + 1) (by omega) (by omega)]
  generalize l[i] = w
  by_cases h1 : w.1 < 1
  ·rw [decide_eq_true h1, show badW w = true from decide_eq_true (.inl h1)]; rfl
  by_cases h2 : w.1 > 255
  ·rw [decide_eq_false h1, decide_eq_true h2, show badW w = true from decide_eq_true (.inr (.inl h2))]; rfl
  by_cases h3 : w.2.1 < 0
  ·rw [decide_eq_false h1, decide_eq_false h2, decide_eq_true h3, show badW w = true from decide_eq_true (.inr (.inr (.inl h3)))]; rfl
  by_cases h4 : w.2.1 > 31
  ·rw [decide_eq_false h1, decide_eq_false h2, decide_eq_false h3, decide_eq_true h4, show badW w = true from decide_eq_true (.inr (.inr (.inr (.inl (by omega)))))]; rfl
  by_cases h5 : (w.2.2.length : Int) > 8
  ·rw [decide_eq_false h1, decide_eq_false h2, decide_eq_false h3, decide_eq_false h4, decide_eq_true h5, show badW w = true from decide_eq_true (.inr (.inr (.inr (.inr h5))))]; rfl
  rw [decide_eq_false h1, decide_eq_false h2, decide_eq_false h3, decide_eq_false h4, decide_eq_false h5, show badW w = false by unfold badW; rw [decide_eq_false_iff_not]; omega]
  simp only [cond_false, Bool.false_or]
  exact ih (i + 1) m _ (by omega) (by omega) (by kernel_rfl)
theorem e12 (k : Nat) (fl : Bool) (l : List Wr) (hk : 230 ≤ k) : evF pr k 86 [.sl 3 fl (l.map wrV)] [] = some (.bool (wOk l), []) := by
 obtain ⟨k, rfl⟩ : ∃ m, k = m + 1 := ⟨k - 1, by omega⟩
 rw [ev_step _ _ _ _ (by kernel_rfl), rwable_tree, List.length_map, wOk]
 by_cases h : l.length ≤ 128
 ·rw [decide_eq_false (show ¬ ((l.length : Nat) : Int) > 128 by omega), decide_eq_true h, e39 k fl l (by omega) (by omega)]
  have he := e16' k (.inl ⟨fl, rfl⟩ : IsW (.sl 3 fl (l.map wrV)) l) (IsW.slW (foldAll l)) (by omega) (by omega)
  rw [foldAll_iff] at he
  obtain ⟨m, f2, xs, hsl, _⟩ := slW_sl (foldAll l)
  rw [hsl] at he ⊢
  simp only [cond_false, zRe, asSl, zNi, he, zBo]
  cases sortedW l with
  | false => rfl
  | true =>
   simp only [Bool.not_true, cond_false, Bool.true_and]
   exact rwable_loop (evF pr k) k fl false l (by omega) l.length 0 k _ (Nat.zero_add _) (by omega) (by kernel_rfl)
 ·rw [decide_eq_true (show ((l.length : Nat) : Int) > 128 by omega), decide_eq_false h]
  rfl
theorem e12nil (k : Nat) : evF pr (k + 6) 86 [.sl 0 true []] [] = some (.bool true, []) := by kernel_rfl
theorem putV_small (n w : Nat) (hw1 : 1 ≤ w) (hw : w ≤ 8) (h : n < 256 ^ w) : putV (n : Int) (w : Int) = (be w n, 0) := by
 unfold putV
 have : n / 256 ^ w = 0 := Nat.div_eq_of_lt h
 rw [if_neg (by omega), if_neg (by omega), Int.toNat_natCast, Int.toNat_natCast, if_neg (by simp [this])]
theorem text_tree (F : Fns) (N : Nat) (s : List UInt8) : runOf F 104 N [.str s] [] =
 bif decide ((s.length : Int) > 65535) then some (AV.tup [AV.str [], AV.int .i64 5], []) else zRe (F 23 [AV.int .i64 (s.length : Int), AV.int .i64 2] []) fun v bs => zTu v fun cs => zCo cs fun v r => zSt v fun s_1 => zCo r fun v r => zIn .i64 v fun n => zNi r (zNi bs (bif decide (List.length s_1 + List.length s ≤ 4611686018427387904) then some (AV.tup [AV.str (s_1 ++ s), AV.int .i64 0], []) else none)) := by kernel_rfl
theorem e38 (k : Nat) (hk : 12 ≤ k) (s : List UInt8) (hs : s.length ≤ 65535) : evF pr k 104 [.str s] [] = some (.tup [.str (be 2 s.length ++ s), .int .i64 0], []) := by
 obtain ⟨k, rfl⟩ : ∃ m, k = m + 1 := ⟨k - 1, by omega⟩
 rw [ev_step _ _ _ _ (by kernel_rfl), text_tree, decide_eq_false (show ¬ ((s.length : Nat) : Int) > 65535 by omega), show (2 : Int) = ((2 : Nat) : Int) from rfl, e37 k (by omega) _ (by omega) 2 (by omega) (by omega), putV_small s.length 2 (by omega) (by omega) (by omega)]
 simp only [cond_false, zRe, zTu, zCo, zSt, zIn, if_true, zNi]
 rw [decide_eq_true (by rw [be_length]; omega)]
 rfl
def takeT (s : List UInt8) : Option (List UInt8 × List UInt8) := match num 2 s with
 | none => none
 | some (n, t) => if t.length < n then none else some (t.take n, t.drop n)
theorem take_tree (F : Fns) (N : Nat) (s : List UInt8) : runOf F 103 N [.str s] [] =
 zRe (F 88 [AV.str s, AV.int .i64 2] []) fun v bs => zTu v fun cs => zCo cs fun v r => zIn .i64 v fun n => zCo r fun v r => zSt v fun s => zCo r fun v r => zIn .i64 v fun n_1 => zNi r (zNi bs (bif n_1 != 0 then some (AV.tup [AV.str [], AV.str [], AV.int .i64 2], []) else bif decide ((s.length : Int) < n) then some (AV.tup [AV.str [], AV.str [], AV.int .i64 2], []) else bif decide ((0 : Int) ≤ 0 ∧ 0 ≤ n ∧ n ≤ (s.length : Int)) then bif decide (0 ≤ n ∧ n ≤ (s.length : Int) ∧ (s.length : Int) ≤ (s.length : Int)) then some (AV.tup [AV.str (List.drop (Int.toNat 0) (List.take (Int.toNat n) s)), AV.str (List.drop (Int.toNat n) (List.take (Int.toNat (s.length : Int)) s)), AV.int .i64 0], []) else none else none)) := by kernel_rfl
theorem e85 (k : Nat) (hk : 12 ≤ k) (s : List UInt8) : evF pr k 103 [.str s] [] = (match takeT s with
  | none => some (.tup [.str [], .str [], .int .i64 2], [])
  | some (a, b) => some (.tup [.str a, .str b, .int .i64 0], [])) := by
 obtain ⟨k, rfl⟩ : ∃ m, k = m + 1 := ⟨k - 1, by omega⟩
 rw [ev_step _ _ _ _ (by kernel_rfl), take_tree, show (2 : Int) = ((2 : Nat) : Int) from rfl, e88 k (by omega) s 2 (by omega) (by omega)]
 simp only [zRe, zTu, zCo, zSt, zIn, if_true, zNi]
 unfold takeT
 cases h : num 2 s with
 | none =>
  rw [show (numE 2 s != 0) = true by simp [num_no h]]
  rfl
 | some q =>
  obtain ⟨n, t⟩ := q
  obtain ⟨r1, r2, r3⟩ := num_at h
  have r4 : numR 2 s = t := by rw [numR, if_pos r1, r3]
  rw [r1, r2, r4]
  simp only [show ((0 : Int) != 0) = false from rfl, cond_false]
  by_cases hl : t.length < n
  ·rw [decide_eq_true (show ((t.length : Nat) : Int) < n by omega), if_pos hl]
   rfl
  ·rw [decide_eq_false (show ¬ ((t.length : Nat) : Int) < n by omega), if_neg hl, decide_eq_true (show (0 : Int) ≤ 0 ∧ 0 ≤ ((n : Nat) : Int) ∧ ((n : Nat) : Int) ≤ t.length by omega), decide_eq_true (show 0 ≤ ((n : Nat) : Int) ∧ ((n : Nat) : Int) ≤ t.length ∧ ((t.length : Nat) : Int) ≤ t.length by omega)]
   simp only [cond_false, cond_true, Int.toNat_natCast, Int.toNat_zero, List.drop_zero, List.take_length]
def wrB (w : Wr) : List UInt8 := [UInt8.ofNat w.1.toNat, UInt8.ofNat w.2.1.toNat] ++ (be 2 w.2.2.length ++ w.2.2)
def putW (l : List Wr) : List UInt8 := be 2 l.length ++ l.flatMap wrB
theorem badW_not {w : Wr} (h : badW w = false) : 1 ≤ w.1 ∧ w.1 ≤ 255 ∧ 0 ≤ w.2.1 ∧ w.2.1 ≤ 31 ∧ w.2.2.length ≤ 8 := by
 unfold badW at h
 rw [decide_eq_false_iff_not] at h
 omega
theorem wrB_length {w : Wr} (h : badW w = false) : (wrB w).length ≤ 12 := by
 have := badW_not h
 unfold wrB
 rw [List.length_append, List.length_append, be_length]
 simp only [List.length_cons, List.length_nil]
 omega
def putwS (fl d : Bool) (xs bs : List AV) (s : List UInt8) (len i : Int) : St := ⟨48, [(0, AV.sl 3 fl xs), (2, AV.str []), (3, AV.int .i64 0), (4, AV.str s), (6, AV.tip 21 0 1 bs), (13, AV.bool d), (22, AV.sl 3 fl xs), (23, AV.int .i64 len), (24, AV.int .i64 i)], [], [], [], [], []⟩
theorem putw_tree (F : Fns) (N : Nat) (fl : Bool) (xs : List AV) : runOf F 74 N [.sl 3 fl xs] [] =
 zRe (F 121 [AV.sl 3 fl xs] []) fun v bs => zBo v fun b => zNi bs (bif !b then some (AV.tup [AV.str [], AV.int .i64 1], []) else zRe (F 23 [AV.int .i64 (xs.length : Int), AV.int .i64 2] []) fun v bs => zTu v fun cs => zCo cs fun v r => zSt v fun s => zCo r fun v r => zIn .i64 v fun n => zNi r (zNi bs (bif decide (List.length s ≤ 4611686018427387904) then loopA (zBy F 74 0 N) (zDe 74 0) (zCt F 74 0 N 0) N { nt := 48, t := [(0, AV.sl 3 fl xs), (2, AV.str []), (3, AV.int .i64 0), (4, AV.str s), (6, AV.tip 21 0 1 (ofBytes s)), (13, AV.bool !b), (22, AV.sl 3 fl xs), (23, AV.int .i64 (xs.length : Int)), (24, AV.int .i64 0)], b := [], r := [], g := [], rd := [], wr := [] } else none))) := by kernel_rfl
theorem putw_body (F : Fns) (N : Nat) (fl d : Bool) (xs bs : List AV) (s : List UInt8) (len i : Int) (KN : St → Res) : zBy F 74 0 N (putwS fl d xs bs s len i) (brk (zCt F 74 0 N 0) KN) =
 bif decide (i < len) then bif decide (0 ≤ i) then zOp xs[Int.toNat i]? fun x => zAg x fun cs => zCo cs fun v r => zIn .i64 v fun n => zCo r fun v r => zIn .i64 v fun n_1 => zCo r fun v r => zSt v fun s_1 => zNi r (zRe (F 104 [AV.str s_1] []) fun v bs_1 => zTu v fun cs => zCo cs fun v r => zSt v fun s_2 => zCo r fun v r => zIn .i64 v fun n_2 => zNi r (zNi bs_1 (bif decide (1 = 1 ∧ fitsB (List.length bs + List.length [AV.int .u8 (IntKind.wrap .u8 n), AV.int .u8 (IntKind.wrap .u8 n_1)]) 1 = true ∧ List.length bs + List.length [AV.int .u8 (IntKind.wrap .u8 n), AV.int .u8 (IntKind.wrap .u8 n_1)] ≤ 4611686018427387904) then bif decide (1 = 1 ∧ fitsB (List.length (bs ++ [AV.int .u8 (IntKind.wrap .u8 n), AV.int .u8 (IntKind.wrap .u8 n_1)]) + List.length (ofBytes s_2)) 1 = true ∧ List.length (bs ++ [AV.int .u8 (IntKind.wrap .u8 n), AV.int .u8 (IntKind.wrap .u8 n_1)]) + List.length (ofBytes s_2) ≤ 4611686018427387904) then KN { nt := 48, t := [(0, AV.sl 3 fl xs), (2, AV.str []), (3, AV.int .i64 0), (4, AV.str s), (6, AV.tip 21 0 1 (bs ++ [AV.int .u8 (IntKind.wrap .u8 n), AV.int .u8 (IntKind.wrap .u8 n_1)] ++ ofBytes s_2)), (8, AV.ptr 8 0 0), (9, AV.str s_2), (13, AV.bool d), (22, AV.sl 3 fl xs), (23, AV.int .i64 len), (24, AV.int .i64 (IntKind.wrap .i64 (i + 1))), (25, AV.bool (decide (i < len)))], b := [(8, [AV.int .i64 n, AV.int .i64 n_1, AV.str s_1])], r := [], g := [], rd := [], wr := [] } else none else none))) else none else zOp (Option.map AV.str (bytesOf bs)) fun x => zSt x fun s => some (AV.tup [AV.str s, AV.int .i64 0], []) := by kernel_rfl
theorem u8_wrap {n : Int} (h0 : 0 ≤ n) (h1 : n ≤ 255) : IntKind.wrap .u8 n = n := by
 simp [IntKind.wrap, IntKind.bits, IntKind.signed]
 omega
theorem putw_loop (k : Nat) (hk : 12 ≤ k) (fl d : Bool) (s0 : List UInt8) (l : List Wr) (hl : l.length ≤ 1000) (hb : l.any badW = false) : ∀ (dd i m : Nat) (acc : List UInt8) (st : St), i + dd = l.length → dd < m → acc.length ≤ 12 * i + 12 → st.clean (zDe 74 0) = putwS fl d (l.map wrV) (ofBytes acc) s0 l.length i →
  loopA (zBy (evF pr k) 74 0 k) (zDe 74 0) (zCt (evF pr k) 74 0 k 0) m st = some (.tup [.str (acc ++ (l.drop i).flatMap wrB), .int .i64 0], []) := by
 intro dd
 induction dd with
 | zero =>
  intro i m acc st hi hm ha hst
  obtain ⟨m, rfl⟩ : ∃ m', m = m' + 1 := ⟨m - 1, by omega⟩
  have h1 : l.drop i = [] := List.drop_eq_nil_of_le (by omega)
  rw [loopA_succ, hst, putw_body, decide_eq_false (by omega), h1, bytesOf_ofBytes]
  simp [zOp, zSt]
 | succ dd ih =>
  intro i m acc st hi hm ha hst
  obtain ⟨m, rfl⟩ : ∃ m', m = m' + 1 := ⟨m - 1, by omega⟩
  have hlt : i < l.length := by omega
  have hbi : badW l[i] = false := by
   cases hc : badW l[i] with
   | false => rfl
   | true =>
    have : l.any badW = true := List.any_eq_true.2 ⟨l[i], List.getElem_mem hlt, hc⟩
    rw [hb] at this
    exact absurd this (by simp)
  have hg := badW_not hbi
  have hlen := wrB_length hbi
  rw [loopA_succ, hst, putw_body, decide_eq_true (show (i : Int) < l.length by omega), decide_eq_true (show (0 : Int) ≤ i by omega), getWr l i hlt, List.drop_eq_getElem_cons hlt, List.flatMap_cons]
  simp only [cond_true, zOp, zAg, zCo, zIn, zSt, if_true, zNi]
  rw [e38 k (by omega) _ (by omega)]
  simp only [zRe, zTu, zCo, zSt, zIn, if_true, zNi]
  generalize l[i] = w at *
  rw [u8_wrap (by omega) (by omega), u8_wrap (by omega) (by omega)]
  have e1 : [AV.int .u8 w.1, AV.int .u8 w.2.1] = ofBytes [UInt8.ofNat w.1.toNat, UInt8.ofNat w.2.1.toNat] := by
   have a1 : ((UInt8.ofNat w.1.toNat).toNat : Int) = w.1 := by simp; omega
   have a2 : ((UInt8.ofNat w.2.1.toNat).toNat : Int) = w.2.1 := by simp; omega
   simp only [ofBytes, List.map_cons, List.map_nil, a1, a2]
  rw [e1, ofBytes_append, ofBytes_append]
  have hle : (wrB w).length = 2 + (be 2 w.2.2.length ++ w.2.2).length := by
   unfold wrB
   rw [List.length_append]
   simp only [List.length_cons, List.length_nil]
  rw [decide_eq_true (by
   refine ⟨trivial, fitsB_small ?_, ?_⟩ <;> simp only [ofBytes, List.length_map, List.length_cons, List.length_nil] <;> omega)]
  rw [decide_eq_true (by
   refine ⟨trivial, fitsB_small ?_, ?_⟩ <;> simp only [ofBytes, List.length_map, List.length_append, List.length_cons, List.length_nil] at hle ⊢ <;> omega)]
  simp only [cond_true]
  rw [wrap_small (n := (i : Int) + 1) (by omega) (by omega)]
  have hacc : acc ++ wrB w = acc ++ [UInt8.ofNat w.1.toNat, UInt8.ofNat w.2.1.toNat] ++ (be 2 w.2.2.length ++ w.2.2) := by rw [wrB, List.append_assoc]
  refine (ih (i + 1) m (acc ++ wrB w) _ (by omega) (by omega) (by rw [List.length_append]; omega) (by rw [hacc]; kernel_rfl)).trans ?_
  rw [List.append_assoc]
theorem wOk_parts {l : List Wr} (h : wOk l = true) : l.length ≤ 128 ∧ sortedW l = true ∧ l.any badW = false := by
 unfold wOk at h
 simp only [Bool.and_eq_true, decide_eq_true_eq, Bool.not_eq_true'] at h
 exact ⟨h.1, h.2.1, h.2.2⟩
theorem e11 (k : Nat) (fl : Bool) (l : List Wr) (hk : 230 ≤ k) : evF pr k 74 [.sl 3 fl (l.map wrV)] [] = some (if wOk l then .tup [.str (putW l), .int .i64 0] else .tup [.str [], .int .i64 1], []) := by
 obtain ⟨k, rfl⟩ : ∃ m, k = m + 1 := ⟨k - 1, by omega⟩
 rw [ev_step _ _ _ _ (by kernel_rfl), putw_tree, List.length_map, e36 k fl l (by omega)]
 simp only [zRe, zBo, zNi]
 cases hok : wOk l with
 | false => rfl
 | true =>
  obtain ⟨h1, h2, h3⟩ := wOk_parts hok
  rw [show (2 : Int) = ((2 : Nat) : Int) from rfl, e37 k (by omega) _ (by omega) 2 (by omega) (by omega), putV_small l.length 2 (by omega) (by omega) (by omega)]
  simp only [Bool.not_true, cond_false, zRe, zTu, zCo, zSt, zIn, if_true, zNi]
  rw [decide_eq_true (by rw [be_length]; omega)]
  exact putw_loop k (by omega) fl false (be 2 l.length) l (by omega) h3 l.length 0 k (be 2 l.length) _ (Nat.zero_add _) (by omega) (by rw [be_length]; omega) (by kernel_rfl)
def rputwS (fl : Bool) (xs : List AV) (s : List UInt8) (i : Int) : St := ⟨44, [(0, AV.sl 3 fl xs), (2, AV.str []), (3, AV.str s), (4, AV.int .i64 i)], [], [], [], [], []⟩
theorem rputw_tree (F : Fns) (N : Nat) (fl : Bool) (xs : List AV) : runOf F 53 N [.sl 3 fl xs] [] =
 zRe (F 99 [AV.int .i64 (xs.length : Int)] []) fun v bs => zSt v fun s => zNi bs (loopA (zBy F 53 0 N) (zDe 53 0) (zCt F 53 0 N 0) N { nt := 44, t := [(0, AV.sl 3 fl xs), (2, AV.str []), (3, AV.str s), (4, AV.int .i64 0)], b := [], r := [], g := [], rd := [], wr := [] }) := by kernel_rfl
theorem rputw_body (F : Fns) (N : Nat) (fl : Bool) (xs : List AV) (s : List UInt8) (i : Int) (KN : St → Res) : zBy F 53 0 N (rputwS fl xs s i) (brk (zCt F 53 0 N 0) KN) =
 bif decide (i < (xs.length : Int)) then bif decide (0 ≤ i) then zOp xs[Int.toNat i]? fun x => zAg x fun cs => zCo cs fun v r => zIn .i64 v fun n => zCo r fun v r => zIn .i64 v fun n_1 => zCo r fun v r => zSt v fun s_1 => zNi r (zRe (F 97 [AV.int .i64 n] []) fun v bs => zSt v fun s_2 => zNi bs (bif decide (List.length s + List.length s_2 ≤ 4611686018427387904) then bif decide (0 ≤ i) then zOp xs[Int.toNat i]? fun x => zAg x fun cs => zCo cs fun v r => zIn .i64 v fun n => zCo r fun v r => zIn .i64 v fun n => zCo r fun v r => zSt v fun s_3 => zNi r (zRe (F 97 [AV.int .i64 n] []) fun v bs => zSt v fun s_4 => zNi bs (bif decide (List.length (s ++ s_2) + List.length s_4 ≤ 4611686018427387904) then bif decide (0 ≤ i) then zOp xs[Int.toNat i]? fun x => zAg x fun cs => zCo cs fun v r => zIn .i64 v fun n => zCo r fun v r => zIn .i64 v fun n => zCo r fun v r => zSt v fun s_5 => zNi r (zRe (F 99 [AV.int .i64 (s_5.length : Int)] []) fun v bs => zSt v fun s_6 => zNi bs (bif decide (List.length (s ++ s_2 ++ s_4) + List.length s_6 ≤ 4611686018427387904) then bif decide (0 ≤ i) then zOp xs[Int.toNat i]? fun x => zAg x fun cs => zCo cs fun v r => zIn .i64 v fun n => zCo r fun v r => zIn .i64 v fun n => zCo r fun v r => zSt v fun s_7 => zNi r (bif decide (List.length (s ++ s_2 ++ s_4 ++ s_6) + List.length s_7 ≤ 4611686018427387904) then KN { nt := 44, t := [(0, AV.sl 3 fl xs), (2, AV.str []), (3, AV.str (s ++ s_2 ++ s_4 ++ s_6 ++ s_7)), (4, AV.int .i64 (IntKind.wrap .i64 (i + 1))), (11, AV.bool (decide (i < (xs.length : Int))))], b := [], r := [], g := [], rd := [], wr := [] } else none) else none else none)) else none else none)) else none else none)) else none else some (AV.str s, []) := by kernel_rfl
theorem e41' (k : Nat) (hk : 1 ≤ k) (n : Int) (hn : 0 ≤ n) : evF pr k 97 [.int .i64 n] [] = some (.str [UInt8.ofNat n.toNat], []) := by
 obtain ⟨m, rfl⟩ : ∃ m : Nat, n = m := ⟨n.toNat, by omega⟩
 rw [e41 k hk m, Int.toNat_natCast]
theorem rputw_loop (k : Nat) (hk : 12 ≤ k) (fl : Bool) (l : List Wr) (hl : l.length ≤ 1000) (hb : l.any badW = false) : ∀ (dd i m : Nat) (acc : List UInt8) (st : St), i + dd = l.length → dd < m → acc.length ≤ 12 * i + 12 → st.clean (zDe 53 0) = rputwS fl (l.map wrV) acc i →
  loopA (zBy (evF pr k) 53 0 k) (zDe 53 0) (zCt (evF pr k) 53 0 k 0) m st = some (.str (acc ++ (l.drop i).flatMap wrB), []) := by
 intro dd
 induction dd with
 | zero =>
  intro i m acc st hi hm ha hst
  obtain ⟨m, rfl⟩ : ∃ m', m = m' + 1 := ⟨m - 1, by omega⟩
  have h1 : l.drop i = [] := List.drop_eq_nil_of_le (by omega)
  rw [loopA_succ, hst, rputw_body, List.length_map, decide_eq_false (by omega), h1]
  simp
 | succ dd ih =>
  intro i m acc st hi hm ha hst
  obtain ⟨m, rfl⟩ : ∃ m', m = m' + 1 := ⟨m - 1, by omega⟩
  have hlt : i < l.length := by omega
  have hbi : badW l[i] = false := by
   cases hc : badW l[i] with
   | false => rfl
   | true =>
    have : l.any badW = true := List.any_eq_true.2 ⟨l[i], List.getElem_mem hlt, hc⟩
    rw [hb] at this
    exact absurd this (by simp)
  have hg := badW_not hbi
  have hlen := wrB_length hbi
  rw [loopA_succ, hst, rputw_body, List.length_map, decide_eq_true (show (i : Int) < l.length by omega), decide_eq_true (show (0 : Int) ≤ i by omega), getWr l i hlt, List.drop_eq_getElem_cons hlt, List.flatMap_cons]
  simp only [cond_true, zOp, zAg, zCo, zIn, zSt, if_true, zNi]
  generalize l[i] = w at *
  rw [e41' k (by omega) w.1 (by omega), e41' k (by omega) w.2.1 (by omega), e40 k (by omega) w.2.2.length (by omega)]
  simp only [zRe, zSt, zNi]
  have hle : (wrB w).length = 2 + (be 2 w.2.2.length ++ w.2.2).length := by
   unfold wrB
   rw [List.length_append]
   simp only [List.length_cons, List.length_nil]
  simp only [List.length_append, List.length_cons, List.length_nil, be_length] at hle ⊢
  rw [decide_eq_true (show acc.length + (0 + 1) ≤ 4611686018427387904 by omega), decide_eq_true (show acc.length + (0 + 1) + (0 + 1) ≤ 4611686018427387904 by omega), decide_eq_true (show acc.length + (0 + 1) + (0 + 1) + 2 ≤ 4611686018427387904 by omega), decide_eq_true (show acc.length + (0 + 1) + (0 + 1) + 2 + w.2.2.length ≤ 4611686018427387904 by omega)]
  simp only [cond_true]
  rw [wrap_small (n := (i : Int) + 1) (by omega) (by omega)]
  have hacc : acc ++ wrB w = acc ++ [UInt8.ofNat w.1.toNat] ++ [UInt8.ofNat w.2.1.toNat] ++ be 2 w.2.2.length ++ w.2.2 := by simp [wrB]
  refine (ih (i + 1) m (acc ++ wrB w) _ (by omega) (by omega) (by rw [List.length_append]; omega) (by rw [hacc]; kernel_rfl)).trans ?_
  rw [List.append_assoc]
theorem e13 (k : Nat) (fl : Bool) (l : List Wr) (hk : 230 ≤ k) (hok : wOk l = true) : evF pr k 53 [.sl 3 fl (l.map wrV)] [] = some (.str (putW l), []) := by
 obtain ⟨k, rfl⟩ : ∃ m, k = m + 1 := ⟨k - 1, by omega⟩
 obtain ⟨h1, h2, h3⟩ := wOk_parts hok
 rw [ev_step _ _ _ _ (by kernel_rfl), rputw_tree, List.length_map, e40 k (by omega) l.length (by omega)]
 simp only [zRe, zSt, zNi]
 exact rputw_loop k (by omega) fl l (by omega) h3 l.length 0 k (be 2 l.length) _ (Nat.zero_add _) (by omega) (by rw [be_length]; omega) (by kernel_rfl)
theorem num_eq (w : Nat) (hw : w ≤ 7) (s : List UInt8) : num w s = if s.length < w then none else some (unbe (s.take w) 0, s.drop w) := by
 unfold num numN numE
 by_cases h : s.length < w
 ·simp [h]
 ·have hl := unbe_lt (s.take w) 0
  have h7 : 256 ^ (s.take w).length ≤ 256 ^ 7 := Nat.pow_le_pow_right (by omega) (by rw [List.length_take]; omega)
  have : ¬ unbe (s.take w) 0 ≥ 9223372036854775808 := by omega
  simp [h, this]
def wr1 (s : List UInt8) : Option (Wr × List UInt8) := match num 1 s with
 | none => none
 | some (v, s1) => match num 1 s1 with
  | none => none
  | some (b, s2) => match takeT s2 with
   | none => none
   | some (d, s3) => some (((v : Int), (b : Int), d), s3)
def wrs : Nat → List UInt8 → Option (List Wr × List UInt8)
 | 0, s => some ([], s)
 | n + 1, s => match wr1 s with
  | none => none
  | some (w, t) => match wrs n t with
   | none => none
   | some (l, u) => some (w :: l, u)
def takeW (s : List UInt8) : Option (List Wr × List UInt8) := match num 2 s with
 | none => none
 | some (n, t) => match wrs n t with
  | none => none
  | some (l, u) => if wOk l then some (l, u) else none
theorem num_suffix {w : Nat} {s : List UInt8} {n : Nat} {t : List UInt8} (h : num w s = some (n, t)) : t = s.drop w ∧ w ≤ s.length := by
 obtain ⟨h1, h2, h3⟩ := num_at h
 refine ⟨h3, ?_⟩
 by_cases hl : s.length < w
 ·simp [numE, hl] at h1
 ·omega
theorem takeT_suffix {s a b : List UInt8} (h : takeT s = some (a, b)) : ∃ q, b = s.drop q ∧ q ≤ s.length := by
 unfold takeT at h
 split at h
 ·simp at h
 ·rename_i n t hn
  obtain ⟨h1, h2⟩ := num_suffix hn
  split at h
  ·simp at h
  ·rename_i hl
   simp only [Option.some.injEq, Prod.mk.injEq] at h
   refine ⟨2 + n, ?_, ?_⟩
   ·rw [← h.2, h1, List.drop_drop]
   ·rw [h1, List.length_drop] at hl
    omega
theorem wr1_suffix {s : List UInt8} {w : Wr} {t : List UInt8} (h : wr1 s = some (w, t)) : ∃ q, t = s.drop q ∧ q ≤ s.length := by
 unfold wr1 at h
 split at h
 ·simp at h
 ·rename_i v s1 h1
  split at h
  ·simp at h
  ·rename_i b s2 h2
   split at h
   ·simp at h
   ·rename_i d s3 h3
    simp only [Option.some.injEq, Prod.mk.injEq] at h
    obtain ⟨a1, a2⟩ := num_suffix h1
    obtain ⟨b1, b2⟩ := num_suffix h2
    obtain ⟨q, c1, c2⟩ := takeT_suffix h3
    refine ⟨1 + (1 + q), ?_, ?_⟩
    ·rw [← h.2, c1, b1, a1, List.drop_drop, List.drop_drop]
    ·rw [a1, List.length_drop] at b2
     rw [b1, a1, List.length_drop, List.length_drop] at c2
     omega
theorem wrs_suffix : ∀ (n : Nat) (s : List UInt8) (l : List Wr) (t : List UInt8), wrs n s = some (l, t) → (∃ q, t = s.drop q ∧ q ≤ s.length) ∧ l.length = n
 | 0, s, l, t, h => by
  simp only [wrs, Option.some.injEq, Prod.mk.injEq] at h
  exact ⟨⟨0, by simp [h.2], by omega⟩, by simp [← h.1]⟩
 | n + 1, s, l, t, h => by
  simp only [wrs] at h
  split at h
  ·simp at h
  ·rename_i w s1 h1
   split at h
   ·simp at h
   ·rename_i l' s2 h2
    simp only [Option.some.injEq, Prod.mk.injEq] at h
    obtain ⟨q, a1, a2⟩ := wr1_suffix h1
    obtain ⟨⟨p, b1, b2⟩, b3⟩ := wrs_suffix n s1 l' s2 h2
    refine ⟨⟨q + p, ?_, ?_⟩, ?_⟩
    ·rw [← h.2, b1, a1, List.drop_drop]
    ·rw [a1, List.length_drop] at b2
     omega
    ·rw [← h.1, List.length_cons, b3]
def rwritesS (s : List UInt8) (b : Bool) (v : AV) (n i : Int) : St := ⟨61, [(0, AV.ptr 1000000 0 0), (2, AV.sl 0 true []), (3, v), (9, AV.int .i64 n), (10, AV.int .i64 i)], [(1000000, [AV.str s, AV.bool b])], [], [], [], []⟩
theorem rwrites_tree (F : Fns) (N : Nat) (s : List UInt8) (b : Bool) : runOf F 128 N [.ptr 0 0 0] [[.str s, .bool b]] =
 zRe (F 146 [AV.ptr 0 0 0, AV.int .i64 2] [[AV.str s, AV.bool b]]) fun v bs => zIn .i64 v fun n => zCo bs fun v r => zCo v fun v r_1 => zSt v fun s => zCo r_1 fun v r_2 => zBo v fun b => zNi r_2 (zNi r (loopA (zBy F 128 0 N) (zDe 128 0) (zCt F 128 0 N 1) N { nt := 61, t := [(0, AV.ptr (1000000 + 0) 0 0), (2, AV.sl 0 true []), (3, AV.sl 0 true []), (9, AV.int .i64 n), (10, AV.int .i64 0)], b := [(1000000, [AV.str s, AV.bool b])], r := [], g := [], rd := [], wr := [] })) := by kernel_rfl
theorem rwrites_body0 (F : Fns) (N : Nat) (s : List UInt8) (b : Bool) (n i : Int) (KN : St → Res) : zBy F 128 0 N (rwritesS s b (.sl 0 true []) n i) (brk (zCt F 128 0 N 1) KN) =
 bif decide (i < n) then zRe (F 146 [AV.ptr 0 0 0, AV.int .i64 1] [[AV.str s, AV.bool b]]) fun v bs => zIn .i64 v fun n_1 => zCo bs fun v r => zCo v fun v r_1 => zSt v fun s => zCo r_1 fun v r_2 => zBo v fun b => zNi r_2 (zNi r (zRe (F 146 [AV.ptr 0 0 0, AV.int .i64 1] [[AV.str s, AV.bool b]]) fun v bs => zIn .i64 v fun n_2 => zCo bs fun v r => zCo v fun v r_3 => zSt v fun s => zCo r_3 fun v r_4 => zBo v fun b => zNi r_4 (zNi r (zRe (F 103 [AV.str s] []) fun v bs => zTu v fun cs => zCo cs fun v r => zSt v fun s_1 => zCo r fun v r => zSt v fun s_2 => zCo r fun v r => zIn .i64 v fun n_3 => zNi r (zNi bs (bif b then some (AV.sl 0 true [], [[AV.str s, AV.bool true]]) else bif n_3 != 0 then some (AV.sl 0 true [], [[AV.str s, AV.bool true]]) else KN { nt := 61, t := [(0, AV.ptr 1000000 0 0), (2, AV.sl 0 true []), (3, AV.tip 46 0 3 [AV.agg [AV.int .i64 n_1, AV.int .i64 n_2, AV.str s_1]]), (4, AV.ptr 4 0 0), (5, AV.str s_1), (6, AV.str s_2), (7, AV.int .i64 n_3), (9, AV.int .i64 n), (10, AV.int .i64 (IntKind.wrap .i64 (i + 1))), (11, AV.bool (decide (i < n))), (33, AV.bool (n_3 != 0))], b := [(4, [AV.int .i64 n_1, AV.int .i64 n_2, AV.str s_1]), (1000000, [AV.str s_2, AV.bool b])], r := [], g := [], rd := [], wr := [] })))))) else bif b then some (AV.sl 0 true [], [[AV.str s, AV.bool true]]) else zRe (F 121 [AV.sl 0 true []] []) fun v bs => zBo v fun b => zNi bs (some (AV.sl 0 true [], [[AV.str s, AV.bool !b]])) := by kernel_rfl
theorem rwrites_body1 (F : Fns) (N : Nat) (s : List UInt8) (b : Bool) (n i : Int) (ys : List AV) (KN : St → Res) : zBy F 128 0 N (rwritesS s b (.tip 46 0 3 ys) n i) (brk (zCt F 128 0 N 1) KN) =
 bif decide (i < n) then zRe (F 146 [AV.ptr 0 0 0, AV.int .i64 1] [[AV.str s, AV.bool b]]) fun v bs => zIn .i64 v fun n_1 => zCo bs fun v r => zCo v fun v r_1 => zSt v fun s_1 => zCo r_1 fun v r_2 => zBo v fun b_1 => zNi r_2 (zNi r (zRe (F 146 [AV.ptr 0 0 0, AV.int .i64 1] [[AV.str s_1, AV.bool b_1]]) fun v bs => zIn .i64 v fun n_2 => zCo bs fun v r => zCo v fun v r_3 => zSt v fun s_2 => zCo r_3 fun v r_4 => zBo v fun b_2 => zNi r_4 (zNi r (zRe (F 103 [AV.str s_2] []) fun v bs => zTu v fun cs => zCo cs fun v r => zSt v fun s_3 => zCo r fun v r => zSt v fun s_4 => zCo r fun v r => zIn .i64 v fun n_3 => zNi r (zNi bs (bif b_2 then some (AV.sl 0 true [], [[AV.str s_2, AV.bool true]]) else bif n_3 != 0 then some (AV.sl 0 true [], [[AV.str s_2, AV.bool true]]) else bif decide (3 = 3 ∧ fitsB (List.length ys + List.length [AV.agg [AV.int .i64 n_1, AV.int .i64 n_2, AV.str s_3]]) 32 = true ∧ List.length ys + List.length [AV.agg [AV.int .i64 n_1, AV.int .i64 n_2, AV.str s_3]] ≤ 4611686018427387904) then KN { nt := 61, t := [(0, AV.ptr 1000000 0 0), (2, AV.sl 0 true []), (3, AV.tip 46 0 3 (ys ++ [AV.agg [AV.int .i64 n_1, AV.int .i64 n_2, AV.str s_3]])), (4, AV.ptr 4 0 0), (5, AV.str s_3), (6, AV.str s_4), (7, AV.int .i64 n_3), (9, AV.int .i64 n), (10, AV.int .i64 (IntKind.wrap .i64 (i + 1))), (11, AV.bool (decide (i < n))), (33, AV.bool (n_3 != 0))], b := [(4, [AV.int .i64 n_1, AV.int .i64 n_2, AV.str s_3]), (1000000, [AV.str s_4, AV.bool b_2])], r := [], g := [], rd := [], wr := [] } else none)))))) else bif b then some (AV.sl 3 false ys, [[AV.str s, AV.bool true]]) else zRe (F 121 [AV.sl 3 false ys] []) fun v bs => zBo v fun b => zNi bs (some (AV.sl 3 false ys, [[AV.str s, AV.bool !b]])) := by kernel_rfl
def WriteR (x : Option (List Wr × List UInt8)) (r : Res) : Prop := match x with
 | none => Bad r
 | some (l, s) => r = some (slW l, [[.str s, .bool false]])
def restW (acc : List Wr) (x : Option (List Wr × List UInt8)) : Option (List Wr × List UInt8) := match x with
 | none => none
 | some (l, s) => if wOk (acc ++ l) then some (acc ++ l, s) else none
theorem wr1_none {s : List UInt8} (h : wr1 s = none) : rdB 1 (rdS 1 s false) (rdB 1 s false) = true ∨ (rdB 1 (rdS 1 s false) (rdB 1 s false) = false ∧ takeT (rdS 1 (rdS 1 s false) (rdB 1 s false)) = none) := by
 unfold wr1 at h
 split at h
 ·rename_i h1
  left
  rw [rd_none h1, (rd_bad _ _).1]
 ·rename_i v s1 h1
  obtain ⟨a1, a2, a3⟩ := rd_some h1
  rw [a1, a3]
  split at h
  ·rename_i h2
   left
   exact rd_none h2
  ·rename_i b s2 h2
   obtain ⟨b1, b2, b3⟩ := rd_some h2
   right
   rw [b1, b3]
   refine ⟨rfl, ?_⟩
   split at h
   ·assumption
   ·simp at h
theorem wr1_some {s : List UInt8} {w : Wr} {t : List UInt8} (h : wr1 s = some (w, t)) : rdB 1 (rdS 1 s false) (rdB 1 s false) = false ∧ takeT (rdS 1 (rdS 1 s false) (rdB 1 s false)) = some (w.2.2, t) ∧ (rdN 1 s false : Int) = w.1 ∧ (rdN 1 (rdS 1 s false) (rdB 1 s false) : Int) = w.2.1 := by
 unfold wr1 at h
 split at h
 ·simp at h
 ·rename_i v s1 h1
  obtain ⟨a1, a2, a3⟩ := rd_some h1
  rw [a1, a2, a3]
  split at h
  ·simp at h
  ·rename_i b s2 h2
   obtain ⟨b1, b2, b3⟩ := rd_some h2
   rw [b1, b2, b3]
   split at h
   ·simp at h
   ·rename_i d s3 h3
    simp only [Option.some.injEq, Prod.mk.injEq] at h
    obtain ⟨rfl, rfl⟩ := h
    exact ⟨rfl, h3, rfl, rfl⟩
theorem rwrites_loop (k : Nat) (hk : 140 ≤ k) (n : Nat) (hn : n ≤ 65536) : ∀ (dd i m : Nat) (acc : List Wr) (s : List UInt8) (st : St), i + dd = n → dd < m → acc ≠ [] → acc.length = i → st.clean (zDe 128 0) = rwritesS s false (.tip 46 0 3 (acc.map wrV)) n i →
  WriteR (restW acc (wrs dd s)) (loopA (zBy (evF pr k) 128 0 k) (zDe 128 0) (zCt (evF pr k) 128 0 k 1) m st) := by
 intro dd
 induction dd with
 | zero =>
  intro i m acc s st hi hm ha hl hst
  obtain ⟨m, rfl⟩ : ∃ m', m = m' + 1 := ⟨m - 1, by omega⟩
  rw [loopA_succ, hst, rwrites_body1, decide_eq_false (by omega), e36 k false acc hk]
  simp only [cond_false, cond_true, zRe, zBo, zNi, wrs, restW, List.append_nil]
  cases wOk acc with
  | false => exact ⟨_, _, _, _, rfl⟩
  | true =>
   show _ = some (slW acc, _)
   rw [slW, if_neg ha]
   rfl
 | succ dd ih =>
  intro i m acc s st hi hm ha hl hst
  obtain ⟨m, rfl⟩ : ∃ m', m = m' + 1 := ⟨m - 1, by omega⟩
  rw [loopA_succ, hst, rwrites_body1, decide_eq_true (show (i : Int) < n by omega), show (1 : Int) = ((1 : Nat) : Int) from rfl, e49 k (by omega) s false 1 (by omega) (by omega)]
  simp only [cond_true, zRe, zBo, zNi, zIn, if_true, zCo, zSt]
  rw [e49 k (by omega) _ _ 1 (by omega) (by omega)]
  simp only [zRe, zBo, zNi, zIn, if_true, zCo, zSt]
  rw [e85 k (by omega), wrs]
  cases h1 : wr1 s with
  | none =>
   rcases wr1_none h1 with h | ⟨h, h2⟩
   ·rw [h]
    cases takeT (rdS 1 (rdS 1 s false) (rdB 1 s false)) with
    | none => exact ⟨_, _, _, _, rfl⟩
    | some q => exact ⟨_, _, _, _, rfl⟩
   ·rw [h, h2]
    exact ⟨_, _, _, _, rfl⟩
  | some p =>
   obtain ⟨w, t⟩ := p
   obtain ⟨r1, r2, r3, r4⟩ := wr1_some h1
   rw [r1, r2, r3, r4]
   simp only [zTu, zCo, zSt, zIn, if_true, zNi, cond_false, show ((0 : Int) != 0) = false from rfl]
   rw [decide_eq_true (by
    refine ⟨trivial, fitsB_small ?_, ?_⟩ <;> simp only [List.length_map, List.length_cons, List.length_nil] <;> omega)]
   simp only [cond_true]
   rw [show IntKind.wrap .i64 ((i : Int) + ((1 : Nat) : Int)) = ((i + 1 : Nat) : Int) by rw [wrap_small (by omega) (by omega)]; omega]
   have := ih (i + 1) m (acc ++ [w]) t ⟨61, [(0, AV.ptr 1000000 0 0), (2, AV.sl 0 true []), (3, AV.tip 46 0 3 (acc.map wrV ++ [AV.agg [AV.int .i64 w.1, AV.int .i64 w.2.1, AV.str w.2.2]])), (4, AV.ptr 4 0 0), (5, AV.str w.2.2), (6, AV.str t), (7, AV.int .i64 0), (9, AV.int .i64 n), (10, AV.int .i64 ((i + 1 : Nat) : Int)), (11, AV.bool true), (33, AV.bool false)], [(4, [AV.int .i64 w.1, AV.int .i64 w.2.1, AV.str w.2.2]), (1000000, [AV.str t, AV.bool false])], [], [], [], []⟩ (by omega) (by omega) (by simp) (by simp [hl]) (by rw [List.map_append]; kernel_rfl)
   cases h3 : wrs dd t with
   | none => rw [h3] at this; exact this
   | some r =>
    obtain ⟨l, s3⟩ := r
    rw [h3] at this
    simp only [restW, List.append_assoc, List.cons_append, List.nil_append] at this ⊢
    exact this
theorem e42 (k : Nat) (hk : 66000 ≤ k) (s : List UInt8) : WriteR (takeW s) (evF pr k 128 [.ptr 0 0 0] [[.str s, .bool false]]) := by
 obtain ⟨k, rfl⟩ : ∃ m, k = m + 1 := ⟨k - 1, by omega⟩
 rw [ev_step _ _ _ _ (by kernel_rfl), rwrites_tree, show (2 : Int) = ((2 : Nat) : Int) from rfl, e49 k (by omega) s false 2 (by omega) (by omega)]
 simp only [zRe, zBo, zNi, zIn, if_true, zCo, zSt]
 obtain ⟨k', hk'⟩ : ∃ m, k = m + 1 := ⟨k - 1, by omega⟩
 unfold takeW
 cases h1 : num 2 s with
 | none =>
  rw [rd_none h1]
  have : rdN 2 s false = 0 := by simp [rdN, rd_none h1]
  rw [this]
  conv => arg 2; arg 4; rw [hk']
  rw [loopA_succ]
  refine ⟨0, true, [], rdS 2 s false, ?_⟩
  exact rwrites_body0 _ _ (rdS 2 s false) true ((0 : Nat) : Int) 0 _
 | some p =>
  obtain ⟨n, s1⟩ := p
  obtain ⟨r1, r2, r3⟩ := rd_some h1
  have hn := (num_lt h1).1
  rw [r1, r2, r3]
  simp only
  conv => arg 2; arg 4; rw [hk']
  rw [loopA_succ]
  have hb : ∀ x, (x = zBy (evF pr k) 128 0 k (rwritesS s1 false (.sl 0 true []) n 0) (brk (zCt (evF pr k) 128 0 k 1) fun st' => loopA (zBy (evF pr k) 128 0 k) (zDe 128 0) (zCt (evF pr k) 128 0 k 1) k' st')) → WriteR (match wrs n s1 with
   | none => none
   | some (l, s2) => if wOk l then some (l, s2) else none) x := by
   intro x hx
   rw [rwrites_body0] at hx
   cases n with
   | zero =>
    obtain ⟨k2, hk2⟩ : ∃ m, k = m + 6 := ⟨k - 6, by omega⟩
    have h36 : evF pr k 121 [.sl 0 true []] [] = some (.bool true, []) := by rw [hk2]; exact e36nil k2
    rw [hx, h36]
    rfl
   | succ n =>
    rw [hx, decide_eq_true (show (0 : Int) < ((n + 1 : Nat) : Int) by omega), show (1 : Int) = ((1 : Nat) : Int) from rfl, e49 k (by omega) s1 false 1 (by omega) (by omega)]
    simp only [cond_true, zRe, zBo, zNi, zIn, if_true, zCo, zSt]
    rw [e49 k (by omega) _ _ 1 (by omega) (by omega)]
    simp only [zRe, zBo, zNi, zIn, if_true, zCo, zSt]
    rw [e85 k (by omega), wrs]
    cases h1 : wr1 s1 with
    | none =>
     rcases wr1_none h1 with h | ⟨h, h2⟩
     ·rw [h]
      cases takeT (rdS 1 (rdS 1 s1 false) (rdB 1 s1 false)) with
      | none => exact ⟨_, _, _, _, rfl⟩
      | some q => exact ⟨_, _, _, _, rfl⟩
     ·rw [h, h2]
      exact ⟨_, _, _, _, rfl⟩
    | some p =>
     obtain ⟨w, t⟩ := p
     obtain ⟨r1, r2, r3, r4⟩ := wr1_some h1
     rw [r1, r2, r3, r4]
     simp only [zTu, zCo, zSt, zIn, if_true, zNi, cond_false, show ((0 : Int) != 0) = false from rfl]
     have := rwrites_loop k (by omega) (n + 1) (by omega) n 1 k' [w] t ⟨61, [(0, AV.ptr 1000000 0 0), (2, AV.sl 0 true []), (3, AV.tip 46 0 3 [AV.agg [AV.int .i64 w.1, AV.int .i64 w.2.1, AV.str w.2.2]]), (4, AV.ptr 4 0 0), (5, AV.str w.2.2), (6, AV.str t), (7, AV.int .i64 0), (9, AV.int .i64 ((n + 1 : Nat) : Int)), (10, AV.int .i64 (IntKind.wrap .i64 (0 + ((1 : Nat) : Int)))), (11, AV.bool true), (33, AV.bool false)], [(4, [AV.int .i64 w.1, AV.int .i64 w.2.1, AV.str w.2.2]), (1000000, [AV.str t, AV.bool false])], [], [], [], []⟩ (by omega) (by omega) (by simp) rfl (by kernel_rfl)
     cases h3 : wrs n t with
     | none => rw [h3] at this; exact this
     | some r =>
      obtain ⟨l, s4⟩ := r
      rw [h3] at this
      exact this
  exact hb _ (by kernel_rfl)
theorem takew_tree (F : Fns) (N : Nat) (s : List UInt8) : runOf F 94 N [.str s] [] =
 zRe (F 128 [AV.ptr 0 0 0] [[AV.str s, AV.bool false]]) fun v bs => asSl v fun m fl xs => zCo bs fun v r => zCo v fun v r_1 => zSt v fun s => zCo r_1 fun v r_2 => zBo v fun b => zNi r_2 (zNi r (bif b then some (AV.tup [AV.sl 0 true [], AV.str [], AV.int .i64 3], []) else some (AV.tup [AV.sl m fl xs, AV.str s, AV.int .i64 0], []))) := by kernel_rfl
def TakeWR (x : Option (List Wr × List UInt8)) : Res := match x with
 | none => some (.tup [.sl 0 true [], .str [], .int .i64 3], [])
 | some (l, s) => some (.tup [slW l, .str s, .int .i64 0], [])
theorem e14 (k : Nat) (hk : 66001 ≤ k) (s : List UInt8) : evF pr k 94 [.str s] [] = TakeWR (takeW s) := by
 obtain ⟨k, rfl⟩ : ∃ m, k = m + 1 := ⟨k - 1, by omega⟩
 rw [ev_step _ _ _ _ (by kernel_rfl), takew_tree]
 have h := e42 k (by omega) s
 cases ht : takeW s with
 | none =>
  rw [ht] at h
  obtain ⟨m, fl, xs, s', h⟩ := h
  rw [h]
  rfl
 | some p =>
  obtain ⟨l, s'⟩ := p
  rw [ht] at h
  have h : _ = some (slW l, _) := h
  rw [h]
  show _ = some (AV.tup [slW l, .str s', .int .i64 0], [])
  unfold slW
  split <;> rfl
theorem wr1_ref (s : List UInt8) (p : Nat) : wr1 (s.drop p) = match num 2 (s.drop (p + 2)) with
  | none => none
  | some (n, u) => if u.length < n then none else some ((((s.getD p 0).toNat : Int), ((s.getD (p + 1) 0).toNat : Int), u.take n), u.drop n) := by
 have h1 : num 1 (s.drop p) = if s.length ≤ p then none else some ((s.getD p 0).toNat, s.drop (p + 1)) := by
  rw [num_eq 1 (by omega)]
  by_cases h : s.length ≤ p
  ·rw [if_pos (by rw [List.length_drop]; omega), if_pos h]
  ·rw [if_neg (by rw [List.length_drop]; omega), if_neg h, List.drop_drop, List.drop_eq_getElem_cons (show p < s.length by omega)]
   simp only [List.take_succ_cons, List.take_zero, unbe]
   rw [List.getD_eq_getElem?_getD, List.getElem?_eq_getElem (show p < s.length by omega)]
   simp
 have h2 : num 1 (s.drop (p + 1)) = if s.length ≤ p + 1 then none else some ((s.getD (p + 1) 0).toNat, s.drop (p + 2)) := by
  rw [num_eq 1 (by omega)]
  by_cases h : s.length ≤ p + 1
  ·rw [if_pos (by rw [List.length_drop]; omega), if_pos h]
  ·rw [if_neg (by rw [List.length_drop]; omega), if_neg h, List.drop_drop, List.drop_eq_getElem_cons (show p + 1 < s.length by omega)]
   simp only [List.take_succ_cons, List.take_zero, unbe]
   rw [List.getD_eq_getElem?_getD, List.getElem?_eq_getElem (show p + 1 < s.length by omega)]
   simp
 unfold wr1
 rw [h1]
 have hno : s.length ≤ p + 1 → num 2 (s.drop (p + 2)) = none := by
  intro h
  rw [num_eq 2 (by omega), if_pos (by rw [List.length_drop]; omega)]
 by_cases hp : s.length ≤ p
 ·rw [if_pos hp, hno (by omega)]
 ·rw [if_neg hp]
  simp only
  rw [h2]
  by_cases hp1 : s.length ≤ p + 1
  ·rw [if_pos hp1, hno hp1]
  ·rw [if_neg hp1]
   simp only [takeT]
   cases num 2 (s.drop (p + 2)) with
   | none => rfl
   | some q =>
    obtain ⟨n, u⟩ := q
    simp only
    split <;> simp_all
def rtakewS (s : List UInt8) (p n i : Int) (b c : Bool) (v : AV) : St := ⟨75, [(0, AV.str s), (1, AV.int .i64 p), (4, AV.sl 0 true []), (5, AV.int .i64 0), (6, AV.bool false), (7, AV.int .i64 n), (8, AV.bool b), (9, v), (10, AV.int .i64 i), (20, AV.bool c)], [], [], [], [], []⟩
theorem rtakew_tree (F : Fns) (N : Nat) (s : List UInt8) (p : Int) : runOf F 131 N [.str s, .int .i64 p] [] =
 zRe (F 129 [AV.str s, AV.int .i64 p, AV.int .i64 2] []) fun v bs => zTu v fun cs => zCo cs fun v r => zIn .i64 v fun n => zCo r fun v r => zBo v fun b => zNi r (zNi bs (bif !b then some (AV.tup [AV.sl 0 true [], AV.int .i64 0, AV.bool false], []) else loopA (zBy F 131 0 N) (zDe 131 0) (zCt F 131 0 N 0) N { nt := 75, t := [(0, AV.str s), (1, AV.int .i64 (IntKind.wrap .i64 (p + 2))), (4, AV.sl 0 true []), (5, AV.int .i64 0), (6, AV.bool false), (7, AV.int .i64 n), (8, AV.bool b), (9, AV.sl 0 true []), (10, AV.int .i64 0), (20, AV.bool !b)], b := [], r := [], g := [], rd := [], wr := [] })) := by kernel_rfl
theorem rtakew_body0 (F : Fns) (N : Nat) (s : List UInt8) (p n i : Int) (b c : Bool) (KN : St → Res) : zBy F 131 0 N (rtakewS s p n i b c (.sl 0 true [])) (brk (zCt F 131 0 N 0) KN) =
 bif decide (i < n) then zRe (F 129 [AV.str s, AV.int .i64 (IntKind.wrap .i64 (p + 2)), AV.int .i64 2] []) fun v bs => zTu v fun cs => zCo cs fun v r => zIn .i64 v fun n_1 => zCo r fun v r => zBo v fun b_1 => zNi r (zNi bs (bif !b_1 then some (AV.tup [AV.sl 0 true [], AV.int .i64 0, AV.bool false], []) else bif decide (IntKind.wrap .i64 (IntKind.wrap .i64 (p + 4) + n_1) > (s.length : Int)) then some (AV.tup [AV.sl 0 true [], AV.int .i64 0, AV.bool false], []) else bif decide (0 ≤ p) then zOp (Option.map (fun b => AV.int .u8 ((UInt8.toNat b : Nat) : Int)) s[Int.toNat p]?) fun x => zIn .u8 x fun n_2 => bif decide (0 ≤ IntKind.wrap .i64 (p + 1)) then zOp (Option.map (fun b => AV.int .u8 ((UInt8.toNat b : Nat) : Int)) s[Int.toNat (IntKind.wrap .i64 (p + 1))]?) fun x => zIn .u8 x fun n_3 => bif decide (0 ≤ IntKind.wrap .i64 (p + 4) ∧ IntKind.wrap .i64 (p + 4) ≤ IntKind.wrap .i64 (IntKind.wrap .i64 (p + 4) + n_1) ∧ IntKind.wrap .i64 (IntKind.wrap .i64 (p + 4) + n_1) ≤ (s.length : Int)) then KN { nt := 75, t := [(0, AV.str s), (1, AV.int .i64 (IntKind.wrap .i64 (IntKind.wrap .i64 (p + 4) + n_1))), (4, AV.sl 0 true []), (5, AV.int .i64 0), (6, AV.bool false), (7, AV.int .i64 n), (8, AV.bool b), (9, AV.tip 66 0 3 [AV.agg [AV.int .i64 (IntKind.wrap .i64 n_2), AV.int .i64 (IntKind.wrap .i64 n_3), AV.str (List.drop (Int.toNat (IntKind.wrap .i64 (p + 4))) (List.take (Int.toNat (IntKind.wrap .i64 (IntKind.wrap .i64 (p + 4) + n_1))) s))]]), (10, AV.int .i64 (IntKind.wrap .i64 (i + 1))), (11, AV.int .i64 n_1), (12, AV.bool b_1), (20, AV.bool c), (25, AV.bool (decide (i < n))), (45, AV.bool (decide (IntKind.wrap .i64 (IntKind.wrap .i64 (p + 4) + n_1) > (s.length : Int))))], b := [], r := [], g := [], rd := [], wr := [] } else none else none else none)) else zRe (F 86 [AV.sl 0 true []] []) fun v bs => zBo v fun b => zNi bs (some (AV.tup [AV.sl 0 true [], AV.int .i64 p, AV.bool b], [])) := by kernel_rfl
theorem rtakew_body1 (F : Fns) (N : Nat) (s : List UInt8) (p n i : Int) (b c : Bool) (ys : List AV) (KN : St → Res) : zBy F 131 0 N (rtakewS s p n i b c (.tip 66 0 3 ys)) (brk (zCt F 131 0 N 0) KN) =
 bif decide (i < n) then zRe (F 129 [AV.str s, AV.int .i64 (IntKind.wrap .i64 (p + 2)), AV.int .i64 2] []) fun v bs => zTu v fun cs => zCo cs fun v r => zIn .i64 v fun n_1 => zCo r fun v r => zBo v fun b_1 => zNi r (zNi bs (bif !b_1 then some (AV.tup [AV.sl 0 true [], AV.int .i64 0, AV.bool false], []) else bif decide (IntKind.wrap .i64 (IntKind.wrap .i64 (p + 4) + n_1) > (s.length : Int)) then some (AV.tup [AV.sl 0 true [], AV.int .i64 0, AV.bool false], []) else bif decide (0 ≤ p) then zOp (Option.map (fun b => AV.int .u8 ((UInt8.toNat b : Nat) : Int)) s[Int.toNat p]?) fun x => zIn .u8 x fun n_2 => bif decide (0 ≤ IntKind.wrap .i64 (p + 1)) then zOp (Option.map (fun b => AV.int .u8 ((UInt8.toNat b : Nat) : Int)) s[Int.toNat (IntKind.wrap .i64 (p + 1))]?) fun x => zIn .u8 x fun n_3 => bif decide (0 ≤ IntKind.wrap .i64 (p + 4) ∧ IntKind.wrap .i64 (p + 4) ≤ IntKind.wrap .i64 (IntKind.wrap .i64 (p + 4) + n_1) ∧ IntKind.wrap .i64 (IntKind.wrap .i64 (p + 4) + n_1) ≤ (s.length : Int)) then bif decide (3 = 3 ∧ fitsB (List.length ys + List.length [AV.agg [AV.int .i64 (IntKind.wrap .i64 n_2), AV.int .i64 (IntKind.wrap .i64 n_3), AV.str (List.drop (Int.toNat (IntKind.wrap .i64 (p + 4))) (List.take (Int.toNat (IntKind.wrap .i64 (IntKind.wrap .i64 (p + 4) + n_1))) s))]]) 32 = true ∧ List.length ys + List.length [AV.agg [AV.int .i64 (IntKind.wrap .i64 n_2), AV.int .i64 (IntKind.wrap .i64 n_3), AV.str (List.drop (Int.toNat (IntKind.wrap .i64 (p + 4))) (List.take (Int.toNat (IntKind.wrap .i64 (IntKind.wrap .i64 (p + 4) + n_1))) s))]] ≤ 4611686018427387904) then KN { nt := 75, t := [(0, AV.str s), (1, AV.int .i64 (IntKind.wrap .i64 (IntKind.wrap .i64 (p + 4) + n_1))), (4, AV.sl 0 true []), (5, AV.int .i64 0), (6, AV.bool false), (7, AV.int .i64 n), (8, AV.bool b), (9, AV.tip 66 0 3 (ys ++ [AV.agg [AV.int .i64 (IntKind.wrap .i64 n_2), AV.int .i64 (IntKind.wrap .i64 n_3), AV.str (List.drop (Int.toNat (IntKind.wrap .i64 (p + 4))) (List.take (Int.toNat (IntKind.wrap .i64 (IntKind.wrap .i64 (p + 4) + n_1))) s))]])), (10, AV.int .i64 (IntKind.wrap .i64 (i + 1))), (11, AV.int .i64 n_1), (12, AV.bool b_1), (20, AV.bool c), (25, AV.bool (decide (i < n))), (45, AV.bool (decide (IntKind.wrap .i64 (IntKind.wrap .i64 (p + 4) + n_1) > (s.length : Int))))], b := [], r := [], g := [], rd := [], wr := [] } else none else none else none else none)) else zRe (F 86 [AV.sl 3 false ys] []) fun v bs => zBo v fun b => zNi bs (some (AV.tup [AV.sl 3 false ys, AV.int .i64 p, AV.bool b], [])) := by kernel_rfl
def RTakeW (s : List UInt8) (acc : List Wr) (x : Option (List Wr × List UInt8)) : Res := match x with
 | none => some (.tup [.sl 0 true [], .int .i64 0, .bool false], [])
 | some (l, u) => some (.tup [slW (acc ++ l), .int .i64 ((s.length - u.length : Nat) : Int), .bool (wOk (acc ++ l))], [])
theorem getD_map (s : List UInt8) (p : Nat) (h : p < s.length) : Option.map (fun b => AV.int .u8 ((UInt8.toNat b : Nat) : Int)) s[Int.toNat (p : Int)]? = some (AV.int .u8 ((s.getD p 0).toNat : Int)) := by
 rw [Int.toNat_natCast, List.getElem?_eq_getElem h, List.getD_eq_getElem?_getD, List.getElem?_eq_getElem h]
 rfl
theorem rtakew_round (s : List UInt8) (hs : s.length < 1152921504606846976) (p : Nat) (hp : p ≤ s.length) (X : Res) (G : Nat → List UInt8 → Wr → Res) (n1 : Nat) (u : List UInt8) (h : num 2 (s.drop (p + 2)) = some (n1, u)) (hu : ¬ u.length < n1) :
  p + 4 + n1 ≤ s.length ∧ u = s.drop (p + 4) ∧ IntKind.wrap .i64 ((p : Int) + 4) = ((p + 4 : Nat) : Int) ∧ IntKind.wrap .i64 (((p + 4 : Nat) : Int) + (n1 : Int)) = ((p + 4 + n1 : Nat) : Int) ∧ IntKind.wrap .i64 ((p : Int) + 1) = ((p + 1 : Nat) : Int) ∧ List.drop (p + 4) (List.take (p + 4 + n1) s) = u.take n1 ∧ u.drop n1 = s.drop (p + 4 + n1) := by
 obtain ⟨a1, a2⟩ := num_suffix h
 have hu' : u = s.drop (p + 4) := by rw [a1, List.drop_drop]
 have hlt := (num_lt h).1
 rw [List.length_drop] at a2
 have hul : u.length = s.length - (p + 4) := by rw [hu', List.length_drop]
 have hp4 : p + 4 ≤ s.length := by omega
 refine ⟨by omega, hu', by rw [wrap_small (by omega) (by omega)]; omega, by rw [wrap_small (by omega) (by omega)]; omega, by rw [wrap_small (by omega) (by omega)]; omega, ?_, ?_⟩
 ·rw [List.drop_take, hu', show p + 4 + n1 - (p + 4) = n1 by omega]
 ·rw [hu', List.drop_drop]
theorem byte_i64 (b : UInt8) : IntKind.wrap .i64 ((b.toNat : Nat) : Int) = ((b.toNat : Nat) : Int) := by
 have := b.toNat_lt
 exact wrap_small (by omega) (by omega)
theorem rtakew_loop (k : Nat) (hk : 240 ≤ k) (s : List UInt8) (hs : s.length < 1152921504606846976) (n : Nat) (hn : n ≤ 65536) (b c : Bool) : ∀ (dd i m p : Nat) (acc : List Wr) (st : St), i + dd = n → dd < m → p ≤ s.length → acc ≠ [] → acc.length = i → st.clean (zDe 131 0) = rtakewS s p n i b c (.tip 66 0 3 (acc.map wrV)) →
  loopA (zBy (evF pr k) 131 0 k) (zDe 131 0) (zCt (evF pr k) 131 0 k 0) m st = RTakeW s acc (wrs dd (s.drop p)) := by
 intro dd
 induction dd with
 | zero =>
  intro i m p acc st hi hm hp ha hl hst
  obtain ⟨m, rfl⟩ : ∃ m', m = m' + 1 := ⟨m - 1, by omega⟩
  rw [loopA_succ, hst, rtakew_body1, decide_eq_false (by omega), e12 k false acc (by omega)]
  simp only [cond_false, zRe, zBo, zNi, wrs, RTakeW, List.append_nil]
  rw [List.length_drop, show s.length - (s.length - p) = p by omega, slW, if_neg ha]
 | succ dd ih =>
  intro i m p acc st hi hm hp ha hl hst
  obtain ⟨m, rfl⟩ : ∃ m', m = m' + 1 := ⟨m - 1, by omega⟩
  rw [loopA_succ, hst, rtakew_body1, decide_eq_true (show (i : Int) < n by omega), show IntKind.wrap .i64 ((p : Int) + 2) = ((p + 2 : Nat) : Int) by (rw [wrap_small (by omega) (by omega)]; omega), show (2 : Int) = ((2 : Nat) : Int) from rfl,
   e43 k (by omega) s (by omega) (p + 2) (by omega) 2 (by omega) (by omega)]
  simp only [cond_true, zRe, zBo, zNi, zIn, if_true, zCo, zTu, wrs]
  rw [wr1_ref]
  cases h1 : num 2 (s.drop (p + 2)) with
  | none =>
   rw [show (numE 2 (s.drop (p + 2)) == 0) = false by simpa using num_no h1]
   rfl
  | some q =>
   obtain ⟨n1, u⟩ := q
   obtain ⟨r1, r2, r3⟩ := num_at h1
   have hlt := (num_lt h1).1
   rw [r1, r2]
   simp only [show ((0 : Int) == 0) = true from rfl, Bool.not_true, cond_false]
   by_cases hu : u.length < n1
   ·rw [if_pos hu]
    have hul : u.length = s.length - (p + 4) := by rw [r3, List.length_drop, List.length_drop]; omega
    have h4 := (num_suffix h1).2
    rw [List.length_drop] at h4
    rw [show IntKind.wrap .i64 ((p : Int) + 4) = ((p + 4 : Nat) : Int) by (rw [wrap_small (by omega) (by omega)]; omega), wrap_small (n := ((p + 4 : Nat) : Int) + (n1 : Int)) (by omega) (by omega), decide_eq_true (show ((p + 4 : Nat) : Int) + (n1 : Int) > s.length by omega)]
    rfl
   ·rw [if_neg hu]
    obtain ⟨g1, g2, g3, g4, g5, g6, g7⟩ := rtakew_round s hs p hp none (fun _ _ _ => none) n1 u h1 hu
    rw [g3, g4, g5, decide_eq_false (show ¬ ((p + 4 + n1 : Nat) : Int) > s.length by omega), decide_eq_true (show (0 : Int) ≤ p by omega), decide_eq_true (show (0 : Int) ≤ (p + 1 : Nat) by omega), getD_map s p (by omega), getD_map s (p + 1) (by omega), decide_eq_true (show 0 ≤ ((p + 4 : Nat) : Int) ∧ ((p + 4 : Nat) : Int) ≤ ((p + 4 + n1 : Nat) : Int) ∧ ((p + 4 + n1 : Nat) : Int) ≤ s.length by omega)]
    simp only [cond_true, cond_false, zOp, zIn, if_true, byte_i64]
    rw [Int.toNat_natCast, Int.toNat_natCast, g6]
    rw [decide_eq_true (by
     refine ⟨trivial, fitsB_small ?_, ?_⟩ <;> simp only [List.length_map, List.length_cons, List.length_nil] <;> omega)]
    simp only [cond_true]
    rw [wrap_small (n := (i : Int) + 1) (by omega) (by omega), g7]
    refine (ih (i + 1) m (p + 4 + n1) (acc ++ [(((s.getD p 0).toNat : Int), ((s.getD (p + 1) 0).toNat : Int), u.take n1)]) _ (by omega) (by omega) g1 (by simp) (by simp [hl]) (by rw [List.map_append]; kernel_rfl)).trans ?_
    cases h3 : wrs dd (s.drop (p + 4 + n1)) with
    | none => rfl
    | some r =>
     obtain ⟨l, s3⟩ := r
     simp only [RTakeW, List.append_assoc, List.cons_append, List.nil_append]
def RTakeWAt (p : Nat) (s : List UInt8) : Res := match num 2 (s.drop p) with
 | none => RTakeW s [] none
 | some (n, t) => RTakeW s [] (wrs n t)
theorem e15 (k : Nat) (hk : 66000 ≤ k) (s : List UInt8) (hs : s.length < 1152921504606846976) (p : Nat) (hp : p < 1152921504606846976) : evF pr k 131 [.str s, .int .i64 p] [] = RTakeWAt p s := by
 obtain ⟨k, rfl⟩ : ∃ m, k = m + 1 := ⟨k - 1, by omega⟩
 rw [ev_step _ _ _ _ (by kernel_rfl), rtakew_tree, show (2 : Int) = ((2 : Nat) : Int) from rfl, e43 k (by omega) s (by omega) p (by omega) 2 (by omega) (by omega)]
 simp only [zRe, zBo, zNi, zIn, if_true, zCo, zTu]
 unfold RTakeWAt
 cases h1 : num 2 (s.drop p) with
 | none =>
  rw [show (numE 2 (s.drop p) == 0) = false by simpa using num_no h1]
  rfl
 | some q =>
  obtain ⟨n, t⟩ := q
  obtain ⟨r1, r2, r3⟩ := num_at h1
  have hn := (num_lt h1).1
  have hp2 := (num_suffix h1).2
  rw [List.length_drop] at hp2
  rw [r1, r2]
  rw [List.drop_drop] at r3
  subst r3
  rw [show IntKind.wrap .i64 ((p : Int) + ((2 : Nat) : Int)) = ((p + 2 : Nat) : Int) by (rw [wrap_small (by omega) (by omega)]; omega)]
  simp only [show ((0 : Int) == 0) = true from rfl, Bool.not_true, cond_false]
  obtain ⟨k', hk'⟩ : ∃ m, k = m + 1 := ⟨k - 1, by omega⟩
  conv => lhs; arg 4; rw [hk']
  rw [loopA_succ]
  refine (rtakew_body0 _ _ s ((p + 2 : Nat) : Int) n 0 true false _).trans ?_
  cases n with
  | zero =>
   obtain ⟨k2, hk2⟩ : ∃ m, k = m + 6 := ⟨k - 6, by omega⟩
   have h12 : evF pr k 86 [.sl 0 true []] [] = some (.bool true, []) := by rw [hk2]; exact e12nil k2
   rw [h12, decide_eq_false (show ¬ (0 : Int) < ((0 : Nat) : Int) by omega)]
   simp only [cond_false, zRe, zBo, zNi, wrs, RTakeW, List.append_nil]
   rw [List.length_drop, show s.length - (s.length - (p + 2)) = p + 2 by omega]
   rfl
  | succ n =>
   rw [decide_eq_true (show (0 : Int) < ((n + 1 : Nat) : Int) by omega), show IntKind.wrap .i64 (((p + 2 : Nat) : Int) + 2) = ((p + 2 + 2 : Nat) : Int) by (rw [wrap_small (by omega) (by omega)]; omega), show (2 : Int) = ((2 : Nat) : Int) from rfl,
    e43 k (by omega) s (by omega) (p + 2 + 2) (by omega) 2 (by omega) (by omega)]
   simp only [cond_true, zRe, zBo, zNi, zIn, if_true, zCo, zTu, wrs]
   rw [wr1_ref]
   cases h1 : num 2 (s.drop (p + 2 + 2)) with
   | none =>
    rw [show (numE 2 (s.drop (p + 2 + 2)) == 0) = false by simpa using num_no h1]
    rfl
   | some q =>
    obtain ⟨n1, u⟩ := q
    obtain ⟨r1, r2, r3⟩ := num_at h1
    have hlt := (num_lt h1).1
    rw [r1, r2]
    simp only [show ((0 : Int) == 0) = true from rfl, Bool.not_true, cond_false]
    by_cases hu : u.length < n1
    ·rw [if_pos hu]
     have hul : u.length = s.length - (p + 2 + 4) := by rw [r3, List.length_drop, List.length_drop]; omega
     have h4 := (num_suffix h1).2
     rw [List.length_drop] at h4
     rw [show IntKind.wrap .i64 (((p + 2 : Nat) : Int) + 4) = ((p + 2 + 4 : Nat) : Int) by (rw [wrap_small (by omega) (by omega)]; omega), wrap_small (n := ((p + 2 + 4 : Nat) : Int) + (n1 : Int)) (by omega) (by omega), decide_eq_true (show ((p + 2 + 4 : Nat) : Int) + (n1 : Int) > s.length by omega)]
     rfl
    ·rw [if_neg hu]
     obtain ⟨g1, g2, g3, g4, g5, g6, g7⟩ := rtakew_round s hs (p + 2) (by omega) none (fun _ _ _ => none) n1 u h1 hu
     rw [g3, g4, g5, decide_eq_false (show ¬ ((p + 2 + 4 + n1 : Nat) : Int) > s.length by omega), decide_eq_true (show (0 : Int) ≤ (p + 2 : Nat) by omega), decide_eq_true (show (0 : Int) ≤ (p + 2 + 1 : Nat) by omega), getD_map s (p + 2) (by omega), getD_map s (p + 2 + 1) (by omega), decide_eq_true (show 0 ≤ ((p + 2 + 4 : Nat) : Int) ∧ ((p + 2 + 4 : Nat) : Int) ≤ ((p + 2 + 4 + n1 : Nat) : Int) ∧ ((p + 2 + 4 + n1 : Nat) : Int) ≤ s.length by omega)]
     simp only [cond_true, cond_false, zOp, zIn, if_true, byte_i64]
     rw [Int.toNat_natCast, Int.toNat_natCast, g6, g7]
     refine (rtakew_loop k (by omega) s hs (n + 1) (by omega) true false n 1 k' (p + 2 + 4 + n1) [(((s.getD (p + 2) 0).toNat : Int), ((s.getD (p + 2 + 1) 0).toNat : Int), u.take n1)] _ (by omega) (by omega) g1 (by simp) rfl (by kernel_rfl)).trans ?_
     cases h3 : wrs n (s.drop (p + 2 + 4 + n1)) with
     | none => rfl
     | some r => rfl
theorem num_be (w n : Nat) (t : List UInt8) (h : n < 256 ^ w) (h2 : n < 9223372036854775808) : num w (be w n ++ t) = some (n, t) := by
 have hl : (be w n).length = w := be_length w n
 have ht : (be w n ++ t).take w = be w n := by rw [List.take_append_of_le_length (by omega), List.take_of_length_le (by omega)]
 have hd : (be w n ++ t).drop w = t := by rw [List.drop_append_of_le_length (by omega), List.drop_eq_nil_of_le (by omega), List.nil_append]
 have hu : unbe (be w n) 0 = n := by rw [unbe_be, Nat.zero_mul, Nat.zero_add, Nat.mod_eq_of_lt h]
 have he : numE w (be w n ++ t) = 0 := by
  unfold numE
  rw [if_neg (by rw [List.length_append]; omega), ht, hu, if_neg (by omega)]
 unfold num numN
 rw [if_pos he, if_pos he, ht, hd, hu]
theorem be8_nat (n : Nat) (h : n < 9223372036854775808) : be8 (n : Int) = be 8 n := by
 unfold be8
 rw [show (8 : Int) = ((8 : Nat) : Int) from rfl, putV_small n 8 (by omega) (by omega) (by omega)]
def Fit (l : List (Int × Int)) : Prop := ∀ b ∈ l, 0 ≤ b.1 ∧ b.1 < 9223372036854775808 ∧ 0 ≤ b.2 ∧ b.2 < 9223372036854775808
theorem brs_put : ∀ (l : List (Int × Int)) (t : List UInt8), Fit l → brs l.length (l.flatMap brB ++ t) = some (l, t)
 | [], t, _ => rfl
 | b :: r, t, h => by
  obtain ⟨h1, h2, h3, h4⟩ := h b (List.mem_cons_self ..)
  obtain ⟨e, a⟩ := b
  simp only at h1 h2 h3 h4
  obtain ⟨e, rfl⟩ : ∃ n : Nat, e = n := ⟨e.toNat, by omega⟩
  obtain ⟨a, rfl⟩ : ∃ n : Nat, a = n := ⟨a.toNat, by omega⟩
  have hr := brs_put r t fun c hc => h c (List.mem_cons_of_mem _ hc)
  rw [List.length_cons, List.flatMap_cons, brs, brB, be8_nat e (by omega), be8_nat a (by omega), List.append_assoc, List.append_assoc, num_be 8 e _ (by omega) (by omega)]
  simp only
  rw [num_be 8 a _ (by omega) (by omega)]
  simp only
  rw [hr]
theorem chain_fit : ∀ (l : List (Int × Int)) (e a : Int), 0 ≤ e → 0 ≤ a → chain e a l = true → Fit l
 | [], e, a, _, _, _ => by simp [Fit]
 | b :: r, e, a, he, ha, h => by
  rw [chain, Bool.and_eq_true, decide_eq_true_eq] at h
  obtain ⟨⟨h1, h2, h3, h4⟩, h5⟩ := h
  intro c hc
  rcases List.mem_cons.1 hc with rfl | hc
  ·omega
  ·exact chain_fit r b.1 b.2 (by omega) (by omega) h5 c hc
theorem lined_parts {l : List (Int × Int)} (h : lined l = true) : l.length ≤ 64 ∧ Fit l := by
 cases l with
 | nil => exact ⟨by simp, by simp [Fit]⟩
 | cons b r =>
  have h : lineOk (b :: r) = true := h
  rw [lineOk, Bool.and_eq_true, Bool.and_eq_true, decide_eq_true_eq] at h
  exact ⟨h.1, chain_fit _ 0 0 (by omega) (by omega) h.2.2⟩
theorem takeL_put (l : List (Int × Int)) (t : List UInt8) (h : lined l = true) : takeL (putL l ++ t) = some (l, t) := by
 obtain ⟨h1, h2⟩ := lined_parts h
 have hb : be 1 l.length = [UInt8.ofNat l.length] := by
  rw [be, be, List.nil_append, Nat.mod_eq_of_lt (by omega)]
 have hp : putL l ++ t = be 1 l.length ++ (l.flatMap brB ++ t) := by
  rw [hb, putL, List.cons_append, List.singleton_append]
 unfold takeL
 rw [hp, num_be 1 l.length _ (by omega) (by omega)]
 simp only
 rw [brs_put l t h2]
 simp only [h, if_true]
theorem be1 (n : Nat) (h : n < 256) : be 1 n = [UInt8.ofNat n] := by rw [be, be, List.nil_append, Nat.mod_eq_of_lt h]
theorem takeT_put (d t : List UInt8) (h : d.length < 65536) : takeT (be 2 d.length ++ d ++ t) = some (d, t) := by
 unfold takeT
 rw [List.append_assoc, num_be 2 d.length _ (by omega) (by omega)]
 simp only
 rw [if_neg (by rw [List.length_append]; omega), List.take_append_of_le_length (by omega), List.take_of_length_le (by omega), List.drop_append_of_le_length (by omega), List.drop_eq_nil_of_le (by omega), List.nil_append]
theorem wr1_put (w : Wr) (t : List UInt8) (h : badW w = false) : wr1 (wrB w ++ t) = some (w, t) := by
 obtain ⟨h1, h2, h3, h4, h5⟩ := badW_not h
 obtain ⟨v, b, d⟩ := w
 simp only at h1 h2 h3 h4 h5
 obtain ⟨v, rfl⟩ : ∃ n : Nat, v = n := ⟨v.toNat, by omega⟩
 obtain ⟨b, rfl⟩ : ∃ n : Nat, b = n := ⟨b.toNat, by omega⟩
 have hw : wrB ((v : Int), (b : Int), d) ++ t = be 1 v ++ (be 1 b ++ (be 2 d.length ++ d ++ t)) := by
  rw [be1 v (by omega), be1 b (by omega), wrB]
  simp
 unfold wr1
 rw [hw, num_be 1 v _ (by omega) (by omega)]
 simp only
 rw [num_be 1 b _ (by omega) (by omega)]
 simp only
 rw [takeT_put d t (by omega)]
theorem wrs_put : ∀ (l : List Wr) (t : List UInt8), l.any badW = false → wrs l.length (l.flatMap wrB ++ t) = some (l, t)
 | [], t, _ => rfl
 | w :: r, t, h => by
  rw [List.any_cons, Bool.or_eq_false_iff] at h
  have hr := wrs_put r t h.2
  rw [List.length_cons, List.flatMap_cons, wrs, List.append_assoc, wr1_put w _ h.1]
  simp only
  rw [hr]
theorem takeW_put (l : List Wr) (t : List UInt8) (h : wOk l = true) : takeW (putW l ++ t) = some (l, t) := by
 obtain ⟨h1, h2, h3⟩ := wOk_parts h
 unfold takeW putW
 rw [List.append_assoc, num_be 2 l.length _ (by omega) (by omega)]
 simp only
 rw [wrs_put l t h3]
 simp only [h, if_true]
theorem flatMap_length_le {α : Type} (f : α → List UInt8) (c : Nat) : ∀ l : List α, (∀ a ∈ l, (f a).length ≤ c) → (l.flatMap f).length ≤ c * l.length
 | [], h => by simp
 | a :: r, h => by
  have h1 := h a (List.mem_cons_self ..)
  have h2 := flatMap_length_le f c r fun b hb => h b (List.mem_cons_of_mem _ hb)
  rw [List.flatMap_cons, List.length_append, List.length_cons, Nat.mul_succ]
  omega
theorem putL_length (l : List (Int × Int)) : (putL l).length ≤ 1 + 16 * l.length := by
 have := flatMap_length_le brB 16 l fun b _ => brB_length b
 rw [putL, List.length_cons]
 omega
theorem putW_length {l : List Wr} (h : wOk l = true) : (putW l).length ≤ 2 + 12 * l.length := by
 obtain ⟨h1, h2, h3⟩ := wOk_parts h
 have := flatMap_length_le wrB 12 l fun w hw => wrB_length (by
  cases hc : badW w with
  | false => rfl
  | true =>
   have : l.any badW = true := List.any_eq_true.2 ⟨w, hw, hc⟩
   rw [h3] at this
   exact absurd this (by simp))
 rw [putW, List.length_append, be_length]
 omega
end Go.AM.YtnhfjkckgicidaaGreat
