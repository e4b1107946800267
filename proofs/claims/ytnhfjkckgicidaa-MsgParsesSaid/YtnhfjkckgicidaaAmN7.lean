/- Writes: what may be written (msg.writable, ref17.Writable): what they answer, plain. -/
import Derived.Test.YtnhfjkckgicidaaAmN6
set_option linter.unusedVariables false
set_option linter.unusedSimpArgs false
namespace Go.AM.Ytnhfjkckgicidaa
open Go.AM Go.Proofs Go

/-- A write: volume, block, data. -/
abbrev Wr := Int × Int × List UInt8
def wrV (w : Wr) : AV := .agg [.int .i64 w.1, .int .i64 w.2.1, .str w.2.2]
def wless (a b : Wr) : Bool := decide (a.1 < b.1 ∨ a.1 = b.1 ∧ a.2.1 < b.2.1)
def sortedW : List Wr → Bool
  | a :: b :: r => wless a b && sortedW (b :: r)
  | _ => true
def badW (w : Wr) : Bool := decide (w.1 < 1 ∨ w.1 > 255 ∨ w.2.1 < 0 ∨ w.2.1 ≥ 32 ∨ (w.2.2.length : Int) > 8)
/-- May they be written? -/
def wOk (l : List Wr) : Bool := decide (l.length ≤ 128) && (sortedW l && !(l.any badW))
theorem getWr (l : List Wr) (i : Nat) (h : i < l.length) : (l.map wrV)[Int.toNat (i : Int)]? = some (.agg [.int .i64 (l[i]).1, .int .i64 (l[i]).2.1, .str (l[i]).2.2]) := by
  rw [Int.toNat_natCast, List.getElem?_map, List.getElem?_eq_getElem h]
  rfl

/-! cmp.Compare, cmp.Or, fold.order -/
theorem nan_tree (F : Fns) (N : Nat) (a : Int) : runOf F 132 N [.int .i64 a] [] =
  some (AV.bool (a != a), []) := by kernel_rfl
theorem e132 (k : Nat) (hk : 1 ≤ k) (a : Int) : evF pr k 132 [.int .i64 a] [] = some (.bool false, []) := by
  obtain ⟨k, rfl⟩ : ∃ m, k = m + 1 := ⟨k - 1, by omega⟩
  rw [ev_step _ _ _ _ (by kernel_rfl), nan_tree, show (a != a) = false by simp]
theorem compare_tree (F : Fns) (N : Nat) (a b : Int) : runOf F 122 N [.int .i64 a, .int .i64 b] [] =
  onRes (F 132 [AV.int IntKind.i64 a] []) fun v bs => AM.asBool v fun b_1 => asNil bs (onRes (F 132 [AV.int IntKind.i64 b] []) fun v bs => AM.asBool v fun b_2 => asNil bs (bif b_1 then bif b_2 then some (AV.int IntKind.i64 0, []) else some (AV.int IntKind.i64 (-1), []) else bif b_2 then some (AV.int IntKind.i64 1, []) else bif decide (a < b) then some (AV.int IntKind.i64 (-1), []) else bif decide (a > b) then some (AV.int IntKind.i64 1, []) else some (AV.int IntKind.i64 0, []))) := by kernel_rfl
def cmpI (a b : Int) : Int := if a < b then -1 else if a > b then 1 else 0
theorem e122 (k : Nat) (hk : 2 ≤ k) (a b : Int) : evF pr k 122 [.int .i64 a, .int .i64 b] [] = some (.int .i64 (cmpI a b), []) := by
  obtain ⟨k, rfl⟩ : ∃ m, k = m + 1 := ⟨k - 1, by omega⟩
  rw [ev_step _ _ _ _ (by kernel_rfl), compare_tree, e132 k (by omega), e132 k (by omega)]
  simp only [onRes, asBool, asNil, cond_false, cmpI]
  by_cases h1 : a < b
  · rw [decide_eq_true h1, if_pos h1]; rfl
  by_cases h2 : a > b
  · rw [decide_eq_false h1, if_neg h1, decide_eq_true h2, if_pos h2]; rfl
  · rw [decide_eq_false h1, if_neg h1, decide_eq_false h2, if_neg h2]; rfl
def orV : List Int → Int
  | [] => 0
  | n :: r => if n = 0 then orV r else n
def orS (fl : Bool) (xs : List AV) (len i : Int) : St := ⟨18, [(0, AV.sl 1 fl xs), (2, AV.int IntKind.i64 0), (3, AV.int IntKind.i64 0), (6, AV.sl 1 fl xs), (7, AV.int IntKind.i64 len), (8, AV.int IntKind.i64 i)], [], [], [], [], []⟩
theorem or_body (F : Fns) (N : Nat) (fl : Bool) (xs : List AV) (len i : Int) (KN : St → Res) : bodyOf F 121 0 N (orS fl xs len i) (brk (contOf F 121 0 N 0) KN) =
  bif decide (i < len) then bif decide (0 ≤ i) then onOpt xs[Int.toNat i]? fun x => AM.asInt IntKind.i64 x fun n => bif n != 0 then some (AV.int IntKind.i64 n, []) else KN { nt := 18, t := [(0, AV.sl 1 fl xs), (2, AV.int IntKind.i64 0), (3, AV.int IntKind.i64 0), (5, AV.int IntKind.i64 n), (6, AV.sl 1 fl xs), (7, AV.int IntKind.i64 len), (8, AV.int IntKind.i64 (IntKind.wrap IntKind.i64 (i + 1))), (9, AV.bool (decide (i < len))), (14, AV.bool (n != 0))], b := [], r := [], g := [], rd := [], wr := [] } else none else some (AV.int IntKind.i64 0, []) := by kernel_rfl
theorem or_tree (F : Fns) (N : Nat) (fl : Bool) (xs : List AV) : runOf F 121 N [.sl 1 fl xs] [] =
  loopA (bodyOf F 121 0 N) (deadOf 121 0) (contOf F 121 0 N 0) N { nt := 18, t := [(0, AV.sl 1 fl xs), (2, AV.int IntKind.i64 0), (3, AV.int IntKind.i64 0), (6, AV.sl 1 fl xs), (7, AV.int IntKind.i64 ((List.length xs : Nat) : Int)), (8, AV.int IntKind.i64 0)], b := [], r := [], g := [], rd := [], wr := [] } := by kernel_rfl
theorem or_loop (F : Fns) (N : Nat) (fl : Bool) (ns : List Int) (hl : ns.length ≤ 1000) : ∀ (dd i m : Nat) (st : St), i + dd = ns.length → dd < m → st.clean (deadOf 121 0) = orS fl (ns.map (AV.int .i64)) ns.length i →
    loopA (bodyOf F 121 0 N) (deadOf 121 0) (contOf F 121 0 N 0) m st = some (.int .i64 (orV (ns.drop i)), []) := by
  intro dd
  induction dd with
  | zero =>
    intro i m st hi hm hst
    obtain ⟨m, rfl⟩ : ∃ m', m = m' + 1 := ⟨m - 1, by omega⟩
    have : i = ns.length := by omega
    subst this
    rw [loopA_succ, hst, or_body, decide_eq_false (by omega), List.drop_length]
    rfl
  | succ dd ih =>
    intro i m st hi hm hst
    obtain ⟨m, rfl⟩ : ∃ m', m = m' + 1 := ⟨m - 1, by omega⟩
    have hlt : i < ns.length := by omega
    rw [loopA_succ, hst, or_body, decide_eq_true (show (i : Int) < ns.length by omega), decide_eq_true (show (0 : Int) ≤ i by omega), Int.toNat_natCast, List.getElem?_map, List.getElem?_eq_getElem hlt, List.drop_eq_getElem_cons hlt, orV]
    simp only [cond_true, Option.map_some, onOpt, asInt, if_true]
    by_cases h : ns[i] = 0
    · rw [show (ns[i] != 0) = false by simp [h], if_pos h]
      simp only [cond_false]
      rw [wrap_small (n := (i : Int) + 1) (by omega) (by omega)]
      exact ih (i + 1) m _ (by omega) (by omega) (by kernel_rfl)
    · rw [show (ns[i] != 0) = true by simp [h], if_neg h]
      rfl
theorem order_tree (F : Fns) (N : Nat) (v b v' b' : Int) (s s' : List UInt8) : runOf F 105 N [.agg [.int .i64 v, .int .i64 b, .str s], .agg [.int .i64 v', .int .i64 b', .str s']] [] =
  onRes (F 122 [AV.int IntKind.i64 v, AV.int IntKind.i64 v'] []) fun v bs => AM.asInt IntKind.i64 v fun n => asNil bs (onRes (F 122 [AV.int IntKind.i64 b, AV.int IntKind.i64 b'] []) fun v bs => AM.asInt IntKind.i64 v fun n_1 => asNil bs (onRes (F 121 [AV.sl 1 true [AV.int IntKind.i64 n, AV.int IntKind.i64 n_1]] []) fun v bs => AM.asInt IntKind.i64 v fun n => asNil bs (some (AV.int IntKind.i64 n, [])))) := by kernel_rfl
def ordV (a b : Wr) : Int := orV [cmpI a.1 b.1, cmpI a.2.1 b.2.1]
theorem ordV_ge (a b : Wr) : decide (ordV a b ≥ 0) = !wless a b := by
  unfold ordV orV orV orV cmpI wless
  by_cases h1 : a.1 < b.1
  · simp [h1]
  · by_cases h2 : a.1 > b.1
    · have : ¬ a.1 = b.1 := by omega
      simp [h1, h2, this]
    · have : a.1 = b.1 := by omega
      simp only [this, Int.lt_irrefl, gt_iff_lt, if_false, if_true, false_or, true_and]
      by_cases h3 : a.2.1 < b.2.1
      · simp [h3]
      · by_cases h4 : a.2.1 > b.2.1
        · simp [h3, h4]
        · simp [h3, h4]
theorem e105 (k : Nat) (hk : 6 ≤ k) (a b : Wr) : evF pr k 105 [.agg [.int .i64 a.1, .int .i64 a.2.1, .str a.2.2], .agg [.int .i64 b.1, .int .i64 b.2.1, .str b.2.2]] [] = some (.int .i64 (ordV a b), []) := by
  obtain ⟨k, rfl⟩ : ∃ m, k = m + 1 := ⟨k - 1, by omega⟩
  rw [ev_step _ _ _ _ (by kernel_rfl), order_tree, e122 k (by omega), e122 k (by omega)]
  simp only [onRes, asInt, if_true, asNil]
  obtain ⟨k, rfl⟩ : ∃ m, k = m + 1 := ⟨k - 1, by omega⟩
  have h : evF pr (k + 1) 121 [.sl 1 true [.int .i64 (cmpI a.1 b.1), .int .i64 (cmpI a.2.1 b.2.1)]] [] = some (.int .i64 (ordV a b), []) := by
    rw [ev_step _ _ _ _ (by kernel_rfl), or_tree]
    exact or_loop (evF pr k) k true [cmpI a.1 b.1, cmpI a.2.1 b.2.1] (by simp) 2 0 k _ rfl (by omega) (by kernel_rfl)
  rw [h]
  rfl

/-! fold.Folded -/
def foldedS (fl : Bool) (xs : List AV) (len i : Int) : St := ⟨25, [(0, AV.sl 3 fl xs), (2, AV.bool false), (5, AV.int IntKind.i64 len), (6, AV.int IntKind.i64 i)], [], [], [], [], []⟩
theorem folded_tree (F : Fns) (N : Nat) (fl : Bool) (xs : List AV) : runOf F 81 N [.sl 3 fl xs] [] =
  loopA (bodyOf F 81 0 N) (deadOf 81 0) (contOf F 81 0 N 0) N { nt := 25, t := [(0, AV.sl 3 fl xs), (2, AV.bool false), (5, AV.int IntKind.i64 ((List.length xs : Nat) : Int)), (6, AV.int IntKind.i64 0)], b := [], r := [], g := [], rd := [], wr := [] } := by kernel_rfl
theorem folded_body (F : Fns) (N : Nat) (fl : Bool) (xs : List AV) (len i : Int) (KN : St → Res) : bodyOf F 81 0 N (foldedS fl xs len i) (brk (contOf F 81 0 N 0) KN) =
  bif decide (i < len) then bif decide (i > 0) then bif decide (0 ≤ IntKind.wrap IntKind.i64 (i - 1)) then onOpt xs[Int.toNat (IntKind.wrap IntKind.i64 (i - 1))]? fun x => AM.asAgg x fun cs => asCons cs fun v r => AM.asInt IntKind.i64 v fun n => asCons r fun v r => AM.asInt IntKind.i64 v fun n_1 => asCons r fun v r => asStr v fun s => asNil r (bif decide (0 ≤ i) then onOpt xs[Int.toNat i]? fun x => AM.asAgg x fun cs => asCons cs fun v r => AM.asInt IntKind.i64 v fun n_2 => asCons r fun v r => AM.asInt IntKind.i64 v fun n_3 => asCons r fun v r => asStr v fun s_1 => asNil r (onRes (F 105 [AV.agg [AV.int IntKind.i64 n, AV.int IntKind.i64 n_1, AV.str s], AV.agg [AV.int IntKind.i64 n_2, AV.int IntKind.i64 n_3, AV.str s_1]] []) fun v bs => AM.asInt IntKind.i64 v fun n => asNil bs (bif decide (n ≥ 0) then some (AV.bool false, []) else KN { nt := 25, t := [(0, AV.sl 3 fl xs), (2, AV.bool false), (3, AV.int IntKind.i64 i), (5, AV.int IntKind.i64 len), (6, AV.int IntKind.i64 (IntKind.wrap IntKind.i64 (i + 1))), (7, AV.bool (decide (i < len))), (23, AV.bool (decide (n ≥ 0)))], b := [], r := [], g := [], rd := [], wr := [] })) else none) else none else KN { nt := 25, t := [(0, AV.sl 3 fl xs), (2, AV.bool false), (3, AV.int IntKind.i64 i), (5, AV.int IntKind.i64 len), (6, AV.int IntKind.i64 (IntKind.wrap IntKind.i64 (i + 1))), (7, AV.bool (decide (i < len))), (23, AV.bool false)], b := [], r := [], g := [], rd := [], wr := [] } else some (AV.bool true, []) := by kernel_rfl
theorem folded_loop (k : Nat) (hk : 6 ≤ k) (fl : Bool) (l : List Wr) (hl : l.length ≤ 100000) : ∀ (dd i m : Nat) (st : St), i + 1 + dd = l.length → dd < m → st.clean (deadOf 81 0) = foldedS fl (l.map wrV) l.length ((i + 1 : Nat) : Int) →
    loopA (bodyOf (evF pr k) 81 0 k) (deadOf 81 0) (contOf (evF pr k) 81 0 k 0) m st = some (.bool (sortedW (l.drop i)), []) := by
  intro dd
  induction dd with
  | zero =>
    intro i m st hi hm hst
    obtain ⟨m, rfl⟩ : ∃ m', m = m' + 1 := ⟨m - 1, by omega⟩
    have hlt : i < l.length := by omega
    have : l.drop (i + 1) = [] := List.drop_eq_nil_of_le (by omega)
    rw [loopA_succ, hst, folded_body, decide_eq_false (by omega), List.drop_eq_getElem_cons hlt, this]
    rfl
  | succ dd ih =>
    intro i m st hi hm hst
    obtain ⟨m, rfl⟩ : ∃ m', m = m' + 1 := ⟨m - 1, by omega⟩
    have hlt : i < l.length := by omega
    have hlt1 : i + 1 < l.length := by omega
    have hw : IntKind.wrap IntKind.i64 (((i + 1 : Nat) : Int) - 1) = (i : Int) := by rw [wrap_small (by omega) (by omega)]; omega
    rw [loopA_succ, hst, folded_body, decide_eq_true (show (((i + 1 : Nat)) : Int) < l.length by omega), decide_eq_true (show (((i + 1 : Nat)) : Int) > 0 by omega), hw, decide_eq_true (show (0 : Int) ≤ i by omega), decide_eq_true (show (0 : Int) ≤ (i + 1 : Nat) by omega), getWr l i hlt, getWr l (i + 1) hlt1]
    simp only [cond_true, onOpt, asAgg, asCons, asInt, asStr, if_true, asNil]
    rw [e105 k hk]
    simp only [onRes, asInt, if_true, asNil]
    rw [ordV_ge, List.drop_eq_getElem_cons hlt, List.drop_eq_getElem_cons hlt1, sortedW, show IntKind.wrap IntKind.i64 (((i + 1 : Nat) : Int) + 1) = ((i + 1 + 1 : Nat) : Int) by rw [wrap_small (by omega) (by omega)]; omega]
    cases hw : wless l[i] l[i + 1] with
    | false => rfl
    | true =>
      simp only [Bool.not_true, cond_false, Bool.true_and]
      refine (ih (i + 1) m _ (by omega) (by omega) (by kernel_rfl)).trans ?_
      rw [List.drop_eq_getElem_cons hlt1]
theorem e81 (k : Nat) (fl : Bool) (l : List Wr) (hk : 8 + l.length ≤ k) (hl : l.length ≤ 100000) : evF pr k 81 [.sl 3 fl (l.map wrV)] [] = some (.bool (sortedW l), []) := by
  obtain ⟨k, rfl⟩ : ∃ m, k = m + 1 := ⟨k - 1, by omega⟩
  rw [ev_step _ _ _ _ (by kernel_rfl), folded_tree, List.length_map]
  obtain ⟨k', hk'⟩ : ∃ m, k = m + 1 := ⟨k - 1, by omega⟩
  conv => lhs; arg 4; rw [hk']
  rw [loopA_succ]
  refine (folded_body _ _ fl (l.map wrV) l.length 0 _).trans ?_
  cases l with
  | nil => rfl
  | cons b r =>
    rw [decide_eq_true (show (0 : Int) < (((b :: r).length : Nat) : Int) by simp only [List.length_cons]; omega), show decide ((0 : Int) > 0) = false from rfl]
    simp only [cond_true, cond_false]
    simp only [List.length_cons] at hk hl
    exact folded_loop k (by omega) fl (b :: r) (by simpa using hl) r.length 0 k' _ (by simp only [List.length_cons]; omega) (by omega) (by kernel_rfl)

/-! slices.ContainsFunc over writable's own function -/
theorem bad1_tree (F : Fns) (N : Nat) (v b : Int) (s : List UInt8) : runOf F 83 N [.agg [.int .i64 v, .int .i64 b, .str s]] [] =
  bif decide (v < 1) then some (AV.bool true, []) else bif decide (v > 255) then some (AV.bool true, []) else bif decide (b < 0) then some (AV.bool true, []) else bif decide (b ≥ 32) then some (AV.bool true, []) else some (AV.bool (decide (((List.length s : Nat) : Int) > 8)), []) := by kernel_rfl
theorem e83 (k : Nat) (hk : 1 ≤ k) (w : Wr) : evF pr k 83 [.agg [.int .i64 w.1, .int .i64 w.2.1, .str w.2.2]] [] = some (.bool (badW w), []) := by
  obtain ⟨k, rfl⟩ : ∃ m, k = m + 1 := ⟨k - 1, by omega⟩
  rw [ev_step _ _ _ _ (by kernel_rfl), bad1_tree]
  by_cases h1 : w.1 < 1
  · rw [decide_eq_true h1, show badW w = true from decide_eq_true (.inl h1)]; rfl
  by_cases h2 : w.1 > 255
  · rw [decide_eq_false h1, decide_eq_true h2, show badW w = true from decide_eq_true (.inr (.inl h2))]; rfl
  by_cases h3 : w.2.1 < 0
  · rw [decide_eq_false h1, decide_eq_false h2, decide_eq_true h3, show badW w = true from decide_eq_true (.inr (.inr (.inl h3)))]; rfl
  by_cases h4 : w.2.1 ≥ 32
  · rw [decide_eq_false h1, decide_eq_false h2, decide_eq_false h3, decide_eq_true h4, show badW w = true from decide_eq_true (.inr (.inr (.inr (.inl h4))))]; rfl
  rw [decide_eq_false h1, decide_eq_false h2, decide_eq_false h3, decide_eq_false h4, show badW w = decide ((w.2.2.length : Int) > 8) by unfold badW; rw [decide_eq_decide]; omega]
  rfl
def indexS (fl : Bool) (xs : List AV) (len i : Int) : St := ⟨19, [(0, AV.sl 3 fl xs), (1, AV.fn 83), (4, AV.int IntKind.i64 0), (7, AV.int IntKind.i64 len), (8, AV.int IntKind.i64 i)], [], [], [], [], []⟩
theorem index_tree (F : Fns) (N : Nat) (fl : Bool) (xs : List AV) : runOf F 106 N [.sl 3 fl xs, .fn 83] [] =
  loopA (bodyOf F 106 0 N) (deadOf 106 0) (contOf F 106 0 N 0) N { nt := 19, t := [(0, AV.sl 3 fl xs), (1, AV.fn 83), (4, AV.int IntKind.i64 0), (7, AV.int IntKind.i64 ((List.length xs : Nat) : Int)), (8, AV.int IntKind.i64 0)], b := [], r := [], g := [], rd := [], wr := [] } := by kernel_rfl
theorem index_body (F : Fns) (N : Nat) (fl : Bool) (xs : List AV) (len i : Int) (KN : St → Res) : bodyOf F 106 0 N (indexS fl xs len i) (brk (contOf F 106 0 N 0) KN) =
  bif decide (i < len) then bif decide (0 ≤ i) then onOpt xs[Int.toNat i]? fun x => AM.asAgg x fun cs => asCons cs fun v r => AM.asInt IntKind.i64 v fun n => asCons r fun v r => AM.asInt IntKind.i64 v fun n_1 => asCons r fun v r => asStr v fun s => asNil r (onRes (F 83 [AV.agg [AV.int IntKind.i64 n, AV.int IntKind.i64 n_1, AV.str s]] []) fun v bs => AM.asBool v fun b => asNil bs (bif b then some (AV.int IntKind.i64 i, []) else KN { nt := 19, t := [(0, AV.sl 3 fl xs), (1, AV.fn 83), (4, AV.int IntKind.i64 0), (5, AV.int IntKind.i64 i), (7, AV.int IntKind.i64 len), (8, AV.int IntKind.i64 (IntKind.wrap IntKind.i64 (i + 1))), (9, AV.bool (decide (i < len))), (16, AV.bool b)], b := [], r := [], g := [], rd := [], wr := [] })) else none else some (AV.int IntKind.i64 (-1), []) := by kernel_rfl
theorem index_loop (k : Nat) (hk : 1 ≤ k) (fl : Bool) (l : List Wr) (hl : l.length ≤ 100000) : ∀ (dd i m : Nat) (st : St), i + dd = l.length → dd < m → st.clean (deadOf 106 0) = indexS fl (l.map wrV) l.length i →
    ∃ z, loopA (bodyOf (evF pr k) 106 0 k) (deadOf 106 0) (contOf (evF pr k) 106 0 k 0) m st = some (.int .i64 z, []) ∧ decide (z ≥ 0) = (l.drop i).any badW := by
  intro dd
  induction dd with
  | zero =>
    intro i m st hi hm hst
    obtain ⟨m, rfl⟩ : ∃ m', m = m' + 1 := ⟨m - 1, by omega⟩
    have : l.drop i = [] := List.drop_eq_nil_of_le (by omega)
    rw [loopA_succ, hst, index_body, decide_eq_false (by omega), this]
    exact ⟨-1, rfl, rfl⟩
  | succ dd ih =>
    intro i m st hi hm hst
    obtain ⟨m, rfl⟩ : ∃ m', m = m' + 1 := ⟨m - 1, by omega⟩
    have hlt : i < l.length := by omega
    rw [loopA_succ, hst, index_body, decide_eq_true (show (i : Int) < l.length by omega), decide_eq_true (show (0 : Int) ≤ i by omega), getWr l i hlt, List.drop_eq_getElem_cons hlt, List.any_cons]
    simp only [cond_true, onOpt, asAgg, asCons, asInt, asStr, if_true, asNil]
    rw [e83 k hk]
    simp only [onRes, asBool, asNil]
    cases badW l[i] with
    | true => exact ⟨i, rfl, by simp⟩
    | false =>
      simp only [cond_false, Bool.false_or]
      rw [wrap_small (n := (i : Int) + 1) (by omega) (by omega)]
      exact ih (i + 1) m _ (by omega) (by omega) (by kernel_rfl)
theorem contains_tree (F : Fns) (N : Nat) (fl : Bool) (xs : List AV) : runOf F 82 N [.sl 3 fl xs, .fn 83] [] =
  onRes (F 106 [AV.sl 3 fl xs, AV.fn 83] []) fun v bs => AM.asInt IntKind.i64 v fun n => asNil bs (some (AV.bool (decide (n ≥ 0)), [])) := by kernel_rfl
theorem e82 (k : Nat) (fl : Bool) (l : List Wr) (hk : 4 + l.length ≤ k) (hl : l.length ≤ 100000) : evF pr k 82 [.sl 3 fl (l.map wrV), .fn 83] [] = some (.bool (l.any badW), []) := by
  obtain ⟨k, rfl⟩ : ∃ m, k = m + 2 := ⟨k - 2, by omega⟩
  rw [ev_step _ _ _ _ (by kernel_rfl), contains_tree, ev_step _ _ _ _ (by kernel_rfl), index_tree, List.length_map]
  obtain ⟨z, h1, h2⟩ := index_loop k (by omega) fl l hl l.length 0 k ⟨19, [(0, AV.sl 3 fl (l.map wrV)), (1, AV.fn 83), (4, AV.int IntKind.i64 0), (7, AV.int IntKind.i64 l.length), (8, AV.int IntKind.i64 0)], [], [], [], [], []⟩ (Nat.zero_add _) (by omega) (by kernel_rfl)
  rw [List.drop_zero] at h2
  rw [← h2]
  refine (congrArg (fun x => onRes x _) h1).trans ?_
  rfl
theorem writable_tree (F : Fns) (N : Nat) (fl : Bool) (xs : List AV) : runOf F 36 N [.sl 3 fl xs] [] =
  bif decide (((List.length xs : Nat) : Int) ≤ 128) then onRes (F 81 [AV.sl 3 fl xs] []) fun v bs => AM.asBool v fun b => asNil bs (bif b then onRes (F 82 [AV.sl 3 fl xs, AV.fn 83] []) fun v bs => AM.asBool v fun b => asNil bs (some (AV.bool !b, [])) else some (AV.bool false, [])) else some (AV.bool false, []) := by kernel_rfl
theorem e36 (k : Nat) (fl : Bool) (l : List Wr) (hk : 140 ≤ k) : evF pr k 36 [.sl 3 fl (l.map wrV)] [] = some (.bool (wOk l), []) := by
  obtain ⟨k, rfl⟩ : ∃ m, k = m + 1 := ⟨k - 1, by omega⟩
  rw [ev_step _ _ _ _ (by kernel_rfl), writable_tree, List.length_map, wOk]
  by_cases h : l.length ≤ 128
  · rw [decide_eq_true (show ((l.length : Nat) : Int) ≤ 128 by omega), decide_eq_true h, e81 k fl l (by omega) (by omega), e82 k fl l (by omega) (by omega)]
    cases sortedW l with
    | false => rfl
    | true => rfl
  · rw [decide_eq_false (show ¬ ((l.length : Nat) : Int) ≤ 128 by omega), decide_eq_false h]
    rfl
theorem e36nil (k : Nat) : evF pr (k + 6) 36 [.sl 0 true []] [] = some (.bool true, []) := by kernel_rfl

end Go.AM.Ytnhfjkckgicidaa
