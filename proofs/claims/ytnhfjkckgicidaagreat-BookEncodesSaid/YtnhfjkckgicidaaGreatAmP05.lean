/- Volumes: vols.Right, Blank and ref07's: what they answer, plain. -/
import Derived.Test.YtnhfjkckgicidaaGreatAmP04
import Derived.Test.YtnhfjkckgicidaaGreatAmP03
set_option linter.unusedVariables false
set_option linter.unusedSimpArgs false
set_option linter.unusedVariables false
set_option linter.unusedSimpArgs false
namespace Go.AM.YtnhfjkckgicidaaGreat
open Go.AM Go.Proofs Go
abbrev Vol := Int × List (List UInt8)
def volV (fl : Bool) (v : Vol) : AV := .agg [.int .i64 v.1, .sl 1 fl (v.2.map AV.str)]
def longB (s : List UInt8) : Bool := decide ((s.length : Int) > 8)
def vsOk : Int → List Vol → Bool
  | _, [] => true
  | last, v :: r => decide (last < v.1 ∧ v.1 ≤ 255 ∧ 1 ≤ v.2.length ∧ v.2.length ≤ 32) && (!(v.2.any longB) && vsOk v.1 r)
def vOk (l : List Vol) : Bool := decide (l.length ≤ 4) && vsOk 0 l
theorem getVol (fl : Bool) (l : List Vol) (i : Nat) (h : i < l.length) : (l.map (volV fl))[Int.toNat (i : Int)]? = some (.agg [.int .i64 (l[i]).1, .sl 1 fl ((l[i]).2.map AV.str)]) := by
  rw [Int.toNat_natCast, List.getElem?_map, List.getElem?_eq_getElem h]
  rfl
theorem c108_tree (F : Fns) (N : Nat) (s : List UInt8) : runOf F 136 N [.str s] [] =
  some (AV.bool (decide (((List.length s : Nat) : Int) > 8)), []) := by kernel_rfl
theorem e108 (k : Nat) (hk : 1 ≤ k) (s : List UInt8) : evF pr k 136 [.str s] [] = some (.bool (longB s), []) := by
  obtain ⟨k, rfl⟩ : ∃ m, k = m + 1 := ⟨k - 1, by omega⟩
  rw [ev_step _ _ _ _ (by kernel_rfl), c108_tree]
  rfl
def c123S (fl : Bool) (xs : List AV) (len i : Int) : St := ⟨19, [(0, AV.sl 1 fl xs), (1, AV.fn 136), (4, AV.int .i64 0), (7, AV.int .i64 len), (8, AV.int .i64 i)], [], [], [], [], []⟩
theorem c123_tree (F : Fns) (N : Nat) (fl : Bool) (xs : List AV) : runOf F 148 N [.sl 1 fl xs, .fn 136] [] =
  loopA (bodyOf F 148 0 N) (deadOf 148 0) (contOf F 148 0 N 0) N { nt := 19, t := [(0, AV.sl 1 fl xs), (1, AV.fn 136), (4, AV.int .i64 0), (7, AV.int .i64 ((List.length xs : Nat) : Int)), (8, AV.int .i64 0)], b := [], r := [], g := [], rd := [], wr := [] } := by kernel_rfl
theorem c123_body (F : Fns) (N : Nat) (fl : Bool) (xs : List AV) (len i : Int) (KN : St → Res) : bodyOf F 148 0 N (c123S fl xs len i) (brk (contOf F 148 0 N 0) KN) =
  bif decide (i < len) then bif decide (0 ≤ i) then onOpt xs[Int.toNat i]? fun x => asStr x fun s => onRes (F 136 [AV.str s] []) fun v bs => asBool v fun b => asNil bs (bif b then some (AV.int .i64 i, []) else KN { nt := 19, t := [(0, AV.sl 1 fl xs), (1, AV.fn 136), (4, AV.int .i64 0), (5, AV.int .i64 i), (7, AV.int .i64 len), (8, AV.int .i64 (IntKind.wrap .i64 (i + 1))), (9, AV.bool (decide (i < len))), (16, AV.bool b)], b := [], r := [], g := [], rd := [], wr := [] }) else none else some (AV.int .i64 (-1), []) := by kernel_rfl
theorem c123_loop (k : Nat) (hk : 1 ≤ k) (fl : Bool) (l : List (List UInt8)) (hl : l.length ≤ 100000) : ∀ (dd i m : Nat) (st : St), i + dd = l.length → dd < m → st.clean (deadOf 148 0) = c123S fl (l.map AV.str) l.length i →
    ∃ z, loopA (bodyOf (evF pr k) 148 0 k) (deadOf 148 0) (contOf (evF pr k) 148 0 k 0) m st = some (.int .i64 z, []) ∧ decide (z ≥ 0) = (l.drop i).any longB := by
  intro dd
  induction dd with
  | zero =>
    intro i m st hi hm hst
    obtain ⟨m, rfl⟩ : ∃ m', m = m' + 1 := ⟨m - 1, by omega⟩
    have : l.drop i = [] := List.drop_eq_nil_of_le (by omega)
    rw [loopA_succ, hst, c123_body, decide_eq_false (by omega), this]
    exact ⟨-1, rfl, rfl⟩
  | succ dd ih =>
    intro i m st hi hm hst
    obtain ⟨m, rfl⟩ : ∃ m', m = m' + 1 := ⟨m - 1, by omega⟩
    have hlt : i < l.length := by omega
    rw [loopA_succ, hst, c123_body, decide_eq_true (show (i : Int) < l.length by omega), decide_eq_true (show (0 : Int) ≤ i by omega), Int.toNat_natCast, List.getElem?_map, List.getElem?_eq_getElem hlt, List.drop_eq_getElem_cons hlt, List.any_cons]
    simp only [cond_true, Option.map_some, onOpt, asStr]
    rw [e108 k hk]
    simp only [onRes, asBool, asNil]
    cases longB l[i] with
    | true => exact ⟨i, rfl, by simp⟩
    | false =>
      simp only [cond_false, Bool.false_or]
      rw [wrap_small (n := (i : Int) + 1) (by omega) (by omega)]
      exact ih (i + 1) m _ (by omega) (by omega) (by kernel_rfl)
theorem c107_tree (F : Fns) (N : Nat) (fl : Bool) (xs : List AV) : runOf F 135 N [.sl 1 fl xs, .fn 136] [] =
  onRes (F 148 [AV.sl 1 fl xs, AV.fn 136] []) fun v bs => asInt .i64 v fun n => asNil bs (some (AV.bool (decide (n ≥ 0)), [])) := by kernel_rfl
theorem e107 (k : Nat) (fl : Bool) (l : List (List UInt8)) (hk : 4 + l.length ≤ k) (hl : l.length ≤ 100000) : evF pr k 135 [.sl 1 fl (l.map AV.str), .fn 136] [] = some (.bool (l.any longB), []) := by
  obtain ⟨k, rfl⟩ : ∃ m, k = m + 2 := ⟨k - 2, by omega⟩
  rw [ev_step _ _ _ _ (by kernel_rfl), c107_tree, ev_step _ _ _ _ (by kernel_rfl), c123_tree, List.length_map]
  obtain ⟨z, h1, h2⟩ := c123_loop k (by omega) fl l hl l.length 0 k ⟨19, [(0, AV.sl 1 fl (l.map AV.str)), (1, AV.fn 136), (4, AV.int .i64 0), (7, AV.int .i64 l.length), (8, AV.int .i64 0)], [], [], [], [], []⟩ (Nat.zero_add _) (by omega) (by kernel_rfl)
  rw [List.drop_zero] at h2
  rw [← h2]
  refine (congrArg (fun x => onRes x _) h1).trans ?_
  rfl
theorem vsize_tree (F : Fns) (N : Nat) (z : Int) : runOf F 134 N [.int .i64 z] [] =
  bif decide (z ≥ 1) then some (AV.bool (decide (z ≤ 32)), []) else some (AV.bool false, []) := by kernel_rfl
def sizeOk (z : Int) : Bool := decide (1 ≤ z ∧ z ≤ 32)
theorem e92 (k : Nat) (hk : 1 ≤ k) (z : Int) : evF pr k 134 [.int .i64 z] [] = some (.bool (sizeOk z), []) := by
  obtain ⟨k, rfl⟩ : ∃ m, k = m + 1 := ⟨k - 1, by omega⟩
  rw [ev_step _ _ _ _ (by kernel_rfl), vsize_tree]
  by_cases h : z ≥ 1
  · rw [decide_eq_true h, show sizeOk z = decide (z ≤ 32) by unfold sizeOk; rw [decide_eq_decide]; omega]; rfl
  · rw [decide_eq_false h, show sizeOk z = false by unfold sizeOk; rw [decide_eq_false_iff_not]; omega]; rfl
def vrightS (fl : Bool) (xs : List AV) (last len i : Int) : St := ⟨37, [(0, AV.sl 2 fl xs), (2, AV.bool false), (3, AV.int .i64 last), (6, AV.sl 2 fl xs), (7, AV.int .i64 len), (8, AV.int .i64 i)], [], [], [], [], []⟩
theorem vright_tree (F : Fns) (N : Nat) (fl : Bool) (xs : List AV) : runOf F 110 N [.sl 2 fl xs] [] =
  loopA (bodyOf F 110 0 N) (deadOf 110 0) (contOf F 110 0 N 0) N { nt := 37, t := [(0, AV.sl 2 fl xs), (2, AV.bool false), (3, AV.int .i64 0), (6, AV.sl 2 fl xs), (7, AV.int .i64 ((List.length xs : Nat) : Int)), (8, AV.int .i64 0)], b := [], r := [], g := [], rd := [], wr := [] } := by kernel_rfl
theorem vright_body (F : Fns) (N : Nat) (fl : Bool) (xs : List AV) (last len i : Int) (KN : St → Res) : bodyOf F 110 0 N (vrightS fl xs last len i) (brk (contOf F 110 0 N 0) KN) =
  bif decide (i < len) then bif decide (0 ≤ i) then onOpt xs[Int.toNat i]? fun x => asAgg x fun cs => asCons cs fun v r => asInt .i64 v fun n => asCons r fun v r => asSl v fun m fl_1 xs_1 => asNil r (bif decide (n ≤ last) then some (AV.bool false, []) else bif decide (n > 255) then some (AV.bool false, []) else onRes (F 134 [AV.int .i64 ((List.length xs_1 : Nat) : Int)] []) fun v bs => asBool v fun b => asNil bs (bif !b then some (AV.bool false, []) else onRes (F 135 [AV.sl m fl_1 xs_1, AV.fn 136] []) fun v bs => asBool v fun b_1 => asNil bs (bif b_1 then some (AV.bool false, []) else KN { nt := 37, t := [(0, AV.sl 2 fl xs), (2, AV.bool false), (3, AV.int .i64 n), (5, AV.ptr 5 0 0), (6, AV.sl 2 fl xs), (7, AV.int .i64 len), (8, AV.int .i64 (IntKind.wrap .i64 (i + 1))), (9, AV.bool (decide (i < len))), (27, AV.bool !b), (30, AV.bool b_1)], b := [(5, [AV.int .i64 n, AV.sl m fl_1 xs_1])], r := [], g := [], rd := [], wr := [] }))) else none else some (AV.bool (decide (((List.length xs : Nat) : Int) ≤ 4)), []) := by kernel_rfl
theorem vright_loop (k : Nat) (hk : 40 ≤ k) (fl f2 : Bool) (l : List Vol) (hl : l.length ≤ 1000000000) : ∀ (dd i m : Nat) (last : Int) (st : St), i + dd = l.length → dd < m → st.clean (deadOf 110 0) = vrightS fl (l.map (volV f2)) last l.length i →
    loopA (bodyOf (evF pr k) 110 0 k) (deadOf 110 0) (contOf (evF pr k) 110 0 k 0) m st = some (.bool (vsOk last (l.drop i) && decide (l.length ≤ 4)), []) := by
  intro dd
  induction dd with
  | zero =>
    intro i m last st hi hm hst
    obtain ⟨m, rfl⟩ : ∃ m', m = m' + 1 := ⟨m - 1, by omega⟩
    have h1 : l.drop i = [] := List.drop_eq_nil_of_le (by omega)
    rw [loopA_succ, hst, vright_body, decide_eq_false (by omega), h1, List.length_map, vsOk, Bool.true_and, show decide (l.length ≤ 4) = decide (((l.length : Nat) : Int) ≤ 4) by rw [decide_eq_decide]; omega]
    rfl
  | succ dd ih =>
    intro i m last st hi hm hst
    obtain ⟨m, rfl⟩ : ∃ m', m = m' + 1 := ⟨m - 1, by omega⟩
    have hlt : i < l.length := by omega
    rw [loopA_succ, hst, vright_body, decide_eq_true (show (i : Int) < l.length by omega), decide_eq_true (show (0 : Int) ≤ i by omega), getVol f2 l i hlt, List.drop_eq_getElem_cons hlt, vsOk]
    simp only [cond_true, onOpt, asAgg, asCons, asInt, asSl, if_true, asNil]
    rw [wrap_small (n := (i : Int) + 1) (by omega) (by omega), List.length_map, e92 k (by omega)]
    simp only [onRes, asBool, asNil]
    generalize l[i] = v
    by_cases hc : last < v.1 ∧ v.1 ≤ 255 ∧ 1 ≤ v.2.length ∧ v.2.length ≤ 32
    · rw [decide_eq_true hc, decide_eq_false (show ¬ v.1 ≤ last by omega), decide_eq_false (show ¬ v.1 > 255 by omega), show sizeOk ((v.2.length : Nat) : Int) = true from decide_eq_true (by omega), e107 k f2 v.2 (by omega) (by omega)]
      simp only [cond_false, Bool.not_true, Bool.true_and]
      cases hb : v.2.any longB with
      | true => rfl
      | false =>
        simp only [cond_false, Bool.not_false, Bool.true_and]
        exact ih (i + 1) m _ _ (by omega) (by omega) (by kernel_rfl)
    · rw [decide_eq_false hc, Bool.false_and, Bool.false_and]
      by_cases h1 : v.1 ≤ last
      · rw [decide_eq_true h1]; rfl
      by_cases h2 : v.1 > 255
      · rw [decide_eq_false h1, decide_eq_true h2]; rfl
      rw [decide_eq_false h1, decide_eq_false h2, show sizeOk ((v.2.length : Nat) : Int) = false by unfold sizeOk; rw [decide_eq_false_iff_not]; omega]
      rfl
theorem e93 (k : Nat) (fl f2 : Bool) (l : List Vol) (hk : l.length + 50 ≤ k) (hl : l.length ≤ 1000000000) : evF pr k 110 [.sl 2 fl (l.map (volV f2))] [] = some (.bool (vOk l), []) := by
  obtain ⟨k, rfl⟩ : ∃ m, k = m + 1 := ⟨k - 1, by omega⟩
  rw [ev_step _ _ _ _ (by kernel_rfl), vright_tree, List.length_map, vOk, Bool.and_comm]
  exact vright_loop k (by omega) fl f2 l hl l.length 0 k 0 _ (Nat.zero_add _) (by omega) (by kernel_rfl)
def rvrightS (fl d : Bool) (xs : List AV) (i : Int) : St := ⟨84, [(0, AV.sl 2 fl xs), (2, AV.bool false), (3, AV.int .i64 i), (7, AV.bool d)], [], [], [], [], []⟩
def rvrI (fl d e f : Bool) (xs : List AV) (i j : Int) : St := ⟨84, [(0, AV.sl 2 fl xs), (2, AV.bool false), (3, AV.int .i64 i), (4, AV.int .i64 j), (7, AV.bool d), (11, AV.bool e), (63, AV.bool f)], [], [], [], [], []⟩
theorem rvright_tree (F : Fns) (N : Nat) (fl : Bool) (xs : List AV) : runOf F 35 N [.sl 2 fl xs] [] =
  bif decide (((List.length xs : Nat) : Int) > 4) then some (AV.bool false, []) else loopA (bodyOf F 35 0 N) (deadOf 35 0) (contOf F 35 0 N 0) N { nt := 84, t := [(0, AV.sl 2 fl xs), (2, AV.bool false), (3, AV.int .i64 0), (7, AV.bool (decide (((List.length xs : Nat) : Int) > 4)))], b := [], r := [], g := [], rd := [], wr := [] } := by kernel_rfl
theorem rvright_body (F : Fns) (N : Nat) (fl d : Bool) (xs : List AV) (i : Int) (KN : St → Res) : bodyOf F 35 0 N (rvrightS fl d xs i) (brk (contOf F 35 0 N 0) KN) =
  bif decide (i < ((List.length xs : Nat) : Int)) then bif decide (0 ≤ i) then onOpt xs[Int.toNat i]? fun x => asAgg x fun cs => asCons cs fun v r => asInt .i64 v fun n => asCons r fun v r => asSl v fun m fl_1 xs_1 => asNil r (bif decide (n < 1) then some (AV.bool false, []) else bif decide (0 ≤ i) then onOpt xs[Int.toNat i]? fun x => asAgg x fun cs => asCons cs fun v r => asInt .i64 v fun n => asCons r fun v r => asSl v fun m fl_2 xs_2 => asNil r (bif decide (n > 255) then some (AV.bool false, []) else bif decide (i > 0) then bif decide (0 ≤ IntKind.wrap .i64 (i - 1)) then onOpt xs[Int.toNat (IntKind.wrap .i64 (i - 1))]? fun x => asAgg x fun cs => asCons cs fun v r => asInt .i64 v fun n => asCons r fun v r => asSl v fun m fl_3 xs_3 => asNil r (bif decide (0 ≤ i) then onOpt xs[Int.toNat i]? fun x => asAgg x fun cs => asCons cs fun v r => asInt .i64 v fun n_1 => asCons r fun v r => asSl v fun m fl_4 xs_4 => asNil r (bif decide (n ≥ n_1) then some (AV.bool false, []) else bif decide (0 ≤ i) then onOpt xs[Int.toNat i]? fun x => asAgg x fun cs => asCons cs fun v r => asInt .i64 v fun n => asCons r fun v r => asSl v fun m fl_5 xs_5 => asNil r (bif decide (((List.length xs_5 : Nat) : Int) < 1) then some (AV.bool false, []) else bif decide (0 ≤ i) then onOpt xs[Int.toNat i]? fun x => asAgg x fun cs => asCons cs fun v r => asInt .i64 v fun n => asCons r fun v r => asSl v fun m fl_6 xs_6 => asNil r (bif decide (((List.length xs_6 : Nat) : Int) > 32) then some (AV.bool false, []) else loopA (bodyOf F 35 1 N) (deadOf 35 1) (contBOf F 35 0 0 N (brk (contOf F 35 0 N 0) KN)) N { nt := 84, t := [(0, AV.sl 2 fl xs), (2, AV.bool false), (3, AV.int .i64 i), (4, AV.int .i64 0), (7, AV.bool d), (11, AV.bool (decide (i < ((List.length xs : Nat) : Int)))), (63, AV.bool (decide (((List.length xs_6 : Nat) : Int) > 32)))], b := [], r := [], g := [], rd := [], wr := [] }) else none) else none) else none) else none else bif decide (0 ≤ i) then onOpt xs[Int.toNat i]? fun x => asAgg x fun cs => asCons cs fun v r => asInt .i64 v fun n => asCons r fun v r => asSl v fun m fl_3 xs_3 => asNil r (bif decide (((List.length xs_3 : Nat) : Int) < 1) then some (AV.bool false, []) else bif decide (0 ≤ i) then onOpt xs[Int.toNat i]? fun x => asAgg x fun cs => asCons cs fun v r => asInt .i64 v fun n => asCons r fun v r => asSl v fun m fl_4 xs_4 => asNil r (bif decide (((List.length xs_4 : Nat) : Int) > 32) then some (AV.bool false, []) else loopA (bodyOf F 35 1 N) (deadOf 35 1) (contBOf F 35 0 0 N (brk (contOf F 35 0 N 0) KN)) N { nt := 84, t := [(0, AV.sl 2 fl xs), (2, AV.bool false), (3, AV.int .i64 i), (4, AV.int .i64 0), (7, AV.bool d), (11, AV.bool (decide (i < ((List.length xs : Nat) : Int)))), (63, AV.bool (decide (((List.length xs_4 : Nat) : Int) > 32)))], b := [], r := [], g := [], rd := [], wr := [] }) else none) else none) else none) else none else some (AV.bool true, []) := by kernel_rfl
theorem rvright_in (F : Fns) (N : Nat) (fl d e f : Bool) (xs : List AV) (i j : Int) (KO KN : St → Res) : bodyOf F 35 1 N (rvrI fl d e f xs i j) (brk (contBOf F 35 0 0 N (brk (contOf F 35 0 N 0) KO)) KN) =
  bif decide (0 ≤ i) then onOpt xs[Int.toNat i]? fun x => asAgg x fun cs => asCons cs fun v r => asInt .i64 v fun n => asCons r fun v r => asSl v fun m fl_1 xs_1 => asNil r (bif decide (j < ((List.length xs_1 : Nat) : Int)) then bif decide (0 ≤ i) then onOpt xs[Int.toNat i]? fun x => asAgg x fun cs => asCons cs fun v r => asInt .i64 v fun n => asCons r fun v r => asSl v fun m fl_2 xs_2 => asNil r (bif decide (m = 1) && decide (0 ≤ j) then onOpt xs_2[Int.toNat j]? fun x => asStr x fun s => bif decide (((List.length s : Nat) : Int) > 8) then some (AV.bool false, []) else KN { nt := 84, t := [(0, AV.sl 2 fl xs), (2, AV.bool false), (3, AV.int .i64 i), (4, AV.int .i64 (IntKind.wrap .i64 (j + 1))), (7, AV.bool d), (11, AV.bool e), (63, AV.bool f), (71, AV.bool (decide (j < ((List.length xs_1 : Nat) : Int)))), (83, AV.bool (decide (((List.length s : Nat) : Int) > 8)))], b := [], r := [], g := [], rd := [], wr := [] } else none) else none else KO { nt := 84, t := [(0, AV.sl 2 fl xs), (2, AV.bool false), (3, AV.int .i64 (IntKind.wrap .i64 (i + 1))), (4, AV.int .i64 j), (7, AV.bool d), (11, AV.bool e), (63, AV.bool f), (71, AV.bool (decide (j < ((List.length xs_1 : Nat) : Int))))], b := [], r := [], g := [], rd := [], wr := [] }) else none := by kernel_rfl
theorem rvright_inner (F : Fns) (N : Nat) (fl f2 d e f : Bool) (l : List Vol) (i : Nat) (hi : i < l.length) (hb : (l[i]).2.length ≤ 1000) (hbl : l.length ≤ 1000000) (KO : St → Res) : ∀ (dd j m : Nat) (st : St), j + dd = (l[i]).2.length → dd < m → st.clean (deadOf 35 1) = rvrI fl d e f (l.map (volV f2)) i j →
    loopA (bodyOf F 35 1 N) (deadOf 35 1) (contBOf F 35 0 0 N (brk (contOf F 35 0 N 0) KO)) m st = bif ((l[i]).2.drop j).any longB then some (.bool false, []) else KO ⟨84, [(0, AV.sl 2 fl (l.map (volV f2))), (2, AV.bool false), (3, AV.int .i64 ((i + 1 : Nat) : Int)), (4, AV.int .i64 ((l[i]).2.length : Nat)), (7, AV.bool d), (11, AV.bool e), (63, AV.bool f), (71, AV.bool false)], [], [], [], [], []⟩ := by
  have hw : IntKind.wrap .i64 ((i : Int) + 1) = ((i + 1 : Nat) : Int) := by rw [wrap_small (by omega) (by omega)]; omega
  intro dd
  induction dd with
  | zero =>
    intro j m st hj hm hst
    obtain ⟨m, rfl⟩ : ∃ m', m = m' + 1 := ⟨m - 1, by omega⟩
    have h1 : (l[i]).2.drop j = [] := List.drop_eq_nil_of_le (by omega)
    rw [loopA_succ, hst, rvright_in, decide_eq_true (show (0 : Int) ≤ i by omega), getVol f2 l i hi, h1]
    simp only [cond_true, onOpt, asAgg, asCons, asInt, asSl, if_true, asNil]
    rw [List.length_map, decide_eq_false (by omega), hw, show j = (l[i]).2.length by omega]
    rfl
  | succ dd ih =>
    intro j m st hj hm hst
    obtain ⟨m, rfl⟩ : ∃ m', m = m' + 1 := ⟨m - 1, by omega⟩
    have hlt : j < (l[i]).2.length := by omega
    rw [loopA_succ, hst, rvright_in, decide_eq_true (show (0 : Int) ≤ i by omega), getVol f2 l i hi, List.drop_eq_getElem_cons hlt, List.any_cons]
    simp only [cond_true, onOpt, asAgg, asCons, asInt, asSl, if_true, asNil]
    rw [List.length_map, decide_eq_true (show (j : Int) < (l[i]).2.length by omega), decide_eq_true (show (0 : Int) ≤ j by omega), Int.toNat_natCast, List.getElem?_map, List.getElem?_eq_getElem hlt, wrap_small (n := (j : Int) + 1) (by omega) (by omega)]
    simp only [cond_true, Option.map_some, asStr, show (decide (1 = 1) && true) = true from rfl]
    rw [show decide ((((((l[i]).2)[j]).length : Nat) : Int) > 8) = longB ((l[i]).2)[j] from rfl]
    cases longB ((l[i]).2)[j] with
    | true => rfl
    | false =>
      simp only [cond_false, Bool.false_or]
      exact ih (j + 1) m _ (by omega) (by omega) (by kernel_rfl)
theorem rvright_loop (k : Nat) (hk : 60 ≤ k) (fl f2 d : Bool) (l : List Vol) (hl : l.length ≤ 4) : ∀ (dd i m : Nat) (last : Int) (st : St), i + dd = l.length → dd < m → (i = 0 → last = 0) → (∀ h : 0 < i, ∀ h2 : i - 1 < l.length, (l[i - 1]).1 = last) → 0 ≤ last → st.clean (deadOf 35 0) = rvrightS fl d (l.map (volV f2)) i →
    loopA (bodyOf (evF pr k) 35 0 k) (deadOf 35 0) (contOf (evF pr k) 35 0 k 0) m st = some (.bool (vsOk last (l.drop i)), []) := by
  intro dd
  induction dd with
  | zero =>
    intro i m last st hi hm h0 hp hla hst
    obtain ⟨m, rfl⟩ : ∃ m', m = m' + 1 := ⟨m - 1, by omega⟩
    have h1 : l.drop i = [] := List.drop_eq_nil_of_le (by omega)
    rw [loopA_succ, hst, rvright_body, List.length_map, decide_eq_false (by omega), h1]
    rfl
  | succ dd ih =>
    intro i m last st hi hm h0 hp hla hst
    obtain ⟨m, rfl⟩ : ∃ m', m = m' + 1 := ⟨m - 1, by omega⟩
    have hlt : i < l.length := by omega
    rw [loopA_succ, hst, rvright_body, List.length_map, decide_eq_true (show (i : Int) < l.length by omega), decide_eq_true (show (0 : Int) ≤ i by omega), getVol f2 l i hlt, List.drop_eq_getElem_cons hlt, vsOk]
    simp only [cond_true, onOpt, asAgg, asCons, asInt, asSl, if_true, asNil]
    rw [List.length_map]
    have fin : last < (l[i]).1 ∧ (l[i]).1 ≤ 255 ∧ 1 ≤ (l[i]).2.length ∧ (l[i]).2.length ≤ 32 → ∀ st' : St, st'.clean (deadOf 35 1) = rvrI fl d true false (l.map (volV f2)) i ((0 : Nat) : Int) →
        loopA (bodyOf (evF pr k) 35 1 k) (deadOf 35 1) (contBOf (evF pr k) 35 0 0 k (brk (contOf (evF pr k) 35 0 k 0) fun st' => loopA (bodyOf (evF pr k) 35 0 k) (deadOf 35 0) (contOf (evF pr k) 35 0 k 0) m st')) k st' = some (.bool (decide (last < (l[i]).1 ∧ (l[i]).1 ≤ 255 ∧ 1 ≤ (l[i]).2.length ∧ (l[i]).2.length ≤ 32) && (!((l[i]).2.any longB) && vsOk (l[i]).1 (l.drop (i + 1)))), []) := by
      intro hc st' hst'
      rw [rvright_inner (evF pr k) k fl f2 d true false l i hlt (by omega) (by omega) _ (l[i]).2.length 0 k st' (Nat.zero_add _) (by omega) hst', List.drop_zero, decide_eq_true hc, Bool.true_and]
      cases (l[i]).2.any longB with
      | true => rfl
      | false =>
        simp only [cond_false, Bool.not_false, Bool.true_and]
        exact ih (i + 1) m (l[i]).1 _ (by omega) (by omega) (by omega) (fun _ _ => rfl) (by omega) (by kernel_rfl)
    by_cases h1 : (l[i]).1 < 1
    · rw [decide_eq_true h1, decide_eq_false (show ¬ (last < (l[i]).1 ∧ (l[i]).1 ≤ 255 ∧ 1 ≤ (l[i]).2.length ∧ (l[i]).2.length ≤ 32) by omega)]; rfl
    by_cases h2 : (l[i]).1 > 255
    · rw [decide_eq_false h1, decide_eq_true h2, decide_eq_false (show ¬ (last < (l[i]).1 ∧ (l[i]).1 ≤ 255 ∧ 1 ≤ (l[i]).2.length ∧ (l[i]).2.length ≤ 32) by omega)]; rfl
    rw [decide_eq_false h1, decide_eq_false h2]
    simp only [cond_false]
    by_cases hi0 : i = 0
    · have hl0 := h0 hi0
      rw [decide_eq_false (show ¬ (i : Int) > 0 by omega)]
      simp only [cond_false]
      by_cases h3 : (l[i]).2.length < 1
      · rw [decide_eq_true (show ((((l[i]).2.length : Nat) : Int)) < 1 by omega), decide_eq_false (show ¬ (last < (l[i]).1 ∧ (l[i]).1 ≤ 255 ∧ 1 ≤ (l[i]).2.length ∧ (l[i]).2.length ≤ 32) by omega)]; rfl
      by_cases h4 : (l[i]).2.length > 32
      · rw [decide_eq_false (show ¬ ((((l[i]).2.length : Nat) : Int)) < 1 by omega), decide_eq_true (show ((((l[i]).2.length : Nat) : Int)) > 32 by omega), decide_eq_false (show ¬ (last < (l[i]).1 ∧ (l[i]).1 ≤ 255 ∧ 1 ≤ (l[i]).2.length ∧ (l[i]).2.length ≤ 32) by omega)]; rfl
      rw [decide_eq_false (show ¬ ((((l[i]).2.length : Nat) : Int)) < 1 by omega), decide_eq_false (show ¬ ((((l[i]).2.length : Nat) : Int)) > 32 by omega)]
      simp only [cond_false]
      exact fin (by omega) _ (by kernel_rfl)
    · have hw : IntKind.wrap .i64 ((i : Int) - 1) = ((i - 1 : Nat) : Int) := by rw [wrap_small (by omega) (by omega)]; omega
      have hpi := hp (by omega) (by omega)
      rw [decide_eq_true (show (i : Int) > 0 by omega), hw, decide_eq_true (show (0 : Int) ≤ ((i - 1 : Nat) : Int) by omega), getVol f2 l (i - 1) (by omega), hpi]
      simp only [cond_true, asAgg, asCons, asInt, asSl, if_true, asNil]
      by_cases h5 : last ≥ (l[i]).1
      · rw [decide_eq_true h5, decide_eq_false (show ¬ (last < (l[i]).1 ∧ (l[i]).1 ≤ 255 ∧ 1 ≤ (l[i]).2.length ∧ (l[i]).2.length ≤ 32) by omega)]; rfl
      rw [decide_eq_false h5]
      simp only [cond_false]
      by_cases h3 : (l[i]).2.length < 1
      · rw [decide_eq_true (show ((((l[i]).2.length : Nat) : Int)) < 1 by omega), decide_eq_false (show ¬ (last < (l[i]).1 ∧ (l[i]).1 ≤ 255 ∧ 1 ≤ (l[i]).2.length ∧ (l[i]).2.length ≤ 32) by omega)]; rfl
      by_cases h4 : (l[i]).2.length > 32
      · rw [decide_eq_false (show ¬ ((((l[i]).2.length : Nat) : Int)) < 1 by omega), decide_eq_true (show ((((l[i]).2.length : Nat) : Int)) > 32 by omega), decide_eq_false (show ¬ (last < (l[i]).1 ∧ (l[i]).1 ≤ 255 ∧ 1 ≤ (l[i]).2.length ∧ (l[i]).2.length ≤ 32) by omega)]; rfl
      rw [decide_eq_false (show ¬ ((((l[i]).2.length : Nat) : Int)) < 1 by omega), decide_eq_false (show ¬ ((((l[i]).2.length : Nat) : Int)) > 32 by omega)]
      simp only [cond_false]
      exact fin (by omega) _ (by kernel_rfl)
theorem e90 (k : Nat) (fl f2 : Bool) (l : List Vol) (hk : 70 ≤ k) : evF pr k 35 [.sl 2 fl (l.map (volV f2))] [] = some (.bool (vOk l), []) := by
  obtain ⟨k, rfl⟩ : ∃ m, k = m + 1 := ⟨k - 1, by omega⟩
  rw [ev_step _ _ _ _ (by kernel_rfl), rvright_tree, List.length_map, vOk]
  by_cases h : l.length ≤ 4
  · rw [decide_eq_false (show ¬ ((l.length : Nat) : Int) > 4 by omega), decide_eq_true h, Bool.true_and]
    exact rvright_loop k (by omega) fl f2 false l h l.length 0 k 0 _ (Nat.zero_add _) (by omega) (fun _ => rfl) (fun h => absurd h (by omega)) (by omega) (by kernel_rfl)
  · rw [decide_eq_true (show ((l.length : Nat) : Int) > 4 by omega), decide_eq_false h]
    rfl
end Go.AM.YtnhfjkckgicidaaGreat

set_option linter.unusedVariables false
set_option linter.unusedSimpArgs false
namespace Go.AM.YtnhfjkckgicidaaGreat
open Go.AM Go.Proofs Go
end Go.AM.YtnhfjkckgicidaaGreat

set_option linter.unusedVariables false
set_option linter.unusedSimpArgs false
namespace Go.AM.YtnhfjkckgicidaaGreat
open Go.AM Go.Proofs Go
theorem e17nil (k a : Nat) (fl : Bool) : evF pr (k + 6) 73 [.sl a fl []] [] = some (.tup [.str [0], .int .i64 0], []) := by kernel_rfl
theorem e19nil (k a : Nat) (fl : Bool) : evF pr (k + 6) 50 [.sl a fl []] [] = some (.str [0], []) := by kernel_rfl
theorem e53nil (k a : Nat) (fl : Bool) : evF pr (k + 6) 24 [.sl a fl []] [] = some (.tup [.str [0], .int .i64 0], []) := by kernel_rfl
theorem e63nil (k a : Nat) (fl : Bool) : evF pr (k + 6) 51 [.sl a fl []] [] = some (.str [0], []) := by kernel_rfl
theorem e13nil (k a : Nat) (fl : Bool) : evF pr (k + 6) 53 [.sl a fl []] [] = some (.str [0, 0], []) := by kernel_rfl
theorem e17' (k : Nat) {v : AV} {l : List (Int × Int)} (h : IsL v l) (hk : 100 + l.length ≤ k) (hs : Sm l) (hl : l.length ≤ 1000) : evF pr k 73 [v] [] = some (if lined l then .tup [.str (putL l), .int .i64 0] else .tup [.str [], .int .i64 1], []) := by
  rcases h with ⟨fl, rfl⟩ | ⟨rfl, a, fl, rfl⟩
  · exact e17 k fl l (by omega) hs hl
  · obtain ⟨k, rfl⟩ : ∃ m, k = m + 6 := ⟨k - 6, by omega⟩
    exact e17nil k a fl
theorem e19' (k : Nat) {v : AV} {l : List (Int × Int)} (h : IsL v l) (hk : 100 + l.length ≤ k) (hs : Sm l) (hl : l.length ≤ 1000) : evF pr k 50 [v] [] = some (.str (putL l), []) := by
  rcases h with ⟨fl, rfl⟩ | ⟨rfl, a, fl, rfl⟩
  · exact e19 k fl l (by omega) hs hl
  · obtain ⟨k, rfl⟩ : ∃ m, k = m + 6 := ⟨k - 6, by omega⟩
    exact e19nil k a fl
theorem e62' (k : Nat) {v : AV} {l : List (Int × Int)} (h : IsT v l) (hk : 100 + l.length ≤ k) (hl : l.length ≤ 1000) : evF pr k 72 [v] [] = some (.bool (bOk l), []) := by
  rcases h with ⟨fl, rfl⟩ | ⟨rfl, a, fl, rfl⟩
  · exact e62 k fl l (by omega) (by omega)
  · obtain ⟨k, rfl⟩ : ∃ m, k = m + 6 := ⟨k - 6, by omega⟩
    exact e62nil k a fl
theorem e58' (k : Nat) {v : AV} {l : List (Int × Int)} (h : IsT v l) (hk : 100 + l.length ≤ k) (hl : l.length ≤ 1000) : evF pr k 81 [v] [] = some (.bool (bOk l), []) := by
  rcases h with ⟨fl, rfl⟩ | ⟨rfl, a, fl, rfl⟩
  · exact e58 k fl l (by omega) (by omega)
  · obtain ⟨k, rfl⟩ : ∃ m, k = m + 6 := ⟨k - 6, by omega⟩
    exact e58nil k a fl
theorem e53' (k : Nat) {v : AV} {l : List (Int × Int)} (h : IsT v l) (hu : UM l) (hk : 100 + l.length ≤ k) (hl : l.length ≤ 1000) : evF pr k 24 [v] [] = some (if bOk l then .tup [.str (putB l), .int .i64 0] else .tup [.str [], .int .i64 1], []) := by
  rcases h with ⟨fl, rfl⟩ | ⟨rfl, a, fl, rfl⟩
  · exact e53 k fl l hu (by omega) hl
  · obtain ⟨k, rfl⟩ : ∃ m, k = m + 6 := ⟨k - 6, by omega⟩
    exact e53nil k a fl
theorem e63' (k : Nat) {v : AV} {l : List (Int × Int)} (h : IsT v l) (hu : UM l) (hk : 100 + l.length ≤ k) (hok : bOk l = true) : evF pr k 51 [v] [] = some (.str (putB l), []) := by
  rcases h with ⟨fl, rfl⟩ | ⟨rfl, a, fl, rfl⟩
  · exact e63 k fl l hu (by omega) hok
  · obtain ⟨k, rfl⟩ : ∃ m, k = m + 6 := ⟨k - 6, by omega⟩
    exact e63nil k a fl
theorem e13' (k : Nat) {v : AV} {l : List Wr} (h : IsW v l) (hk : 240 ≤ k) (hok : wOk l = true) : evF pr k 53 [v] [] = some (.str (putW l), []) := by
  rcases h with ⟨fl, rfl⟩ | ⟨rfl, a, fl, rfl⟩
  · exact e13 k fl l (by omega) hok
  · obtain ⟨k, rfl⟩ : ∃ m, k = m + 6 := ⟨k - 6, by omega⟩
    exact e13nil k a fl
def IsZ (v : AV) (l : List Int) : Prop := (∃ fl, v = .sl 1 fl (l.map (AV.int .i64))) ∨ (l = [] ∧ ∃ a fl, v = .sl a fl [])
theorem IsL.sl {v : AV} {l : List (Int × Int)} (h : IsL v l) : ∃ a f xs, v = .sl a f xs ∧ xs.length = l.length := by
  rcases h with ⟨fl, rfl⟩ | ⟨rfl, a, fl, rfl⟩
  · exact ⟨_, _, _, rfl, by simp⟩
  · exact ⟨_, _, _, rfl, rfl⟩
theorem IsT.sl {v : AV} {l : List (Int × Int)} (h : IsT v l) : ∃ a f xs, v = .sl a f xs ∧ xs.length = l.length := by
  rcases h with ⟨fl, rfl⟩ | ⟨rfl, a, fl, rfl⟩
  · exact ⟨_, _, _, rfl, by simp⟩
  · exact ⟨_, _, _, rfl, rfl⟩
theorem IsW.sl {v : AV} {l : List Wr} (h : IsW v l) : ∃ a f xs, v = .sl a f xs ∧ xs.length = l.length := by
  rcases h with ⟨fl, rfl⟩ | ⟨rfl, a, fl, rfl⟩
  · exact ⟨_, _, _, rfl, by simp⟩
  · exact ⟨_, _, _, rfl, rfl⟩
theorem IsZ.sl {v : AV} {l : List Int} (h : IsZ v l) : ∃ a f xs, v = .sl a f xs ∧ xs.length = l.length := by
  rcases h with ⟨fl, rfl⟩ | ⟨rfl, a, fl, rfl⟩
  · exact ⟨_, _, _, rfl, by simp⟩
  · exact ⟨_, _, _, rfl, rfl⟩
def fitsI (z : Int) : Bool := decide (0 ≤ z ∧ z ≤ 1099511627776)
def lastAt (l : List (Int × Int)) : Int := (l.getD (l.length - 1) (0, 0)).2
def placedOk (l : List (Int × Int)) (z : Int) : Bool := lineOk l && decide (lastAt l ≤ z ∧ z ≤ 1099511627776)
def noneOk (l : List (Int × Int)) (z : Int) : Bool := decide (l.length = 0) && decide (z = 0)
theorem rplaced_tree (F : Fns) (N : Nat) (fl : Bool) (xs : List AV) (z : Int) : runOf F 33 N [.agg [.sl 2 fl xs, .int .i64 z]] [] =
  onRes (F 75 [AV.sl 2 fl xs] []) fun v bs => asBool v fun b => asNil bs (bif b then bif decide (z ≤ 1099511627776) then bif decide (0 ≤ IntKind.wrap .i64 (((List.length xs : Nat) : Int) - 1)) then onOpt xs[Int.toNat (IntKind.wrap .i64 (((List.length xs : Nat) : Int) - 1))]? fun x => asAgg x fun cs => asCons cs fun v r => asInt .i64 v fun n => asCons r fun v r => asInt .i64 v fun n => asNil r (some (AV.bool (decide (n ≤ z)), [])) else none else some (AV.bool false, []) else some (AV.bool false, [])) := by kernel_rfl
theorem lplaced_tree (F : Fns) (N : Nat) (fl : Bool) (xs : List AV) (z : Int) : runOf F 108 N [.agg [.sl 2 fl xs, .int .i64 z]] [] =
  onRes (F 119 [AV.sl 2 fl xs] []) fun v bs => asBool v fun b => asNil bs (bif b then bif decide (0 ≤ IntKind.wrap .i64 (((List.length xs : Nat) : Int) - 1)) then onOpt xs[Int.toNat (IntKind.wrap .i64 (((List.length xs : Nat) : Int) - 1))]? fun x => asAgg x fun cs => asCons cs fun v r => asInt .i64 v fun n => asCons r fun v r => asInt .i64 v fun n => asNil r (bif decide (z ≥ n) then some (AV.bool (decide (z ≤ 1099511627776)), []) else some (AV.bool false, [])) else none else some (AV.bool false, [])) := by kernel_rfl
theorem e57nil (k a : Nat) (fl : Bool) (z : Int) : evF pr (k + 6) 33 [.agg [.sl a fl [], .int .i64 z]] [] = some (.bool false, []) := by kernel_rfl
theorem e94nil (k a : Nat) (fl : Bool) (z : Int) : evF pr (k + 6) 108 [.agg [.sl a fl [], .int .i64 z]] [] = some (.bool false, []) := by kernel_rfl
theorem getLast (l : List (Int × Int)) (h : lineOk l = true) : 0 ≤ IntKind.wrap .i64 ((((l.map brV).length : Nat) : Int) - 1) ∧ ∃ e, (l.map brV)[Int.toNat (IntKind.wrap .i64 ((((l.map brV).length : Nat) : Int) - 1))]? = some (.agg [.int .i64 e, .int .i64 (lastAt l)]) := by
  have hl : l.length ≤ 64 ∧ 0 < l.length := by
    cases l with
    | nil => simp [lineOk] at h
    | cons b r =>
      rw [lineOk, Bool.and_eq_true, decide_eq_true_eq] at h
      exact ⟨h.1, by simp⟩
  have hw : IntKind.wrap .i64 ((((l.map brV).length : Nat) : Int) - 1) = ((l.length - 1 : Nat) : Int) := by
    rw [List.length_map, wrap_small (by omega) (by omega)]
    omega
  rw [hw, getBr l (l.length - 1) (by omega)]
  refine ⟨by omega, (l[l.length - 1]).1, ?_⟩
  have : lastAt l = (l[l.length - 1]).2 := by
    unfold lastAt
    rw [List.getD_eq_getElem?_getD, List.getElem?_eq_getElem (by omega)]
    rfl
  rw [this]
theorem e57 (k : Nat) (hk : 110 ≤ k) {v : AV} {l : List (Int × Int)} (h : IsL v l) (z : Int) : evF pr k 33 [.agg [v, .int .i64 z]] [] = some (.bool (placedOk l z), []) := by
  rcases h with ⟨fl, rfl⟩ | ⟨rfl, a, fl, rfl⟩
  · obtain ⟨k, rfl⟩ : ∃ m, k = m + 1 := ⟨k - 1, by omega⟩
    rw [ev_step _ _ _ _ (by kernel_rfl), rplaced_tree, e46 k (by omega), placedOk]
    simp only [onRes, asBool, asNil]
    cases hok : lineOk l with
    | false => rfl
    | true =>
      obtain ⟨g1, e, g2⟩ := getLast l hok
      rw [decide_eq_true g1, g2]
      simp only [cond_true, onOpt, asAgg, asCons, asInt, if_true, asNil, Bool.true_and]
      by_cases h1 : z ≤ 1099511627776
      · rw [decide_eq_true h1, show decide (lastAt l ≤ z ∧ z ≤ 1099511627776) = decide (lastAt l ≤ z) by rw [decide_eq_decide]; omega]
        rfl
      · rw [decide_eq_false h1, decide_eq_false (show ¬ (lastAt l ≤ z ∧ z ≤ 1099511627776) by omega)]
        rfl
  · obtain ⟨k, rfl⟩ : ∃ m, k = m + 6 := ⟨k - 6, by omega⟩
    exact e57nil k a fl z
theorem e94 (k : Nat) (hk : 110 ≤ k) {v : AV} {l : List (Int × Int)} (h : IsL v l) (z : Int) : evF pr k 108 [.agg [v, .int .i64 z]] [] = some (.bool (placedOk l z), []) := by
  rcases h with ⟨fl, rfl⟩ | ⟨rfl, a, fl, rfl⟩
  · obtain ⟨k, rfl⟩ : ∃ m, k = m + 1 := ⟨k - 1, by omega⟩
    rw [ev_step _ _ _ _ (by kernel_rfl), lplaced_tree, e44 k (by omega), placedOk]
    simp only [onRes, asBool, asNil]
    cases hok : lineOk l with
    | false => rfl
    | true =>
      obtain ⟨g1, e, g2⟩ := getLast l hok
      rw [decide_eq_true g1, g2]
      simp only [cond_true, onOpt, asAgg, asCons, asInt, if_true, asNil, Bool.true_and]
      by_cases h1 : z ≥ lastAt l
      · rw [decide_eq_true h1, show decide (lastAt l ≤ z ∧ z ≤ 1099511627776) = decide (z ≤ 1099511627776) by rw [decide_eq_decide]; omega]
        rfl
      · rw [decide_eq_false h1, decide_eq_false (show ¬ (lastAt l ≤ z ∧ z ≤ 1099511627776) by omega)]
        rfl
  · obtain ⟨k, rfl⟩ : ∃ m, k = m + 6 := ⟨k - 6, by omega⟩
    exact e94nil k a fl z
end Go.AM.YtnhfjkckgicidaaGreat

set_option linter.unusedVariables false
set_option linter.unusedSimpArgs false
namespace Go.AM
open Go.RowKit Go.Lib Go.ChangeShapes Go.WideShapes
inductive Cn where
  | id
  | sl (z : Nat)
  | cells (l : List Cn)
  | tup (l : List Cn)
def can1 : Cn → AV → AV
  | .sl z, .sl s f xs => bif s == z then .sl z false xs else bif xs.isEmpty then .sl z false [] else .sl s f xs
  | _, v => v
def canL : List Cn → List AV → List AV
  | c :: r, v :: l => can1 c v :: canL r l
  | _, l => l
def canV : Cn → AV → AV
  | .cells l, .agg cs => .agg (canL l cs)
  | c, v => can1 c v
def canVs : List Cn → List AV → List AV
  | c :: r, v :: l => canV c v :: canVs r l
  | _, l => l
def canR : Cn → AV → AV
  | .tup l, .tup cs => .tup (canVs l cs)
  | c, v => canV c v
def cRes (c : Cn) : Res → Res
  | some (v, bs) => some (canR c v, bs)
  | none => none
abbrev Ct := List (Nat × (List Cn × Cn))
def ctA (ct : Ct) (f : Nat) : List Cn := match find f ct with | some p => p.1 | none => []
def ctR (ct : Ct) (f : Nat) : Cn := match find f ct with | some p => p.2 | none => .id
noncomputable def evW (pr : Prg) (old : List Nat) (ct : Ct) : Nat → Fns
  | 0, _, _, _ => none
  | k + 1, f, vs, bs => cRes (ctR ct f) (bif old.contains f then evF pr (k + 1) f (canVs (ctA ct f) vs) bs else match pr.f f with
    | some (.inl fx) => evFn (evW pr old ct k) pr.tb pr.sh fx k (canVs (ctA ct f) vs) bs
    | some (.inr g) => g (canVs (ctA ct f) vs) bs
    | none => none)
theorem cRes_id (r : Res) : cRes .id r = r := by
  cases r with
  | none => rfl
  | some p => obtain ⟨v, bs⟩ := p; cases v <;> rfl
section
variable {P : Program} {w : World} {D : Dead}
theorem can1_rep {c : Cn} {a : AV} {v : Value} (h : RepD w D a v) : RepD w D (can1 c a) v := by
  unfold can1
  split
  · rename_i z s f xs
    cases hs : s == z with
    | true =>
      have : s = z := by simpa using hs
      subst this
      exact h.unfull
    | false =>
      cases hx : xs.isEmpty with
      | false => exact h
      | true =>
        have : xs = [] := by simpa using hx
        subst this
        cases h with
        | slN _ _ A cap hf => exact .slN z false A cap (by simp)
        | sl _ _ _ b o cap f hlc hf hs hc hr => exact .slN z false _ cap (by simp)
  · exact h
theorem can1_cell {c : Cn} {a : AV} (h : a.cell1 = true) : (can1 c a).cell1 = true := by
  unfold can1
  split
  · rename_i z s f xs
    cases s == z <;> cases xs.isEmpty <;> rfl
  · exact h
theorem canL_length : ∀ (l : List Cn) (cs : List AV), (canL l cs).length = cs.length
  | [], cs => by cases cs <;> rfl
  | _ :: _, [] => rfl
  | _ :: r, _ :: l => by simp [canL, canL_length r l]
theorem canL_get : ∀ (l : List Cn) (cs : List AV) (i : Nat) (c : AV), (canL l cs)[i]? = some c → ∃ c0 n, cs[i]? = some c0 ∧ c = can1 n c0
  | [], cs, i, c, h => ⟨c, .id, by cases cs <;> exact h, by cases c <;> rfl⟩
  | n :: r, [], i, c, h => by simp [canL] at h
  | n :: r, v :: l, i, c, h => by
    cases i with
    | zero => simp [canL] at h; exact ⟨v, n, rfl, h.symm⟩
    | succ i => simp only [canL, List.getElem?_cons_succ] at h ⊢; exact canL_get r l i c h
theorem canV_rep {c : Cn} {a : AV} {v : Value} (h : RepD w D a v) : RepD w D (canV c a) v := by
  unfold canV
  split
  · rename_i l cs
    cases h with
    | agg _ vs hn h1 h2 =>
      refine .agg _ vs (by rw [canL_length]; exact hn) (fun c hc => ?_) (fun i c v hi hj => ?_)
      · obtain ⟨i, hi⟩ := List.getElem?_of_mem hc
        obtain ⟨c0, n, e1, rfl⟩ := canL_get _ _ _ _ hi
        exact can1_cell (h1 c0 (List.mem_of_getElem? e1))
      · obtain ⟨c0, n, e1, rfl⟩ := canL_get _ _ _ _ hi
        exact can1_rep (h2 i c0 v e1 hj)
  · exact can1_rep h
theorem canVs_length : ∀ (l : List Cn) (cs : List AV), (canVs l cs).length = cs.length
  | [], cs => by cases cs <;> rfl
  | _ :: _, [] => rfl
  | _ :: r, _ :: l => by simp [canVs, canVs_length r l]
theorem canV_id (c : AV) : canV .id c = c := by cases c <;> rfl
theorem canVs_get : ∀ (l : List Cn) (cs : List AV) (i : Nat) (c : AV), (canVs l cs)[i]? = some c → ∃ c0 n, cs[i]? = some c0 ∧ c = canV n c0
  | [], cs, i, c, h => ⟨c, .id, by cases cs <;> exact h, (canV_id c).symm⟩
  | n :: r, [], i, c, h => by simp [canVs] at h
  | n :: r, v :: l, i, c, h => by
    cases i with
    | zero => simp [canVs] at h; exact ⟨v, n, rfl, h.symm⟩
    | succ i => simp only [canVs, List.getElem?_cons_succ] at h ⊢; exact canVs_get r l i c h
theorem canV_ptr {c : Cn} {v : AV} : (∃ k g o, v = .ptr k g o ∧ canV c v = .ptr k g o) ∨ ((∀ k g o, v ≠ .ptr k g o) ∧ ∀ k g o, canV c v ≠ .ptr k g o) := by
  cases v with
  | ptr k g o => left; exact ⟨k, g, o, rfl, by cases c <;> rfl⟩
  | sl s f xs =>
    right
    refine ⟨by simp, fun k g o => ?_⟩
    cases c with
    | sl z => simp only [canV, can1]; cases s == z <;> cases xs.isEmpty <;> simp
    | _ => simp [canV, can1]
  | _ => right; refine ⟨by simp, fun k g o => ?_⟩; cases c <;> simp [canV, can1]
theorem args_can {B : Nat → Nat} {l : List Cn} {vs : List AV} {args : Array Value} (h : ArgsRep w D B vs args) : ArgsRep w D B (canVs l vs) args := by
  refine ⟨by rw [canVs_length]; exact h.1, fun i v cv hi hj => ?_⟩
  obtain ⟨c0, n, e1, rfl⟩ := canVs_get _ _ _ _ hi
  have := h.2 i c0 cv e1 hj
  rcases canV_ptr (c := n) (v := c0) with ⟨k, g, o, rfl, e⟩ | ⟨h1, h2⟩
  · rw [e]; exact this
  · have h0 : RepD w D c0 cv := by cases c0 <;> first | exact this | exact absurd rfl (h1 _ _ _)
    have h3 := canV_rep (c := n) h0
    generalize canV n c0 = x at h2 h3
    cases x <;> first | exact h3 | exact absurd rfl (h2 _ _ _)
theorem res_can {c : Cn} {r : AV} {cv : Value} (h : RepR w D r cv) : RepR w D (canR c r) cv := by
  unfold canR
  split
  · rename_i l cs
    obtain ⟨arr, e, hn, hh⟩ := h
    refine ⟨arr, e, by rw [canVs_length]; exact hn, fun i c cv hi hj => ?_⟩
    obtain ⟨c0, n, e1, rfl⟩ := canVs_get _ _ _ _ hi
    exact canV_rep (hh i c0 cv e1 hj)
  · cases r with
    | tup l => cases c <;> exact h
    | _ =>
      have h3 := canV_rep (c := c) (show RepD w D _ cv from h)
      generalize hx : canV c _ = x at h3
      cases x <;> first | exact h3 | (cases h3; done)
theorem OverOk.can {f : Nat} {g : Over} (h : OverOk P f g) (l : List Cn) (c : Cn) : OverOk P f (fun vs bs => cRes c (g (canVs l vs) bs)) := by
  intro vs bs r bs' hg
  simp only [cRes] at hg
  split at hg
  · rename_i v bs1 hg1
    simp only [Option.some.injEq, Prod.mk.injEq] at hg
    obtain ⟨rfl, rfl⟩ := hg
    obtain ⟨h1, h2⟩ := h _ _ _ _ hg1
    refine ⟨h1, fun w D B args hD ha hb hi hl => (h2 w D B args hD (args_can ha) hb hi hl).mono fun e w' hp => ?_⟩
    obtain ⟨cv, D', q1, q2, q3⟩ := hp
    exact ⟨cv, D', q1, res_can q2, q3⟩
  · simp at hg
theorem evW_sound {pr : Prg} (hP : PrgOk P pr) (hls : ∀ f fx, pr.f f = some (.inl fx) → fx.ls = []) (old : List Nat) (ct : Ct) : ∀ k, SoundF P (evW pr old ct k)
  | 0 => fun f vs bs r bs' h => by simp [evW] at h
  | k + 1 => fun f vs bs r bs' h => by
    have key : ∀ {g : Over}, OverOk P f g → cRes (ctR ct f) (g (canVs (ctA ct f) vs) bs) = some (r, bs') → _ := fun hg hh => hg.can (ctA ct f) (ctR ct f) vs bs r bs' hh
    unfold evW at h
    cases ho : old.contains f with
    | true =>
      rw [ho] at h
      exact key (fun vs bs r bs' hh => evF_sound hP (k + 1) f vs bs r bs' hh) h
    | false =>
      rw [ho] at h
      simp only [cond_false] at h
      split at h
      · rename_i fx hf
        exact key (evFn_sound (evW_sound hP hls old ct k) hP.tb (hP.fn f fx hf) (fun c hc c' hc' LS hLS => by rw [hls f fx hf] at hLS; simp [find] at hLS) k) h
      · rename_i g hg
        exact key (hP.over f g hg) h
      · simp [cRes] at h
variable {H : Type} {enc : TypeId × Value → H} {W : World} {spare : Nat → Bool} {held : Bool} {base : Nat}
theorem law_callsW {F : Nat → Fns} (hF : ∀ k, SoundF P (F k)) {f n : Nat} {ts : List TypeId} (hts : ts.all (plainT P n) = true) {args : Array Value} {ds : List (DataW H)} {ps : List MemPlace} (hv : ∀ (j : Nat) t v, ts[j]? = some t → args[j]? = some v → Value.okWide P W .any base t v)
    (hA : DataW.TrodAll enc P W 0 spare held ts args.toList ds ps) (hw : (DataW.weightsEach P ts ds).all (· ≤ reachBytes) = true) (law : ∀ avs, WtArgs P n ts avs → ∃ k, F k f avs [] = some (.bool true, [])) :
    Calls P f args W fun e W' => e = .returned (.bool true) ∧ Below W.heap.size W W' := by
  obtain ⟨avs, h1, h2, h3⟩ := args_rep hts (fun j t v ht hj => hv j t v ht (by simpa using hj)) hA (fun m hm => by simpa using List.all_eq_true.1 hw m hm)
  obtain ⟨k, hk⟩ := law avs h1
  obtain ⟨_, hc⟩ := hF k f avs [] _ _ hk
  refine (hc W (oldD W) (fun _ => 0) args (fun b o h => h) ⟨by simpa using h2.symm, fun i v cv hi hj => ?_⟩ (by intro n cs h; simp at h) (by intro m n hm; simp at hm) (by intro n hn; simp at hn)).mono fun e W' hp => ?_
  · obtain ⟨q1, q2⟩ := h3 i v cv hi (by simpa using hj)
    cases v <;> first | exact q1 | exact absurd rfl (q2 _ _ _)
  · obtain ⟨cv, D', rfl, hR, _, _, hA⟩ := hp
    have : cv = .bool true := by cases (show RepD W' D' (.bool true) cv from hR); rfl
    subst this
    exact ⟨rfl, hA.os, hA.tape, hA.output, hA.size, fun b hb => hA.block b hb (by intro n hn; simp at hn)⟩
end
end Go.AM

set_option linter.unusedVariables false
namespace Go.AM.YtnhfjkckgicidaaGreat
open Go.AM Go.Proofs Go
noncomputable def ct : Ct := [
  (3, ([.cells [.id, .id, .id, .id, .sl 2, .id, .sl 2, .id, .sl 3, .sl 2, .id, .sl 2, .sl 3, .id, .id, .id, .id, .sl 3, .id, .sl 3, .sl 3]], .id)),
  (6, ([.sl 26], .id)),
  (7, ([.cells [.id, .id, .id, .id, .sl 2, .id, .sl 2, .id, .sl 3, .sl 2, .id, .sl 2, .sl 3, .id, .id, .id, .id, .sl 3, .id, .sl 3, .sl 3]], .id)),
  (9, ([.cells [.id, .id, .id, .id, .sl 2, .id, .sl 2, .id, .sl 3, .sl 2, .id, .sl 2, .sl 3, .id, .id, .id, .id, .sl 3, .id, .sl 3, .sl 3]], .id)),
  (10, ([.cells [.id, .id, .id, .id, .sl 2, .id, .sl 2, .id, .sl 3, .sl 2, .id, .sl 2, .sl 3, .id, .id, .id, .id, .sl 3, .id, .sl 3, .sl 3]], .id)),
  (11, ([], .tup [.cells [.id, .id, .id, .id, .sl 2, .id, .sl 2, .id, .sl 3, .sl 2, .id, .sl 2, .sl 3, .id, .id, .id, .id, .sl 3, .id, .sl 3, .sl 3], .id])),
  (12, ([.cells [.id, .id, .id, .id, .sl 2, .id, .sl 2, .id, .sl 3, .sl 2, .id, .sl 2, .sl 3, .id, .id, .id, .id, .sl 3, .id, .sl 3, .sl 3]], .id)),
  (13, ([.cells [.id, .id, .id, .id, .sl 2, .id, .sl 2, .id, .sl 3, .sl 2, .id, .sl 2, .sl 3, .id, .id, .id, .id, .sl 3, .id, .sl 3, .sl 3], .cells [.id, .id, .id, .id, .sl 2, .id, .sl 2, .id, .sl 3, .sl 2, .id, .sl 2, .sl 3, .id, .id, .id, .id, .sl 3, .id, .sl 3, .sl 3]], .id)),
  (14, ([], .tup [.cells [.id, .id, .id, .id, .sl 2, .id, .sl 2, .id, .sl 3, .sl 2, .id, .sl 2, .sl 3, .id, .id, .id, .id, .sl 3, .id, .sl 3, .sl 3], .id])),
  (15, ([], .tup [.sl 26, .id])),
  (16, ([], .tup [.sl 1, .id, .id])),
  (17, ([.sl 26], .id)),
  (18, ([.sl 1], .id)),
  (19, ([.sl 2, .sl 3], .id)),
  (20, ([.cells [.sl 3, .sl 3]], .id)),
  (21, ([], .cells [.id, .id, .id, .id, .sl 2, .id, .sl 2, .id, .sl 3, .sl 2, .id, .sl 2, .sl 3, .id, .id, .id, .id, .sl 3, .id, .sl 3, .sl 3])),
  (22, ([.cells [.id, .id, .id, .id, .sl 2, .id, .sl 2, .id, .sl 3, .sl 2, .id, .sl 2, .sl 3, .id, .id, .id, .id, .sl 3, .id, .sl 3, .sl 3]], .id)),
  (24, ([.sl 2], .id)),
  (26, ([.sl 1], .id)),
  (27, ([.sl 2], .id)),
  (28, ([.sl 2], .id)),
  (29, ([.sl 3], .id)),
  (31, ([.cells [.sl 2]], .id)),
  (32, ([.cells [.id, .id, .id, .id, .sl 2, .id, .sl 2, .id, .sl 3, .sl 2, .id, .sl 2, .sl 3, .id, .id, .id, .id, .sl 3, .id, .sl 3, .sl 3]], .cells [.sl 2])),
  (33, ([.cells [.sl 2]], .id)),
  (34, ([.sl 2], .id)),
  (35, ([.sl 2], .id)),
  (36, ([.sl 3, .sl 2], .id)),
  (37, ([.cells [.sl 2], .cells [.sl 2]], .id)),
  (38, ([.sl 2, .sl 2], .id)),
  (39, ([.cells [.id, .id, .id, .id, .sl 2, .id, .sl 2, .id, .sl 3, .sl 2, .id, .sl 2, .sl 3, .id, .id, .id, .id, .sl 3, .id, .sl 3, .sl 3]], .id)),
  (42, ([], .sl 2)),
  (43, ([], .tup [.sl 2, .id, .id])),
  (44, ([.id, .sl 2], .sl 2)),
  (45, ([], .sl 2)),
  (46, ([], .sl 3)),
  (50, ([.sl 2], .id)),
  (51, ([.sl 2], .id)),
  (52, ([.sl 2], .id)),
  (53, ([.sl 3], .id)),
  (55, ([.sl 3, .sl 3], .id)),
  (56, ([.sl 2, .sl 2], .id)),
  (57, ([.sl 2, .sl 2], .id)),
  (58, ([.sl 2, .sl 2], .id)),
  (59, ([.cells [.sl 3, .sl 3], .cells [.sl 3, .sl 3]], .id)),
  (61, ([], .sl 2)),
  (62, ([], .tup [.sl 2, .id, .id])),
  (63, ([.id, .cells [.id, .id, .id, .id, .sl 2, .id, .sl 2, .id, .sl 3, .sl 2, .id, .sl 2, .id, .id, .id, .id, .id, .sl 3, .id, .id, .sl 3]], .tup [.cells [.id, .id, .id, .id, .sl 2, .id, .sl 2, .id, .sl 3, .sl 2, .id, .sl 2, .sl 3, .id, .id, .id, .id, .sl 3, .id, .sl 3, .sl 3], .id])),
  (64, ([], .tup [.sl 1, .id, .id])),
  (66, ([.sl 1], .id)),
  (68, ([.cells [.id, .id, .id, .id, .sl 2, .id, .sl 2, .id, .sl 3, .sl 2, .id, .sl 2, .sl 3, .id, .id, .id, .id, .sl 3, .id, .sl 3, .sl 3]], .id)),
  (69, ([.cells [.id, .id, .id, .id, .sl 2, .id, .sl 2, .id, .sl 3, .sl 2, .id, .sl 2, .sl 3, .id, .id, .id, .id, .sl 3, .id, .sl 3, .sl 3]], .id)),
  (70, ([.cells [.id, .id, .id, .id, .sl 2, .id, .sl 2, .id, .sl 3, .sl 2, .id, .sl 2, .sl 3, .id, .id, .id, .id, .sl 3, .id, .sl 3, .sl 3]], .id)),
  (71, ([.cells [.id, .id, .id, .id, .sl 2, .id, .sl 2, .id, .sl 3, .sl 2, .id, .sl 2, .sl 3, .id, .id, .id, .id, .sl 3, .id, .sl 3, .sl 3]], .id)),
  (72, ([.sl 2], .id)),
  (73, ([.sl 2], .id)),
  (74, ([.sl 3], .id)),
  (75, ([.sl 2], .id)),
  (76, ([.sl 2, .sl 3], .id)),
  (77, ([.sl 3], .sl 3)),
  (78, ([.sl 2, .sl 2], .id)),
  (79, ([.sl 2], .sl 2)),
  (80, ([.sl 2], .id)),
  (81, ([.sl 2], .id)),
  (82, ([.cells [.id, .id, .id, .id, .sl 2, .id, .sl 2, .id, .sl 3, .sl 2, .id, .sl 2, .sl 3, .id, .id, .id, .id, .sl 3, .id, .sl 3, .sl 3]], .id)),
  (83, ([.cells [.sl 3, .sl 3]], .id)),
  (84, ([.cells [.sl 3, .sl 3]], .id)),
  (85, ([.cells [.sl 3, .sl 3]], .sl 3)),
  (86, ([.sl 3], .id)),
  (87, ([.cells [.id, .id, .id, .id, .sl 2, .id, .sl 2, .id, .sl 3, .sl 2, .id, .sl 2, .sl 3, .id, .id, .id, .id, .sl 3, .id, .sl 3, .sl 3]], .id)),
  (90, ([], .tup [.sl 2, .id, .id])),
  (91, ([.id, .sl 2], .sl 2)),
  (93, ([.id, .sl 1], .sl 1)),
  (94, ([], .tup [.sl 3, .id, .id])),
  (95, ([.id, .sl 3], .sl 3)),
  (101, ([], .tup [.sl 2, .id, .id])),
  (102, ([], .sl 3)),
  (105, ([.sl 1], .id)),
  (106, ([.cells [.sl 2]], .id)),
  (107, ([.cells [.id, .id, .id, .id, .sl 2, .id, .sl 2, .id, .sl 3, .sl 2, .id, .sl 2, .sl 3, .id, .id, .id, .id, .sl 3, .id, .sl 3, .sl 3]], .cells [.sl 2])),
  (108, ([.cells [.sl 2]], .id)),
  (109, ([.sl 2], .id)),
  (110, ([.sl 2], .id)),
  (111, ([.sl 3, .sl 2], .id)),
  (112, ([.cells [.sl 2], .cells [.sl 2]], .id)),
  (113, ([.sl 2, .sl 2], .id)),
  (114, ([.sl 2, .sl 3], .id)),
  (115, ([.cells [.id, .id, .id, .id, .sl 2, .id, .sl 2, .id, .sl 3, .sl 2, .id, .sl 2, .sl 3, .id, .id, .id, .id, .sl 3, .id, .sl 3, .sl 3]], .id)),
  (116, ([.cells [.sl 3, .sl 3]], .id)),
  (117, ([.cells [.sl 3, .sl 3]], .id)),
  (118, ([.cells [.id, .id, .id, .id, .sl 2, .id, .sl 2, .id, .sl 3, .sl 2, .id, .sl 2, .sl 3, .id, .id, .id, .id, .sl 3, .id, .sl 3, .sl 3]], .id)),
  (119, ([.sl 2], .id)),
  (120, ([.sl 1], .id)),
  (121, ([.sl 3], .id)),
  (123, ([.sl 2], .id)),
  (126, ([.sl 3], .id)),
  (127, ([], .sl 2)),
  (128, ([], .sl 3)),
  (130, ([.sl 2], .id)),
  (131, ([], .tup [.sl 3, .id, .id])),
  (132, ([.sl 1], .id)),
  (135, ([.sl 1], .id)),
  (137, ([.sl 3], .id)),
  (138, ([.cells [.sl 2], .cells [.sl 2]], .id)),
  (139, ([.sl 1], .id)),
  (140, ([.sl 2], .sl 2)),
  (141, ([.sl 2], .id)),
  (142, ([.cells [.sl 3, .sl 3]], .id)),
  (144, ([.sl 3], .id)),
  (147, ([.sl 1], .id)),
  (148, ([.sl 1], .id)),
  (150, ([.sl 3], .id)),
  (151, ([.sl 1], .id))]
def old : List Nat := [26,119,108,134,135,136,110,153,152,149,137,72,23,104,144,145,121,74,24,120,73,92,88,146,127,90,43,103,128,94,75,33,35,55,122,77,124,81,86,96,97,98,50,51,99,53,56,58,100,129,130,101,62,131]
noncomputable def W (k : Nat) : Fns := evW pr old ct k
theorem W_tree {k f : Nat} {vs vs' : List AV} {bs : Boxes} {r : Res} (hr : runOf (W k) f k vs' bs = r) (h : (bif old.contains f then false else (find f fnl).isSome, canVs (ctA ct f) vs) = (true, vs')) : W (k + 1) f vs bs = cRes (ctR ct f) r := by
  simp only [Prod.mk.injEq] at h
  obtain ⟨h1, rfl⟩ := h
  subst hr
  cases ho : old.contains f with
  | true => rw [ho] at h1; simp at h1
  | false =>
    rw [ho] at h1
    simp only [cond_false] at h1
    obtain ⟨fx, hfx⟩ := Option.isSome_iff_exists.1 h1
    have e : pr.f f = some (.inl fx) := by
      show mkF fnl [] f = _
      simp [mkF, find, hfx]
    unfold W
    simp only [evW, ho, cond_false, e]
    unfold runOf fxOf
    rw [hfx]
    rfl
theorem W_tree0 {k f : Nat} {vs vs' : List AV} {bs : Boxes} {r : Res} (hr : runOf (W k) f k vs' bs = r) (h : (bif old.contains f then false else (find f fnl).isSome, canVs (ctA ct f) vs, ctR ct f) = (true, vs', Cn.id)) : W (k + 1) f vs bs = r := by
  simp only [Prod.mk.injEq] at h
  rw [W_tree hr (by rw [h.1, h.2.1]), h.2.2, cRes_id]
theorem W_old {k f : Nat} {vs vs' : List AV} {bs : Boxes} {r : Res} (hr : evF pr k f vs' bs = r) (hk : 1 ≤ k) (h : (old.contains f, canVs (ctA ct f) vs) = (true, vs')) : W k f vs bs = cRes (ctR ct f) r := by
  obtain ⟨k, rfl⟩ : ∃ m, k = m + 1 := ⟨k - 1, by omega⟩
  simp only [Prod.mk.injEq] at h
  obtain ⟨h1, rfl⟩ := h
  subst hr
  unfold W
  simp only [evW, h1, cond_true]
theorem W_old0 {k f : Nat} {vs vs' : List AV} {bs : Boxes} {r : Res} (hr : evF pr k f vs' bs = r) (hk : 1 ≤ k) (h : (old.contains f, canVs (ctA ct f) vs, ctR ct f) = (true, vs', Cn.id)) : W k f vs bs = r := by
  simp only [Prod.mk.injEq] at h
  rw [W_old hr hk (by rw [h.1, h.2.1]), h.2.2, cRes_id]
theorem W_arg {k f : Nat} {vs vs' : List AV} {bs : Boxes} {r : Res} (hr : W k f vs' bs = r) (h : canVs (ctA ct f) vs = canVs (ctA ct f) vs') : W k f vs bs = r := by
  rw [← hr]
  cases k with
  | zero => rfl
  | succ k => unfold W; simp only [evW, h]
theorem succ1 {k : Nat} (h : 1 ≤ k) : ∃ m, k = m + 1 := ⟨k - 1, by omega⟩
theorem loopA_ind {α : Type} {body : St → (Ex → St → Res) → Res} {dead : List Nat} {K : Ex → St → Res} (S : α → St) (μ : α → Nat) (Q : α → Res → Prop)
    (h : ∀ (a : α) (m : Nat), (∀ (a' : α) (st : St), μ a' < μ a → st.clean dead = S a' → Q a' (loopA body dead K m st)) → Q a (body (S a) (brk K fun st' => loopA body dead K m st'))) :
    ∀ (m : Nat) (a : α) (st : St), μ a < m → st.clean dead = S a → Q a (loopA body dead K m st)
  | 0, a, st, hm, hs => by omega
  | m + 1, a, st, hm, hs => by
    rw [loopA_succ, hs]
    exact h a m fun a' st' ha hs' => loopA_ind S μ Q h m a' st' (by omega) hs'
end Go.AM.YtnhfjkckgicidaaGreat

set_option linter.unusedVariables false
set_option linter.unusedSimpArgs false
namespace Go.AM.YtnhfjkckgicidaaGreat
open Go.AM Go.Proofs Go
abbrev Shot := Int × Int × List Wr
def shV (s : Shot) : AV := .agg [.int .i64 s.1, .int .i64 s.2.1, .sl 3 false (s.2.2.map wrV)]
structure Nd where (ro : Int) (st va : Bool) (kn : Int) (ln : List (Int × Int)) (sq : Int) (vs : List Vol) (sh : Bool) (kp : List Wr) (al : List (Int × Int)) (aq : Int) (ch : List (Int × Int)) (ss : List Shot) (sn md sy : Int) (fu : Bool) (cp : List Wr) (go : Int) (qs : List Shot) (qo : List Wr) (qf qt fr fn nx : Int)
abbrev lnV (l : List (Int × Int)) : AV := .sl 2 false (l.map brV)
abbrev wsV (l : List Wr) : AV := .sl 3 false (l.map wrV)
abbrev vsV (l : List Vol) : AV := .sl 2 false (l.map (volV false))
abbrev btsV (l : List (Int × Int)) : AV := .sl 2 false (l.map btV)
abbrev shsV (l : List Shot) : AV := .sl 3 false (l.map shV)
abbrev ndL (n : Nd) : List AV := [.int .i64 n.ro, .bool n.st, .bool n.va, .int .i64 n.kn, lnV n.ln, .int .i64 n.sq, vsV n.vs, .bool n.sh, wsV n.kp, lnV n.al, .int .i64 n.aq, btsV n.ch, shsV n.ss, .int .i64 n.sn, .int .i64 n.md, .int .i64 n.sy, .bool n.fu, wsV n.cp, .int .i64 n.go, shsV n.qs, wsV n.qo, .int .i64 n.qf, .int .i64 n.qt, .int .i64 n.fr, .int .i64 n.fn, .int .i64 n.nx]
abbrev isV (l : List Int) : AV := .sl 1 false (l.map (AV.int .i64))
def idxS (xs : List AV) (len i : Int) : St := ⟨19, [(0, AV.sl 1 false xs), (1, AV.fn 133), (4, AV.int .i64 0), (7, AV.int .i64 len), (8, AV.int .i64 i)], [], [], [], [], []⟩
theorem idx_tree (F : Fns) (N : Nat) (l : List Int) : runOf F 147 N [isV l, .fn 133] [] =
  loopA (bodyOf F 147 0 N) (deadOf 147 0) (contOf F 147 0 N 0) N { nt := 19, t := [(0, isV l), (1, AV.fn 133), (4, AV.int .i64 0), (7, AV.int .i64 ((List.length (List.map (AV.int .i64) l) : Nat) : Int)), (8, AV.int .i64 0)], b := [], r := [], g := [], rd := [], wr := [] } := by kernel_rfl
theorem idx_body (F : Fns) (N : Nat) (l : List Int) (len i : Int) (KN : St → Res) : bodyOf F 147 0 N (idxS (l.map (AV.int .i64)) len i) (brk (contOf F 147 0 N 0) KN) =
  bif decide (i < len) then bif decide (0 ≤ i) then onOpt (List.map (AV.int .i64) l)[Int.toNat i]? fun x => asInt .i64 x fun n => onRes (F 133 [AV.int .i64 n] []) fun v bs => asBool v fun b => asNil bs (bif b then some (AV.int .i64 i, []) else KN { nt := 19, t := [(0, isV l), (1, AV.fn 133), (4, AV.int .i64 0), (5, AV.int .i64 i), (7, AV.int .i64 len), (8, AV.int .i64 (IntKind.wrap .i64 (i + 1))), (9, AV.bool (decide (i < len))), (16, AV.bool b)], b := [], r := [], g := [], rd := [], wr := [] }) else none else some (AV.int .i64 (-1), []) := by kernel_rfl
theorem nums1_tree (F : Fns) (N : Nat) (z : Int) : runOf F 133 N [.int .i64 z] [] =
  bif decide (z < 0) then some (AV.bool true, []) else some (AV.bool (decide (z > 1099511627776)), []) := by kernel_rfl
theorem cont_tree (F : Fns) (N : Nat) (l : List Int) : runOf F 132 N [isV l, .fn 133] [] =
  onRes (F 147 [isV l, AV.fn 133] []) fun v bs => asInt .i64 v fun n => asNil bs (some (AV.bool (decide (n ≥ 0)), [])) := by kernel_rfl
theorem nums_tree (F : Fns) (N : Nat) (l : List Int) : runOf F 105 N [isV l] [] =
  onRes (F 132 [isV l, AV.fn 133] []) fun v bs => asBool v fun b => asNil bs (some (AV.bool !b, [])) := by kernel_rfl
theorem none_tree (F : Fns) (N : Nat) (l : List (Int × Int)) (z : Int) : runOf F 106 N [.agg [lnV l, .int .i64 z]] [] =
  bif ((List.length (List.map brV l) : Nat) : Int) == 0 then some (AV.bool (z == 0), []) else some (AV.bool false, []) := by kernel_rfl
theorem place_tree (F : Fns) (N : Nat) (n : Nd) : runOf F 107 N [.agg (ndL n)] [] =
  some (AV.agg [lnV (Nd.ln n), AV.int .i64 (Nd.sq n)], []) := by kernel_rfl
theorem last_tree (F : Fns) (N : Nat) (l : List (Int × Int)) : runOf F 109 N [lnV l] [] =
  onRes (F 119 [lnV l] []) fun v bs => asBool v fun b => asNil bs (bif !b then some (AV.int .i64 0, []) else bif decide (0 ≤ IntKind.wrap .i64 (((List.length (List.map brV l) : Nat) : Int) - 1)) then onOpt (List.map brV l)[Int.toNat (IntKind.wrap .i64 (((List.length (List.map brV l) : Nat) : Int) - 1))]? fun x => asAgg x fun cs => asCons cs fun v r => asInt .i64 v fun n => asCons r fun v r => asInt .i64 v fun n_1 => asNil r (some (AV.int .i64 n, [])) else none) := by kernel_rfl
theorem stands_tree (F : Fns) (N : Nat) (n : Nd) : runOf F 68 N [.agg (ndL n)] [] =
  bif Nd.ro n != 1 then bif Nd.ro n != 2 then some (AV.bool false, []) else bif decide (Nd.md n < 0) then some (AV.bool false, []) else bif decide (Nd.md n > 4) then some (AV.bool false, []) else onRes (F 105 [AV.sl 1 true [AV.int .i64 (Nd.kn n), AV.int .i64 (Nd.sy n), AV.int .i64 (Nd.sn n), AV.int .i64 (Nd.fr n), AV.int .i64 (Nd.fn n), AV.int .i64 (Nd.nx n)]] []) fun v bs => asBool v fun b => asNil bs (bif !b then some (AV.bool false, []) else onRes (F 107 [AV.agg (ndL n)] []) fun v bs => asAgg v fun cs => asCons cs fun v r => asSl v fun m fl xs => asCons r fun v r => asInt .i64 v fun n_1 => asNil r (asNil bs (onRes (F 106 [AV.agg [AV.sl m fl xs, AV.int .i64 n_1]] []) fun v bs => asBool v fun b => asNil bs (bif b then bif Nd.ro n == 2 then some (AV.bool !Nd.va n, []) else some (AV.bool false, []) else onRes (F 107 [AV.agg (ndL n)] []) fun v bs => asAgg v fun cs => asCons cs fun v r => asSl v fun m fl xs => asCons r fun v r => asInt .i64 v fun n_2 => asNil r (asNil bs (onRes (F 108 [AV.agg [AV.sl m fl xs, AV.int .i64 n_2]] []) fun v bs => asBool v fun b => asNil bs (bif !b then some (AV.bool false, []) else onRes (F 109 [lnV (Nd.ln n)] []) fun v bs => asInt .i64 v fun n_3 => asNil bs (bif decide (n_3 > Nd.kn n) then some (AV.bool false, []) else bif Nd.ro n == 2 then some (AV.bool true, []) else bif Nd.va n then bif !Nd.st n then onRes (F 109 [lnV (Nd.ln n)] []) fun v bs => asInt .i64 v fun n_4 => asNil bs (some (AV.bool (Nd.kn n == n_4), [])) else some (AV.bool false, []) else some (AV.bool false, []))))))))) else bif decide (Nd.md n < 0) then some (AV.bool false, []) else bif decide (Nd.md n > 4) then some (AV.bool false, []) else onRes (F 105 [AV.sl 1 true [AV.int .i64 (Nd.kn n), AV.int .i64 (Nd.sy n), AV.int .i64 (Nd.sn n), AV.int .i64 (Nd.fr n), AV.int .i64 (Nd.fn n), AV.int .i64 (Nd.nx n)]] []) fun v bs => asBool v fun b => asNil bs (bif !b then some (AV.bool false, []) else onRes (F 107 [AV.agg (ndL n)] []) fun v bs => asAgg v fun cs => asCons cs fun v r => asSl v fun m fl xs => asCons r fun v r => asInt .i64 v fun n_1 => asNil r (asNil bs (onRes (F 106 [AV.agg [AV.sl m fl xs, AV.int .i64 n_1]] []) fun v bs => asBool v fun b => asNil bs (bif b then bif Nd.ro n == 2 then some (AV.bool !Nd.va n, []) else some (AV.bool false, []) else onRes (F 107 [AV.agg (ndL n)] []) fun v bs => asAgg v fun cs => asCons cs fun v r => asSl v fun m fl xs => asCons r fun v r => asInt .i64 v fun n_2 => asNil r (asNil bs (onRes (F 108 [AV.agg [AV.sl m fl xs, AV.int .i64 n_2]] []) fun v bs => asBool v fun b => asNil bs (bif !b then some (AV.bool false, []) else onRes (F 109 [lnV (Nd.ln n)] []) fun v bs => asInt .i64 v fun n_3 => asNil bs (bif decide (n_3 > Nd.kn n) then some (AV.bool false, []) else bif Nd.ro n == 2 then some (AV.bool true, []) else bif Nd.va n then bif !Nd.st n then onRes (F 109 [lnV (Nd.ln n)] []) fun v bs => asInt .i64 v fun n_4 => asNil bs (some (AV.bool (Nd.kn n == n_4), [])) else some (AV.bool false, []) else some (AV.bool false, []))))))))) := by kernel_rfl
theorem x133 (k : Nat) (hk : 1 ≤ k) (z : Int) : W k 133 [.int .i64 z] [] = some (.bool (!fitsI z), []) := by
  obtain ⟨k, rfl⟩ := succ1 hk
  refine (W_tree0 (nums1_tree (W k) k z) (by kernel_rfl)).trans ?_
  grind [fitsI]
theorem x147 (k : Nat) (l : List Int) (hk : l.length + 2 ≤ k) (hl : l.length ≤ 100000) : ∃ z, W k 147 [isV l, .fn 133] [] = some (.int .i64 z, []) ∧ decide (z ≥ 0) = !(l.all fitsI) := by
  obtain ⟨k, rfl⟩ := succ1 (show 1 ≤ k by omega)
  rw [W_tree0 (idx_tree (W k) k l) (by kernel_rfl), List.length_map]
  refine loopA_ind (fun i : Nat => idxS (l.map (AV.int .i64)) l.length i) (fun i => l.length - i) (fun i r => ∃ z, r = some (.int .i64 z, []) ∧ decide (z ≥ 0) = !((l.drop i).all fitsI)) (fun i m ih => ?_) k 0 _ (by omega) (by kernel_rfl)
  rw [idx_body]
  by_cases hi : i < l.length
  · rw [decide_eq_true (show (i : Int) < l.length by omega), decide_eq_true (show (0 : Int) ≤ i by omega), Int.toNat_natCast, List.getElem?_map, List.getElem?_eq_getElem hi, List.drop_eq_getElem_cons hi, List.all_cons, wrap_small (n := (i : Int) + 1) (by omega) (by omega)]
    simp only [cond_true, Option.map_some, onOpt, asInt, if_true, x133 k (by omega), onRes, asBool, asNil]
    cases fitsI l[i] with
    | false => exact ⟨i, rfl, by simp⟩
    | true => exact ih (i + 1) _ (by omega) (by kernel_rfl)
  · rw [decide_eq_false (by omega), List.drop_eq_nil_of_le (by omega)]
    exact ⟨-1, rfl, rfl⟩
theorem x105 (k : Nat) (l : List Int) (hk : l.length + 5 ≤ k) (hl : l.length ≤ 100000) : W k 105 [isV l] [] = some (.bool (l.all fitsI), []) := by
  obtain ⟨k, rfl⟩ := succ1 (show 1 ≤ k by omega)
  obtain ⟨k, rfl⟩ := succ1 (show 1 ≤ k by omega)
  rw [W_tree0 (nums_tree (W (k + 1)) (k + 1) l) (by kernel_rfl), W_tree0 (cont_tree (W k) k l) (by kernel_rfl)]
  obtain ⟨z, h1, h2⟩ := x147 k l (by omega) hl
  rw [show W k 147 [AV.sl 1 false (List.map (AV.int .i64) l), AV.fn 133] [] = _ from h1]
  simp only [onRes, asInt, if_true, asNil, asBool, h2, Bool.not_not]
theorem x106 (k : Nat) (hk : 1 ≤ k) (l : List (Int × Int)) (z : Int) : W k 106 [.agg [lnV l, .int .i64 z]] [] = some (.bool (noneOk l z), []) := by
  obtain ⟨k, rfl⟩ := succ1 hk
  rw [W_tree0 (none_tree (W k) k l z) (by kernel_rfl), List.length_map, noneOk]
  by_cases h : l.length = 0
  · simp [h]; rfl
  · rw [beq_eq_false_iff_ne.2 (show ((l.length : Nat) : Int) ≠ 0 by omega), decide_eq_false h]; rfl
theorem x107 (k : Nat) (hk : 1 ≤ k) (n : Nd) : W k 107 [.agg (ndL n)] [] = some (.agg [lnV n.ln, .int .i64 n.sq], []) := by
  obtain ⟨k, rfl⟩ := succ1 hk
  exact (W_tree (place_tree (W k) k n) (by kernel_rfl)).trans (by kernel_rfl)
theorem x119 (k : Nat) (hk : 100 ≤ k) (l : List (Int × Int)) : W k 119 [lnV l] [] = some (.bool (lineOk l), []) := W_old0 (e44 k (by omega) false l) (by omega) (by kernel_rfl)
def lastE (l : List (Int × Int)) : Int := if lineOk l then (l.getD (l.length - 1) (0, 0)).1 else 0
theorem line_len {l : List (Int × Int)} (h : lineOk l = true) : 0 < l.length ∧ l.length ≤ 64 := by
  cases l with
  | nil => simp [lineOk] at h
  | cons b r => rw [lineOk, Bool.and_eq_true, decide_eq_true_eq] at h; exact ⟨by simp, h.1⟩
theorem last_br {l : List (Int × Int)} (h : 0 < l.length) (h2 : l.length ≤ 100000) : 0 ≤ IntKind.wrap .i64 (((l.length : Nat) : Int) - 1) ∧ (l.map brV)[Int.toNat (IntKind.wrap .i64 (((l.length : Nat) : Int) - 1))]? = some (brV (l.getD (l.length - 1) (0, 0))) := by
  rw [wrap_small (by omega) (by omega)]
  refine ⟨by omega, ?_⟩
  rw [show Int.toNat (((l.length : Nat) : Int) - 1) = l.length - 1 by omega, List.getElem?_map, List.getElem?_eq_getElem (by omega), List.getD_eq_getElem?_getD, List.getElem?_eq_getElem (by omega)]
  rfl
theorem x109 (k : Nat) (hk : 101 ≤ k) (l : List (Int × Int)) : W k 109 [lnV l] [] = some (.int .i64 (lastE l), []) := by
  obtain ⟨k, rfl⟩ := succ1 (show 1 ≤ k by omega)
  rw [W_tree0 (last_tree (W k) k l) (by kernel_rfl), show W k 119 [AV.sl 2 false (List.map brV l)] [] = _ from x119 k (by omega) l, lastE, List.length_map]
  simp only [onRes, asBool, asNil]
  cases h : lineOk l with
  | false => rfl
  | true =>
    obtain ⟨h1, h2⟩ := line_len h
    obtain ⟨h3, h4⟩ := last_br h1 (by omega)
    rw [decide_eq_true h3, h4]
    rfl
def standsOk (n : Nd) : Bool := decide ((n.ro = 1 ∨ n.ro = 2) ∧ 0 ≤ n.md ∧ n.md ≤ 4) && [n.kn, n.sy, n.sn, n.fr, n.fn, n.nx].all fitsI && (if noneOk n.ln n.sq then decide (n.ro = 2) && !n.va else placedOk n.ln n.sq && decide (lastE n.ln ≤ n.kn) && (decide (n.ro = 2) || n.va && !n.st && decide (n.kn = lastE n.ln)))
theorem x108 (k : Nat) (hk : 120 ≤ k) (l : List (Int × Int)) (z : Int) : W k 108 [.agg [lnV l, .int .i64 z]] [] = some (.bool (placedOk l z), []) := W_old0 (e94 k (by omega) (.inl ⟨false, rfl⟩) z) (by omega) (by kernel_rfl)
theorem x68 (k : Nat) (hk : 150 ≤ k) (n : Nd) : W k 68 [.agg (ndL n)] [] = some (.bool (standsOk n), []) := by
  obtain ⟨k, rfl⟩ := succ1 (show 1 ≤ k by omega)
  rw [W_tree0 (stands_tree (W k) k n) (by kernel_rfl)]
  have h1 := W_arg (x105 k [n.kn, n.sy, n.sn, n.fr, n.fn, n.nx] (by simp; omega) (by simp)) (vs := [AV.sl 1 true [AV.int .i64 (Nd.kn n), AV.int .i64 (Nd.sy n), AV.int .i64 (Nd.sn n), AV.int .i64 (Nd.fr n), AV.int .i64 (Nd.fn n), AV.int .i64 (Nd.nx n)]]) (by kernel_rfl)
  rw [h1, x107 k (by omega) n]
  simp only [onRes, asBool, asNil, asAgg, asCons, lnV, asSl, asInt, if_true]
  have h2 := x106 k (by omega) n.ln n.sq
  have h3 := x108 k (by omega) n.ln n.sq
  have h4 := x109 k (by omega) n.ln
  simp only [lnV] at h2 h3 h4
  rw [h2, h3, h4]
  simp only [onRes, asBool, asNil, asInt, if_true]
  unfold standsOk
  grind
end Go.AM.YtnhfjkckgicidaaGreat

set_option linter.unusedVariables false
set_option linter.unusedSimpArgs false
namespace Go.AM.YtnhfjkckgicidaaGreat
open Go.AM Go.Proofs Go
theorem getM {α : Type} (f : α → AV) (l : List α) (i : Nat) (h : i < l.length) : (l.map f)[Int.toNat (i : Int)]? = some (f l[i]) := by
  rw [Int.toNat_natCast, List.getElem?_map, List.getElem?_eq_getElem h]; rfl
theorem len0 (n : Nat) : (((n : Nat) : Int) == 0) = decide (n = 0) := by
  by_cases h : n = 0
  · simp [h]
  · rw [decide_eq_false h]; exact beq_eq_false_iff_ne.2 (by omega)
theorem wi {n : Nat} (h : n < 1000000000) : IntKind.wrap .i64 ((n : Int) + 1) = ((n + 1 : Nat) : Int) := by rw [wrap_small (by omega) (by omega)]; omega
def smaS (vs : List Vol) (ws : List Wr) (i : Int) (b : Bool) : St := ⟨27, [(0, vsV vs), (1, wsV ws), (4, .bool false), (5, .int .i64 i), (13, .bool b)], [], [], [], [], []⟩
theorem b19 (F : Fns) (N : Nat) (vs : List Vol) (ws : List Wr) (i : Int) (b : Bool) (KN : St → Res) : bodyOf F 19 0 N (smaS vs ws i b) (brk (contOf F 19 0 N 0) KN) =
  bif decide (i < ((List.length (List.map (volV false) vs) : Nat) : Int)) then bif decide (0 ≤ i) then onOpt (List.map (volV false) vs)[Int.toNat i]? fun x => asAgg x fun cs => asCons cs fun v r => asInt .i64 v fun n => asCons r fun v r => asSl v fun m fl xs => asNil r (bif decide (((List.length xs : Nat) : Int) > 100) then some (AV.bool false, []) else KN { nt := 27, t := [(0, vsV vs), (1, wsV ws), (4, AV.bool false), (5, AV.int .i64 (IntKind.wrap .i64 (i + 1))), (13, AV.bool b), (17, AV.bool (decide (i < ((List.length (List.map (volV false) vs) : Nat) : Int)))), (26, AV.bool (decide (((List.length xs : Nat) : Int) > 100)))], b := [], r := [], g := [], rd := [], wr := [] }) else none else some (AV.bool true, []) := by kernel_rfl
theorem t19 (F : Fns) (N : Nat) (vs : List Vol) (ws : List Wr) : runOf F 19 N [vsV vs, wsV ws] [] =
  bif decide (((List.length (List.map (volV false) vs) : Nat) : Int) > 10) then some (AV.bool false, []) else bif decide (((List.length (List.map wrV ws) : Nat) : Int) > 200) then some (AV.bool false, []) else loopA (bodyOf F 19 0 N) (deadOf 19 0) (contOf F 19 0 N 0) N { nt := 27, t := [(0, vsV vs), (1, wsV ws), (4, AV.bool false), (5, AV.int .i64 0), (13, AV.bool (decide (((List.length (List.map wrV ws) : Nat) : Int) > 200)))], b := [], r := [], g := [], rd := [], wr := [] } := by kernel_rfl
def smallV (vs : List Vol) : Bool := decide (vs.length ≤ 10) && vs.all fun v => decide (v.2.length ≤ 100)
theorem x19 (k : Nat) (hk : 20 ≤ k) (vs : List Vol) (ws : List Wr) : W k 19 [vsV vs, wsV ws] [] = some (.bool (smallV vs && decide (ws.length ≤ 200)), []) := by
  obtain ⟨k, rfl⟩ := succ1 (show 1 ≤ k by omega)
  rw [W_tree0 (t19 (W k) k vs ws) (by kernel_rfl), List.length_map, List.length_map, smallV]
  by_cases h1 : vs.length ≤ 10
  · by_cases h2 : ws.length ≤ 200
    · rw [decide_eq_false (by omega), decide_eq_false (by omega), decide_eq_true h1, decide_eq_true h2]
      simp only [cond_false, Bool.true_and, Bool.and_true]
      refine loopA_ind (fun i : Nat => smaS vs ws i false) (fun i => vs.length - i) (fun i r => r = some (.bool ((vs.drop i).all fun v => decide (v.2.length ≤ 100)), [])) (fun i m ih => ?_) k 0 _ (by omega) (by kernel_rfl)
      rw [b19, List.length_map]
      by_cases hi : i < vs.length
      · rw [decide_eq_true (by omega), decide_eq_true (by omega), getM _ _ _ hi, List.drop_eq_getElem_cons hi, List.all_cons, wi (by omega)]
        simp only [volV, List.length_map, onRes, onOpt, asRp, fixO, AV.fixed, asAgg, asTup, asCons, asInt, asBool, asStr, asSl, asNil, if_true, cond_true, cond_false]
        by_cases h3 : vs[i].2.length ≤ 100
        · rw [decide_eq_false (by omega), decide_eq_true h3, Bool.true_and]
          exact ih (i + 1) _ (by omega) (by kernel_rfl)
        · rw [decide_eq_true (by omega), decide_eq_false h3]; rfl
      · rw [decide_eq_false (by omega), List.drop_eq_nil_of_le (by omega)]; rfl
    · rw [decide_eq_false (by omega), decide_eq_true (by omega), decide_eq_false h2]; simp
  · rw [decide_eq_true (by omega), decide_eq_false h1]; rfl
def smqS (qs : List Shot) (qo : List Wr) (x y i : Int) (b : Bool) : St := ⟨29, [(0, .agg [shsV qs, wsV qo, .int .i64 x, .int .i64 y]), (1, .ptr 1 0 0), (2, .bool false), (3, .int .i64 i), (13, .bool b)], [(1, [shsV qs, wsV qo, .int .i64 x, .int .i64 y])], [], [], [], []⟩
theorem b20 (F : Fns) (N : Nat) (qs : List Shot) (qo : List Wr) (x y i : Int) (b : Bool) (KN : St → Res) : bodyOf F 20 0 N (smqS qs qo x y i b) (brk (contOf F 20 0 N 0) KN) =
  bif decide (i < ((List.length (List.map shV qs) : Nat) : Int)) then bif decide (0 ≤ i) then onOpt (List.map shV qs)[Int.toNat i]? fun x_1 => asAgg x_1 fun cs => asCons cs fun v r => asInt .i64 v fun n => asCons r fun v r => asInt .i64 v fun n => asCons r fun v r => asSl v fun m fl xs => asNil r (bif decide (((List.length xs : Nat) : Int) > 60) then some (AV.bool false, []) else KN { nt := 29, t := [(0, AV.agg [shsV qs, wsV qo, AV.int .i64 x, AV.int .i64 y]), (1, AV.ptr 1 0 0), (2, AV.bool false), (3, AV.int .i64 (IntKind.wrap .i64 (i + 1))), (13, AV.bool b), (18, AV.bool (decide (i < ((List.length (List.map shV qs) : Nat) : Int)))), (28, AV.bool (decide (((List.length xs : Nat) : Int) > 60)))], b := [(1, [shsV qs, wsV qo, AV.int .i64 x, AV.int .i64 y])], r := [], g := [], rd := [], wr := [] }) else none else some (AV.bool true, []) := by kernel_rfl
theorem t20 (F : Fns) (N : Nat) (qs : List Shot) (qo : List Wr) (x y : Int) : runOf F 20 N [.agg [shsV qs, wsV qo, .int .i64 x, .int .i64 y]] [] =
  bif decide (((List.length (List.map shV qs) : Nat) : Int) > 20) then some (AV.bool false, []) else bif decide (((List.length (List.map wrV qo) : Nat) : Int) > 60) then some (AV.bool false, []) else loopA (bodyOf F 20 0 N) (deadOf 20 0) (contOf F 20 0 N 0) N { nt := 29, t := [(0, AV.agg [shsV qs, wsV qo, AV.int .i64 x, AV.int .i64 y]), (1, AV.ptr 1 0 0), (2, AV.bool false), (3, AV.int .i64 0), (13, AV.bool (decide (((List.length (List.map wrV qo) : Nat) : Int) > 60)))], b := [(1, [shsV qs, wsV qo, AV.int .i64 x, AV.int .i64 y])], r := [], g := [], rd := [], wr := [] } := by kernel_rfl
def smallQ (qs : List Shot) (qo : List Wr) : Bool := decide (qs.length ≤ 20) && decide (qo.length ≤ 60) && qs.all fun s => decide (s.2.2.length ≤ 60)
theorem x20 (k : Nat) (hk : 30 ≤ k) (qs : List Shot) (qo : List Wr) (x y : Int) : W k 20 [.agg [shsV qs, wsV qo, .int .i64 x, .int .i64 y]] [] = some (.bool (smallQ qs qo), []) := by
  obtain ⟨k, rfl⟩ := succ1 (show 1 ≤ k by omega)
  rw [W_tree0 (t20 (W k) k qs qo x y) (by kernel_rfl), List.length_map, List.length_map, smallQ]
  by_cases h1 : qs.length ≤ 20
  · by_cases h2 : qo.length ≤ 60
    · rw [decide_eq_false (by omega), decide_eq_false (by omega), decide_eq_true h1, decide_eq_true h2]
      simp only [cond_false, Bool.true_and, Bool.and_true]
      refine loopA_ind (fun i : Nat => smqS qs qo x y i false) (fun i => qs.length - i) (fun i r => r = some (.bool ((qs.drop i).all fun s => decide (s.2.2.length ≤ 60)), [])) (fun i m ih => ?_) k 0 _ (by omega) (by kernel_rfl)
      rw [b20, List.length_map]
      by_cases hi : i < qs.length
      · rw [decide_eq_true (by omega), decide_eq_true (by omega), getM _ _ _ hi, List.drop_eq_getElem_cons hi, List.all_cons, wi (by omega)]
        simp only [shV, List.length_map, onRes, onOpt, asRp, fixO, AV.fixed, asAgg, asTup, asCons, asInt, asBool, asStr, asSl, asNil, if_true, cond_true, cond_false]
        by_cases h3 : qs[i].2.2.length ≤ 60
        · rw [decide_eq_false (by omega), decide_eq_true h3, Bool.true_and]
          exact ih (i + 1) _ (by omega) (by kernel_rfl)
        · rw [decide_eq_true (by omega), decide_eq_false h3]; rfl
      · rw [decide_eq_false (by omega), List.drop_eq_nil_of_le (by omega)]; rfl
    · rw [decide_eq_false (by omega), decide_eq_true (by omega), decide_eq_false h2]; simp
  · rw [decide_eq_true (by omega), decide_eq_false h1]; rfl
def smnS (n : Nd) (i : Int) (b : Bool) : St := ⟨62, [(0, .agg (ndL n)), (1, .ptr 1 0 0), (2, .bool false), (3, .int .i64 i), (46, .bool b)], [(1, ndL n)], [], [], [], []⟩
theorem b7 (F : Fns) (N : Nat) (n : Nd) (i : Int) (b : Bool) (KN : St → Res) : bodyOf F 7 0 N (smnS n i b) (brk (contOf F 7 0 N 0) KN) =
  bif decide (i < ((List.length (List.map shV (Nd.ss n)) : Nat) : Int)) then bif decide (0 ≤ i) then onOpt (List.map shV (Nd.ss n))[Int.toNat i]? fun x => asAgg x fun cs => asCons cs fun v r => asInt .i64 v fun n_1 => asCons r fun v r => asInt .i64 v fun n_2 => asCons r fun v r => asSl v fun m fl xs => asNil r (bif decide (((List.length xs : Nat) : Int) > 200) then some (AV.bool false, []) else KN { nt := 62, t := [(0, AV.agg (ndL n)), (1, AV.ptr 1 0 0), (2, AV.bool false), (3, AV.int .i64 (IntKind.wrap .i64 (i + 1))), (46, AV.bool b), (51, AV.bool (decide (i < ((List.length (List.map shV (Nd.ss n)) : Nat) : Int)))), (61, AV.bool (decide (((List.length xs : Nat) : Int) > 200)))], b := [(1, (ndL n))], r := [], g := [], rd := [], wr := [] }) else none else some (AV.bool true, []) := by kernel_rfl
theorem t7 (F : Fns) (N : Nat) (n : Nd) : runOf F 7 N [.agg (ndL n)] [] =
  bif decide (((List.length (List.map brV (Nd.ln n)) : Nat) : Int) > 100) then some (AV.bool false, []) else bif decide (((List.length (List.map brV (Nd.al n)) : Nat) : Int) > 100) then some (AV.bool false, []) else bif decide (((List.length (List.map btV (Nd.ch n)) : Nat) : Int) > 300) then some (AV.bool false, []) else bif decide (((List.length (List.map shV (Nd.ss n)) : Nat) : Int) > 5) then some (AV.bool false, []) else bif decide (((List.length (List.map wrV (Nd.cp n)) : Nat) : Int) > 200) then some (AV.bool false, []) else onRes (F 19 [vsV (Nd.vs n), wsV (Nd.kp n)] []) fun v bs => asBool v fun b => asNil bs (bif !b then some (AV.bool false, []) else onRes (F 20 [AV.agg [shsV (Nd.qs n), wsV (Nd.qo n), AV.int .i64 (Nd.qf n), AV.int .i64 (Nd.qt n)]] []) fun v bs => asBool v fun b => asNil bs (bif !b then some (AV.bool false, []) else loopA (bodyOf F 7 0 N) (deadOf 7 0) (contOf F 7 0 N 0) N { nt := 62, t := [(0, AV.agg (ndL n)), (1, AV.ptr 1 0 0), (2, AV.bool false), (3, AV.int .i64 0), (46, AV.bool !b)], b := [(1, (ndL n))], r := [], g := [], rd := [], wr := [] })) := by kernel_rfl
def smallN (n : Nd) : Bool := decide (n.ln.length ≤ 100 ∧ n.al.length ≤ 100 ∧ n.ch.length ≤ 300 ∧ n.ss.length ≤ 5 ∧ n.cp.length ≤ 200) && (smallV n.vs && decide (n.kp.length ≤ 200)) && smallQ n.qs n.qo && n.ss.all fun s => decide (s.2.2.length ≤ 200)
theorem x7 (k : Nat) (hk : 40 ≤ k) (n : Nd) : W k 7 [.agg (ndL n)] [] = some (.bool (smallN n), []) := by
  obtain ⟨k, rfl⟩ := succ1 (show 1 ≤ k by omega)
  rw [W_tree0 (t7 (W k) k n) (by kernel_rfl), x19 k (by omega), x20 k (by omega)]
  simp only [List.length_map, onRes, asBool, asNil]
  unfold smallN
  by_cases h1 : n.ln.length ≤ 100
  · by_cases h2 : n.al.length ≤ 100
    · by_cases h3 : n.ch.length ≤ 300
      · by_cases h4 : n.ss.length ≤ 5
        · by_cases h5 : n.cp.length ≤ 200
          · rw [decide_eq_false (by omega), decide_eq_false (by omega), decide_eq_false (by omega), decide_eq_false (by omega), decide_eq_false (by omega), decide_eq_true (show n.ln.length ≤ 100 ∧ n.al.length ≤ 100 ∧ n.ch.length ≤ 300 ∧ n.ss.length ≤ 5 ∧ n.cp.length ≤ 200 from ⟨h1, h2, h3, h4, h5⟩)]
            cases (smallV n.vs && decide (n.kp.length ≤ 200)) with
            | false => rfl
            | true =>
              cases smallQ n.qs n.qo with
              | false => rfl
              | true =>
                simp only [cond_false, Bool.not_true, Bool.true_and]
                refine loopA_ind (fun i : Nat => smnS n i false) (fun i => n.ss.length - i) (fun i r => r = some (.bool ((n.ss.drop i).all fun s => decide (s.2.2.length ≤ 200)), [])) (fun i m ih => ?_) k 0 _ (by omega) (by kernel_rfl)
                rw [b7, List.length_map]
                by_cases hi : i < n.ss.length
                · rw [decide_eq_true (by omega), decide_eq_true (by omega), getM _ _ _ hi, List.drop_eq_getElem_cons hi, List.all_cons, wi (by omega)]
                  simp only [shV, List.length_map, onRes, onOpt, asRp, fixO, AV.fixed, asAgg, asTup, asCons, asInt, asBool, asStr, asSl, asNil, if_true, cond_true, cond_false]
                  by_cases h3 : n.ss[i].2.2.length ≤ 200
                  · rw [decide_eq_false (by omega), decide_eq_true h3, Bool.true_and]
                    exact ih (i + 1) _ (by omega) (by kernel_rfl)
                  · rw [decide_eq_true (by omega), decide_eq_false h3]; rfl
                · rw [decide_eq_false (by omega), List.drop_eq_nil_of_le (by omega)]; rfl
          · rw [decide_eq_false (by omega), decide_eq_false (by omega), decide_eq_false (by omega), decide_eq_false (by omega), decide_eq_true (by omega), decide_eq_false (show ¬ (n.ln.length ≤ 100 ∧ n.al.length ≤ 100 ∧ n.ch.length ≤ 300 ∧ n.ss.length ≤ 5 ∧ n.cp.length ≤ 200) by omega)]; rfl
        · rw [decide_eq_false (by omega), decide_eq_false (by omega), decide_eq_false (by omega), decide_eq_true (by omega), decide_eq_false (show ¬ (n.ln.length ≤ 100 ∧ n.al.length ≤ 100 ∧ n.ch.length ≤ 300 ∧ n.ss.length ≤ 5 ∧ n.cp.length ≤ 200) by omega)]; rfl
      · rw [decide_eq_false (by omega), decide_eq_false (by omega), decide_eq_true (by omega), decide_eq_false (show ¬ (n.ln.length ≤ 100 ∧ n.al.length ≤ 100 ∧ n.ch.length ≤ 300 ∧ n.ss.length ≤ 5 ∧ n.cp.length ≤ 200) by omega)]; rfl
    · rw [decide_eq_false (by omega), decide_eq_true (by omega), decide_eq_false (show ¬ (n.ln.length ≤ 100 ∧ n.al.length ≤ 100 ∧ n.ch.length ≤ 300 ∧ n.ss.length ≤ 5 ∧ n.cp.length ≤ 200) by omega)]; rfl
  · rw [decide_eq_true (by omega), decide_eq_false (show ¬ (n.ln.length ≤ 100 ∧ n.al.length ≤ 100 ∧ n.ch.length ≤ 300 ∧ n.ss.length ≤ 5 ∧ n.cp.length ≤ 200) by omega)]; rfl
def getB : List Vol → Int → Int → List UInt8 × Int
  | [], _, _ => ([], 8)
  | v :: r, a, b => if v.1 = a then (if 0 ≤ b ∧ b < v.2.length then (v.2.getD b.toNat [], 0) else ([], 10)) else getB r a b
def atS (vs : List Vol) (x y len i : Int) : St := ⟨41, [(0, vsV vs), (1, .int .i64 x), (2, .int .i64 y), (6, .nilp), (7, .int .i64 0), (10, .int .i64 len), (11, .int .i64 i)], [], [], [], [], []⟩
theorem b141 (F : Fns) (N : Nat) (vs : List Vol) (x y len i : Int) (KN : St → Res) : bodyOf F 141 0 N (atS vs x y len i) (brk (contOf F 141 0 N 0) KN) =
  bif decide (i < len) then bif decide (0 ≤ i) then onOpt (List.map (volV false) vs)[Int.toNat i]? fun x_1 => asAgg x_1 fun cs => asCons cs fun v r => asInt .i64 v fun n => asCons r fun v r => asSl v fun m fl xs => asNil r (bif n != x then KN { nt := 41, t := [(0, vsV vs), (1, AV.int .i64 x), (2, AV.int .i64 y), (6, AV.nilp), (7, AV.int .i64 0), (8, AV.int .i64 i), (10, AV.int .i64 len), (11, AV.int .i64 (IntKind.wrap .i64 (i + 1))), (12, AV.bool (decide (i < len))), (20, AV.bool (n != x))], b := [], r := [], g := [], rd := [], wr := [] } else bif decide (y < 0) then some (AV.tup [AV.nilp, AV.int .i64 10], []) else bif decide (0 ≤ i) then onOpt (List.map (volV false) vs)[Int.toNat i]? fun x => asAgg x fun cs => asCons cs fun v r => asInt .i64 v fun n => asCons r fun v r => asSl v fun m fl xs => asNil r (bif decide (y ≥ ((List.length xs : Nat) : Int)) then some (AV.tup [AV.nilp, AV.int .i64 10], []) else bif decide (0 ≤ i) then onOpt (List.map (volV false) vs)[Int.toNat i]? fun x => asAgg x fun cs => asCons cs fun v r => asInt .i64 v fun n => asCons r fun v r => asSl v fun m fl xs => asNil r (bif decide (m = 1) && decide (0 ≤ y) then onOpt xs[Int.toNat y]? fun x => asStr x fun s => some (AV.tup [AV.rp m (AV.str s) 0, AV.int .i64 0], []) else none) else none) else none) else none else some (AV.tup [AV.nilp, AV.int .i64 8], []) := by kernel_rfl
theorem t141 (F : Fns) (N : Nat) (vs : List Vol) (x y : Int) : runOf F 141 N [vsV vs, .int .i64 x, .int .i64 y] [] =
  loopA (bodyOf F 141 0 N) (deadOf 141 0) (contOf F 141 0 N 0) N { nt := 41, t := [(0, vsV vs), (1, AV.int .i64 x), (2, AV.int .i64 y), (6, AV.nilp), (7, AV.int .i64 0), (10, AV.int .i64 ((List.length (List.map (volV false) vs) : Nat) : Int)), (11, AV.int .i64 0)], b := [], r := [], g := [], rd := [], wr := [] } := by kernel_rfl
def atR (p : List UInt8 × Int) : Res := if p.2 = 0 then some (.tup [.rp 1 (.str p.1) 0, .int .i64 0], []) else some (.tup [.nilp, .int .i64 p.2], [])
theorem x141 (k : Nat) (vs : List Vol) (hv : vs.length ≤ 300) (hk : 310 ≤ k) (x y : Int) : W k 141 [vsV vs, .int .i64 x, .int .i64 y] [] = atR (getB vs x y) := by
  obtain ⟨k, rfl⟩ := succ1 (show 1 ≤ k by omega)
  rw [W_tree0 (t141 (W k) k vs x y) (by kernel_rfl), List.length_map]
  refine loopA_ind (fun i : Nat => atS vs x y vs.length i) (fun i => vs.length - i) (fun i r => r = atR (getB (vs.drop i) x y)) (fun i m ih => ?_) k 0 _ (by omega) (by kernel_rfl)
  rw [b141]
  by_cases hi : i < vs.length
  · rw [decide_eq_true (by omega), decide_eq_true (by omega), getM _ _ _ hi, List.drop_eq_getElem_cons hi, wi (by omega), getB]
    simp only [volV, List.length_map, onRes, onOpt, asRp, fixO, AV.fixed, asAgg, asTup, asCons, asInt, asBool, asStr, asSl, asNil, if_true, cond_true, cond_false]
    by_cases h1 : vs[i].1 = x
    · rw [if_pos h1, show (vs[i].1 != x) = false by simp [h1]]
      by_cases h2 : 0 ≤ y ∧ y < vs[i].2.length
      · rw [if_pos h2, List.getElem?_map, List.getElem?_eq_getElem (show y.toNat < vs[i].2.length by omega), List.getD_eq_getElem?_getD, List.getElem?_eq_getElem (show y.toNat < vs[i].2.length by omega)]
        simp (disch := omega) only [decide_eq_true, decide_eq_false, onRes, onOpt, asRp, fixO, AV.fixed, asAgg, asTup, asCons, asInt, asBool, asStr, asSl, asNil, if_true, cond_true, cond_false]
        rfl
      · rw [if_neg h2]
        by_cases h3 : y < 0
        · rw [decide_eq_true h3]; rfl
        · rw [decide_eq_false h3, decide_eq_true (by omega)]; rfl
    · rw [if_neg h1, show (vs[i].1 != x) = true by simp [h1]]
      exact ih (i + 1) _ (by omega) (by kernel_rfl)
  · rw [decide_eq_false (by omega), List.drop_eq_nil_of_le (by omega)]; rfl
def rgetvS (vs : List Vol) (x y i : Int) : St := ⟨42, [(0, vsV vs), (1, .int .i64 x), (2, .int .i64 y), (6, .str []), (7, .int .i64 0), (8, .int .i64 i)], [], [], [], [], []⟩
theorem b80 (F : Fns) (N : Nat) (vs : List Vol) (x y i : Int) (KN : St → Res) : bodyOf F 80 0 N (rgetvS vs x y i) (brk (contOf F 80 0 N 0) KN) =
  bif decide (i < ((List.length (List.map (volV false) vs) : Nat) : Int)) then bif decide (0 ≤ i) then onOpt (List.map (volV false) vs)[Int.toNat i]? fun x_1 => asAgg x_1 fun cs => asCons cs fun v r => asInt .i64 v fun n => asCons r fun v r => asSl v fun m fl xs => asNil r (bif n == x then bif decide (y < 0) then some (AV.tup [AV.str [], AV.int .i64 10], []) else bif decide (0 ≤ i) then onOpt (List.map (volV false) vs)[Int.toNat i]? fun x => asAgg x fun cs => asCons cs fun v r => asInt .i64 v fun n => asCons r fun v r => asSl v fun m fl xs => asNil r (bif decide (y ≥ ((List.length xs : Nat) : Int)) then some (AV.tup [AV.str [], AV.int .i64 10], []) else bif decide (0 ≤ i) then onOpt (List.map (volV false) vs)[Int.toNat i]? fun x => asAgg x fun cs => asCons cs fun v r => asInt .i64 v fun n => asCons r fun v r => asSl v fun m fl xs => asNil r (bif decide (m = 1) && decide (0 ≤ y) then onOpt xs[Int.toNat y]? fun x => asStr x fun s => some (AV.tup [AV.str s, AV.int .i64 0], []) else none) else none) else none else KN { nt := 42, t := [(0, vsV vs), (1, AV.int .i64 x), (2, AV.int .i64 y), (6, AV.str []), (7, AV.int .i64 0), (8, AV.int .i64 (IntKind.wrap .i64 (i + 1))), (12, AV.bool (decide (i < ((List.length (List.map (volV false) vs) : Nat) : Int)))), (21, AV.bool (n == x))], b := [], r := [], g := [], rd := [], wr := [] }) else none else some (AV.tup [AV.str [], AV.int .i64 8], []) := by kernel_rfl
theorem t80 (F : Fns) (N : Nat) (vs : List Vol) (x y : Int) : runOf F 80 N [vsV vs, .int .i64 x, .int .i64 y] [] =
  loopA (bodyOf F 80 0 N) (deadOf 80 0) (contOf F 80 0 N 0) N { nt := 42, t := [(0, vsV vs), (1, AV.int .i64 x), (2, AV.int .i64 y), (6, AV.str []), (7, AV.int .i64 0), (8, AV.int .i64 0)], b := [], r := [], g := [], rd := [], wr := [] } := by kernel_rfl
theorem x80 (k : Nat) (vs : List Vol) (hv : vs.length ≤ 300) (hk : 310 ≤ k) (x y : Int) : W k 80 [vsV vs, .int .i64 x, .int .i64 y] [] = some (.tup [.str (getB vs x y).1, .int .i64 (getB vs x y).2], []) := by
  obtain ⟨k, rfl⟩ := succ1 (show 1 ≤ k by omega)
  rw [W_tree0 (t80 (W k) k vs x y) (by kernel_rfl)]
  refine loopA_ind (fun i : Nat => rgetvS vs x y i) (fun i => vs.length - i) (fun i r => r = some (.tup [.str (getB (vs.drop i) x y).1, .int .i64 (getB (vs.drop i) x y).2], [])) (fun i m ih => ?_) k 0 _ (by omega) (by kernel_rfl)
  rw [b80, List.length_map]
  by_cases hi : i < vs.length
  · rw [decide_eq_true (by omega), decide_eq_true (by omega), getM _ _ _ hi, List.drop_eq_getElem_cons hi, wi (by omega), getB]
    simp only [volV, List.length_map, onRes, onOpt, asRp, fixO, AV.fixed, asAgg, asTup, asCons, asInt, asBool, asStr, asSl, asNil, if_true, cond_true, cond_false]
    by_cases h1 : vs[i].1 = x
    · rw [if_pos h1, show (vs[i].1 == x) = true by simp [h1]]
      by_cases h2 : 0 ≤ y ∧ y < vs[i].2.length
      · rw [if_pos h2, List.getElem?_map, List.getElem?_eq_getElem (show y.toNat < vs[i].2.length by omega), List.getD_eq_getElem?_getD, List.getElem?_eq_getElem (show y.toNat < vs[i].2.length by omega)]
        simp (disch := omega) only [decide_eq_true, decide_eq_false, onRes, onOpt, asRp, fixO, AV.fixed, asAgg, asTup, asCons, asInt, asBool, asStr, asSl, asNil, if_true, cond_true, cond_false]
        rfl
      · rw [if_neg h2]
        by_cases h3 : y < 0
        · rw [decide_eq_true h3]; rfl
        · rw [decide_eq_false h3, decide_eq_true (by omega)]; rfl
    · rw [if_neg h1, show (vs[i].1 == x) = false by simp [h1]]
      exact ih (i + 1) _ (by omega) (by kernel_rfl)
  · rw [decide_eq_false (by omega), List.drop_eq_nil_of_le (by omega)]; rfl
theorem vOk_len {vs : List Vol} (h : vOk vs = true) : vs.length ≤ 4 := by
  unfold vOk at h
  rw [Bool.and_eq_true, decide_eq_true_eq] at h
  exact h.1
def chkW (vs : List Vol) : List Wr → Int
  | [] => 0
  | w :: r => if (getB vs w.1 w.2.1).2 ≠ 0 then (getB vs w.1 w.2.1).2 else if w.2.2.length > 8 then 5 else chkW vs r
def chkE (vs : List Vol) (ws : List Wr) : Int := if vOk vs then chkW vs ws else 1
def chkS (vs : List Vol) (ws : List Wr) (b : Bool) (len i : Int) : St := ⟨35, [(0, vsV vs), (1, wsV ws), (4, .int .i64 0), (11, .bool b), (12, wsV ws), (13, .int .i64 len), (14, .int .i64 i)], [], [], [], [], []⟩
theorem b114 (F : Fns) (N : Nat) (vs : List Vol) (ws : List Wr) (b : Bool) (len i : Int) (KN : St → Res) : bodyOf F 114 0 N (chkS vs ws b len i) (brk (contOf F 114 0 N 0) KN) =
  bif decide (i < len) then bif decide (0 ≤ i) then onOpt (List.map wrV ws)[Int.toNat i]? fun x => asAgg x fun cs => asCons cs fun v r => asInt .i64 v fun n => asCons r fun v r => asInt .i64 v fun n_1 => asCons r fun v r => asStr v fun s => asNil r (onRes (F 141 [vsV vs, AV.int .i64 n, AV.int .i64 n_1] []) fun v bs => asTup v fun cs => asCons cs fun v r => asCons r fun v r => asInt .i64 v fun n_2 => asNil r (asNil bs (bif n_2 != 0 then some (AV.int .i64 n_2, []) else bif decide (((List.length s : Nat) : Int) > 8) then some (AV.int .i64 5, []) else KN { nt := 35, t := [(0, vsV vs), (1, wsV ws), (4, AV.int .i64 0), (6, AV.ptr 6 0 0), (8, AV.int .i64 n_2), (11, AV.bool b), (12, wsV ws), (13, AV.int .i64 len), (14, AV.int .i64 (IntKind.wrap .i64 (i + 1))), (15, AV.bool (decide (i < len))), (28, AV.bool (n_2 != 0)), (33, AV.bool (decide (((List.length s : Nat) : Int) > 8)))], b := [(6, [AV.int .i64 n, AV.int .i64 n_1, AV.str s])], r := [], g := [], rd := [], wr := [] }))) else none else some (AV.int .i64 0, []) := by kernel_rfl
theorem t114 (F : Fns) (N : Nat) (vs : List Vol) (ws : List Wr) : runOf F 114 N [vsV vs, wsV ws] [] =
  onRes (F 110 [vsV vs] []) fun v bs => asBool v fun b => asNil bs (bif !b then some (AV.int .i64 1, []) else loopA (bodyOf F 114 0 N) (deadOf 114 0) (contOf F 114 0 N 0) N { nt := 35, t := [(0, vsV vs), (1, wsV ws), (4, AV.int .i64 0), (11, AV.bool !b), (12, wsV ws), (13, AV.int .i64 ((List.length (List.map wrV ws) : Nat) : Int)), (14, AV.int .i64 0)], b := [], r := [], g := [], rd := [], wr := [] }) := by kernel_rfl
theorem x110 (k : Nat) (vs : List Vol) (hk : vs.length + 50 ≤ k) (hl : vs.length ≤ 70000) : W k 110 [vsV vs] [] = some (.bool (vOk vs), []) := W_old0 (e93 k false false vs (by omega) (by omega)) (by omega) (by kernel_rfl)
theorem x35 (k : Nat) (vs : List Vol) (hk : 70 ≤ k) : W k 35 [vsV vs] [] = some (.bool (vOk vs), []) := W_old0 (e90 k false false vs (by omega)) (by omega) (by kernel_rfl)
theorem atR_err (p : List UInt8 × Int) (K : Int → Res) : (onRes (atR p) fun v bs => asTup v fun cs => asCons cs fun v r => asCons r fun v r => asInt .i64 v fun n => asNil r (asNil bs (K n))) = K p.2 := by
  unfold atR
  by_cases h : p.2 = 0
  · rw [if_pos h, h]; rfl
  · rw [if_neg h]; rfl
theorem x114 (k : Nat) (vs : List Vol) (ws : List Wr) (hv : vs.length ≤ 70000) (hl : ws.length ≤ 70000) (hk : 70100 ≤ k) : W k 114 [vsV vs, wsV ws] [] = some (.int .i64 (chkE vs ws), []) := by
  obtain ⟨k, rfl⟩ := succ1 (show 1 ≤ k by omega)
  rw [W_tree0 (t114 (W k) k vs ws) (by kernel_rfl), x110 k vs (by omega) hv, chkE, List.length_map]
  simp only [onRes, asBool, asNil]
  cases hok : vOk vs with
  | false => rfl
  | true =>
    simp only [Bool.not_true, cond_false, if_true]
    have hv4 := vOk_len hok
    refine loopA_ind (fun i : Nat => chkS vs ws false ws.length i) (fun i => ws.length - i) (fun i r => r = some (.int .i64 (chkW vs (ws.drop i)), [])) (fun i m ih => ?_) k 0 _ (by omega) (by kernel_rfl)
    rw [b114]
    by_cases hi : i < ws.length
    · rw [decide_eq_true (by omega), decide_eq_true (by omega), getM _ _ _ hi, List.drop_eq_getElem_cons hi, wi (by omega), chkW]
      simp only [onOpt, wrV, asAgg, asCons, asInt, asStr, if_true, asNil, cond_true]
      rw [x141 k vs (by omega) (by omega)]
      refine (atR_err _ _).trans ?_
      by_cases h1 : (getB vs ws[i].1 ws[i].2.1).2 = 0
      · rw [if_neg (by simp [h1]), h1]
        by_cases h2 : ws[i].2.2.length > 8
        · rw [if_pos h2, decide_eq_true (by omega)]; rfl
        · rw [if_neg h2, decide_eq_false (by omega)]
          exact ih (i + 1) _ (by omega) (by kernel_rfl)
      · rw [if_pos h1, show ((getB vs ws[i].1 ws[i].2.1).2 != 0) = true by simp [h1]]; rfl
    · rw [decide_eq_false (by omega), List.drop_eq_nil_of_le (by omega)]; rfl
def rchkS (vs : List Vol) (ws : List Wr) (b : Bool) (i : Int) : St := ⟨42, [(0, vsV vs), (1, wsV ws), (4, .int .i64 0), (5, .int .i64 i), (10, .bool b)], [], [], [], [], []⟩
theorem b76 (F : Fns) (N : Nat) (vs : List Vol) (ws : List Wr) (b : Bool) (i : Int) (KN : St → Res) : bodyOf F 76 0 N (rchkS vs ws b i) (brk (contOf F 76 0 N 0) KN) =
  bif decide (i < ((List.length (List.map wrV ws) : Nat) : Int)) then bif decide (0 ≤ i) then onOpt (List.map wrV ws)[Int.toNat i]? fun x => asAgg x fun cs => asCons cs fun v r => asInt .i64 v fun n => asCons r fun v r => asInt .i64 v fun n_1 => asCons r fun v r => asStr v fun s => asNil r (bif decide (0 ≤ i) then onOpt (List.map wrV ws)[Int.toNat i]? fun x => asAgg x fun cs => asCons cs fun v r => asInt .i64 v fun n_2 => asCons r fun v r => asInt .i64 v fun n_3 => asCons r fun v r => asStr v fun s => asNil r (onRes (F 80 [vsV vs, AV.int .i64 n, AV.int .i64 n_3] []) fun v bs => asTup v fun cs => asCons cs fun v r => asStr v fun s => asCons r fun v r => asInt .i64 v fun n => asNil r (asNil bs (bif n != 0 then some (AV.int .i64 n, []) else bif decide (0 ≤ i) then onOpt (List.map wrV ws)[Int.toNat i]? fun x => asAgg x fun cs => asCons cs fun v r => asInt .i64 v fun n_4 => asCons r fun v r => asInt .i64 v fun n_5 => asCons r fun v r => asStr v fun s => asNil r (bif decide (((List.length s : Nat) : Int) > 8) then some (AV.int .i64 5, []) else KN { nt := 42, t := [(0, vsV vs), (1, wsV ws), (4, AV.int .i64 0), (5, AV.int .i64 (IntKind.wrap .i64 (i + 1))), (7, AV.int .i64 n), (10, AV.bool b), (14, AV.bool (decide (i < ((List.length (List.map wrV ws) : Nat) : Int)))), (33, AV.bool (n != 0)), (41, AV.bool (decide (((List.length s : Nat) : Int) > 8)))], b := [], r := [], g := [], rd := [], wr := [] }) else none))) else none) else none else some (AV.int .i64 0, []) := by kernel_rfl
theorem t76 (F : Fns) (N : Nat) (vs : List Vol) (ws : List Wr) : runOf F 76 N [vsV vs, wsV ws] [] =
  onRes (F 35 [vsV vs] []) fun v bs => asBool v fun b => asNil bs (bif !b then some (AV.int .i64 1, []) else loopA (bodyOf F 76 0 N) (deadOf 76 0) (contOf F 76 0 N 0) N { nt := 42, t := [(0, vsV vs), (1, wsV ws), (4, AV.int .i64 0), (5, AV.int .i64 0), (10, AV.bool !b)], b := [], r := [], g := [], rd := [], wr := [] }) := by kernel_rfl
theorem x76 (k : Nat) (vs : List Vol) (ws : List Wr) (hl : ws.length ≤ 70000) (hk : 70100 ≤ k) : W k 76 [vsV vs, wsV ws] [] = some (.int .i64 (chkE vs ws), []) := by
  obtain ⟨k, rfl⟩ := succ1 (show 1 ≤ k by omega)
  rw [W_tree0 (t76 (W k) k vs ws) (by kernel_rfl), x35 k vs (by omega), chkE]
  simp only [onRes, asBool, asNil]
  cases hok : vOk vs with
  | false => rfl
  | true =>
    simp only [Bool.not_true, cond_false, if_true]
    have hv4 := vOk_len hok
    refine loopA_ind (fun i : Nat => rchkS vs ws false i) (fun i => ws.length - i) (fun i r => r = some (.int .i64 (chkW vs (ws.drop i)), [])) (fun i m ih => ?_) k 0 _ (by omega) (by kernel_rfl)
    rw [b76, List.length_map]
    by_cases hi : i < ws.length
    · rw [decide_eq_true (by omega), decide_eq_true (by omega), getM _ _ _ hi, List.drop_eq_getElem_cons hi, wi (by omega), chkW]
      simp only [wrV, x80 k vs (show vs.length ≤ 300 by omega) (show 310 ≤ k by omega), onRes, onOpt, asRp, fixO, AV.fixed, asAgg, asTup, asCons, asInt, asBool, asStr, asSl, asNil, if_true, cond_true, cond_false]
      by_cases h1 : (getB vs ws[i].1 ws[i].2.1).2 = 0
      · rw [if_neg (by simp [h1]), h1]
        by_cases h2 : ws[i].2.2.length > 8
        · rw [if_pos h2, decide_eq_true (by omega)]; rfl
        · rw [if_neg h2, decide_eq_false (by omega)]
          exact ih (i + 1) _ (by omega) (by kernel_rfl)
      · rw [if_pos h1, show ((getB vs ws[i].1 ws[i].2.1).2 != 0) = true by simp [h1]]; rfl
    · rw [decide_eq_false (by omega), List.drop_eq_nil_of_le (by omega)]; rfl
end Go.AM.YtnhfjkckgicidaaGreat

set_option linter.unusedVariables false
set_option linter.unusedSimpArgs false
namespace Go.AM.YtnhfjkckgicidaaGreat
open Go.AM Go.Proofs Go
theorem t30 (F : Fns) (N : Nat) (z : Int) : runOf F 30 N [.int .i64 z] [] =
  bif decide (z ≥ 0) then some (AV.bool (decide (z ≤ 1099511627776)), []) else some (AV.bool false, []) := by kernel_rfl
theorem t31 (F : Fns) (N : Nat) (l : List (Int × Int)) (z : Int) : runOf F 31 N [.agg [lnV l, .int .i64 z]] [] =
  bif ((List.length (List.map brV l) : Nat) : Int) == 0 then some (AV.bool (z == 0), []) else some (AV.bool false, []) := by kernel_rfl
theorem t32 (F : Fns) (N : Nat) (n : Nd) : runOf F 32 N [.agg (ndL n)] [] =
  some (AV.agg [lnV (Nd.ln n), AV.int .i64 (Nd.sq n)], []) := by kernel_rfl
theorem t34 (F : Fns) (N : Nat) (l : List (Int × Int)) : runOf F 34 N [lnV l] [] =
  bif decide (0 ≤ IntKind.wrap .i64 (((List.length (List.map brV l) : Nat) : Int) - 1)) then onOpt (List.map brV l)[Int.toNat (IntKind.wrap .i64 (((List.length (List.map brV l) : Nat) : Int) - 1))]? fun x => asAgg x fun cs => asCons cs fun v r => asInt .i64 v fun n => asCons r fun v r => asInt .i64 v fun n_1 => asNil r (some (AV.int .i64 n, [])) else none := by kernel_rfl
theorem x30 (k : Nat) (hk : 1 ≤ k) (z : Int) : W k 30 [.int .i64 z] [] = some (.bool (fitsI z), []) := by
  obtain ⟨k, rfl⟩ := succ1 (show 1 ≤ k by omega)
  rw [W_tree0 (t30 (W k) k z) (by kernel_rfl)]
  grind [fitsI]
theorem x31 (k : Nat) (hk : 1 ≤ k) (l : List (Int × Int)) (z : Int) : W k 31 [.agg [lnV l, .int .i64 z]] [] = some (.bool (noneOk l z), []) := by
  obtain ⟨k, rfl⟩ := succ1 (show 1 ≤ k by omega)
  rw [W_tree0 (t31 (W k) k l z) (by kernel_rfl), List.length_map, noneOk, len0]
  cases decide (l.length = 0) <;> rfl
theorem x32 (k : Nat) (hk : 1 ≤ k) (n : Nd) : W k 32 [.agg (ndL n)] [] = some (.agg [lnV n.ln, .int .i64 n.sq], []) := by
  obtain ⟨k, rfl⟩ := succ1 (show 1 ≤ k by omega)
  exact (W_tree (t32 (W k) k n) (by kernel_rfl)).trans (by kernel_rfl)
theorem x34 (k : Nat) (hk : 1 ≤ k) (l : List (Int × Int)) (h1 : 0 < l.length) (h2 : l.length ≤ 100000) : W k 34 [lnV l] [] = some (.int .i64 (l.getD (l.length - 1) (0, 0)).1, []) := by
  obtain ⟨k, rfl⟩ := succ1 (show 1 ≤ k by omega)
  obtain ⟨h3, h4⟩ := last_br h1 h2
  rw [W_tree0 (t34 (W k) k l) (by kernel_rfl), List.length_map, decide_eq_true h3, h4]
  rfl
def prt : List (Int × Int) → List (Int × Int) → Int
  | [], _ => -1
  | x :: _, [] => x.2
  | x :: r, y :: s => if x = y then prt r s else x.2
def minp (p n : Int) : Int := if 0 ≤ p ∧ p < n then p else n
def comE (a : List (Int × Int)) (x : Int) (b : List (Int × Int)) (y : Int) : Int := if placedOk a x && placedOk b y && decide (a.head? = b.head?) then minp (prt b a) (minp (prt a b) (if y < x then y else x)) else -1
theorem br_beq (p q : Int × Int) : (p.1 == q.1 && (p.2 == q.2 && true)) = decide (p = q) := by
  by_cases h : p = q
  · subst h; simp
  · rw [decide_eq_false h]
    by_cases h1 : p.1 = q.1
    · have h2 : p.2 ≠ q.2 := fun e => h (Prod.ext h1 e)
      rw [beq_eq_false_iff_ne.2 h2]; simp
    · rw [beq_eq_false_iff_ne.2 h1]; rfl
theorem chain_at : ∀ (l : List (Int × Int)) (e a : Int), 0 ≤ a → chain e a l = true → ∀ b ∈ l, 0 ≤ b.2
  | [], _, _, _, _ => by simp
  | c :: r, e, a, ha, h => by
    rw [chain, Bool.and_eq_true, decide_eq_true_eq] at h
    intro b hb
    rcases List.mem_cons.1 hb with rfl | hb
    · omega
    · exact chain_at r c.1 c.2 (by omega) h.2 b hb
theorem line_at {l : List (Int × Int)} (h : lineOk l = true) : ∀ b ∈ l, 0 ≤ b.2 := by
  cases l with
  | nil => simp
  | cons c r =>
    rw [lineOk, Bool.and_eq_true, Bool.and_eq_true] at h
    exact chain_at _ 0 0 (by omega) h.2.2
theorem placed_line {l : List (Int × Int)} {z : Int} (h : placedOk l z = true) : lineOk l = true := by
  rw [placedOk, Bool.and_eq_true] at h; exact h.1
def rprsS (a b : List (Int × Int)) (i : Int) : St := ⟨32, [(0, lnV a), (1, lnV b), (4, .int .i64 0), (5, .int .i64 i)], [], [], [], [], []⟩
theorem b78 (F : Fns) (N : Nat) (a b : List (Int × Int)) (i : Int) (KN : St → Res) : bodyOf F 78 0 N (rprsS a b i) (brk (contOf F 78 0 N 0) KN) =
  bif decide (i < ((List.length (List.map brV a) : Nat) : Int)) then bif decide (i ≥ ((List.length (List.map brV b) : Nat) : Int)) then bif decide (0 ≤ i) then onOpt (List.map brV a)[Int.toNat i]? fun x => asAgg x fun cs => asCons cs fun v r => asInt .i64 v fun n => asCons r fun v r => asInt .i64 v fun n => asNil r (some (AV.int .i64 n, [])) else none else bif decide (0 ≤ i) then onOpt (List.map brV a)[Int.toNat i]? fun x => asAgg x fun cs => asCons cs fun v r => asInt .i64 v fun n => asCons r fun v r => asInt .i64 v fun n_1 => asNil r (bif decide (0 ≤ i) then onOpt (List.map brV b)[Int.toNat i]? fun x => asAgg x fun cs => asCons cs fun v r => asInt .i64 v fun n_2 => asCons r fun v r => asInt .i64 v fun n_3 => asNil r (bif !(n == n_2 && (n_1 == n_3 && true)) then bif decide (0 ≤ i) then onOpt (List.map brV a)[Int.toNat i]? fun x => asAgg x fun cs => asCons cs fun v r => asInt .i64 v fun n => asCons r fun v r => asInt .i64 v fun n => asNil r (some (AV.int .i64 n, [])) else none else KN { nt := 32, t := [(0, lnV a), (1, lnV b), (4, AV.int .i64 0), (5, AV.int .i64 (IntKind.wrap .i64 (i + 1))), (9, AV.bool (decide (i < ((List.length (List.map brV a) : Nat) : Int)))), (26, AV.bool !(n == n_2 && (n_1 == n_3 && true)))], b := [], r := [], g := [], rd := [], wr := [] }) else none) else none else some (AV.int .i64 (-1), []) := by kernel_rfl
theorem t78 (F : Fns) (N : Nat) (a b : List (Int × Int)) : runOf F 78 N [lnV a, lnV b] [] =
  loopA (bodyOf F 78 0 N) (deadOf 78 0) (contOf F 78 0 N 0) N { nt := 32, t := [(0, lnV a), (1, lnV b), (4, AV.int .i64 0), (5, AV.int .i64 0)], b := [], r := [], g := [], rd := [], wr := [] } := by kernel_rfl
theorem x78 (k : Nat) (a b : List (Int × Int)) (ha : a.length ≤ 70000) (hk : 70010 ≤ k) : W k 78 [lnV a, lnV b] [] = some (.int .i64 (prt a b), []) := by
  obtain ⟨k, rfl⟩ := succ1 (show 1 ≤ k by omega)
  rw [W_tree0 (t78 (W k) k a b) (by kernel_rfl)]
  refine loopA_ind (fun i : Nat => rprsS a b i) (fun i => a.length - i) (fun i r => r = some (.int .i64 (prt (a.drop i) (b.drop i)), [])) (fun i m ih => ?_) k 0 _ (by omega) (by kernel_rfl)
  rw [b78, List.length_map, List.length_map]
  by_cases hi : i < a.length
  · rw [getM _ _ _ hi, List.drop_eq_getElem_cons hi, wi (by omega)]
    by_cases hj : i < b.length
    · rw [getM _ _ _ hj, List.drop_eq_getElem_cons hj, prt]
      simp (disch := omega) only [decide_eq_true, decide_eq_false, brV, br_beq, onRes, onOpt, asRp, fixO, AV.fixed, asAgg, asTup, asCons, asInt, asBool, asStr, asSl, asNil, if_true, cond_true, cond_false]
      by_cases h : a[i] = b[i]
      · rw [if_pos h, decide_eq_true h]
        exact ih (i + 1) _ (by omega) (by kernel_rfl)
      · rw [if_neg h, decide_eq_false h]; rfl
    · simp (disch := omega) only [decide_eq_true, decide_eq_false, brV, onRes, onOpt, asRp, fixO, AV.fixed, asAgg, asTup, asCons, asInt, asBool, asStr, asSl, asNil, if_true, cond_true, cond_false]
      rw [List.drop_eq_nil_of_le (show b.length ≤ i by omega), prt]
  · simp (disch := omega) only [decide_eq_true, decide_eq_false, onRes, onOpt, asRp, fixO, AV.fixed, asAgg, asTup, asCons, asInt, asBool, asStr, asSl, asNil, if_true, cond_true, cond_false]
    rw [List.drop_eq_nil_of_le (by omega), prt]
theorem x33 (k : Nat) (hk : 120 ≤ k) (l : List (Int × Int)) (z : Int) : W k 33 [.agg [lnV l, .int .i64 z]] [] = some (.bool (placedOk l z), []) := W_old0 (e57 k (by omega) (.inl ⟨false, rfl⟩) z) (by omega) (by kernel_rfl)
theorem t37 (F : Fns) (N : Nat) (a : List (Int × Int)) (x : Int) (b : List (Int × Int)) (y : Int) : runOf F 37 N [.agg [lnV a, .int .i64 x], .agg [lnV b, .int .i64 y]] [] =
  onRes (F 33 [AV.agg [lnV a, AV.int .i64 x]] []) fun v bs => asBool v fun b_1 => asNil bs (bif !b_1 then some (AV.int .i64 (-1), []) else onRes (F 33 [AV.agg [lnV b, AV.int .i64 y]] []) fun v bs => asBool v fun b_2 => asNil bs (bif !b_2 then some (AV.int .i64 (-1), []) else onOpt (List.map brV a)[Int.toNat 0]? fun x_1 => asAgg x_1 fun cs => asCons cs fun v r => asInt .i64 v fun n => asCons r fun v r => asInt .i64 v fun n_1 => asNil r (onOpt (List.map brV b)[Int.toNat 0]? fun x_2 => asAgg x_2 fun cs => asCons cs fun v r => asInt .i64 v fun n_2 => asCons r fun v r => asInt .i64 v fun n_3 => asNil r (bif !(n == n_2 && (n_1 == n_3 && true)) then some (AV.int .i64 (-1), []) else bif decide (y < x) then onRes (F 78 [lnV a, lnV b] []) fun v bs => asInt .i64 v fun n => asNil bs (onRes (F 78 [lnV b, lnV a] []) fun v bs => asInt .i64 v fun n_4 => asNil bs (bif decide (n ≥ 0) then bif decide (n < y) then bif decide (n_4 ≥ 0) then bif decide (n_4 < n) then some (AV.int .i64 n_4, []) else some (AV.int .i64 n, []) else some (AV.int .i64 n, []) else bif decide (n_4 ≥ 0) then bif decide (n_4 < y) then some (AV.int .i64 n_4, []) else some (AV.int .i64 y, []) else some (AV.int .i64 y, []) else bif decide (n_4 ≥ 0) then bif decide (n_4 < y) then some (AV.int .i64 n_4, []) else some (AV.int .i64 y, []) else some (AV.int .i64 y, []))) else onRes (F 78 [lnV a, lnV b] []) fun v bs => asInt .i64 v fun n => asNil bs (onRes (F 78 [lnV b, lnV a] []) fun v bs => asInt .i64 v fun n_4 => asNil bs (bif decide (n ≥ 0) then bif decide (n < x) then bif decide (n_4 ≥ 0) then bif decide (n_4 < n) then some (AV.int .i64 n_4, []) else some (AV.int .i64 n, []) else some (AV.int .i64 n, []) else bif decide (n_4 ≥ 0) then bif decide (n_4 < x) then some (AV.int .i64 n_4, []) else some (AV.int .i64 x, []) else some (AV.int .i64 x, []) else bif decide (n_4 ≥ 0) then bif decide (n_4 < x) then some (AV.int .i64 n_4, []) else some (AV.int .i64 x, []) else some (AV.int .i64 x, []))))))) := by kernel_rfl
theorem x37 (k : Nat) (hk : 70020 ≤ k) (a : List (Int × Int)) (x : Int) (b : List (Int × Int)) (y : Int) : W k 37 [.agg [lnV a, .int .i64 x], .agg [lnV b, .int .i64 y]] [] = some (.int .i64 (comE a x b y), []) := by
  obtain ⟨k, rfl⟩ := succ1 (show 1 ≤ k by omega)
  rw [W_tree0 (t37 (W k) k a x b y) (by kernel_rfl), x33 k (by omega), x33 k (by omega), comE]
  simp only [onRes, asBool, asNil]
  cases h1 : placedOk a x with
  | false => rfl
  | true =>
    cases h2 : placedOk b y with
    | false => rfl
    | true =>
      obtain ⟨l1, l2⟩ := line_len (placed_line h1)
      obtain ⟨l3, l4⟩ := line_len (placed_line h2)
      rw [x78 k a b (by omega) (by omega), x78 k b a (by omega) (by omega)]
      generalize prt a b = p
      generalize prt b a = q
      obtain ⟨u, a, rfl⟩ := List.exists_cons_of_length_pos l1
      obtain ⟨v, b, rfl⟩ := List.exists_cons_of_length_pos l3
      rw [show (List.map brV (u :: a))[Int.toNat 0]? = some (brV u) from rfl, show (List.map brV (v :: b))[Int.toNat 0]? = some (brV v) from rfl]
      simp only [brV, onRes, onOpt, asAgg, asCons, asInt, if_true, asNil, br_beq, Bool.true_and, Bool.not_true, cond_false, List.head?_cons, Option.some.injEq]
      by_cases h : u = v
      · rw [decide_eq_true h]
        simp only [Bool.not_true, cond_false, if_true]
        unfold minp
        grind
      · rw [decide_eq_false h]; rfl
def comS (a : List (Int × Int)) (x : Int) (b : List (Int × Int)) (y i : Int) (c : Bool) : St := ⟨83, [(0, .agg [lnV a, .int .i64 x]), (1, .agg [lnV b, .int .i64 y]), (2, .ptr 2 0 0), (3, .ptr 3 0 0), (4, .int .i64 0), (5, .int .i64 i), (27, .bool c)], [(2, [lnV a, .int .i64 x]), (3, [lnV b, .int .i64 y])], [], [], [], []⟩
def comT (a : List (Int × Int)) (x : Int) (b : List (Int × Int)) (y i z : Int) (c d : Bool) (j : Int) : St := ⟨83, [(0, .agg [lnV a, .int .i64 x]), (1, .agg [lnV b, .int .i64 y]), (2, .ptr 2 0 0), (3, .ptr 3 0 0), (4, .int .i64 0), (5, .int .i64 i), (6, .int .i64 z), (27, .bool c), (52, .bool d), (64, .sl 1 true [lnV a, lnV b]), (65, .int .i64 2), (66, .int .i64 j)], [(2, [lnV a, .int .i64 x]), (3, [lnV b, .int .i64 y])], [], [], [], []⟩
theorem b138 (F : Fns) (N : Nat) (a : List (Int × Int)) (x : Int) (b : List (Int × Int)) (y i : Int) (c : Bool) (KN : St → Res) : bodyOf F 138 0 N (comS a x b y i c) (brk (contOf F 138 0 N 0) KN) =
  bif decide (i < ((List.length (List.map brV a) : Nat) : Int)) then bif decide (i < ((List.length (List.map brV b) : Nat) : Int)) then bif decide (0 ≤ i) then onOpt (List.map brV a)[Int.toNat i]? fun x_1 => asAgg x_1 fun cs => asCons cs fun v r => asInt .i64 v fun n => asCons r fun v r => asInt .i64 v fun n_1 => asNil r (bif decide (0 ≤ i) then onOpt (List.map brV b)[Int.toNat i]? fun x_2 => asAgg x_2 fun cs => asCons cs fun v r => asInt .i64 v fun n_2 => asCons r fun v r => asInt .i64 v fun n_3 => asNil r (bif n == n_2 && (n_1 == n_3 && true) then KN { nt := 83, t := [(0, AV.agg [lnV a, AV.int .i64 x]), (1, AV.agg [lnV b, AV.int .i64 y]), (2, AV.ptr 2 0 0), (3, AV.ptr 3 0 0), (4, AV.int .i64 0), (5, AV.int .i64 (IntKind.wrap .i64 (i + 1))), (27, AV.bool c), (52, AV.bool (n == n_2 && (n_1 == n_3 && true)))], b := [(2, [lnV a, AV.int .i64 x]), (3, [lnV b, AV.int .i64 y])], r := [], g := [], rd := [], wr := [] } else loopA (bodyOf F 138 1 N) (deadOf 138 1) (contOf F 138 1 N 0) N (comT a x b y i (if y < x then y else x) c (n == n_2 && (n_1 == n_3 && true)) 0)) else none) else none else loopA (bodyOf F 138 1 N) (deadOf 138 1) (contOf F 138 1 N 0) N (comT a x b y i (if y < x then y else x) c false 0) else loopA (bodyOf F 138 1 N) (deadOf 138 1) (contOf F 138 1 N 0) N (comT a x b y i (if y < x then y else x) c false 0) := by kernel_rfl
theorem t138 (F : Fns) (N : Nat) (a : List (Int × Int)) (x : Int) (b : List (Int × Int)) (y : Int) : runOf F 138 N [.agg [lnV a, .int .i64 x], .agg [lnV b, .int .i64 y]] [] =
  onRes (F 108 [AV.agg [lnV a, AV.int .i64 x]] []) fun v bs => asBool v fun b_1 => asNil bs (bif !b_1 then some (AV.int .i64 (-1), []) else onRes (F 108 [AV.agg [lnV b, AV.int .i64 y]] []) fun v bs => asBool v fun b_2 => asNil bs (bif !b_2 then some (AV.int .i64 (-1), []) else onOpt (List.map brV a)[Int.toNat 0]? fun x_1 => asAgg x_1 fun cs => asCons cs fun v r => asInt .i64 v fun n => asCons r fun v r => asInt .i64 v fun n_1 => asNil r (onOpt (List.map brV b)[Int.toNat 0]? fun x_2 => asAgg x_2 fun cs => asCons cs fun v r => asInt .i64 v fun n_2 => asCons r fun v r => asInt .i64 v fun n_3 => asNil r (bif !(n == n_2 && (n_1 == n_3 && true)) then some (AV.int .i64 (-1), []) else loopA (bodyOf F 138 0 N) (deadOf 138 0) (contOf F 138 0 N 0) N { nt := 83, t := [(0, AV.agg [lnV a, AV.int .i64 x]), (1, AV.agg [lnV b, AV.int .i64 y]), (2, AV.ptr 2 0 0), (3, AV.ptr 3 0 0), (4, AV.int .i64 0), (5, AV.int .i64 0), (27, AV.bool !(n == n_2 && (n_1 == n_3 && true)))], b := [(2, [lnV a, AV.int .i64 x]), (3, [lnV b, AV.int .i64 y])], r := [], g := [], rd := [], wr := [] })))) := by kernel_rfl
theorem c0 (F : Fns) (N : Nat) (a : List (Int × Int)) (x : Int) (b : List (Int × Int)) (y i z : Int) (c d : Bool) (KN : St → Res) : bodyOf F 138 1 N (comT a x b y i z c d 0) (brk (contOf F 138 1 N 0) KN) =
  bif decide (i < ((List.length (List.map brV a) : Nat) : Int)) then bif decide (0 ≤ i) then onOpt (List.map brV a)[Int.toNat i]? fun x_1 => asAgg x_1 fun cs => asCons cs fun v r => asInt .i64 v fun n => asCons r fun v r => asInt .i64 v fun n => asNil r (KN { nt := 83, t := [(0, AV.agg [lnV a, AV.int .i64 x]), (1, AV.agg [lnV b, AV.int .i64 y]), (2, AV.ptr 2 0 0), (3, AV.ptr 3 0 0), (4, AV.int .i64 0), (5, AV.int .i64 i), (6, AV.int .i64 (if n < z then n else z)), (8, lnV a), (27, AV.bool c), (52, AV.bool d), (64, AV.sl 1 true [lnV a, lnV b]), (65, AV.int .i64 2), (66, AV.int .i64 (IntKind.wrap .i64 (0 + 1))), (67, AV.bool (decide (0 < 2))), (73, AV.bool (decide (i < ((List.length (List.map brV a) : Nat) : Int))))], b := [(2, [lnV a, AV.int .i64 x]), (3, [lnV b, AV.int .i64 y])], r := [], g := [], rd := [], wr := [] }) else none else KN { nt := 83, t := [(0, AV.agg [lnV a, AV.int .i64 x]), (1, AV.agg [lnV b, AV.int .i64 y]), (2, AV.ptr 2 0 0), (3, AV.ptr 3 0 0), (4, AV.int .i64 0), (5, AV.int .i64 i), (6, AV.int .i64 z), (8, lnV a), (27, AV.bool c), (52, AV.bool d), (64, AV.sl 1 true [lnV a, lnV b]), (65, AV.int .i64 2), (66, AV.int .i64 (IntKind.wrap .i64 (0 + 1))), (67, AV.bool (decide (0 < 2))), (73, AV.bool (decide (i < ((List.length (List.map brV a) : Nat) : Int))))], b := [(2, [lnV a, AV.int .i64 x]), (3, [lnV b, AV.int .i64 y])], r := [], g := [], rd := [], wr := [] } := by kernel_rfl
theorem c1 (F : Fns) (N : Nat) (a : List (Int × Int)) (x : Int) (b : List (Int × Int)) (y i z : Int) (c d : Bool) (KN : St → Res) : bodyOf F 138 1 N (comT a x b y i z c d 1) (brk (contOf F 138 1 N 0) KN) =
  bif decide (i < ((List.length (List.map brV b) : Nat) : Int)) then bif decide (0 ≤ i) then onOpt (List.map brV b)[Int.toNat i]? fun x_1 => asAgg x_1 fun cs => asCons cs fun v r => asInt .i64 v fun n => asCons r fun v r => asInt .i64 v fun n => asNil r (KN { nt := 83, t := [(0, AV.agg [lnV a, AV.int .i64 x]), (1, AV.agg [lnV b, AV.int .i64 y]), (2, AV.ptr 2 0 0), (3, AV.ptr 3 0 0), (4, AV.int .i64 0), (5, AV.int .i64 i), (6, AV.int .i64 (if n < z then n else z)), (8, lnV b), (27, AV.bool c), (52, AV.bool d), (64, AV.sl 1 true [lnV a, lnV b]), (65, AV.int .i64 2), (66, AV.int .i64 (IntKind.wrap .i64 (1 + 1))), (67, AV.bool (decide (1 < 2))), (73, AV.bool (decide (i < ((List.length (List.map brV b) : Nat) : Int))))], b := [(2, [lnV a, AV.int .i64 x]), (3, [lnV b, AV.int .i64 y])], r := [], g := [], rd := [], wr := [] }) else none else KN { nt := 83, t := [(0, AV.agg [lnV a, AV.int .i64 x]), (1, AV.agg [lnV b, AV.int .i64 y]), (2, AV.ptr 2 0 0), (3, AV.ptr 3 0 0), (4, AV.int .i64 0), (5, AV.int .i64 i), (6, AV.int .i64 z), (8, lnV b), (27, AV.bool c), (52, AV.bool d), (64, AV.sl 1 true [lnV a, lnV b]), (65, AV.int .i64 2), (66, AV.int .i64 (IntKind.wrap .i64 (1 + 1))), (67, AV.bool (decide (1 < 2))), (73, AV.bool (decide (i < ((List.length (List.map brV b) : Nat) : Int))))], b := [(2, [lnV a, AV.int .i64 x]), (3, [lnV b, AV.int .i64 y])], r := [], g := [], rd := [], wr := [] } := by kernel_rfl
theorem c2 (F : Fns) (N : Nat) (a : List (Int × Int)) (x : Int) (b : List (Int × Int)) (y i z : Int) (c d : Bool) (KN : St → Res) : bodyOf F 138 1 N (comT a x b y i z c d 2) (brk (contOf F 138 1 N 0) KN) =
  some (AV.int .i64 z, []) := by kernel_rfl
def minAt (l : List (Int × Int)) (i : Nat) (z : Int) : Int := match l[i]? with
  | some b => if b.2 < z then b.2 else z
  | none => z
theorem minAt_some {l : List (Int × Int)} {i : Nat} {z : Int} (h : i < l.length) : minAt l i z = if l[i].2 < z then l[i].2 else z := by
  unfold minAt
  rw [List.getElem?_eq_getElem h]
theorem minAt_none {l : List (Int × Int)} {i : Nat} {z : Int} (h : ¬ i < l.length) : minAt l i z = z := by
  unfold minAt
  rw [List.getElem?_eq_none (by omega)]
theorem com_s1 (k m : Nat) (a : List (Int × Int)) (x : Int) (b : List (Int × Int)) (y : Int) (i : Nat) (c d : Bool) (ih : ∀ (z : Int) (st : St), st.clean (deadOf 138 1) = comT a x b y i z c d 2 → loopA (bodyOf (W k) 138 1 k) (deadOf 138 1) (contOf (W k) 138 1 k 0) m st = some (.int .i64 z, [])) (z : Int) (st : St) (h : st.clean (deadOf 138 1) = comT a x b y i z c d 1) : loopA (bodyOf (W k) 138 1 k) (deadOf 138 1) (contOf (W k) 138 1 k 0) (m + 1) st = some (.int .i64 (minAt b i z), []) := by
  rw [loopA_succ, h, c1, List.length_map]
  by_cases hi : i < b.length
  · rw [getM _ _ _ hi, minAt_some hi]
    simp (disch := omega) only [decide_eq_true, decide_eq_false, brV, onRes, onOpt, asRp, fixO, AV.fixed, asAgg, asTup, asCons, asInt, asBool, asStr, asSl, asNil, if_true, cond_true, cond_false]
    exact ih _ _ (by kernel_rfl)
  · rw [minAt_none hi]
    simp (disch := omega) only [decide_eq_true, decide_eq_false, onRes, onOpt, asRp, fixO, AV.fixed, asAgg, asTup, asCons, asInt, asBool, asStr, asSl, asNil, if_true, cond_true, cond_false]
    exact ih _ _ (by kernel_rfl)
theorem com_s0 (k m : Nat) (a : List (Int × Int)) (x : Int) (b : List (Int × Int)) (y : Int) (i : Nat) (c d : Bool) (ih : ∀ (z : Int) (st : St), st.clean (deadOf 138 1) = comT a x b y i z c d 1 → loopA (bodyOf (W k) 138 1 k) (deadOf 138 1) (contOf (W k) 138 1 k 0) m st = some (.int .i64 (minAt b i z), [])) (z : Int) (st : St) (h : st.clean (deadOf 138 1) = comT a x b y i z c d 0) : loopA (bodyOf (W k) 138 1 k) (deadOf 138 1) (contOf (W k) 138 1 k 0) (m + 1) st = some (.int .i64 (minAt b i (minAt a i z)), []) := by
  rw [loopA_succ, h, c0, List.length_map]
  by_cases hi : i < a.length
  · rw [getM _ _ _ hi, minAt_some hi]
    simp (disch := omega) only [decide_eq_true, decide_eq_false, brV, onRes, onOpt, asRp, fixO, AV.fixed, asAgg, asTup, asCons, asInt, asBool, asStr, asSl, asNil, if_true, cond_true, cond_false]
    exact ih _ _ (by kernel_rfl)
  · rw [minAt_none hi]
    simp (disch := omega) only [decide_eq_true, decide_eq_false, onRes, onOpt, asRp, fixO, AV.fixed, asAgg, asTup, asCons, asInt, asBool, asStr, asSl, asNil, if_true, cond_true, cond_false]
    exact ih _ _ (by kernel_rfl)
theorem com_tail (k m : Nat) (hm : 3 ≤ m) (a : List (Int × Int)) (x : Int) (b : List (Int × Int)) (y : Int) (i : Nat) (z : Int) (c d : Bool) (st : St) (hst : st.clean (deadOf 138 1) = comT a x b y i z c d 0) :
    loopA (bodyOf (W k) 138 1 k) (deadOf 138 1) (contOf (W k) 138 1 k 0) m st = some (.int .i64 (minAt b i (minAt a i z)), []) := by
  obtain ⟨m2, rfl⟩ := succ1 (show 1 ≤ m by omega)
  refine com_s0 k m2 a x b y i c d (fun z st h => ?_) z st hst
  obtain ⟨m1, rfl⟩ := succ1 (show 1 ≤ m2 by omega)
  refine com_s1 k m1 a x b y i c d (fun z st h => ?_) z st h
  obtain ⟨m0, rfl⟩ := succ1 (show 1 ≤ m1 by omega)
  rw [loopA_succ, h, c2]
theorem minAt_prt (a b : List (Int × Int)) (i : Nat) (z : Int) (ha : ∀ p ∈ a, 0 ≤ p.2) (h : prt (a.drop i) (b.drop i) = match a[i]? with | some p => p.2 | none => -1) : minp (prt (a.drop i) (b.drop i)) z = minAt a i z := by
  rw [h]
  unfold minAt minp
  cases hi : a[i]? with
  | none => simp
  | some p =>
    have := ha p (List.mem_of_getElem? hi)
    simp only
    grind
theorem prt_stop (a b : List (Int × Int)) (i : Nat) (h : b.length ≤ i ∨ a.length ≤ i ∨ a[i]? ≠ b[i]?) : prt (a.drop i) (b.drop i) = match a[i]? with | some p => p.2 | none => -1 := by
  by_cases hi : i < a.length
  · rw [List.drop_eq_getElem_cons hi, List.getElem?_eq_getElem hi]
    by_cases hj : i < b.length
    · rw [List.drop_eq_getElem_cons hj, prt, if_neg]
      intro e
      rcases h with h | h | h
      · omega
      · omega
      · exact h (by rw [List.getElem?_eq_getElem hi, List.getElem?_eq_getElem hj, e])
    · rw [List.drop_eq_nil_of_le (show b.length ≤ i by omega)]; rfl
  · rw [List.drop_eq_nil_of_le (show a.length ≤ i by omega), List.getElem?_eq_none (by omega)]; rfl
theorem x138 (k : Nat) (hk : 70020 ≤ k) (a : List (Int × Int)) (x : Int) (b : List (Int × Int)) (y : Int) : W k 138 [.agg [lnV a, .int .i64 x], .agg [lnV b, .int .i64 y]] [] = some (.int .i64 (comE a x b y), []) := by
  obtain ⟨k, rfl⟩ := succ1 (show 1 ≤ k by omega)
  rw [W_tree0 (t138 (W k) k a x b y) (by kernel_rfl), x108 k (by omega), x108 k (by omega), comE]
  simp only [onRes, asBool, asNil]
  cases h1 : placedOk a x with
  | false => rfl
  | true =>
    cases h2 : placedOk b y with
    | false => rfl
    | true =>
      have o1 := line_at (placed_line h1)
      have o2 := line_at (placed_line h2)
      obtain ⟨l1, l2⟩ := line_len (placed_line h1)
      obtain ⟨l3, l4⟩ := line_len (placed_line h2)
      have key : ∀ (c : Bool) (st : St), st.clean (deadOf 138 0) = comS a x b y (0 : Nat) c → loopA (bodyOf (W k) 138 0 k) (deadOf 138 0) (contOf (W k) 138 0 k 0) k st = some (.int .i64 (minp (prt b a) (minp (prt a b) (if y < x then y else x))), []) := by
        intro c st hst
        refine loopA_ind (fun i : Nat => comS a x b y i c) (fun i => a.length - i) (fun i r => prt a b = prt (a.drop i) (b.drop i) → prt b a = prt (b.drop i) (a.drop i) → r = some (.int .i64 (minp (prt b a) (minp (prt a b) (if y < x then y else x))), [])) (fun i m ih p1 p2 => ?_) k 0 st (by omega) hst (by simp) (by simp)
        have tl : ∀ (d : Bool), (b.length ≤ i ∨ a.length ≤ i ∨ a[i]? ≠ b[i]?) → loopA (bodyOf (W k) 138 1 k) (deadOf 138 1) (contOf (W k) 138 1 k 0) k (comT a x b y i (if y < x then y else x) c d 0) = some (.int .i64 (minp (prt b a) (minp (prt a b) (if y < x then y else x))), []) := by
          intro d hd
          rw [com_tail k k (by omega) a x b y i (if y < x then y else x) c d (comT a x b y i (if y < x then y else x) c d 0) (by kernel_rfl), p1, p2, minAt_prt a b i _ o1 (prt_stop a b i hd), minAt_prt b a i _ o2 (prt_stop b a i (by rcases hd with h | h | h; exact .inr (.inl h); exact .inl h; exact .inr (.inr (Ne.symm h))))]
        rw [b138, List.length_map, List.length_map]
        by_cases hi : i < a.length
        · by_cases hj : i < b.length
          · rw [getM _ _ _ hi, getM _ _ _ hj, wi (by omega)]
            simp (disch := omega) only [decide_eq_true, cond_true, onOpt, brV, asAgg, asCons, asInt, if_true, asNil, br_beq]
            by_cases h : a[i] = b[i]
            · rw [decide_eq_true h]
              rw [List.drop_eq_getElem_cons hi, List.drop_eq_getElem_cons hj, prt, if_pos h] at p1
              rw [List.drop_eq_getElem_cons hi, List.drop_eq_getElem_cons hj, prt, if_pos h.symm] at p2
              exact ih (i + 1) _ (by omega) (by kernel_rfl) p1 p2
            · rw [decide_eq_false h]
              exact tl _ (.inr (.inr (by rw [List.getElem?_eq_getElem hi, List.getElem?_eq_getElem hj]; simpa using h)))
          · rw [decide_eq_true (by omega), decide_eq_false (by omega)]
            exact tl _ (.inl (by omega))
        · rw [decide_eq_false (by omega)]
          exact tl _ (.inr (.inl (by omega)))
      obtain ⟨u, a', e1⟩ := List.exists_cons_of_length_pos l1
      obtain ⟨v, b', e2⟩ := List.exists_cons_of_length_pos l3
      rw [show (List.map brV a)[Int.toNat 0]? = some (brV u) by rw [e1]; rfl, show (List.map brV b)[Int.toNat 0]? = some (brV v) by rw [e2]; rfl, show a.head? = some u by rw [e1]; rfl, show b.head? = some v by rw [e2]; rfl]
      simp only [brV, onOpt, asAgg, asCons, asInt, if_true, asNil, br_beq, Bool.true_and, Bool.not_true, cond_false, Option.some.injEq]
      by_cases h : u = v
      · rw [decide_eq_true h]
        exact key (!true) _ (by kernel_rfl)
      · rw [decide_eq_false h]; rfl
theorem t112 (F : Fns) (N : Nat) (a : List (Int × Int)) (x : Int) (b : List (Int × Int)) (y : Int) : runOf F 112 N [.agg [lnV a, .int .i64 x], .agg [lnV b, .int .i64 y]] [] =
  onRes (F 108 [AV.agg [lnV a, AV.int .i64 x]] []) fun v bs => asBool v fun b_1 => asNil bs (bif b_1 then onRes (F 138 [AV.agg [lnV a, AV.int .i64 x], AV.agg [lnV b, AV.int .i64 y]] []) fun v bs => asInt .i64 v fun n => asNil bs (some (AV.bool (n == x), [])) else some (AV.bool false, [])) := by kernel_rfl
theorem x112 (k : Nat) (hk : 70030 ≤ k) (a : List (Int × Int)) (x : Int) (b : List (Int × Int)) (y : Int) : W k 112 [.agg [lnV a, .int .i64 x], .agg [lnV b, .int .i64 y]] [] = some (.bool (placedOk a x && decide (comE a x b y = x)), []) := by
  obtain ⟨k, rfl⟩ := succ1 (show 1 ≤ k by omega)
  rw [W_tree0 (t112 (W k) k a x b y) (by kernel_rfl), x108 k (by omega), x138 k (by omega)]
  simp only [onRes, asBool, asInt, if_true, asNil]
  cases placedOk a x <;> rfl
theorem can_slW (l : List Wr) : canR (.sl 3) (slW l) = wsV l := by
  unfold slW
  split
  · rename_i h; subst h; rfl
  · rfl
theorem x77 (k : Nat) (ws : List Wr) (hl : ws.length ≤ 200) (hk : 220 ≤ k) : W k 77 [wsV ws] [] = some (wsV (foldAll ws), []) := by
  rw [W_old (e39 k false ws hl hk) (by omega) (by kernel_rfl), show ctR ct 77 = .sl 3 by kernel_rfl, cRes, can_slW]
theorem x55 (k : Nat) (l l' : List Wr) (hk : l.length + 3 ≤ k) (hb : l.length ≤ 70000) : W k 55 [wsV l, wsV l'] [] = some (.bool (decide (l = l')), []) := W_old0 (e16 k false false l l' hk (by omega)) (by omega) (by kernel_rfl)
theorem x137 (k : Nat) (l : List Wr) (hk : 8 + l.length ≤ k) (hb : l.length ≤ 70000) : W k 137 [wsV l] [] = some (.bool (sortedW l), []) := W_old0 (e81 k false l hk (by omega)) (by omega) (by kernel_rfl)
theorem t126 (F : Fns) (N : Nat) (ws : List Wr) : runOf F 126 N [wsV ws] [] =
  onRes (F 77 [wsV ws] []) fun v bs => asSl v fun m fl xs => asNil bs (onRes (F 55 [wsV ws, AV.sl m fl xs] []) fun v bs => asBool v fun b => asNil bs (some (AV.bool b, []))) := by kernel_rfl
theorem x126 (k : Nat) (ws : List Wr) (hl : ws.length ≤ 200) (hk : 230 ≤ k) : W k 126 [wsV ws] [] = some (.bool (sortedW ws), []) := by
  obtain ⟨k, rfl⟩ := succ1 (show 1 ≤ k by omega)
  rw [W_tree0 (t126 (W k) k ws) (by kernel_rfl), x77 k ws hl (by omega)]
  simp only [onRes, wsV, asSl, asNil]
  rw [x55 k ws (foldAll ws) (by omega) (by omega), foldAll_iff]
  rfl
def keptOk (kp : List Wr) (vs : List Vol) : Bool := decide (chkE vs kp = 0) && sortedW kp
theorem t36 (F : Fns) (N : Nat) (vs : List Vol) (ws : List Wr) : runOf F 36 N [wsV ws, vsV vs] [] =
  onRes (F 76 [vsV vs, wsV ws] []) fun v bs => asInt .i64 v fun n => asNil bs (bif n == 0 then onRes (F 77 [wsV ws] []) fun v bs => asSl v fun m fl xs => asNil bs (onRes (F 55 [wsV ws, AV.sl m fl xs] []) fun v bs => asBool v fun b => asNil bs (some (AV.bool b, []))) else some (AV.bool false, [])) := by kernel_rfl
theorem x36 (k : Nat) (vs : List Vol) (ws : List Wr) (hl : ws.length ≤ 200) (hk : 70110 ≤ k) : W k 36 [wsV ws, vsV vs] [] = some (.bool (keptOk ws vs), []) := by
  obtain ⟨k, rfl⟩ := succ1 (show 1 ≤ k by omega)
  rw [W_tree0 (t36 (W k) k vs ws) (by kernel_rfl), x76 k vs ws (by omega) (by omega), x77 k ws hl (by omega), keptOk]
  simp only [onRes, asInt, if_true, wsV, asSl, asNil]
  rw [x55 k ws (foldAll ws) (by omega) (by omega), foldAll_iff, show (chkE vs ws == 0) = decide (chkE vs ws = 0) from rfl]
  cases decide (chkE vs ws = 0) <;> rfl
theorem t111 (F : Fns) (N : Nat) (vs : List Vol) (ws : List Wr) : runOf F 111 N [wsV ws, vsV vs] [] =
  onRes (F 114 [vsV vs, wsV ws] []) fun v bs => asInt .i64 v fun n => asNil bs (bif n == 0 then onRes (F 137 [wsV ws] []) fun v bs => asBool v fun b => asNil bs (some (AV.bool b, [])) else some (AV.bool false, [])) := by kernel_rfl
theorem x111 (k : Nat) (vs : List Vol) (ws : List Wr) (hv : vs.length ≤ 70000) (hl : ws.length ≤ 70000) (hk : 70110 ≤ k) : W k 111 [wsV ws, vsV vs] [] = some (.bool (keptOk ws vs), []) := by
  obtain ⟨k, rfl⟩ := succ1 (show 1 ≤ k by omega)
  rw [W_tree0 (t111 (W k) k vs ws) (by kernel_rfl), x114 k vs ws hv hl (by omega), x137 k ws (by omega) hl, keptOk]
  simp only [onRes, asInt, asBool, if_true, asNil]
  rw [show (chkE vs ws == 0) = decide (chkE vs ws = 0) from rfl]
  cases decide (chkE vs ws = 0) <;> rfl
end Go.AM.YtnhfjkckgicidaaGreat
