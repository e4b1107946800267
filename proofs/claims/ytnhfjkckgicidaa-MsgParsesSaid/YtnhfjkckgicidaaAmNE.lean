/- Volumes: vols.Right, Blank and ref07's: what they answer, plain. -/
import Derived.Test.YtnhfjkckgicidaaAmND
set_option linter.unusedVariables false
set_option linter.unusedSimpArgs false
namespace Go.AM.Ytnhfjkckgicidaa
open Go.AM Go.Proofs Go

/-- A volume: its number, its blocks. -/
abbrev Vol := Int × List (List UInt8)
def volV (fl : Bool) (v : Vol) : AV := .agg [.int .i64 v.1, .sl 1 fl (v.2.map AV.str)]
def longB (s : List UInt8) : Bool := decide ((s.length : Int) > 8)
def vsOk : Int → List Vol → Bool
  | _, [] => true
  | last, v :: r => decide (last < v.1 ∧ v.1 ≤ 255 ∧ 1 ≤ v.2.length ∧ v.2.length ≤ 32) && (!(v.2.any longB) && vsOk v.1 r)
/-- Are volumes right? -/
def vOk (l : List Vol) : Bool := decide (l.length ≤ 4) && vsOk 0 l
theorem getVol (fl : Bool) (l : List Vol) (i : Nat) (h : i < l.length) : (l.map (volV fl))[Int.toNat (i : Int)]? = some (.agg [.int .i64 (l[i]).1, .sl 1 fl ((l[i]).2.map AV.str)]) := by
  rw [Int.toNat_natCast, List.getElem?_map, List.getElem?_eq_getElem h]
  rfl

/-! slices.ContainsFunc over vols.Right's own function; size -/
theorem c108_tree (F : Fns) (N : Nat) (s : List UInt8) : runOf F 108 N [.str s] [] =
  some (AV.bool (decide (((List.length s : Nat) : Int) > 8)), []) := by kernel_rfl
theorem e108 (k : Nat) (hk : 1 ≤ k) (s : List UInt8) : evF pr k 108 [.str s] [] = some (.bool (longB s), []) := by
  obtain ⟨k, rfl⟩ : ∃ m, k = m + 1 := ⟨k - 1, by omega⟩
  rw [ev_step _ _ _ _ (by kernel_rfl), c108_tree]
  rfl
def c123S (fl : Bool) (xs : List AV) (len i : Int) : St := ⟨19, [(0, AV.sl 1 fl xs), (1, AV.fn 108), (4, AV.int IntKind.i64 0), (7, AV.int IntKind.i64 len), (8, AV.int IntKind.i64 i)], [], [], [], [], []⟩
theorem c123_tree (F : Fns) (N : Nat) (fl : Bool) (xs : List AV) : runOf F 123 N [.sl 1 fl xs, .fn 108] [] =
  loopA (bodyOf F 123 0 N) (deadOf 123 0) (contOf F 123 0 N 0) N { nt := 19, t := [(0, AV.sl 1 fl xs), (1, AV.fn 108), (4, AV.int IntKind.i64 0), (7, AV.int IntKind.i64 ((List.length xs : Nat) : Int)), (8, AV.int IntKind.i64 0)], b := [], r := [], g := [], rd := [], wr := [] } := by kernel_rfl
theorem c123_body (F : Fns) (N : Nat) (fl : Bool) (xs : List AV) (len i : Int) (KN : St → Res) : bodyOf F 123 0 N (c123S fl xs len i) (brk (contOf F 123 0 N 0) KN) =
  bif decide (i < len) then bif decide (0 ≤ i) then onOpt xs[Int.toNat i]? fun x => asStr x fun s => onRes (F 108 [AV.str s] []) fun v bs => AM.asBool v fun b => asNil bs (bif b then some (AV.int IntKind.i64 i, []) else KN { nt := 19, t := [(0, AV.sl 1 fl xs), (1, AV.fn 108), (4, AV.int IntKind.i64 0), (5, AV.int IntKind.i64 i), (7, AV.int IntKind.i64 len), (8, AV.int IntKind.i64 (IntKind.wrap IntKind.i64 (i + 1))), (9, AV.bool (decide (i < len))), (16, AV.bool b)], b := [], r := [], g := [], rd := [], wr := [] }) else none else some (AV.int IntKind.i64 (-1), []) := by kernel_rfl
theorem c123_loop (k : Nat) (hk : 1 ≤ k) (fl : Bool) (l : List (List UInt8)) (hl : l.length ≤ 100000) : ∀ (dd i m : Nat) (st : St), i + dd = l.length → dd < m → st.clean (deadOf 123 0) = c123S fl (l.map AV.str) l.length i →
    ∃ z, loopA (bodyOf (evF pr k) 123 0 k) (deadOf 123 0) (contOf (evF pr k) 123 0 k 0) m st = some (.int .i64 z, []) ∧ decide (z ≥ 0) = (l.drop i).any longB := by
  intro dd
  induction dd with
  | zero =>
    intro i m st hi hm hst
    obtain ⟨m, rfl⟩ : ∃ m', m = m' + 1 := ⟨m - 1, by omega⟩
    have : l.drop i = [] := List.drop_eq_nil_of_le (by omega)
    rw [loopA_succ, hst, c123_body, decide_eq_false (by omega), this]
    exact ⟨-1, rfl, rfl⟩
  | succ dd ih =>
    intro i m st hi hm hst
    obtain ⟨m, rfl⟩ : ∃ m', m = m' + 1 := ⟨m - 1, by omega⟩
    have hlt : i < l.length := by omega
    rw [loopA_succ, hst, c123_body, decide_eq_true (show (i : Int) < l.length by omega), decide_eq_true (show (0 : Int) ≤ i by omega), Int.toNat_natCast, List.getElem?_map, List.getElem?_eq_getElem hlt, List.drop_eq_getElem_cons hlt, List.any_cons]
    simp only [cond_true, Option.map_some, onOpt, asStr]
    rw [e108 k hk]
    simp only [onRes, asBool, asNil]
    cases longB l[i] with
    | true => exact ⟨i, rfl, by simp⟩
    | false =>
      simp only [cond_false, Bool.false_or]
      rw [wrap_small (n := (i : Int) + 1) (by omega) (by omega)]
      exact ih (i + 1) m _ (by omega) (by omega) (by kernel_rfl)
theorem c107_tree (F : Fns) (N : Nat) (fl : Bool) (xs : List AV) : runOf F 107 N [.sl 1 fl xs, .fn 108] [] =
  onRes (F 123 [AV.sl 1 fl xs, AV.fn 108] []) fun v bs => AM.asInt IntKind.i64 v fun n => asNil bs (some (AV.bool (decide (n ≥ 0)), [])) := by kernel_rfl
theorem e107 (k : Nat) (fl : Bool) (l : List (List UInt8)) (hk : 4 + l.length ≤ k) (hl : l.length ≤ 100000) : evF pr k 107 [.sl 1 fl (l.map AV.str), .fn 108] [] = some (.bool (l.any longB), []) := by
  obtain ⟨k, rfl⟩ : ∃ m, k = m + 2 := ⟨k - 2, by omega⟩
  rw [ev_step _ _ _ _ (by kernel_rfl), c107_tree, ev_step _ _ _ _ (by kernel_rfl), c123_tree, List.length_map]
  obtain ⟨z, h1, h2⟩ := c123_loop k (by omega) fl l hl l.length 0 k ⟨19, [(0, AV.sl 1 fl (l.map AV.str)), (1, AV.fn 108), (4, AV.int IntKind.i64 0), (7, AV.int IntKind.i64 l.length), (8, AV.int IntKind.i64 0)], [], [], [], [], []⟩ (Nat.zero_add _) (by omega) (by kernel_rfl)
  rw [List.drop_zero] at h2
  rw [← h2]
  refine (congrArg (fun x => onRes x _) h1).trans ?_
  rfl
theorem vsize_tree (F : Fns) (N : Nat) (z : Int) : runOf F 92 N [.int .i64 z] [] =
  bif decide (z ≥ 1) then some (AV.bool (decide (z ≤ 32)), []) else some (AV.bool false, []) := by kernel_rfl
def sizeOk (z : Int) : Bool := decide (1 ≤ z ∧ z ≤ 32)
theorem e92 (k : Nat) (hk : 1 ≤ k) (z : Int) : evF pr k 92 [.int .i64 z] [] = some (.bool (sizeOk z), []) := by
  obtain ⟨k, rfl⟩ : ∃ m, k = m + 1 := ⟨k - 1, by omega⟩
  rw [ev_step _ _ _ _ (by kernel_rfl), vsize_tree]
  by_cases h : z ≥ 1
  · rw [decide_eq_true h, show sizeOk z = decide (z ≤ 32) by unfold sizeOk; rw [decide_eq_decide]; omega]; rfl
  · rw [decide_eq_false h, show sizeOk z = false by unfold sizeOk; rw [decide_eq_false_iff_not]; omega]; rfl

/-! vols.Right -/
def vrightS (fl : Bool) (xs : List AV) (last len i : Int) : St := ⟨37, [(0, AV.sl 2 fl xs), (2, AV.bool false), (3, AV.int IntKind.i64 last), (6, AV.sl 2 fl xs), (7, AV.int IntKind.i64 len), (8, AV.int IntKind.i64 i)], [], [], [], [], []⟩
theorem vright_tree (F : Fns) (N : Nat) (fl : Bool) (xs : List AV) : runOf F 93 N [.sl 2 fl xs] [] =
  loopA (bodyOf F 93 0 N) (deadOf 93 0) (contOf F 93 0 N 0) N { nt := 37, t := [(0, AV.sl 2 fl xs), (2, AV.bool false), (3, AV.int IntKind.i64 0), (6, AV.sl 2 fl xs), (7, AV.int IntKind.i64 ((List.length xs : Nat) : Int)), (8, AV.int IntKind.i64 0)], b := [], r := [], g := [], rd := [], wr := [] } := by kernel_rfl
theorem vright_body (F : Fns) (N : Nat) (fl : Bool) (xs : List AV) (last len i : Int) (KN : St → Res) : bodyOf F 93 0 N (vrightS fl xs last len i) (brk (contOf F 93 0 N 0) KN) =
  bif decide (i < len) then bif decide (0 ≤ i) then onOpt xs[Int.toNat i]? fun x => AM.asAgg x fun cs => asCons cs fun v r => AM.asInt IntKind.i64 v fun n => asCons r fun v r => asSl v fun m fl_1 xs_1 => asNil r (bif decide (n ≤ last) then some (AV.bool false, []) else bif decide (n > 255) then some (AV.bool false, []) else onRes (F 92 [AV.int IntKind.i64 ((List.length xs_1 : Nat) : Int)] []) fun v bs => AM.asBool v fun b => asNil bs (bif !b then some (AV.bool false, []) else onRes (F 107 [AV.sl m fl_1 xs_1, AV.fn 108] []) fun v bs => AM.asBool v fun b_1 => asNil bs (bif b_1 then some (AV.bool false, []) else KN { nt := 37, t := [(0, AV.sl 2 fl xs), (2, AV.bool false), (3, AV.int IntKind.i64 n), (5, AV.ptr 5 0 0), (6, AV.sl 2 fl xs), (7, AV.int IntKind.i64 len), (8, AV.int IntKind.i64 (IntKind.wrap IntKind.i64 (i + 1))), (9, AV.bool (decide (i < len))), (27, AV.bool !b), (30, AV.bool b_1)], b := [(5, [AV.int IntKind.i64 n, AV.sl m fl_1 xs_1])], r := [], g := [], rd := [], wr := [] }))) else none else some (AV.bool (decide (((List.length xs : Nat) : Int) ≤ 4)), []) := by kernel_rfl
theorem vright_loop (k : Nat) (hk : 40 ≤ k) (fl f2 : Bool) (l : List Vol) (hl : l.length ≤ 1000000000) : ∀ (dd i m : Nat) (last : Int) (st : St), i + dd = l.length → dd < m → st.clean (deadOf 93 0) = vrightS fl (l.map (volV f2)) last l.length i →
    loopA (bodyOf (evF pr k) 93 0 k) (deadOf 93 0) (contOf (evF pr k) 93 0 k 0) m st = some (.bool (vsOk last (l.drop i) && decide (l.length ≤ 4)), []) := by
  intro dd
  induction dd with
  | zero =>
    intro i m last st hi hm hst
    obtain ⟨m, rfl⟩ : ∃ m', m = m' + 1 := ⟨m - 1, by omega⟩
    have h1 : l.drop i = [] := List.drop_eq_nil_of_le (by omega)
    rw [loopA_succ, hst, vright_body, decide_eq_false (by omega), h1, List.length_map, vsOk, Bool.true_and, show decide (l.length ≤ 4) = decide (((l.length : Nat) : Int) ≤ 4) by rw [decide_eq_decide]; omega]
    rfl
  | succ dd ih =>
    intro i m last st hi hm hst
    obtain ⟨m, rfl⟩ : ∃ m', m = m' + 1 := ⟨m - 1, by omega⟩
    have hlt : i < l.length := by omega
    rw [loopA_succ, hst, vright_body, decide_eq_true (show (i : Int) < l.length by omega), decide_eq_true (show (0 : Int) ≤ i by omega), getVol f2 l i hlt, List.drop_eq_getElem_cons hlt, vsOk]
    simp only [cond_true, onOpt, asAgg, asCons, asInt, asSl, if_true, asNil]
    rw [wrap_small (n := (i : Int) + 1) (by omega) (by omega), List.length_map, e92 k (by omega)]
    simp only [onRes, asBool, asNil]
    generalize l[i] = v
    by_cases hc : last < v.1 ∧ v.1 ≤ 255 ∧ 1 ≤ v.2.length ∧ v.2.length ≤ 32
    · rw [decide_eq_true hc, decide_eq_false (show ¬ v.1 ≤ last by omega), decide_eq_false (show ¬ v.1 > 255 by omega), show sizeOk ((v.2.length : Nat) : Int) = true from decide_eq_true (by omega), e107 k f2 v.2 (by omega) (by omega)]
      simp only [cond_false, Bool.not_true, Bool.true_and]
      cases hb : v.2.any longB with
      | true => rfl
      | false =>
        simp only [cond_false, Bool.not_false, Bool.true_and]
        exact ih (i + 1) m _ _ (by omega) (by omega) (by kernel_rfl)
    · rw [decide_eq_false hc, Bool.false_and, Bool.false_and]
      by_cases h1 : v.1 ≤ last
      · rw [decide_eq_true h1]; rfl
      by_cases h2 : v.1 > 255
      · rw [decide_eq_false h1, decide_eq_true h2]; rfl
      rw [decide_eq_false h1, decide_eq_false h2, show sizeOk ((v.2.length : Nat) : Int) = false by unfold sizeOk; rw [decide_eq_false_iff_not]; omega]
      rfl
theorem e93 (k : Nat) (fl f2 : Bool) (l : List Vol) (hk : l.length + 50 ≤ k) (hl : l.length ≤ 1000000000) : evF pr k 93 [.sl 2 fl (l.map (volV f2))] [] = some (.bool (vOk l), []) := by
  obtain ⟨k, rfl⟩ : ∃ m, k = m + 1 := ⟨k - 1, by omega⟩
  rw [ev_step _ _ _ _ (by kernel_rfl), vright_tree, List.length_map, vOk, Bool.and_comm]
  exact vright_loop k (by omega) fl f2 l hl l.length 0 k 0 _ (Nat.zero_add _) (by omega) (by kernel_rfl)
theorem e93nil (k a : Nat) (fl : Bool) : evF pr (k + 6) 93 [.sl a fl []] [] = some (.bool true, []) := by kernel_rfl

/-! ref07.Right -/
def rvrightS (fl d : Bool) (xs : List AV) (i : Int) : St := ⟨84, [(0, AV.sl 2 fl xs), (2, AV.bool false), (3, AV.int IntKind.i64 i), (7, AV.bool d)], [], [], [], [], []⟩
def rvrI (fl d e f : Bool) (xs : List AV) (i j : Int) : St := ⟨84, [(0, AV.sl 2 fl xs), (2, AV.bool false), (3, AV.int IntKind.i64 i), (4, AV.int IntKind.i64 j), (7, AV.bool d), (11, AV.bool e), (63, AV.bool f)], [], [], [], [], []⟩
theorem rvright_tree (F : Fns) (N : Nat) (fl : Bool) (xs : List AV) : runOf F 90 N [.sl 2 fl xs] [] =
  bif decide (((List.length xs : Nat) : Int) > 4) then some (AV.bool false, []) else loopA (bodyOf F 90 0 N) (deadOf 90 0) (contOf F 90 0 N 0) N { nt := 84, t := [(0, AV.sl 2 fl xs), (2, AV.bool false), (3, AV.int IntKind.i64 0), (7, AV.bool (decide (((List.length xs : Nat) : Int) > 4)))], b := [], r := [], g := [], rd := [], wr := [] } := by kernel_rfl
theorem rvright_body (F : Fns) (N : Nat) (fl d : Bool) (xs : List AV) (i : Int) (KN : St → Res) : bodyOf F 90 0 N (rvrightS fl d xs i) (brk (contOf F 90 0 N 0) KN) =
  bif decide (i < ((List.length xs : Nat) : Int)) then bif decide (0 ≤ i) then onOpt xs[Int.toNat i]? fun x => AM.asAgg x fun cs => asCons cs fun v r => AM.asInt IntKind.i64 v fun n => asCons r fun v r => asSl v fun m fl_1 xs_1 => asNil r (bif decide (n < 1) then some (AV.bool false, []) else bif decide (0 ≤ i) then onOpt xs[Int.toNat i]? fun x => AM.asAgg x fun cs => asCons cs fun v r => AM.asInt IntKind.i64 v fun n => asCons r fun v r => asSl v fun m fl_2 xs_2 => asNil r (bif decide (n > 255) then some (AV.bool false, []) else bif decide (i > 0) then bif decide (0 ≤ IntKind.wrap IntKind.i64 (i - 1)) then onOpt xs[Int.toNat (IntKind.wrap IntKind.i64 (i - 1))]? fun x => AM.asAgg x fun cs => asCons cs fun v r => AM.asInt IntKind.i64 v fun n => asCons r fun v r => asSl v fun m fl_3 xs_3 => asNil r (bif decide (0 ≤ i) then onOpt xs[Int.toNat i]? fun x => AM.asAgg x fun cs => asCons cs fun v r => AM.asInt IntKind.i64 v fun n_1 => asCons r fun v r => asSl v fun m fl_4 xs_4 => asNil r (bif decide (n ≥ n_1) then some (AV.bool false, []) else bif decide (0 ≤ i) then onOpt xs[Int.toNat i]? fun x => AM.asAgg x fun cs => asCons cs fun v r => AM.asInt IntKind.i64 v fun n => asCons r fun v r => asSl v fun m fl_5 xs_5 => asNil r (bif decide (((List.length xs_5 : Nat) : Int) < 1) then some (AV.bool false, []) else bif decide (0 ≤ i) then onOpt xs[Int.toNat i]? fun x => AM.asAgg x fun cs => asCons cs fun v r => AM.asInt IntKind.i64 v fun n => asCons r fun v r => asSl v fun m fl_6 xs_6 => asNil r (bif decide (((List.length xs_6 : Nat) : Int) > 32) then some (AV.bool false, []) else loopA (bodyOf F 90 1 N) (deadOf 90 1) (contBOf F 90 0 0 N (brk (contOf F 90 0 N 0) KN)) N { nt := 84, t := [(0, AV.sl 2 fl xs), (2, AV.bool false), (3, AV.int IntKind.i64 i), (4, AV.int IntKind.i64 0), (7, AV.bool d), (11, AV.bool (decide (i < ((List.length xs : Nat) : Int)))), (63, AV.bool (decide (((List.length xs_6 : Nat) : Int) > 32)))], b := [], r := [], g := [], rd := [], wr := [] }) else none) else none) else none) else none else bif decide (0 ≤ i) then onOpt xs[Int.toNat i]? fun x => AM.asAgg x fun cs => asCons cs fun v r => AM.asInt IntKind.i64 v fun n => asCons r fun v r => asSl v fun m fl_3 xs_3 => asNil r (bif decide (((List.length xs_3 : Nat) : Int) < 1) then some (AV.bool false, []) else bif decide (0 ≤ i) then onOpt xs[Int.toNat i]? fun x => AM.asAgg x fun cs => asCons cs fun v r => AM.asInt IntKind.i64 v fun n => asCons r fun v r => asSl v fun m fl_4 xs_4 => asNil r (bif decide (((List.length xs_4 : Nat) : Int) > 32) then some (AV.bool false, []) else loopA (bodyOf F 90 1 N) (deadOf 90 1) (contBOf F 90 0 0 N (brk (contOf F 90 0 N 0) KN)) N { nt := 84, t := [(0, AV.sl 2 fl xs), (2, AV.bool false), (3, AV.int IntKind.i64 i), (4, AV.int IntKind.i64 0), (7, AV.bool d), (11, AV.bool (decide (i < ((List.length xs : Nat) : Int)))), (63, AV.bool (decide (((List.length xs_4 : Nat) : Int) > 32)))], b := [], r := [], g := [], rd := [], wr := [] }) else none) else none) else none) else none else some (AV.bool true, []) := by kernel_rfl
theorem rvright_in (F : Fns) (N : Nat) (fl d e f : Bool) (xs : List AV) (i j : Int) (KO KN : St → Res) : bodyOf F 90 1 N (rvrI fl d e f xs i j) (brk (contBOf F 90 0 0 N (brk (contOf F 90 0 N 0) KO)) KN) =
  bif decide (0 ≤ i) then onOpt xs[Int.toNat i]? fun x => AM.asAgg x fun cs => asCons cs fun v r => AM.asInt IntKind.i64 v fun n => asCons r fun v r => asSl v fun m fl_1 xs_1 => asNil r (bif decide (j < ((List.length xs_1 : Nat) : Int)) then bif decide (0 ≤ i) then onOpt xs[Int.toNat i]? fun x => AM.asAgg x fun cs => asCons cs fun v r => AM.asInt IntKind.i64 v fun n => asCons r fun v r => asSl v fun m fl_2 xs_2 => asNil r (bif decide (m = 1) && decide (0 ≤ j) then onOpt xs_2[Int.toNat j]? fun x => asStr x fun s => bif decide (((List.length s : Nat) : Int) > 8) then some (AV.bool false, []) else KN { nt := 84, t := [(0, AV.sl 2 fl xs), (2, AV.bool false), (3, AV.int IntKind.i64 i), (4, AV.int IntKind.i64 (IntKind.wrap IntKind.i64 (j + 1))), (7, AV.bool d), (11, AV.bool e), (63, AV.bool f), (71, AV.bool (decide (j < ((List.length xs_1 : Nat) : Int)))), (83, AV.bool (decide (((List.length s : Nat) : Int) > 8)))], b := [], r := [], g := [], rd := [], wr := [] } else none) else none else KO { nt := 84, t := [(0, AV.sl 2 fl xs), (2, AV.bool false), (3, AV.int IntKind.i64 (IntKind.wrap IntKind.i64 (i + 1))), (4, AV.int IntKind.i64 j), (7, AV.bool d), (11, AV.bool e), (63, AV.bool f), (71, AV.bool (decide (j < ((List.length xs_1 : Nat) : Int))))], b := [], r := [], g := [], rd := [], wr := [] }) else none := by kernel_rfl
/-- What the inner loop comes to. -/
theorem rvright_inner (F : Fns) (N : Nat) (fl f2 d e f : Bool) (l : List Vol) (i : Nat) (hi : i < l.length) (hb : (l[i]).2.length ≤ 1000) (hbl : l.length ≤ 1000000) (KO : St → Res) : ∀ (dd j m : Nat) (st : St), j + dd = (l[i]).2.length → dd < m → st.clean (deadOf 90 1) = rvrI fl d e f (l.map (volV f2)) i j →
    loopA (bodyOf F 90 1 N) (deadOf 90 1) (contBOf F 90 0 0 N (brk (contOf F 90 0 N 0) KO)) m st = bif ((l[i]).2.drop j).any longB then some (.bool false, []) else KO ⟨84, [(0, AV.sl 2 fl (l.map (volV f2))), (2, AV.bool false), (3, AV.int IntKind.i64 ((i + 1 : Nat) : Int)), (4, AV.int IntKind.i64 ((l[i]).2.length : Nat)), (7, AV.bool d), (11, AV.bool e), (63, AV.bool f), (71, AV.bool false)], [], [], [], [], []⟩ := by
  have hw : IntKind.wrap IntKind.i64 ((i : Int) + 1) = ((i + 1 : Nat) : Int) := by rw [wrap_small (by omega) (by omega)]; omega
  intro dd
  induction dd with
  | zero =>
    intro j m st hj hm hst
    obtain ⟨m, rfl⟩ : ∃ m', m = m' + 1 := ⟨m - 1, by omega⟩
    have h1 : (l[i]).2.drop j = [] := List.drop_eq_nil_of_le (by omega)
    rw [loopA_succ, hst, rvright_in, decide_eq_true (show (0 : Int) ≤ i by omega), getVol f2 l i hi, h1]
    simp only [cond_true, onOpt, asAgg, asCons, asInt, asSl, if_true, asNil]
    rw [List.length_map, decide_eq_false (by omega), hw, show j = (l[i]).2.length by omega]
    rfl
  | succ dd ih =>
    intro j m st hj hm hst
    obtain ⟨m, rfl⟩ : ∃ m', m = m' + 1 := ⟨m - 1, by omega⟩
    have hlt : j < (l[i]).2.length := by omega
    rw [loopA_succ, hst, rvright_in, decide_eq_true (show (0 : Int) ≤ i by omega), getVol f2 l i hi, List.drop_eq_getElem_cons hlt, List.any_cons]
    simp only [cond_true, onOpt, asAgg, asCons, asInt, asSl, if_true, asNil]
    rw [List.length_map, decide_eq_true (show (j : Int) < (l[i]).2.length by omega), decide_eq_true (show (0 : Int) ≤ j by omega), Int.toNat_natCast, List.getElem?_map, List.getElem?_eq_getElem hlt, wrap_small (n := (j : Int) + 1) (by omega) (by omega)]
    simp only [cond_true, Option.map_some, asStr, show (decide (1 = 1) && true) = true from rfl]
    rw [show decide ((((((l[i]).2)[j]).length : Nat) : Int) > 8) = longB ((l[i]).2)[j] from rfl]
    cases longB ((l[i]).2)[j] with
    | true => rfl
    | false =>
      simp only [cond_false, Bool.false_or]
      exact ih (j + 1) m _ (by omega) (by omega) (by kernel_rfl)
theorem rvright_loop (k : Nat) (hk : 60 ≤ k) (fl f2 d : Bool) (l : List Vol) (hl : l.length ≤ 4) : ∀ (dd i m : Nat) (last : Int) (st : St), i + dd = l.length → dd < m → (i = 0 → last = 0) → (∀ h : 0 < i, ∀ h2 : i - 1 < l.length, (l[i - 1]).1 = last) → 0 ≤ last → st.clean (deadOf 90 0) = rvrightS fl d (l.map (volV f2)) i →
    loopA (bodyOf (evF pr k) 90 0 k) (deadOf 90 0) (contOf (evF pr k) 90 0 k 0) m st = some (.bool (vsOk last (l.drop i)), []) := by
  intro dd
  induction dd with
  | zero =>
    intro i m last st hi hm h0 hp hla hst
    obtain ⟨m, rfl⟩ : ∃ m', m = m' + 1 := ⟨m - 1, by omega⟩
    have h1 : l.drop i = [] := List.drop_eq_nil_of_le (by omega)
    rw [loopA_succ, hst, rvright_body, List.length_map, decide_eq_false (by omega), h1]
    rfl
  | succ dd ih =>
    intro i m last st hi hm h0 hp hla hst
    obtain ⟨m, rfl⟩ : ∃ m', m = m' + 1 := ⟨m - 1, by omega⟩
    have hlt : i < l.length := by omega
    rw [loopA_succ, hst, rvright_body, List.length_map, decide_eq_true (show (i : Int) < l.length by omega), decide_eq_true (show (0 : Int) ≤ i by omega), getVol f2 l i hlt, List.drop_eq_getElem_cons hlt, vsOk]
    simp only [cond_true, onOpt, asAgg, asCons, asInt, asSl, if_true, asNil]
    rw [List.length_map]
    have fin : last < (l[i]).1 ∧ (l[i]).1 ≤ 255 ∧ 1 ≤ (l[i]).2.length ∧ (l[i]).2.length ≤ 32 → ∀ st' : St, st'.clean (deadOf 90 1) = rvrI fl d true false (l.map (volV f2)) i ((0 : Nat) : Int) →
        loopA (bodyOf (evF pr k) 90 1 k) (deadOf 90 1) (contBOf (evF pr k) 90 0 0 k (brk (contOf (evF pr k) 90 0 k 0) fun st' => loopA (bodyOf (evF pr k) 90 0 k) (deadOf 90 0) (contOf (evF pr k) 90 0 k 0) m st')) k st' = some (.bool (decide (last < (l[i]).1 ∧ (l[i]).1 ≤ 255 ∧ 1 ≤ (l[i]).2.length ∧ (l[i]).2.length ≤ 32) && (!((l[i]).2.any longB) && vsOk (l[i]).1 (l.drop (i + 1)))), []) := by
      intro hc st' hst'
      rw [rvright_inner (evF pr k) k fl f2 d true false l i hlt (by omega) (by omega) _ (l[i]).2.length 0 k st' (Nat.zero_add _) (by omega) hst', List.drop_zero, decide_eq_true hc, Bool.true_and]
      cases (l[i]).2.any longB with
      | true => rfl
      | false =>
        simp only [cond_false, Bool.not_false, Bool.true_and]
        exact ih (i + 1) m (l[i]).1 _ (by omega) (by omega) (by omega) (fun _ _ => rfl) (by omega) (by kernel_rfl)
    by_cases h1 : (l[i]).1 < 1
    · rw [decide_eq_true h1, decide_eq_false (show ¬ (last < (l[i]).1 ∧ (l[i]).1 ≤ 255 ∧ 1 ≤ (l[i]).2.length ∧ (l[i]).2.length ≤ 32) by omega)]; rfl
    by_cases h2 : (l[i]).1 > 255
    · rw [decide_eq_false h1, decide_eq_true h2, decide_eq_false (show ¬ (last < (l[i]).1 ∧ (l[i]).1 ≤ 255 ∧ 1 ≤ (l[i]).2.length ∧ (l[i]).2.length ≤ 32) by omega)]; rfl
    rw [decide_eq_false h1, decide_eq_false h2]
    simp only [cond_false]
    by_cases hi0 : i = 0
    · have hl0 := h0 hi0
      rw [decide_eq_false (show ¬ (i : Int) > 0 by omega)]
      simp only [cond_false]
      by_cases h3 : (l[i]).2.length < 1
      · rw [decide_eq_true (show ((((l[i]).2.length : Nat) : Int)) < 1 by omega), decide_eq_false (show ¬ (last < (l[i]).1 ∧ (l[i]).1 ≤ 255 ∧ 1 ≤ (l[i]).2.length ∧ (l[i]).2.length ≤ 32) by omega)]; rfl
      by_cases h4 : (l[i]).2.length > 32
      · rw [decide_eq_false (show ¬ ((((l[i]).2.length : Nat) : Int)) < 1 by omega), decide_eq_true (show ((((l[i]).2.length : Nat) : Int)) > 32 by omega), decide_eq_false (show ¬ (last < (l[i]).1 ∧ (l[i]).1 ≤ 255 ∧ 1 ≤ (l[i]).2.length ∧ (l[i]).2.length ≤ 32) by omega)]; rfl
      rw [decide_eq_false (show ¬ ((((l[i]).2.length : Nat) : Int)) < 1 by omega), decide_eq_false (show ¬ ((((l[i]).2.length : Nat) : Int)) > 32 by omega)]
      simp only [cond_false]
      exact fin (by omega) _ (by kernel_rfl)
    · have hw : IntKind.wrap IntKind.i64 ((i : Int) - 1) = ((i - 1 : Nat) : Int) := by rw [wrap_small (by omega) (by omega)]; omega
      have hpi := hp (by omega) (by omega)
      rw [decide_eq_true (show (i : Int) > 0 by omega), hw, decide_eq_true (show (0 : Int) ≤ ((i - 1 : Nat) : Int) by omega), getVol f2 l (i - 1) (by omega), hpi]
      simp only [cond_true, asAgg, asCons, asInt, asSl, if_true, asNil]
      by_cases h5 : last ≥ (l[i]).1
      · rw [decide_eq_true h5, decide_eq_false (show ¬ (last < (l[i]).1 ∧ (l[i]).1 ≤ 255 ∧ 1 ≤ (l[i]).2.length ∧ (l[i]).2.length ≤ 32) by omega)]; rfl
      rw [decide_eq_false h5]
      simp only [cond_false]
      by_cases h3 : (l[i]).2.length < 1
      · rw [decide_eq_true (show ((((l[i]).2.length : Nat) : Int)) < 1 by omega), decide_eq_false (show ¬ (last < (l[i]).1 ∧ (l[i]).1 ≤ 255 ∧ 1 ≤ (l[i]).2.length ∧ (l[i]).2.length ≤ 32) by omega)]; rfl
      by_cases h4 : (l[i]).2.length > 32
      · rw [decide_eq_false (show ¬ ((((l[i]).2.length : Nat) : Int)) < 1 by omega), decide_eq_true (show ((((l[i]).2.length : Nat) : Int)) > 32 by omega), decide_eq_false (show ¬ (last < (l[i]).1 ∧ (l[i]).1 ≤ 255 ∧ 1 ≤ (l[i]).2.length ∧ (l[i]).2.length ≤ 32) by omega)]; rfl
      rw [decide_eq_false (show ¬ ((((l[i]).2.length : Nat) : Int)) < 1 by omega), decide_eq_false (show ¬ ((((l[i]).2.length : Nat) : Int)) > 32 by omega)]
      simp only [cond_false]
      exact fin (by omega) _ (by kernel_rfl)
theorem e90 (k : Nat) (fl f2 : Bool) (l : List Vol) (hk : 70 ≤ k) : evF pr k 90 [.sl 2 fl (l.map (volV f2))] [] = some (.bool (vOk l), []) := by
  obtain ⟨k, rfl⟩ : ∃ m, k = m + 1 := ⟨k - 1, by omega⟩
  rw [ev_step _ _ _ _ (by kernel_rfl), rvright_tree, List.length_map, vOk]
  by_cases h : l.length ≤ 4
  · rw [decide_eq_false (show ¬ ((l.length : Nat) : Int) > 4 by omega), decide_eq_true h, Bool.true_and]
    exact rvright_loop k (by omega) fl f2 false l h l.length 0 k 0 _ (Nat.zero_add _) (by omega) (fun _ => rfl) (fun h => absurd h (by omega)) (by omega) (by kernel_rfl)
  · rw [decide_eq_true (show ((l.length : Nat) : Int) > 4 by omega), decide_eq_false h]
    rfl
theorem e90nil (k a : Nat) (fl : Bool) : evF pr (k + 6) 90 [.sl a fl []] [] = some (.bool true, []) := by kernel_rfl

end Go.AM.Ytnhfjkckgicidaa
