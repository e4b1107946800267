/- Lines: line.Right, ref11.Right, PutLine, TakeLine, Equal: what they answer, plain. -/
import Derived.Test.YtnhfjkckgicidaaAmN3
set_option linter.unusedVariables false
set_option linter.unusedSimpArgs false
namespace Go.AM.Ytnhfjkckgicidaa
open Go.AM Go.Proofs Go

/-- A branch as the machine has it. -/
def brV (b : Int × Int) : AV := .agg [.int .i64 b.1, .int .i64 b.2]
def be8 (z : Int) : List UInt8 := (putV z 8).1
/-- Do branches go on from one? -/
def chain : Int → Int → List (Int × Int) → Bool
  | _, _, [] => true
  | e, a, b :: r => decide (e < b.1 ∧ b.1 ≤ 1099511627776 ∧ a ≤ b.2 ∧ b.2 ≤ 1099511627776) && chain b.1 b.2 r
def lineOk : List (Int × Int) → Bool
  | [] => false
  | b :: r => decide ((b :: r).length ≤ 64) && (decide (b.2 = 0) && chain 0 0 (b :: r))

theorem be8_length (z : Int) : (be8 z).length ≤ 8 := by
  unfold be8 putV
  split
  · simp
  · split
    · simp
    · split
      · simp
      · rw [be_length]; decide
theorem getBr (l : List (Int × Int)) (i : Nat) (h : i < l.length) : (l.map brV)[Int.toNat (i : Int)]? = some (.agg [.int .i64 (l[i]).1, .int .i64 (l[i]).2]) := by
  rw [Int.toNat_natCast, List.getElem?_map, List.getElem?_eq_getElem h]
  rfl
theorem ofBytes_append (a b : List UInt8) : ofBytes a ++ ofBytes b = ofBytes (a ++ b) := by simp [ofBytes]
theorem bytesOf_ofBytes : ∀ l : List UInt8, bytesOf (ofBytes l) = some l
  | [] => rfl
  | b :: r => by
    have := bytesOf_ofBytes r
    unfold ofBytes at this
    simp only [ofBytes, List.map_cons, bytesOf, this, Int.toNat_natCast]
    simp
theorem fitsB_small {n b : Nat} (h : n * b ≤ 140737488355328) : fitsB n b = true := decide_eq_true h

/-! msg.eight -/
def meightS (fl : Bool) (xs : List AV) (len i : Int) (v : AV) : St := ⟨25, [(0, AV.sl 1 fl xs), (2, AV.str []), (3, v), (8, AV.sl 1 fl xs), (9, AV.int IntKind.i64 len), (10, AV.int IntKind.i64 i)], [], [], [], [], []⟩
theorem meight_tree (F : Fns) (N : Nat) (fl : Bool) (xs : List AV) : runOf F 45 N [.sl 1 fl xs] [] =
  loopA (bodyOf F 45 0 N) (deadOf 45 0) (contOf F 45 0 N 0) N { nt := 25, t := [(0, AV.sl 1 fl xs), (2, AV.str []), (3, AV.sl 0 true []), (8, AV.sl 1 fl xs), (9, AV.int IntKind.i64 ((List.length xs : Nat) : Int)), (10, AV.int IntKind.i64 0)], b := [], r := [], g := [], rd := [], wr := [] } := by kernel_rfl
theorem meight_body0 (F : Fns) (N : Nat) (fl : Bool) (xs : List AV) (len i : Int) (KN : St → Res) : bodyOf F 45 0 N (meightS fl xs len i (.sl 0 true [])) (brk (contOf F 45 0 N 0) KN) =
  bif decide (i < len) then bif decide (0 ≤ i) then onOpt xs[Int.toNat i]? fun x => AM.asInt IntKind.i64 x fun n => onRes (F 37 [AV.int IntKind.i64 n, AV.int IntKind.i64 8] []) fun v bs => asTup v fun cs => asCons cs fun v r => asStr v fun s => asCons r fun v r => AM.asInt IntKind.i64 v fun n_1 => asNil r (asNil bs (bif decide ((0 = 1 ∨ ([] : List AV) = []) ∧ fitsB (List.length ([] : List AV) + List.length (ofBytes s)) 1 = true ∧ List.length ([] : List AV) + List.length (ofBytes s) ≤ 4611686018427387904) then KN { nt := 25, t := [(0, AV.sl 1 fl xs), (2, AV.str []), (3, AV.tip 21 0 1 ([] ++ ofBytes s)), (5, AV.int IntKind.i64 n), (6, AV.str s), (8, AV.sl 1 fl xs), (9, AV.int IntKind.i64 len), (10, AV.int IntKind.i64 (IntKind.wrap IntKind.i64 (i + 1))), (11, AV.bool (decide (i < len)))], b := [], r := [], g := [], rd := [], wr := [] } else none)) else none else some (AV.str [], []) := by kernel_rfl
theorem meight_body1 (F : Fns) (N : Nat) (fl : Bool) (xs ys : List AV) (len i : Int) (KN : St → Res) : bodyOf F 45 0 N (meightS fl xs len i (.tip 21 0 1 ys)) (brk (contOf F 45 0 N 0) KN) =
  bif decide (i < len) then bif decide (0 ≤ i) then onOpt xs[Int.toNat i]? fun x => AM.asInt IntKind.i64 x fun n => onRes (F 37 [AV.int IntKind.i64 n, AV.int IntKind.i64 8] []) fun v bs => asTup v fun cs => asCons cs fun v r => asStr v fun s => asCons r fun v r => AM.asInt IntKind.i64 v fun n_1 => asNil r (asNil bs (bif decide (1 = 1 ∧ fitsB (List.length ys + List.length (ofBytes s)) 1 = true ∧ List.length ys + List.length (ofBytes s) ≤ 4611686018427387904) then KN { nt := 25, t := [(0, AV.sl 1 fl xs), (2, AV.str []), (3, AV.tip 21 0 1 (ys ++ ofBytes s)), (5, AV.int IntKind.i64 n), (6, AV.str s), (8, AV.sl 1 fl xs), (9, AV.int IntKind.i64 len), (10, AV.int IntKind.i64 (IntKind.wrap IntKind.i64 (i + 1))), (11, AV.bool (decide (i < len)))], b := [], r := [], g := [], rd := [], wr := [] } else none)) else none else onOpt (Option.map AV.str (bytesOf ys)) fun x => asStr x fun s => some (AV.str s, []) := by kernel_rfl
theorem meight_loop (k : Nat) (hk : 12 ≤ k) (fl : Bool) (ns : List Int) (hn : ∀ n ∈ ns, n < 9223372036854775808) (hl : ns.length ≤ 1000) : ∀ (dd i m : Nat) (acc : List UInt8) (st : St), i + dd = ns.length → dd < m → acc.length ≤ 8 * i →
    st.clean (deadOf 45 0) = meightS fl (ns.map (AV.int .i64)) ns.length i (.tip 21 0 1 (ofBytes acc)) →
    loopA (bodyOf (evF pr k) 45 0 k) (deadOf 45 0) (contOf (evF pr k) 45 0 k 0) m st = some (.str (acc ++ (ns.drop i).flatMap be8), []) := by
  intro dd
  induction dd with
  | zero =>
    intro i m acc st hi hm ha hst
    obtain ⟨m, rfl⟩ : ∃ m', m = m' + 1 := ⟨m - 1, by omega⟩
    have : i = ns.length := by omega
    subst this
    rw [loopA_succ, hst, meight_body1, decide_eq_false (by omega), bytesOf_ofBytes, List.drop_length]
    simp [onOpt, asStr]
  | succ dd ih =>
    intro i m acc st hi hm ha hst
    obtain ⟨m, rfl⟩ : ∃ m', m = m' + 1 := ⟨m - 1, by omega⟩
    have hlt : i < ns.length := by omega
    have h8 := be8_length ns[i]
    rw [loopA_succ, hst, meight_body1, decide_eq_true (show (i : Int) < ns.length by omega), decide_eq_true (show (0 : Int) ≤ i by omega), Int.toNat_natCast, List.getElem?_map, List.getElem?_eq_getElem hlt]
    simp only [cond_true, Option.map_some, onOpt, asInt, if_true]
    rw [show (8 : Int) = ((8 : Nat) : Int) from rfl, e37 k (by omega) _ (hn _ (List.getElem_mem hlt)) 8 (by omega) (by omega)]
    simp only [onRes, asTup, asCons, asStr, asInt, if_true, asNil]
    rw [ofBytes_append, decide_eq_true (by
      have hb : (putV ns[i] ((8 : Nat) : Int)).1.length ≤ 8 := h8
      refine ⟨trivial, fitsB_small ?_, ?_⟩ <;> simp only [ofBytes, List.length_map] <;> omega)]
    simp only [cond_true]
    rw [wrap_small (n := (i : Int) + 1) (by omega) (by omega), List.drop_eq_getElem_cons hlt, List.flatMap_cons, ← List.append_assoc]
    exact ih (i + 1) m _ _ (by omega) (by omega) (by
      have hb : (putV ns[i] ((8 : Nat) : Int)).1.length ≤ 8 := h8
      rw [List.length_append]
      omega) (by kernel_rfl)
theorem e45 (k : Nat) (fl : Bool) (ns : List Int) (hk : 13 + ns.length ≤ k) (hn : ∀ n ∈ ns, n < 9223372036854775808) (hl : ns.length ≤ 1000) : evF pr k 45 [.sl 1 fl (ns.map (AV.int .i64))] [] = some (.str (ns.flatMap be8), []) := by
  obtain ⟨k, rfl⟩ : ∃ m, k = m + 1 := ⟨k - 1, by omega⟩
  rw [ev_step _ _ _ _ (by kernel_rfl), meight_tree, List.length_map]
  cases ns with
  | nil =>
    obtain ⟨k, rfl⟩ : ∃ m, k = m + 1 := ⟨k - 1, by omega⟩
    rw [loopA_succ]
    exact meight_body0 _ _ fl [] 0 0 _
  | cons n r =>
    obtain ⟨k', hk'⟩ : ∃ m, k = m + 1 := ⟨k - 1, by omega⟩
    have h8 := be8_length n
    have hb : (putV n ((8 : Nat) : Int)).1.length ≤ 8 := h8
    conv => lhs; arg 4; rw [hk']
    rw [loopA_succ]
    refine (meight_body0 _ _ fl ((n :: r).map (AV.int .i64)) ((n :: r).length) 0 _).trans ?_
    simp only [List.length_cons] at hk
    rw [decide_eq_true (show (0 : Int) < ((n :: r).length : Nat) by simp only [List.length_cons]; omega)]
    simp only [cond_true, Int.toNat_zero, List.map_cons, List.getElem?_cons_zero, onOpt, asInt, if_true, show decide ((0 : Int) ≤ 0) = true from rfl]
    rw [show (8 : Int) = ((8 : Nat) : Int) from rfl, e37 k (by omega) _ (hn _ (List.mem_cons_self ..)) 8 (by omega) (by omega)]
    simp only [onRes, asTup, asCons, asStr, asInt, if_true, asNil]
    rw [decide_eq_true (by
      refine ⟨.inr trivial, fitsB_small ?_, ?_⟩ <;> simp only [ofBytes, List.length_map, List.length_nil] <;> omega)]
    simp only [cond_true, List.nil_append]
    exact meight_loop k (by omega) fl (n :: r) hn hl r.length 1 k' _ _ (by simp only [List.length_cons]; omega) (by omega) (by omega) (by kernel_rfl)

/-! line.Right -/
def lrightS (fl d : Bool) (xs : List AV) (e a len i : Int) : St := ⟨53, [(0, AV.sl 2 fl xs), (2, AV.bool false), (3, AV.int IntKind.i64 e), (4, AV.int IntKind.i64 a), (21, AV.bool d), (22, AV.sl 2 fl xs), (23, AV.int IntKind.i64 len), (24, AV.int IntKind.i64 i)], [], [], [], [], []⟩
theorem lright_tree (F : Fns) (N : Nat) (fl : Bool) (xs : List AV) : runOf F 44 N [.sl 2 fl xs] [] =
  bif decide (((List.length xs : Nat) : Int) < 1) then some (AV.bool false, []) else bif decide (((List.length xs : Nat) : Int) > 64) then some (AV.bool false, []) else onOpt xs[Int.toNat 0]? fun x => AM.asAgg x fun cs => asCons cs fun v r => AM.asInt IntKind.i64 v fun n => asCons r fun v r => AM.asInt IntKind.i64 v fun n => asNil r (bif n != 0 then some (AV.bool false, []) else loopA (bodyOf F 44 0 N) (deadOf 44 0) (contOf F 44 0 N 0) N { nt := 53, t := [(0, AV.sl 2 fl xs), (2, AV.bool false), (3, AV.int IntKind.i64 0), (4, AV.int IntKind.i64 0), (21, AV.bool (n != 0)), (22, AV.sl 2 fl xs), (23, AV.int IntKind.i64 ((List.length xs : Nat) : Int)), (24, AV.int IntKind.i64 0)], b := [], r := [], g := [], rd := [], wr := [] }) := by kernel_rfl
theorem lright_body (F : Fns) (N : Nat) (fl d : Bool) (xs : List AV) (e a len i : Int) (KN : St → Res) : bodyOf F 44 0 N (lrightS fl d xs e a len i) (brk (contOf F 44 0 N 0) KN) =
  bif decide (i < len) then bif decide (0 ≤ i) then onOpt xs[Int.toNat i]? fun x => AM.asAgg x fun cs => asCons cs fun v r => AM.asInt IntKind.i64 v fun n => asCons r fun v r => AM.asInt IntKind.i64 v fun n_1 => asNil r (bif decide (n ≤ e) then some (AV.bool false, []) else bif decide (n > 1099511627776) then some (AV.bool false, []) else bif decide (n_1 < a) then some (AV.bool false, []) else bif decide (n_1 > 1099511627776) then some (AV.bool false, []) else KN { nt := 53, t := [(0, AV.sl 2 fl xs), (2, AV.bool false), (3, AV.int IntKind.i64 n), (4, AV.int IntKind.i64 n_1), (6, AV.ptr 6 0 0), (21, AV.bool d), (22, AV.sl 2 fl xs), (23, AV.int IntKind.i64 len), (24, AV.int IntKind.i64 (IntKind.wrap IntKind.i64 (i + 1))), (25, AV.bool (decide (i < len))), (47, AV.bool (decide (n_1 > 1099511627776)))], b := [(6, [AV.int IntKind.i64 n, AV.int IntKind.i64 n_1])], r := [], g := [], rd := [], wr := [] }) else none else some (AV.bool true, []) := by kernel_rfl
theorem lright_loop (F : Fns) (N : Nat) (fl d : Bool) (l : List (Int × Int)) (hl : l.length ≤ 64) : ∀ (dd i m : Nat) (e a : Int) (st : St), i + dd = l.length → dd < m → st.clean (deadOf 44 0) = lrightS fl d (l.map brV) e a l.length i →
    loopA (bodyOf F 44 0 N) (deadOf 44 0) (contOf F 44 0 N 0) m st = some (.bool (chain e a (l.drop i)), []) := by
  intro dd
  induction dd with
  | zero =>
    intro i m e a st hi hm hst
    obtain ⟨m, rfl⟩ : ∃ m', m = m' + 1 := ⟨m - 1, by omega⟩
    have : i = l.length := by omega
    subst this
    rw [loopA_succ, hst, lright_body, decide_eq_false (by omega), List.drop_length]
    rfl
  | succ dd ih =>
    intro i m e a st hi hm hst
    obtain ⟨m, rfl⟩ : ∃ m', m = m' + 1 := ⟨m - 1, by omega⟩
    have hlt : i < l.length := by omega
    rw [loopA_succ, hst, lright_body, decide_eq_true (show (i : Int) < l.length by omega), decide_eq_true (show (0 : Int) ≤ i by omega), getBr l i hlt, List.drop_eq_getElem_cons hlt, chain]
    simp only [cond_true, onOpt, asAgg, asCons, asInt, if_true, asNil]
    rw [wrap_small (n := (i : Int) + 1) (by omega) (by omega)]
    by_cases hc : e < (l[i]).1 ∧ (l[i]).1 ≤ 1099511627776 ∧ a ≤ (l[i]).2 ∧ (l[i]).2 ≤ 1099511627776
    · rw [decide_eq_true hc, decide_eq_false (show ¬ (l[i]).1 ≤ e by omega), decide_eq_false (show ¬ (l[i]).1 > 1099511627776 by omega), decide_eq_false (show ¬ (l[i]).2 < a by omega), decide_eq_false (show ¬ (l[i]).2 > 1099511627776 by omega)]
      simp only [cond_false, Bool.true_and]
      exact ih (i + 1) m _ _ _ (by omega) (by omega) (by kernel_rfl)
    · rw [decide_eq_false hc, Bool.false_and]
      by_cases h1 : (l[i]).1 ≤ e
      · rw [decide_eq_true h1]; rfl
      by_cases h2 : (l[i]).1 > 1099511627776
      · rw [decide_eq_false h1, decide_eq_true h2]; rfl
      by_cases h3 : (l[i]).2 < a
      · rw [decide_eq_false h1, decide_eq_false h2, decide_eq_true h3]; rfl
      by_cases h4 : (l[i]).2 > 1099511627776
      · rw [decide_eq_false h1, decide_eq_false h2, decide_eq_false h3, decide_eq_true h4]; rfl
      exact absurd (by omega) hc
theorem e44 (k : Nat) (hk : 66 ≤ k) (fl : Bool) (l : List (Int × Int)) : evF pr k 44 [.sl 2 fl (l.map brV)] [] = some (.bool (lineOk l), []) := by
  obtain ⟨k, rfl⟩ : ∃ m, k = m + 1 := ⟨k - 1, by omega⟩
  rw [ev_step _ _ _ _ (by kernel_rfl), lright_tree, List.length_map]
  cases l with
  | nil => rfl
  | cons b r =>
    rw [decide_eq_false (show ¬ (((b :: r).length : Nat) : Int) < 1 by simp only [List.length_cons]; omega), lineOk]
    simp only [cond_false]
    by_cases h : (b :: r).length ≤ 64
    · rw [decide_eq_false (show ¬ (((b :: r).length : Nat) : Int) > 64 by omega), decide_eq_true h]
      simp only [cond_false, Int.toNat_zero, List.map_cons, List.getElem?_cons_zero, onOpt, brV, asAgg, asCons, asInt, if_true, asNil, Bool.true_and]
      by_cases h0 : b.2 = 0
      · rw [show (b.2 != 0) = false by simp [h0], decide_eq_true h0]
        simp only [cond_false, Bool.true_and]
        exact lright_loop (evF pr k) k fl false (b :: r) h (b :: r).length 0 k 0 0 _ (Nat.zero_add _) (by omega) (by kernel_rfl)
      · rw [show (b.2 != 0) = true by simp [h0], decide_eq_false h0]
        rfl
    · rw [decide_eq_true (show (((b :: r).length : Nat) : Int) > 64 by omega), decide_eq_false h]
      rfl

/-! ref11.Right -/
def rrightS (fl d : Bool) (xs : List AV) (i : Int) : St := ⟨88, [(0, AV.sl 2 fl xs), (2, AV.bool false), (3, AV.int IntKind.i64 i), (11, AV.bool d)], [], [], [], [], []⟩
theorem rright_tree (F : Fns) (N : Nat) (fl : Bool) (xs : List AV) : runOf F 46 N [.sl 2 fl xs] [] =
  bif ((List.length xs : Nat) : Int) == 0 then some (AV.bool false, []) else bif decide (((List.length xs : Nat) : Int) > 64) then some (AV.bool false, []) else loopA (bodyOf F 46 0 N) (deadOf 46 0) (contOf F 46 0 N 0) N { nt := 88, t := [(0, AV.sl 2 fl xs), (2, AV.bool false), (3, AV.int IntKind.i64 0), (11, AV.bool (decide (((List.length xs : Nat) : Int) > 64)))], b := [], r := [], g := [], rd := [], wr := [] } := by kernel_rfl
theorem rright_body (F : Fns) (N : Nat) (fl d : Bool) (xs : List AV) (i : Int) (KN : St → Res) : bodyOf F 46 0 N (rrightS fl d xs i) (brk (contOf F 46 0 N 0) KN) =
  bif decide (i < ((List.length xs : Nat) : Int)) then bif decide (0 ≤ i) then onOpt xs[Int.toNat i]? fun x => AM.asAgg x fun cs => asCons cs fun v r => AM.asInt IntKind.i64 v fun n => asCons r fun v r => AM.asInt IntKind.i64 v fun n_1 => asNil r (bif decide (n < 1) then some (AV.bool false, []) else bif decide (0 ≤ i) then onOpt xs[Int.toNat i]? fun x => AM.asAgg x fun cs => asCons cs fun v r => AM.asInt IntKind.i64 v fun n => asCons r fun v r => AM.asInt IntKind.i64 v fun n_2 => asNil r (bif decide (n > 1099511627776) then some (AV.bool false, []) else bif decide (0 ≤ i) then onOpt xs[Int.toNat i]? fun x => AM.asAgg x fun cs => asCons cs fun v r => AM.asInt IntKind.i64 v fun n => asCons r fun v r => AM.asInt IntKind.i64 v fun n => asNil r (bif decide (n < 0) then some (AV.bool false, []) else bif decide (0 ≤ i) then onOpt xs[Int.toNat i]? fun x => AM.asAgg x fun cs => asCons cs fun v r => AM.asInt IntKind.i64 v fun n => asCons r fun v r => AM.asInt IntKind.i64 v fun n => asNil r (bif decide (n > 1099511627776) then some (AV.bool false, []) else bif i == 0 then bif decide (0 ≤ i) then onOpt xs[Int.toNat i]? fun x => AM.asAgg x fun cs => asCons cs fun v r => AM.asInt IntKind.i64 v fun n_3 => asCons r fun v r => AM.asInt IntKind.i64 v fun n_4 => asNil r (bif n_4 != 0 then some (AV.bool false, []) else bif decide (i > 0) then bif decide (0 ≤ i) then onOpt xs[Int.toNat i]? fun x => AM.asAgg x fun cs => asCons cs fun v r => AM.asInt IntKind.i64 v fun n_5 => asCons r fun v r => AM.asInt IntKind.i64 v fun n_6 => asNil r (bif decide (0 ≤ IntKind.wrap IntKind.i64 (i - 1)) then onOpt xs[Int.toNat (IntKind.wrap IntKind.i64 (i - 1))]? fun x => AM.asAgg x fun cs => asCons cs fun v r => AM.asInt IntKind.i64 v fun n_7 => asCons r fun v r => AM.asInt IntKind.i64 v fun n_8 => asNil r (bif decide (n_5 ≤ n_7) then some (AV.bool false, []) else bif decide (0 ≤ i) then onOpt xs[Int.toNat i]? fun x => AM.asAgg x fun cs => asCons cs fun v r => AM.asInt IntKind.i64 v fun n_9 => asCons r fun v r => AM.asInt IntKind.i64 v fun n_10 => asNil r (bif decide (0 ≤ IntKind.wrap IntKind.i64 (i - 1)) then onOpt xs[Int.toNat (IntKind.wrap IntKind.i64 (i - 1))]? fun x => AM.asAgg x fun cs => asCons cs fun v r => AM.asInt IntKind.i64 v fun n_11 => asCons r fun v r => AM.asInt IntKind.i64 v fun n_12 => asNil r (bif decide (n_10 < n_12) then some (AV.bool false, []) else KN { nt := 88, t := [(0, AV.sl 2 fl xs), (2, AV.bool false), (3, AV.int IntKind.i64 (IntKind.wrap IntKind.i64 (i + 1))), (11, AV.bool d), (15, AV.bool (decide (i < ((List.length xs : Nat) : Int)))), (47, AV.bool (decide (n > 1099511627776))), (57, AV.bool (n_4 != 0)), (87, AV.bool (decide (n_10 < n_12)))], b := [], r := [], g := [], rd := [], wr := [] }) else none) else none) else none) else none else KN { nt := 88, t := [(0, AV.sl 2 fl xs), (2, AV.bool false), (3, AV.int IntKind.i64 (IntKind.wrap IntKind.i64 (i + 1))), (11, AV.bool d), (15, AV.bool (decide (i < ((List.length xs : Nat) : Int)))), (47, AV.bool (decide (n > 1099511627776))), (57, AV.bool (n_4 != 0)), (87, AV.bool false)], b := [], r := [], g := [], rd := [], wr := [] }) else none else bif decide (i > 0) then bif decide (0 ≤ i) then onOpt xs[Int.toNat i]? fun x => AM.asAgg x fun cs => asCons cs fun v r => AM.asInt IntKind.i64 v fun n_3 => asCons r fun v r => AM.asInt IntKind.i64 v fun n_4 => asNil r (bif decide (0 ≤ IntKind.wrap IntKind.i64 (i - 1)) then onOpt xs[Int.toNat (IntKind.wrap IntKind.i64 (i - 1))]? fun x => AM.asAgg x fun cs => asCons cs fun v r => AM.asInt IntKind.i64 v fun n_5 => asCons r fun v r => AM.asInt IntKind.i64 v fun n_6 => asNil r (bif decide (n_3 ≤ n_5) then some (AV.bool false, []) else bif decide (0 ≤ i) then onOpt xs[Int.toNat i]? fun x => AM.asAgg x fun cs => asCons cs fun v r => AM.asInt IntKind.i64 v fun n_7 => asCons r fun v r => AM.asInt IntKind.i64 v fun n_8 => asNil r (bif decide (0 ≤ IntKind.wrap IntKind.i64 (i - 1)) then onOpt xs[Int.toNat (IntKind.wrap IntKind.i64 (i - 1))]? fun x => AM.asAgg x fun cs => asCons cs fun v r => AM.asInt IntKind.i64 v fun n_9 => asCons r fun v r => AM.asInt IntKind.i64 v fun n_10 => asNil r (bif decide (n_8 < n_10) then some (AV.bool false, []) else KN { nt := 88, t := [(0, AV.sl 2 fl xs), (2, AV.bool false), (3, AV.int IntKind.i64 (IntKind.wrap IntKind.i64 (i + 1))), (11, AV.bool d), (15, AV.bool (decide (i < ((List.length xs : Nat) : Int)))), (47, AV.bool (decide (n > 1099511627776))), (57, AV.bool false), (87, AV.bool (decide (n_8 < n_10)))], b := [], r := [], g := [], rd := [], wr := [] }) else none) else none) else none) else none else KN { nt := 88, t := [(0, AV.sl 2 fl xs), (2, AV.bool false), (3, AV.int IntKind.i64 (IntKind.wrap IntKind.i64 (i + 1))), (11, AV.bool d), (15, AV.bool (decide (i < ((List.length xs : Nat) : Int)))), (47, AV.bool (decide (n > 1099511627776))), (57, AV.bool false), (87, AV.bool false)], b := [], r := [], g := [], rd := [], wr := [] }) else none) else none) else none) else none else some (AV.bool true, []) := by kernel_rfl
theorem rright_loop (F : Fns) (N : Nat) (fl d : Bool) (l : List (Int × Int)) (hl : l.length ≤ 64) : ∀ (dd i m : Nat) (e a : Int) (st : St), i + 1 + dd = l.length → dd < m → (∀ h : i < l.length, l[i] = (e, a)) → 1 ≤ e → 0 ≤ a → st.clean (deadOf 46 0) = rrightS fl d (l.map brV) ((i + 1 : Nat) : Int) →
    loopA (bodyOf F 46 0 N) (deadOf 46 0) (contOf F 46 0 N 0) m st = some (.bool (chain e a (l.drop (i + 1))), []) := by
  intro dd
  induction dd with
  | zero =>
    intro i m e a st hi hm hp he ha hst
    obtain ⟨m, rfl⟩ : ∃ m', m = m' + 1 := ⟨m - 1, by omega⟩
    have : i + 1 = l.length := by omega
    rw [loopA_succ, hst, rright_body, List.length_map, decide_eq_false (by omega), this, List.drop_length]
    rfl
  | succ dd ih =>
    intro i m e a st hi hm hp he ha hst
    obtain ⟨m, rfl⟩ : ∃ m', m = m' + 1 := ⟨m - 1, by omega⟩
    have hlt : i + 1 < l.length := by omega
    have hb0 := getBr l i (by omega)
    rw [hp (by omega)] at hb0
    rw [loopA_succ, hst, rright_body, List.length_map, decide_eq_true (show (((i + 1 : Nat)) : Int) < l.length by omega), decide_eq_true (show (0 : Int) ≤ (i + 1 : Nat) by omega), getBr l (i + 1) hlt, List.drop_eq_getElem_cons hlt, chain]
    have hw : IntKind.wrap IntKind.i64 (((i + 1 : Nat) : Int) - 1) = (i : Int) := by rw [wrap_small (by omega) (by omega)]; omega
    rw [hw, hb0, decide_eq_true (show (0 : Int) ≤ i by omega), decide_eq_true (show (((i + 1 : Nat)) : Int) > 0 by omega), show ((((i + 1 : Nat)) : Int) == 0) = false by simp only [beq_eq_false_iff_ne, ne_eq]; omega]
    simp only [cond_true, cond_false, onOpt, asAgg, asCons, asInt, if_true, asNil]
    rw [show IntKind.wrap IntKind.i64 (((i + 1 : Nat) : Int) + 1) = ((i + 1 + 1 : Nat) : Int) by rw [wrap_small (by omega) (by omega)]; omega]
    generalize hx : l[i + 1] = b
    obtain ⟨x, y⟩ := b
    simp only
    by_cases hc : e < x ∧ x ≤ 1099511627776 ∧ a ≤ y ∧ y ≤ 1099511627776
    · rw [decide_eq_true hc, decide_eq_false (show ¬ x < 1 by omega), decide_eq_false (show ¬ x > 1099511627776 by omega), decide_eq_false (show ¬ y < 0 by omega), decide_eq_false (show ¬ y > 1099511627776 by omega), decide_eq_false (show ¬ x ≤ e by omega), decide_eq_false (show ¬ y < a by omega)]
      simp only [cond_false, Bool.true_and]
      exact ih (i + 1) m x y _ (by omega) (by omega) (fun _ => hx) (by omega) (by omega) (by kernel_rfl)
    · rw [decide_eq_false hc, Bool.false_and]
      by_cases h1 : x < 1
      · rw [decide_eq_true h1]; rfl
      by_cases h2 : x > 1099511627776
      · rw [decide_eq_false h1, decide_eq_true h2]; rfl
      by_cases h3 : y < 0
      · rw [decide_eq_false h1, decide_eq_false h2, decide_eq_true h3]; rfl
      by_cases h4 : y > 1099511627776
      · rw [decide_eq_false h1, decide_eq_false h2, decide_eq_false h3, decide_eq_true h4]; rfl
      by_cases h5 : x ≤ e
      · rw [decide_eq_false h1, decide_eq_false h2, decide_eq_false h3, decide_eq_false h4, decide_eq_true h5]; rfl
      by_cases h6 : y < a
      · rw [decide_eq_false h1, decide_eq_false h2, decide_eq_false h3, decide_eq_false h4, decide_eq_false h5, decide_eq_true h6]; rfl
      exact absurd (by omega) hc
theorem e46 (k : Nat) (hk : 67 ≤ k) (fl : Bool) (l : List (Int × Int)) : evF pr k 46 [.sl 2 fl (l.map brV)] [] = some (.bool (lineOk l), []) := by
  obtain ⟨k, rfl⟩ : ∃ m, k = m + 1 := ⟨k - 1, by omega⟩
  rw [ev_step _ _ _ _ (by kernel_rfl), rright_tree, List.length_map]
  cases l with
  | nil => rfl
  | cons b r =>
    rw [show ((((b :: r).length : Nat) : Int) == 0) = false by simp only [beq_eq_false_iff_ne, ne_eq, List.length_cons]; omega, lineOk]
    simp only [cond_false]
    by_cases h : (b :: r).length ≤ 64
    · rw [decide_eq_false (show ¬ (((b :: r).length : Nat) : Int) > 64 by omega), decide_eq_true h]
      simp only [cond_false, Bool.true_and]
      obtain ⟨k', hk'⟩ : ∃ m, k = m + 1 := ⟨k - 1, by omega⟩
      conv => lhs; arg 4; rw [hk']
      rw [loopA_succ]
      refine (rright_body _ _ fl false ((b :: r).map brV) 0 _).trans ?_
      rw [List.length_map, decide_eq_true (show (0 : Int) < (((b :: r).length : Nat) : Int) by simp only [List.length_cons]; omega)]
      obtain ⟨x, y⟩ := b
      simp only [cond_true, cond_false, Int.toNat_zero, List.map_cons, List.getElem?_cons_zero, onOpt, brV, asAgg, asCons, asInt, if_true, asNil, Bool.true_and, show decide ((0 : Int) ≤ 0) = true from rfl, show decide ((0 : Int) > 0) = false from rfl, show ((0 : Int) == 0) = true from rfl, chain]
      by_cases h0 : y = 0
      · subst h0
        by_cases hc : 0 < x ∧ x ≤ 1099511627776 ∧ (0 : Int) ≤ 0 ∧ (0 : Int) ≤ 1099511627776
        · rw [decide_eq_true hc, decide_eq_false (show ¬ x < 1 by omega), decide_eq_false (show ¬ x > 1099511627776 by omega)]
          simp only [cond_false, Bool.true_and, show decide ((0 : Int) < 0) = false from rfl, show decide ((0 : Int) > 1099511627776) = false from rfl, show ((0 : Int) != 0) = false from rfl, show decide ((0 : Int) = 0) = true from rfl]
          exact rright_loop (evF pr k) k fl false ((x, 0) :: r) h r.length 0 k' x 0 _ (by simp only [List.length_cons]; omega) (by simp only [List.length_cons] at h; omega) (fun _ => rfl) (by omega) (by omega) (by kernel_rfl)
        · rw [decide_eq_false hc]
          by_cases h1 : x < 1
          · rw [decide_eq_true h1]; rfl
          rw [decide_eq_false h1, decide_eq_true (show x > 1099511627776 by omega)]
          rfl
      · rw [decide_eq_false h0, Bool.false_and]
        by_cases h1 : x < 1
        · rw [decide_eq_true h1]; rfl
        by_cases h2 : x > 1099511627776
        · rw [decide_eq_false h1, decide_eq_true h2]; rfl
        by_cases h3 : y < 0
        · rw [decide_eq_false h1, decide_eq_false h2, decide_eq_true h3]; rfl
        by_cases h4 : y > 1099511627776
        · rw [decide_eq_false h1, decide_eq_false h2, decide_eq_false h3, decide_eq_true h4]; rfl
        rw [decide_eq_false h1, decide_eq_false h2, decide_eq_false h3, decide_eq_false h4, show (y != 0) = true by simp [h0]]
        rfl
    · rw [decide_eq_true (show (((b :: r).length : Nat) : Int) > 64 by omega), decide_eq_false h]
      rfl
/-- May it be written? -/
def lined (l : List (Int × Int)) : Bool := l.isEmpty || lineOk l
theorem lined_tree (F : Fns) (N : Nat) (fl : Bool) (xs : List AV) : runOf F 18 N [.sl 2 fl xs] [] =
  bif ((List.length xs : Nat) : Int) == 0 then some (AV.bool true, []) else onRes (F 46 [AV.sl 2 fl xs] []) fun v bs => AM.asBool v fun b => asNil bs (some (AV.bool b, [])) := by kernel_rfl
theorem e18 (k : Nat) (hk : 68 ≤ k) (fl : Bool) (l : List (Int × Int)) : evF pr k 18 [.sl 2 fl (l.map brV)] [] = some (.bool (lined l), []) := by
  obtain ⟨k, rfl⟩ : ∃ m, k = m + 1 := ⟨k - 1, by omega⟩
  rw [ev_step _ _ _ _ (by kernel_rfl), lined_tree, List.length_map, e46 k (by omega)]
  cases l with
  | nil => rfl
  | cons b r =>
    rw [show ((((b :: r).length : Nat) : Int) == 0) = false by simp only [beq_eq_false_iff_ne, ne_eq, List.length_cons]; omega]
    rfl
theorem lined_tree0 (F : Fns) (N : Nat) : runOf F 18 N [.sl 0 true []] [] =
  some (AV.bool true, []) := by kernel_rfl
theorem e18nil (k : Nat) (hk : 68 ≤ k) : evF pr k 18 [.sl 0 true []] [] = some (.bool true, []) := by
  obtain ⟨k, rfl⟩ : ∃ m, k = m + 1 := ⟨k - 1, by omega⟩
  rw [ev_step _ _ _ _ (by kernel_rfl), lined_tree0]

end Go.AM.Ytnhfjkckgicidaa
