/- Lines: PutLine, TakeLine, Equal: what they answer, plain. -/
import Derived.Test.YtnhfjkckgicidaaAmN4
set_option linter.unusedVariables false
set_option linter.unusedSimpArgs false
namespace Go.AM.Ytnhfjkckgicidaa
open Go.AM Go.Proofs Go

def brB (b : Int × Int) : List UInt8 := be8 b.1 ++ be8 b.2
/-- A line as bytes. -/
def putL (l : List (Int × Int)) : List UInt8 := UInt8.ofNat l.length :: l.flatMap brB
def Sm (l : List (Int × Int)) : Prop := ∀ b ∈ l, b.1 < 9223372036854775808 ∧ b.2 < 9223372036854775808
theorem brB_length (b : Int × Int) : (brB b).length ≤ 16 := by
  have h1 := be8_length b.1
  have h2 := be8_length b.2
  unfold brB
  rw [List.length_append]
  omega

/-! msg.PutLine -/
def putlS (fl d : Bool) (xs : List AV) (s : List UInt8) (len i : Int) : St := ⟨36, [(0, AV.sl 2 fl xs), (2, AV.str []), (3, AV.int IntKind.i64 0), (4, AV.str s), (14, AV.bool d), (20, AV.sl 2 fl xs), (21, AV.int IntKind.i64 len), (22, AV.int IntKind.i64 i)], [], [], [], [], []⟩
theorem putl_tree (F : Fns) (N : Nat) (fl : Bool) (xs : List AV) : runOf F 17 N [.sl 2 fl xs] [] =
  bif decide (((List.length xs : Nat) : Int) > 0) then onRes (F 44 [AV.sl 2 fl xs] []) fun v bs => AM.asBool v fun b => asNil bs (bif !b then some (AV.tup [AV.str [], AV.int IntKind.i64 1], []) else loopA (bodyOf F 17 0 N) (deadOf 17 0) (contOf F 17 0 N 0) N { nt := 36, t := [(0, AV.sl 2 fl xs), (2, AV.str []), (3, AV.int IntKind.i64 0), (4, AV.str [UInt8.ofNat (Int.toNat (IntKind.wrap IntKind.u8 ((List.length xs : Nat) : Int)))]), (14, AV.bool !b), (20, AV.sl 2 fl xs), (21, AV.int IntKind.i64 ((List.length xs : Nat) : Int)), (22, AV.int IntKind.i64 0)], b := [], r := [], g := [], rd := [], wr := [] }) else loopA (bodyOf F 17 0 N) (deadOf 17 0) (contOf F 17 0 N 0) N { nt := 36, t := [(0, AV.sl 2 fl xs), (2, AV.str []), (3, AV.int IntKind.i64 0), (4, AV.str [UInt8.ofNat (Int.toNat (IntKind.wrap IntKind.u8 ((List.length xs : Nat) : Int)))]), (14, AV.bool false), (20, AV.sl 2 fl xs), (21, AV.int IntKind.i64 ((List.length xs : Nat) : Int)), (22, AV.int IntKind.i64 0)], b := [], r := [], g := [], rd := [], wr := [] } := by kernel_rfl
theorem putl_body (F : Fns) (N : Nat) (fl d : Bool) (xs : List AV) (s : List UInt8) (len i : Int) (KN : St → Res) : bodyOf F 17 0 N (putlS fl d xs s len i) (brk (contOf F 17 0 N 0) KN) =
  bif decide (i < len) then bif decide (0 ≤ i) then onOpt xs[Int.toNat i]? fun x => AM.asAgg x fun cs => asCons cs fun v r => AM.asInt IntKind.i64 v fun n => asCons r fun v r => AM.asInt IntKind.i64 v fun n_1 => asNil r (onRes (F 45 [AV.sl 1 true [AV.int IntKind.i64 n, AV.int IntKind.i64 n_1]] []) fun v bs => asStr v fun s_1 => asNil bs (bif decide (List.length s + List.length s_1 ≤ 4611686018427387904) then KN { nt := 36, t := [(0, AV.sl 2 fl xs), (2, AV.str []), (3, AV.int IntKind.i64 0), (4, AV.str (s ++ s_1)), (6, AV.ptr 6 0 0), (14, AV.bool d), (20, AV.sl 2 fl xs), (21, AV.int IntKind.i64 len), (22, AV.int IntKind.i64 (IntKind.wrap IntKind.i64 (i + 1))), (23, AV.bool (decide (i < len)))], b := [(6, [AV.int IntKind.i64 n, AV.int IntKind.i64 n_1])], r := [], g := [], rd := [], wr := [] } else none)) else none else some (AV.tup [AV.str s, AV.int IntKind.i64 0], []) := by kernel_rfl
theorem putl_loop (k : Nat) (hk : 16 ≤ k) (fl d : Bool) (l : List (Int × Int)) (hs : Sm l) (hl : l.length ≤ 1000) : ∀ (dd i m : Nat) (acc : List UInt8) (st : St), i + dd = l.length → dd < m → acc.length ≤ 16 * i + 16 → st.clean (deadOf 17 0) = putlS fl d (l.map brV) acc l.length i →
    loopA (bodyOf (evF pr k) 17 0 k) (deadOf 17 0) (contOf (evF pr k) 17 0 k 0) m st = some (.tup [.str (acc ++ (l.drop i).flatMap brB), .int .i64 0], []) := by
  intro dd
  induction dd with
  | zero =>
    intro i m acc st hi hm ha hst
    obtain ⟨m, rfl⟩ : ∃ m', m = m' + 1 := ⟨m - 1, by omega⟩
    have : i = l.length := by omega
    subst this
    rw [loopA_succ, hst, putl_body, decide_eq_false (by omega), List.drop_length]
    simp
  | succ dd ih =>
    intro i m acc st hi hm ha hst
    obtain ⟨m, rfl⟩ : ∃ m', m = m' + 1 := ⟨m - 1, by omega⟩
    have hlt : i < l.length := by omega
    have hb := brB_length l[i]
    have hsm := hs _ (List.getElem_mem hlt)
    rw [loopA_succ, hst, putl_body, decide_eq_true (show (i : Int) < l.length by omega), decide_eq_true (show (0 : Int) ≤ i by omega), getBr l i hlt]
    simp only [cond_true, onOpt, asAgg, asCons, asInt, if_true, asNil]
    have h45 := e45 k true [(l[i]).1, (l[i]).2] (by simp only [List.length_cons, List.length_nil]; omega) (by intro n hn; simp at hn; rcases hn with rfl | rfl; exact hsm.1; exact hsm.2) (by simp)
    simp only [List.map_cons, List.map_nil, List.flatMap_cons, List.flatMap_nil, List.append_nil] at h45
    rw [h45]
    simp only [onRes, asStr, asNil]
    have hb' : (be8 (l[i]).1 ++ be8 (l[i]).2).length ≤ 16 := hb
    rw [decide_eq_true (show acc.length + (be8 (l[i]).1 ++ be8 (l[i]).2).length ≤ 4611686018427387904 by omega)]
    simp only [cond_true]
    rw [wrap_small (n := (i : Int) + 1) (by omega) (by omega), List.drop_eq_getElem_cons hlt, List.flatMap_cons, show acc ++ (brB l[i] ++ (l.drop (i + 1)).flatMap brB) = (acc ++ brB l[i]) ++ (l.drop (i + 1)).flatMap brB from (List.append_assoc ..).symm]
    exact ih (i + 1) m (acc ++ brB l[i]) _ (by omega) (by omega) (by rw [List.length_append]; omega) (by kernel_rfl)
theorem e17 (k : Nat) (fl : Bool) (l : List (Int × Int)) (hk : 70 + l.length ≤ k) (hs : Sm l) (hl : l.length ≤ 1000) : evF pr k 17 [.sl 2 fl (l.map brV)] [] = some (if lined l then .tup [.str (putL l), .int .i64 0] else .tup [.str [], .int .i64 1], []) := by
  obtain ⟨k, rfl⟩ : ∃ m, k = m + 1 := ⟨k - 1, by omega⟩
  rw [ev_step _ _ _ _ (by kernel_rfl), putl_tree, List.length_map, byte_wrap, e44 k (by omega)]
  cases l with
  | nil => exact putl_loop k (by omega) fl false [] hs (by simp) 0 0 k [UInt8.ofNat 0] _ rfl (by omega) (by simp) (by kernel_rfl)
  | cons b r =>
    rw [decide_eq_true (show (((b :: r).length : Nat) : Int) > 0 by simp only [List.length_cons]; omega)]
    simp only [cond_true, onRes, asBool, asNil]
    have hd : lined (b :: r) = lineOk (b :: r) := rfl
    rw [hd]
    cases hok : lineOk (b :: r) with
    | false => rfl
    | true =>
      simp only [Bool.not_true, cond_false, if_true]
      exact putl_loop k (by omega) fl false (b :: r) hs hl (b :: r).length 0 k [UInt8.ofNat (b :: r).length] _ (Nat.zero_add _) (by omega) (by simp) (by kernel_rfl)

/-! ref17.PutLine -/
def rputlS (fl : Bool) (xs : List AV) (s : List UInt8) (i : Int) : St := ⟨30, [(0, AV.sl 2 fl xs), (2, AV.str []), (3, AV.str s), (4, AV.int IntKind.i64 i)], [], [], [], [], []⟩
theorem rputl_tree (F : Fns) (N : Nat) (fl : Bool) (xs : List AV) : runOf F 19 N [.sl 2 fl xs] [] =
  onRes (F 41 [AV.int IntKind.i64 ((List.length xs : Nat) : Int)] []) fun v bs => asStr v fun s => asNil bs (loopA (bodyOf F 19 0 N) (deadOf 19 0) (contOf F 19 0 N 0) N { nt := 30, t := [(0, AV.sl 2 fl xs), (2, AV.str []), (3, AV.str s), (4, AV.int IntKind.i64 0)], b := [], r := [], g := [], rd := [], wr := [] }) := by kernel_rfl
theorem rputl_body (F : Fns) (N : Nat) (fl : Bool) (xs : List AV) (s : List UInt8) (i : Int) (KN : St → Res) : bodyOf F 19 0 N (rputlS fl xs s i) (brk (contOf F 19 0 N 0) KN) =
  bif decide (i < ((List.length xs : Nat) : Int)) then bif decide (0 ≤ i) then onOpt xs[Int.toNat i]? fun x => AM.asAgg x fun cs => asCons cs fun v r => AM.asInt IntKind.i64 v fun n => asCons r fun v r => AM.asInt IntKind.i64 v fun n_1 => asNil r (onRes (F 47 [AV.int IntKind.i64 n] []) fun v bs => asStr v fun s_1 => asNil bs (bif decide (List.length s + List.length s_1 ≤ 4611686018427387904) then bif decide (0 ≤ i) then onOpt xs[Int.toNat i]? fun x => AM.asAgg x fun cs => asCons cs fun v r => AM.asInt IntKind.i64 v fun n => asCons r fun v r => AM.asInt IntKind.i64 v fun n => asNil r (onRes (F 47 [AV.int IntKind.i64 n] []) fun v bs => asStr v fun s_2 => asNil bs (bif decide (List.length (s ++ s_1) + List.length s_2 ≤ 4611686018427387904) then KN { nt := 30, t := [(0, AV.sl 2 fl xs), (2, AV.str []), (3, AV.str (s ++ s_1 ++ s_2)), (4, AV.int IntKind.i64 (IntKind.wrap IntKind.i64 (i + 1))), (11, AV.bool (decide (i < ((List.length xs : Nat) : Int))))], b := [], r := [], g := [], rd := [], wr := [] } else none)) else none else none)) else none else some (AV.str s, []) := by kernel_rfl
theorem rputl_loop (k : Nat) (hk : 16 ≤ k) (fl : Bool) (l : List (Int × Int)) (hs : Sm l) (hl : l.length ≤ 1000) : ∀ (dd i m : Nat) (acc : List UInt8) (st : St), i + dd = l.length → dd < m → acc.length ≤ 16 * i + 16 → st.clean (deadOf 19 0) = rputlS fl (l.map brV) acc i →
    loopA (bodyOf (evF pr k) 19 0 k) (deadOf 19 0) (contOf (evF pr k) 19 0 k 0) m st = some (.str (acc ++ (l.drop i).flatMap brB), []) := by
  intro dd
  induction dd with
  | zero =>
    intro i m acc st hi hm ha hst
    obtain ⟨m, rfl⟩ : ∃ m', m = m' + 1 := ⟨m - 1, by omega⟩
    have : i = l.length := by omega
    subst this
    rw [loopA_succ, hst, rputl_body, List.length_map, decide_eq_false (by omega), List.drop_length]
    simp
  | succ dd ih =>
    intro i m acc st hi hm ha hst
    obtain ⟨m, rfl⟩ : ∃ m', m = m' + 1 := ⟨m - 1, by omega⟩
    have hlt : i < l.length := by omega
    have hsm := hs _ (List.getElem_mem hlt)
    have h1 := be8_length (l[i]).1
    have h2 := be8_length (l[i]).2
    rw [loopA_succ, hst, rputl_body, List.length_map, decide_eq_true (show (i : Int) < l.length by omega), decide_eq_true (show (0 : Int) ≤ i by omega), getBr l i hlt]
    simp only [cond_true, onOpt, asAgg, asCons, asInt, if_true, asNil]
    rw [e47 k (by omega) _ hsm.1, e47 k (by omega) _ hsm.2, show putV (l[i]).1 8 = (be8 (l[i]).1, (putV (l[i]).1 8).2) from rfl, show putV (l[i]).2 8 = (be8 (l[i]).2, (putV (l[i]).2 8).2) from rfl]
    simp only [onRes, asStr, asNil]
    rw [decide_eq_true (show acc.length + (be8 (l[i]).1).length ≤ 4611686018427387904 by omega), decide_eq_true (show (acc ++ be8 (l[i]).1).length + (be8 (l[i]).2).length ≤ 4611686018427387904 by rw [List.length_append]; omega)]
    simp only [cond_true]
    rw [wrap_small (n := (i : Int) + 1) (by omega) (by omega), List.drop_eq_getElem_cons hlt, List.flatMap_cons, brB, ← List.append_assoc, ← List.append_assoc]
    exact ih (i + 1) m _ _ (by omega) (by omega) (by rw [List.length_append, List.length_append]; omega) (by kernel_rfl)
theorem e19 (k : Nat) (fl : Bool) (l : List (Int × Int)) (hk : 20 + l.length ≤ k) (hs : Sm l) (hl : l.length ≤ 1000) : evF pr k 19 [.sl 2 fl (l.map brV)] [] = some (.str (putL l), []) := by
  obtain ⟨k, rfl⟩ : ∃ m, k = m + 1 := ⟨k - 1, by omega⟩
  rw [ev_step _ _ _ _ (by kernel_rfl), rputl_tree, List.length_map, e41 k (by omega)]
  simp only [onRes, asStr, asNil]
  exact rputl_loop k (by omega) fl l hs hl l.length 0 k [UInt8.ofNat l.length] _ (Nat.zero_add _) (by omega) (by simp) (by kernel_rfl)

/-! taking -/
/-- A number at the beginning, and the rest. -/
def num (w : Nat) (s : List UInt8) : Option (Nat × List UInt8) := if numE w s = 0 then some (numN w s, s.drop w) else none
/-- Branches at the beginning, and the rest. -/
def brs : Nat → List UInt8 → Option (List (Int × Int) × List UInt8)
  | 0, s => some ([], s)
  | n + 1, s => match num 8 s with
    | none => none
    | some (e, s1) => match num 8 s1 with
      | none => none
      | some (a, s2) => match brs n s2 with
        | none => none
        | some (l, s3) => some (((e : Int), (a : Int)) :: l, s3)
/-- A line at the beginning, and the rest. -/
def takeL (s : List UInt8) : Option (List (Int × Int) × List UInt8) := match num 1 s with
  | none => none
  | some (n, s1) => match brs n s1 with
    | none => none
    | some (l, s2) => if lined l then some (l, s2) else none
/-- A list that was grown out of nothing. -/
def slB (l : List (Int × Int)) : AV := if l = [] then .sl 0 true [] else .sl 2 false (l.map brV)
/-- A reader that is bad, something beside it. -/
def Bad (r : Res) : Prop := ∃ m fl xs s, r = some (.sl m fl xs, [[.str s, .bool true]])

theorem num_lt {w : Nat} {s : List UInt8} {n : Nat} {t : List UInt8} (h : num w s = some (n, t)) : n < 256 ^ w ∧ n < 9223372036854775808 := by
  unfold num at h
  split at h
  · rename_i h0
    simp only [Option.some.injEq, Prod.mk.injEq] at h
    rw [← h.1]
    have hl := unbe_lt (s.take w) 0
    unfold numN
    rw [if_pos h0]
    unfold numE at h0
    split at h0
    · simp at h0
    · split at h0
      · simp at h0
      · rename_i hw hu
        rw [List.length_take, Nat.min_eq_left (by omega)] at hl
        omega
  · simp at h
theorem rd_some {w : Nat} {s : List UInt8} {n : Nat} {t : List UInt8} (h : num w s = some (n, t)) : rdB w s false = false ∧ rdN w s false = n ∧ rdS w s false = t := by
  unfold num at h
  split at h
  · rename_i h0
    simp only [Option.some.injEq, Prod.mk.injEq] at h
    have : rdB w s false = false := by simp [rdB, h0]
    exact ⟨this, by simp [rdN, this, h.1], by simp [rdS, this, h.2]⟩
  · simp at h
theorem rd_none {w : Nat} {s : List UInt8} (h : num w s = none) : rdB w s false = true := by
  unfold num at h
  split at h
  · simp at h
  · rename_i h0
    simp [rdB, h0]
theorem rd_bad (w : Nat) (s : List UInt8) : rdB w s true = true ∧ rdN w s true = 0 ∧ rdS w s true = s := by simp [rdB, rdN, rdS]

def rlineS (s : List UInt8) (b : Bool) (v : AV) (n i : Int) : St := ⟨39, [(0, AV.ptr 1000000 0 0), (2, AV.sl 0 true []), (3, v), (5, AV.int IntKind.i64 n), (6, AV.int IntKind.i64 i)], [(1000000, [AV.str s, AV.bool b])], [], [], [], []⟩
theorem rline_tree (F : Fns) (N : Nat) (s : List UInt8) (b : Bool) : runOf F 48 N [.ptr 0 0 0] [[.str s, .bool b]] =
  onRes (F 49 [AV.ptr 0 0 0, AV.int IntKind.i64 1] [[AV.str s, AV.bool b]]) fun v bs => AM.asInt IntKind.i64 v fun n => asCons bs fun v r => asCons v fun v r_1 => asStr v fun s => asCons r_1 fun v r_2 => AM.asBool v fun b => asNil r_2 (asNil r (loopA (bodyOf F 48 0 N) (deadOf 48 0) (contOf F 48 0 N 1) N { nt := 39, t := [(0, AV.ptr (1000000 + 0) 0 0), (2, AV.sl 0 true []), (3, AV.sl 0 true []), (5, AV.int IntKind.i64 n), (6, AV.int IntKind.i64 0)], b := [(1000000, [AV.str s, AV.bool b])], r := [], g := [], rd := [], wr := [] })) := by kernel_rfl
theorem rline_body0 (F : Fns) (N : Nat) (s : List UInt8) (b : Bool) (n i : Int) (KN : St → Res) : bodyOf F 48 0 N (rlineS s b (.sl 0 true []) n i) (brk (contOf F 48 0 N 1) KN) =
  bif decide (i < n) then onRes (F 49 [AV.ptr 0 0 0, AV.int IntKind.i64 8] [[AV.str s, AV.bool b]]) fun v bs => AM.asInt IntKind.i64 v fun n_1 => asCons bs fun v r => asCons v fun v r_1 => asStr v fun s => asCons r_1 fun v r_2 => AM.asBool v fun b => asNil r_2 (asNil r (onRes (F 49 [AV.ptr 0 0 0, AV.int IntKind.i64 8] [[AV.str s, AV.bool b]]) fun v bs => AM.asInt IntKind.i64 v fun n_2 => asCons bs fun v r => asCons v fun v r_3 => asStr v fun s => asCons r_3 fun v r_4 => AM.asBool v fun b => asNil r_4 (asNil r (bif b then some (AV.sl 0 true [], [[AV.str s, AV.bool b]]) else KN { nt := 39, t := [(0, AV.ptr 1000000 0 0), (2, AV.sl 0 true []), (3, AV.tip 15 0 2 [AV.agg [AV.int IntKind.i64 n_1, AV.int IntKind.i64 n_2]]), (5, AV.int IntKind.i64 n), (6, AV.int IntKind.i64 (IntKind.wrap IntKind.i64 (i + 1))), (7, AV.bool (decide (i < n))), (19, AV.bool b)], b := [(1000000, [AV.str s, AV.bool b])], r := [], g := [], rd := [], wr := [] })))) else bif b then some (AV.sl 0 true [], [[AV.str s, AV.bool true]]) else some (AV.sl 0 true [], [[AV.str s, AV.bool false]]) := by kernel_rfl
theorem rline_body1 (F : Fns) (N : Nat) (s : List UInt8) (b : Bool) (n i : Int) (ys : List AV) (KN : St → Res) : bodyOf F 48 0 N (rlineS s b (.tip 15 0 2 ys) n i) (brk (contOf F 48 0 N 1) KN) =
  bif decide (i < n) then onRes (F 49 [AV.ptr 0 0 0, AV.int IntKind.i64 8] [[AV.str s, AV.bool b]]) fun v bs => AM.asInt IntKind.i64 v fun n_1 => asCons bs fun v r => asCons v fun v r_1 => asStr v fun s_1 => asCons r_1 fun v r_2 => AM.asBool v fun b_1 => asNil r_2 (asNil r (onRes (F 49 [AV.ptr 0 0 0, AV.int IntKind.i64 8] [[AV.str s_1, AV.bool b_1]]) fun v bs => AM.asInt IntKind.i64 v fun n_2 => asCons bs fun v r => asCons v fun v r_3 => asStr v fun s_2 => asCons r_3 fun v r_4 => AM.asBool v fun b_2 => asNil r_4 (asNil r (bif decide (2 = 2 ∧ fitsB (List.length ys + List.length [AV.agg [AV.int IntKind.i64 n_1, AV.int IntKind.i64 n_2]]) 16 = true ∧ List.length ys + List.length [AV.agg [AV.int IntKind.i64 n_1, AV.int IntKind.i64 n_2]] ≤ 4611686018427387904) then bif b_2 then some (AV.sl 0 true [], [[AV.str s_2, AV.bool b_2]]) else KN { nt := 39, t := [(0, AV.ptr 1000000 0 0), (2, AV.sl 0 true []), (3, AV.tip 15 0 2 (ys ++ [AV.agg [AV.int IntKind.i64 n_1, AV.int IntKind.i64 n_2]])), (5, AV.int IntKind.i64 n), (6, AV.int IntKind.i64 (IntKind.wrap IntKind.i64 (i + 1))), (7, AV.bool (decide (i < n))), (19, AV.bool b_2)], b := [(1000000, [AV.str s_2, AV.bool b_2])], r := [], g := [], rd := [], wr := [] } else none)))) else bif b then some (AV.sl 2 false ys, [[AV.str s, AV.bool true]]) else bif decide (((List.length ys : Nat) : Int) > 0) then onRes (F 44 [AV.sl 2 false ys] []) fun v bs => AM.asBool v fun b => asNil bs (some (AV.sl 2 false ys, [[AV.str s, AV.bool !b]])) else some (AV.sl 2 false ys, [[AV.str s, AV.bool false]]) := by kernel_rfl
/-- What reading a line comes to. -/
def LineR (x : Option (List (Int × Int) × List UInt8)) (r : Res) : Prop := match x with
  | none => Bad r
  | some (l, s) => r = some (slB l, [[.str s, .bool false]])
/-- What is left of a line, behind what was taken. -/
def restL (acc : List (Int × Int)) (x : Option (List (Int × Int) × List UInt8)) : Option (List (Int × Int) × List UInt8) := match x with
  | none => none
  | some (l, s) => if lined (acc ++ l) then some (acc ++ l, s) else none
theorem rline_loop (k : Nat) (hk : 66 ≤ k) (n : Nat) (hn : n ≤ 1000) : ∀ (dd i m : Nat) (acc : List (Int × Int)) (s : List UInt8) (st : St), i + dd = n → dd < m → acc ≠ [] → acc.length = i → st.clean (deadOf 48 0) = rlineS s false (.tip 15 0 2 (acc.map brV)) n i →
    LineR (restL acc (brs dd s)) (loopA (bodyOf (evF pr k) 48 0 k) (deadOf 48 0) (contOf (evF pr k) 48 0 k 1) m st) := by
  intro dd
  induction dd with
  | zero =>
    intro i m acc s st hi hm ha hl hst
    obtain ⟨m, rfl⟩ : ∃ m', m = m' + 1 := ⟨m - 1, by omega⟩
    have hp : 0 < acc.length := List.length_pos_iff.2 ha
    rw [loopA_succ, hst, rline_body1, decide_eq_false (by omega), List.length_map, decide_eq_true (show ((acc.length : Nat) : Int) > 0 by omega), e44 k hk]
    simp only [cond_false, cond_true, onRes, asBool, asNil, brs, restL, List.append_nil]
    have hd : lined acc = lineOk acc := by cases acc with | nil => exact absurd rfl ha | cons b r => rfl
    rw [hd]
    cases lineOk acc with
    | false => exact ⟨_, _, _, _, rfl⟩
    | true =>
      show _ = some (slB acc, _)
      rw [slB, if_neg ha]
      rfl
  | succ dd ih =>
    intro i m acc s st hi hm ha hl hst
    obtain ⟨m, rfl⟩ : ∃ m', m = m' + 1 := ⟨m - 1, by omega⟩
    rw [loopA_succ, hst, rline_body1, decide_eq_true (show (i : Int) < n by omega), show (8 : Int) = ((8 : Nat) : Int) from rfl, e49 k (by omega) s false 8 (by omega) (by omega)]
    simp only [cond_true, onRes, asBool, asNil, asInt, if_true, asCons, asStr]
    rw [e49 k (by omega) _ _ 8 (by omega) (by omega)]
    simp only [onRes, asBool, asNil, asInt, if_true, asCons, asStr]
    rw [decide_eq_true (by
      refine ⟨trivial, fitsB_small ?_, ?_⟩ <;> simp only [List.length_map, List.length_cons, List.length_nil] <;> omega)]
    simp only [cond_true, brs]
    cases h1 : num 8 s with
    | none =>
      rw [rd_none h1, (rd_bad _ _).1]
      exact ⟨_, _, _, _, rfl⟩
    | some p =>
      obtain ⟨e, s1⟩ := p
      obtain ⟨r1, r2, r3⟩ := rd_some h1
      rw [r1, r2, r3]
      simp only
      cases h2 : num 8 s1 with
      | none =>
        rw [rd_none h2]
        exact ⟨_, _, _, _, rfl⟩
      | some q =>
        obtain ⟨a, s2⟩ := q
        obtain ⟨q1, q2, q3⟩ := rd_some h2
        rw [q1, q2, q3]
        simp only [cond_false]
        rw [wrap_small (n := (i : Int) + 1) (by omega) (by omega)]
        have := ih (i + 1) m (acc ++ [((e : Int), (a : Int))]) s2 ⟨39, [(0, AV.ptr 1000000 0 0), (2, AV.sl 0 true []), (3, AV.tip 15 0 2 (acc.map brV ++ [AV.agg [AV.int IntKind.i64 e, AV.int IntKind.i64 a]])), (5, AV.int IntKind.i64 n), (6, AV.int IntKind.i64 ((i : Int) + 1)), (7, AV.bool true), (19, AV.bool false)], [(1000000, [AV.str s2, AV.bool false])], [], [], [], []⟩ (by omega) (by omega) (by simp) (by simp [hl]) (by rw [List.map_append]; kernel_rfl)
        cases h3 : brs dd s2 with
        | none => rw [h3] at this; exact this
        | some r =>
          obtain ⟨l, s3⟩ := r
          rw [h3] at this
          simp only [restL, List.append_assoc, List.cons_append, List.nil_append] at this ⊢
          exact this

theorem e48 (k : Nat) (hk : 1100 ≤ k) (s : List UInt8) : LineR (takeL s) (evF pr k 48 [.ptr 0 0 0] [[.str s, .bool false]]) := by
  obtain ⟨k, rfl⟩ : ∃ m, k = m + 1 := ⟨k - 1, by omega⟩
  rw [ev_step _ _ _ _ (by kernel_rfl), rline_tree, show (1 : Int) = ((1 : Nat) : Int) from rfl, e49 k (by omega) s false 1 (by omega) (by omega)]
  simp only [onRes, asBool, asNil, asInt, if_true, asCons, asStr]
  obtain ⟨k', hk'⟩ : ∃ m, k = m + 1 := ⟨k - 1, by omega⟩
  unfold takeL
  cases h1 : num 1 s with
  | none =>
    rw [rd_none h1]
    have : rdN 1 s false = 0 := by simp [rdN, rd_none h1]
    rw [this]
    conv => arg 2; arg 4; rw [hk']
    rw [loopA_succ]
    refine ⟨0, true, [], rdS 1 s false, ?_⟩
    exact rline_body0 _ _ (rdS 1 s false) true ((0 : Nat) : Int) 0 _
  | some p =>
    obtain ⟨n, s1⟩ := p
    obtain ⟨r1, r2, r3⟩ := rd_some h1
    have hn := (num_lt h1).1
    rw [r1, r2, r3]
    simp only
    conv => arg 2; arg 4; rw [hk']
    rw [loopA_succ]
    have hb : ∀ x, (x = bodyOf (evF pr k) 48 0 k (rlineS s1 false (.sl 0 true []) n 0) (brk (contOf (evF pr k) 48 0 k 1) fun st' => loopA (bodyOf (evF pr k) 48 0 k) (deadOf 48 0) (contOf (evF pr k) 48 0 k 1) k' st')) → LineR (match brs n s1 with
      | none => none
      | some (l, s2) => if lined l then some (l, s2) else none) x := by
      intro x hx
      rw [rline_body0] at hx
      cases n with
      | zero => rw [hx]; rfl
      | succ n =>
        rw [hx, decide_eq_true (show (0 : Int) < ((n + 1 : Nat) : Int) by omega), show (8 : Int) = ((8 : Nat) : Int) from rfl, e49 k (by omega) s1 false 8 (by omega) (by omega)]
        simp only [cond_true, onRes, asBool, asNil, asInt, if_true, asCons, asStr]
        rw [e49 k (by omega) _ _ 8 (by omega) (by omega)]
        simp only [onRes, asBool, asNil, asInt, if_true, asCons, asStr, brs]
        cases h1 : num 8 s1 with
        | none =>
          rw [rd_none h1, (rd_bad _ _).1]
          exact ⟨_, _, _, _, rfl⟩
        | some p =>
          obtain ⟨e, s2⟩ := p
          obtain ⟨r1, r2, r3⟩ := rd_some h1
          rw [r1, r2, r3]
          simp only
          cases h2 : num 8 s2 with
          | none =>
            rw [rd_none h2]
            exact ⟨_, _, _, _, rfl⟩
          | some q =>
            obtain ⟨a, s3⟩ := q
            obtain ⟨q1, q2, q3⟩ := rd_some h2
            rw [q1, q2, q3]
            simp only [cond_false]
            have := rline_loop k (by omega) (n + 1) (by omega) n 1 k' [((e : Int), (a : Int))] s3 ⟨39, [(0, AV.ptr 1000000 0 0), (2, AV.sl 0 true []), (3, AV.tip 15 0 2 [AV.agg [AV.int IntKind.i64 e, AV.int IntKind.i64 a]]), (5, AV.int IntKind.i64 ((n + 1 : Nat) : Int)), (6, AV.int IntKind.i64 (IntKind.wrap IntKind.i64 (0 + 1))), (7, AV.bool true), (19, AV.bool false)], [(1000000, [AV.str s3, AV.bool false])], [], [], [], []⟩ (by omega) (by omega) (by simp) rfl (by kernel_rfl)
            cases h3 : brs n s3 with
            | none => rw [h3] at this; exact this
            | some r =>
              obtain ⟨l, s4⟩ := r
              rw [h3] at this
              exact this
    exact hb _ (by kernel_rfl)

theorem takel_tree (F : Fns) (N : Nat) (s : List UInt8) : runOf F 20 N [.str s] [] =
  onRes (F 48 [AV.ptr 0 0 0] [[AV.str s, AV.bool false]]) fun v bs => asSl v fun m fl xs => asCons bs fun v r => asCons v fun v r_1 => asStr v fun s => asCons r_1 fun v r_2 => AM.asBool v fun b => asNil r_2 (asNil r (bif b then some (AV.tup [AV.sl 0 true [], AV.str [], AV.int IntKind.i64 3], []) else some (AV.tup [AV.sl m fl xs, AV.str s, AV.int IntKind.i64 0], []))) := by kernel_rfl
/-- What is answered where no line stands: nothing; else the line and the rest. -/
def TakeR (x : Option (List (Int × Int) × List UInt8)) : Res := match x with
  | none => some (.tup [.sl 0 true [], .str [], .int .i64 3], [])
  | some (l, s) => some (.tup [slB l, .str s, .int .i64 0], [])
theorem e20 (k : Nat) (hk : 1101 ≤ k) (s : List UInt8) : evF pr k 20 [.str s] [] = TakeR (takeL s) := by
  obtain ⟨k, rfl⟩ : ∃ m, k = m + 1 := ⟨k - 1, by omega⟩
  rw [ev_step _ _ _ _ (by kernel_rfl), takel_tree]
  have h := e48 k (by omega) s
  cases ht : takeL s with
  | none =>
    rw [ht] at h
    obtain ⟨m, fl, xs, s', h⟩ := h
    rw [h]
    rfl
  | some p =>
    obtain ⟨l, s'⟩ := p
    rw [ht] at h
    have h : _ = some (slB l, _) := h
    rw [h]
    show _ = some (AV.tup [slB l, .str s', .int .i64 0], [])
    unfold slB
    split <;> rfl

end Go.AM.Ytnhfjkckgicidaa
