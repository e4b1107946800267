/- ref17.TakeLine, ref11.Equal, and the law MsgLines, plain. -/
import Derived.Test.YtnhfjkckgicidaaAmN5
set_option linter.unusedVariables false
set_option linter.unusedSimpArgs false
namespace Go.AM.Ytnhfjkckgicidaa
open Go.AM Go.Proofs Go

theorem e10 : evF pr 1999 10 [] [] = some (.bool true, []) := by kernel_rfl

/-! ref17.TakeLine -/
theorem brs_spec : ∀ (n : Nat) (s : List UInt8) (l : List (Int × Int)) (t : List UInt8), brs n s = some (l, t) → t = s.drop (16 * n) ∧ l.length = n ∧ 16 * n ≤ s.length ∧ Sm l
  | 0, s, l, t, h => by
    simp only [brs, Option.some.injEq, Prod.mk.injEq] at h
    obtain ⟨rfl, rfl⟩ := h
    exact ⟨rfl, rfl, by omega, by simp [Sm]⟩
  | n + 1, s, l, t, h => by
    simp only [brs] at h
    split at h
    · simp at h
    · rename_i e s1 h1
      split at h
      · simp at h
      · rename_i a s2 h2
        split at h
        · simp at h
        · rename_i l' s3 h3
          simp only [Option.some.injEq, Prod.mk.injEq] at h
          obtain ⟨rfl, rfl⟩ := h
          obtain ⟨q1, q2, q3, q4⟩ := brs_spec n s2 l' s3 h3
          have n1 := num_lt h1
          have n2 := num_lt h2
          unfold num at h1 h2
          split at h1
          · rename_i z1
            split at h2
            · rename_i z2
              simp only [Option.some.injEq, Prod.mk.injEq] at h1 h2
              have d1 : s1 = s.drop 8 := h1.2.symm
              have d2 : s2 = s1.drop 8 := h2.2.symm
              have l1 : ¬ s.length < 8 := by
                intro hl
                simp [numE, hl] at z1
              have l2 : ¬ s1.length < 8 := by
                intro hl
                simp [numE, hl] at z2
              have g1 : s1.length = s.length - 8 := by rw [d1, List.length_drop]
              have g2 : s2.length = s1.length - 8 := by rw [d2, List.length_drop]
              refine ⟨?_, by simp [q2], by omega, ?_⟩
              · rw [q1, d2, d1, List.drop_drop, List.drop_drop]
                congr 1
                omega
              · intro b hb
                rcases List.mem_cons.1 hb with rfl | hb
                · exact ⟨by simp only; omega, by simp only; omega⟩
                · exact q4 b hb
            · simp at h2
          · simp at h1

def rtakelS (s : List UInt8) (p n i : Int) (b c : Bool) (v : AV) : St := ⟨68, [(0, AV.str s), (1, AV.int IntKind.i64 p), (4, AV.sl 0 true []), (5, AV.int IntKind.i64 0), (6, AV.bool false), (7, AV.int IntKind.i64 n), (8, AV.bool b), (9, v), (10, AV.int IntKind.i64 i), (22, AV.bool c)], [], [], [], [], []⟩
theorem rtakel_tree (F : Fns) (N : Nat) (s : List UInt8) (p : Int) : runOf F 21 N [.str s, .int .i64 p] [] =
  onRes (F 43 [AV.str s, AV.int IntKind.i64 p, AV.int IntKind.i64 1] []) fun v bs => asTup v fun cs => asCons cs fun v r => AM.asInt IntKind.i64 v fun n => asCons r fun v r => AM.asBool v fun b => asNil r (asNil bs (bif !b then some (AV.tup [AV.sl 0 true [], AV.int IntKind.i64 0, AV.bool false], []) else loopA (bodyOf F 21 0 N) (deadOf 21 0) (contOf F 21 0 N 0) N { nt := 68, t := [(0, AV.str s), (1, AV.int IntKind.i64 p), (4, AV.sl 0 true []), (5, AV.int IntKind.i64 0), (6, AV.bool false), (7, AV.int IntKind.i64 n), (8, AV.bool b), (9, AV.sl 0 true []), (10, AV.int IntKind.i64 0), (22, AV.bool !b)], b := [], r := [], g := [], rd := [], wr := [] })) := by kernel_rfl
theorem rtakel_body0 (F : Fns) (N : Nat) (s : List UInt8) (p n i : Int) (b c : Bool) (KN : St → Res) : bodyOf F 21 0 N (rtakelS s p n i b c (.sl 0 true [])) (brk (contOf F 21 0 N 0) KN) =
  bif decide (i < n) then onRes (F 43 [AV.str s, AV.int IntKind.i64 (IntKind.wrap IntKind.i64 (IntKind.wrap IntKind.i64 (p + 1) + IntKind.wrap IntKind.i64 (16 * i))), AV.int IntKind.i64 8] []) fun v bs => asTup v fun cs => asCons cs fun v r => AM.asInt IntKind.i64 v fun n_1 => asCons r fun v r => AM.asBool v fun b_1 => asNil r (asNil bs (onRes (F 43 [AV.str s, AV.int IntKind.i64 (IntKind.wrap IntKind.i64 (IntKind.wrap IntKind.i64 (p + 9) + IntKind.wrap IntKind.i64 (16 * i))), AV.int IntKind.i64 8] []) fun v bs => asTup v fun cs => asCons cs fun v r => AM.asInt IntKind.i64 v fun n_2 => asCons r fun v r => AM.asBool v fun b_2 => asNil r (asNil bs (bif !b_1 then some (AV.tup [AV.sl 0 true [], AV.int IntKind.i64 0, AV.bool false], []) else bif !b_2 then some (AV.tup [AV.sl 0 true [], AV.int IntKind.i64 0, AV.bool false], []) else KN { nt := 68, t := [(0, AV.str s), (1, AV.int IntKind.i64 p), (4, AV.sl 0 true []), (5, AV.int IntKind.i64 0), (6, AV.bool false), (7, AV.int IntKind.i64 n), (8, AV.bool b), (9, AV.tip 59 0 2 [AV.agg [AV.int IntKind.i64 n_1, AV.int IntKind.i64 n_2]]), (10, AV.int IntKind.i64 (IntKind.wrap IntKind.i64 (i + 1))), (11, AV.int IntKind.i64 n_1), (12, AV.bool b_1), (13, AV.int IntKind.i64 n_2), (14, AV.bool b_2), (22, AV.bool c), (25, AV.bool (decide (i < n))), (53, AV.bool !b_2)], b := [], r := [], g := [], rd := [], wr := [] })))) else onRes (F 18 [AV.sl 0 true []] []) fun v bs => AM.asBool v fun b => asNil bs (some (AV.tup [AV.sl 0 true [], AV.int IntKind.i64 (IntKind.wrap IntKind.i64 (IntKind.wrap IntKind.i64 (p + 1) + IntKind.wrap IntKind.i64 (16 * n))), AV.bool b], [])) := by kernel_rfl
theorem rtakel_body1 (F : Fns) (N : Nat) (s : List UInt8) (p n i : Int) (b c : Bool) (ys : List AV) (KN : St → Res) : bodyOf F 21 0 N (rtakelS s p n i b c (.tip 59 0 2 ys)) (brk (contOf F 21 0 N 0) KN) =
  bif decide (i < n) then onRes (F 43 [AV.str s, AV.int IntKind.i64 (IntKind.wrap IntKind.i64 (IntKind.wrap IntKind.i64 (p + 1) + IntKind.wrap IntKind.i64 (16 * i))), AV.int IntKind.i64 8] []) fun v bs => asTup v fun cs => asCons cs fun v r => AM.asInt IntKind.i64 v fun n_1 => asCons r fun v r => AM.asBool v fun b_1 => asNil r (asNil bs (onRes (F 43 [AV.str s, AV.int IntKind.i64 (IntKind.wrap IntKind.i64 (IntKind.wrap IntKind.i64 (p + 9) + IntKind.wrap IntKind.i64 (16 * i))), AV.int IntKind.i64 8] []) fun v bs => asTup v fun cs => asCons cs fun v r => AM.asInt IntKind.i64 v fun n_2 => asCons r fun v r => AM.asBool v fun b_2 => asNil r (asNil bs (bif !b_1 then some (AV.tup [AV.sl 0 true [], AV.int IntKind.i64 0, AV.bool false], []) else bif !b_2 then some (AV.tup [AV.sl 0 true [], AV.int IntKind.i64 0, AV.bool false], []) else bif decide (2 = 2 ∧ fitsB (List.length ys + List.length [AV.agg [AV.int IntKind.i64 n_1, AV.int IntKind.i64 n_2]]) 16 = true ∧ List.length ys + List.length [AV.agg [AV.int IntKind.i64 n_1, AV.int IntKind.i64 n_2]] ≤ 4611686018427387904) then KN { nt := 68, t := [(0, AV.str s), (1, AV.int IntKind.i64 p), (4, AV.sl 0 true []), (5, AV.int IntKind.i64 0), (6, AV.bool false), (7, AV.int IntKind.i64 n), (8, AV.bool b), (9, AV.tip 59 0 2 (ys ++ [AV.agg [AV.int IntKind.i64 n_1, AV.int IntKind.i64 n_2]])), (10, AV.int IntKind.i64 (IntKind.wrap IntKind.i64 (i + 1))), (11, AV.int IntKind.i64 n_1), (12, AV.bool b_1), (13, AV.int IntKind.i64 n_2), (14, AV.bool b_2), (22, AV.bool c), (25, AV.bool (decide (i < n))), (53, AV.bool !b_2)], b := [], r := [], g := [], rd := [], wr := [] } else none)))) else onRes (F 18 [AV.sl 2 false ys] []) fun v bs => AM.asBool v fun b => asNil bs (some (AV.tup [AV.sl 2 false ys, AV.int IntKind.i64 (IntKind.wrap IntKind.i64 (IntKind.wrap IntKind.i64 (p + 1) + IntKind.wrap IntKind.i64 (16 * n))), AV.bool b], [])) := by kernel_rfl
theorem num_at {w : Nat} {s : List UInt8} {n : Nat} {t : List UInt8} (h : num w s = some (n, t)) : numE w s = 0 ∧ numN w s = n ∧ t = s.drop w := by
  unfold num at h
  split at h
  · rename_i h0
    simp only [Option.some.injEq, Prod.mk.injEq] at h
    exact ⟨h0, h.1, h.2.symm⟩
  · simp at h
theorem num_no {w : Nat} {s : List UInt8} (h : num w s = none) : numE w s ≠ 0 := by
  unfold num at h
  split at h
  · simp at h
  · assumption
/-- What ref17.TakeLine answers. -/
def RTake (p n : Nat) (acc : List (Int × Int)) (x : Option (List (Int × Int) × List UInt8)) : Res := match x with
  | none => some (.tup [.sl 0 true [], .int .i64 0, .bool false], [])
  | some (l, _) => some (.tup [slB (acc ++ l), .int .i64 ((p + 1 + 16 * n : Nat) : Int), .bool (lined (acc ++ l))], [])
theorem rtakel_loop (k : Nat) (hk : 70 ≤ k) (s : List UInt8) (hs : s.length < 1152921504606846976) (p n : Nat) (hp : p < 1152921504606846976) (hn : n ≤ 1000) (b c : Bool) : ∀ (dd i m : Nat) (acc : List (Int × Int)) (st : St), i + dd = n → dd < m → acc ≠ [] → acc.length = i → st.clean (deadOf 21 0) = rtakelS s p n i b c (.tip 59 0 2 (acc.map brV)) →
    loopA (bodyOf (evF pr k) 21 0 k) (deadOf 21 0) (contOf (evF pr k) 21 0 k 0) m st = RTake p n acc (brs dd (s.drop (p + 1 + 16 * i))) := by
  intro dd
  induction dd with
  | zero =>
    intro i m acc st hi hm ha hl hst
    obtain ⟨m, rfl⟩ : ∃ m', m = m' + 1 := ⟨m - 1, by omega⟩
    rw [loopA_succ, hst, rtakel_body1, decide_eq_false (by omega), e18 k (by omega)]
    simp only [cond_false, onRes, asBool, asNil, brs, RTake, List.append_nil]
    rw [wrap_small (n := (p : Int) + 1) (by omega) (by omega), wrap_small (n := 16 * (n : Int)) (by omega) (by omega), wrap_small (by omega) (by omega), show (p : Int) + 1 + 16 * (n : Int) = ((p + 1 + 16 * n : Nat) : Int) by omega, slB, if_neg ha]
  | succ dd ih =>
    intro i m acc st hi hm ha hl hst
    obtain ⟨m, rfl⟩ : ∃ m', m = m' + 1 := ⟨m - 1, by omega⟩
    rw [loopA_succ, hst, rtakel_body1, decide_eq_true (show (i : Int) < n by omega), show (8 : Int) = ((8 : Nat) : Int) from rfl]
    rw [wrap_small (n := (p : Int) + 1) (by omega) (by omega), wrap_small (n := (p : Int) + 9) (by omega) (by omega), wrap_small (n := 16 * (i : Int)) (by omega) (by omega), wrap_small (n := (p : Int) + 1 + 16 * (i : Int)) (by omega) (by omega), wrap_small (n := (p : Int) + 9 + 16 * (i : Int)) (by omega) (by omega), show (p : Int) + 1 + 16 * (i : Int) = ((p + 1 + 16 * i : Nat) : Int) by omega, show (p : Int) + 9 + 16 * (i : Int) = ((p + 9 + 16 * i : Nat) : Int) by omega,
      e43 k (by omega) s (by omega) (p + 1 + 16 * i) (by omega) 8 (by omega) (by omega), e43 k (by omega) s (by omega) (p + 9 + 16 * i) (by omega) 8 (by omega) (by omega)]
    simp only [cond_true, onRes, asBool, asNil, asInt, if_true, asCons, asTup, brs]
    have hd : (s.drop (p + 1 + 16 * i)).drop 8 = s.drop (p + 9 + 16 * i) := by rw [List.drop_drop]; congr 1; omega
    have hd2 : (s.drop (p + 9 + 16 * i)).drop 8 = s.drop (p + 1 + 16 * (i + 1)) := by rw [List.drop_drop]; congr 1; omega
    cases h1 : num 8 (s.drop (p + 1 + 16 * i)) with
    | none =>
      rw [show (numE 8 (s.drop (p + 1 + 16 * i)) == 0) = false by simpa using num_no h1]
      rfl
    | some q =>
      obtain ⟨e, s1⟩ := q
      obtain ⟨r1, r2, r3⟩ := num_at h1
      rw [r1, r2]
      rw [hd] at r3
      subst r3
      simp only [show ((0 : Int) == 0) = true from rfl, Bool.not_true, cond_false]
      cases h2 : num 8 (s.drop (p + 9 + 16 * i)) with
      | none =>
        rw [show (numE 8 (s.drop (p + 9 + 16 * i)) == 0) = false by simpa using num_no h2]
        rfl
      | some q =>
        obtain ⟨a, s2⟩ := q
        obtain ⟨q1, q2, q3⟩ := num_at h2
        rw [q1, q2]
        rw [hd2] at q3
        subst q3
        simp only [show ((0 : Int) == 0) = true from rfl, Bool.not_true, cond_false]
        rw [decide_eq_true (by
          refine ⟨trivial, fitsB_small ?_, ?_⟩ <;> simp only [List.length_map, List.length_cons, List.length_nil] <;> omega)]
        simp only [cond_true]
        rw [wrap_small (n := (i : Int) + 1) (by omega) (by omega)]
        refine (ih (i + 1) m (acc ++ [((e : Int), (a : Int))]) _ (by omega) (by omega) (by simp) (by simp [hl]) (by rw [List.map_append]; kernel_rfl)).trans ?_
        cases h3 : brs dd (s.drop (p + 1 + 16 * (i + 1))) with
        | none => rfl
        | some r =>
          obtain ⟨l, s3⟩ := r
          simp only [RTake, List.append_assoc, List.cons_append, List.nil_append]

/-- What TakeLine answers at a place. -/
def RTakeAt (p : Nat) (s : List UInt8) : Res := match num 1 (s.drop p) with
  | none => RTake p 0 [] none
  | some (n, t) => RTake p n [] (brs n t)
theorem e21 (k : Nat) (hk : 1100 ≤ k) (s : List UInt8) (hs : s.length < 1152921504606846976) (p : Nat) (hp : p < 1152921504606846976) : evF pr k 21 [.str s, .int .i64 p] [] = RTakeAt p s := by
  obtain ⟨k, rfl⟩ : ∃ m, k = m + 1 := ⟨k - 1, by omega⟩
  rw [ev_step _ _ _ _ (by kernel_rfl), rtakel_tree, show (1 : Int) = ((1 : Nat) : Int) from rfl, e43 k (by omega) s (by omega) p (by omega) 1 (by omega) (by omega)]
  simp only [onRes, asBool, asNil, asInt, if_true, asCons, asTup]
  unfold RTakeAt
  cases h1 : num 1 (s.drop p) with
  | none =>
    rw [show (numE 1 (s.drop p) == 0) = false by simpa using num_no h1]
    rfl
  | some q =>
    obtain ⟨n, t⟩ := q
    obtain ⟨r1, r2, r3⟩ := num_at h1
    have hn := (num_lt h1).1
    rw [r1, r2]
    rw [List.drop_drop] at r3
    subst r3
    simp only [show ((0 : Int) == 0) = true from rfl, Bool.not_true, cond_false]
    obtain ⟨k', hk'⟩ : ∃ m, k = m + 1 := ⟨k - 1, by omega⟩
    conv => lhs; arg 4; rw [hk']
    rw [loopA_succ]
    refine (rtakel_body0 _ _ s p n 0 true false _).trans ?_
    cases n with
    | zero =>
      rw [e18nil k (by omega), decide_eq_false (show ¬ (0 : Int) < ((0 : Nat) : Int) by omega)]
      simp only [cond_false]
      rw [wrap_small (n := (p : Int) + 1) (by omega) (by omega), show (16 * ((0 : Nat) : Int)) = 0 from rfl, show IntKind.wrap IntKind.i64 0 = 0 from rfl, wrap_small (by omega) (by omega), show (p : Int) + 1 + 0 = ((p + 1 + 16 * 0 : Nat) : Int) by omega]
      rfl
    | succ n =>
      rw [decide_eq_true (show (0 : Int) < ((n + 1 : Nat) : Int) by omega), show (8 : Int) = ((8 : Nat) : Int) from rfl, show (16 * (0 : Int)) = 0 from rfl, show IntKind.wrap IntKind.i64 0 = 0 from rfl]
      rw [wrap_small (n := (p : Int) + 1) (by omega) (by omega), wrap_small (n := (p : Int) + 9) (by omega) (by omega), wrap_small (n := (p : Int) + 1 + 0) (by omega) (by omega), wrap_small (n := (p : Int) + 9 + 0) (by omega) (by omega), show (p : Int) + 1 + 0 = ((p + 1 : Nat) : Int) by omega, show (p : Int) + 9 + 0 = ((p + 9 : Nat) : Int) by omega,
        e43 k (by omega) s (by omega) (p + 1) (by omega) 8 (by omega) (by omega), e43 k (by omega) s (by omega) (p + 9) (by omega) 8 (by omega) (by omega)]
      simp only [cond_true, onRes, asBool, asNil, asInt, if_true, asCons, asTup, brs]
      have hd : (s.drop (p + 1)).drop 8 = s.drop (p + 9) := by rw [List.drop_drop]
      have hd2 : (s.drop (p + 9)).drop 8 = s.drop (p + 1 + 16 * 1) := by rw [List.drop_drop]
      cases h1 : num 8 (s.drop (p + 1)) with
      | none =>
        rw [show (numE 8 (s.drop (p + 1)) == 0) = false by simpa using num_no h1]
        rfl
      | some q =>
        obtain ⟨e, s1⟩ := q
        obtain ⟨r1, r2, r3⟩ := num_at h1
        rw [r1, r2]
        rw [hd] at r3
        subst r3
        simp only [show ((0 : Int) == 0) = true from rfl, Bool.not_true, cond_false]
        cases h2 : num 8 (s.drop (p + 9)) with
        | none =>
          rw [show (numE 8 (s.drop (p + 9)) == 0) = false by simpa using num_no h2]
          rfl
        | some q =>
          obtain ⟨a, s2⟩ := q
          obtain ⟨q1, q2, q3⟩ := num_at h2
          rw [q1, q2]
          rw [hd2] at q3
          subst q3
          simp only [show ((0 : Int) == 0) = true from rfl, Bool.not_true, cond_false]
          refine (rtakel_loop k (by omega) s hs p (n + 1) hp (by omega) true false n 1 k' [((e : Int), (a : Int))] _ (by omega) (by omega) (by simp) rfl (by kernel_rfl)).trans ?_
          cases h3 : brs n (s.drop (p + 1 + 16 * 1)) with
          | none => rfl
          | some r => rfl

/-! ref11.Equal -/
def leqS (fl fl' c : Bool) (xs ys : List AV) (i : Int) : St := ⟨26, [(0, AV.sl 2 fl xs), (1, AV.sl 2 fl' ys), (4, AV.bool false), (5, AV.int IntKind.i64 i), (10, AV.bool c)], [], [], [], [], []⟩
def leqS0 (a b : Nat) (fl fl' c : Bool) : St := ⟨26, [(0, AV.sl a fl []), (1, AV.sl b fl' []), (4, AV.bool false), (5, AV.int IntKind.i64 0), (10, AV.bool c)], [], [], [], [], []⟩
theorem leq_tree (F : Fns) (N : Nat) (a b : Nat) (fl fl' : Bool) (xs ys : List AV) : runOf F 22 N [.sl a fl xs, .sl b fl' ys] [] =
  bif ((List.length xs : Nat) : Int) != ((List.length ys : Nat) : Int) then some (AV.bool false, []) else loopA (bodyOf F 22 0 N) (deadOf 22 0) (contOf F 22 0 N 0) N { nt := 26, t := [(0, AV.sl a fl xs), (1, AV.sl b fl' ys), (4, AV.bool false), (5, AV.int IntKind.i64 0), (10, AV.bool (((List.length xs : Nat) : Int) != ((List.length ys : Nat) : Int)))], b := [], r := [], g := [], rd := [], wr := [] } := by kernel_rfl
theorem leq_body (F : Fns) (N : Nat) (fl fl' c : Bool) (xs ys : List AV) (i : Int) (KN : St → Res) : bodyOf F 22 0 N (leqS fl fl' c xs ys i) (brk (contOf F 22 0 N 0) KN) =
  bif decide (i < ((List.length xs : Nat) : Int)) then bif decide (0 ≤ i) then onOpt xs[Int.toNat i]? fun x => AM.asAgg x fun cs => asCons cs fun v r => AM.asInt IntKind.i64 v fun n => asCons r fun v r => AM.asInt IntKind.i64 v fun n_1 => asNil r (bif decide (0 ≤ i) then onOpt ys[Int.toNat i]? fun x => AM.asAgg x fun cs => asCons cs fun v r => AM.asInt IntKind.i64 v fun n_2 => asCons r fun v r => AM.asInt IntKind.i64 v fun n_3 => asNil r (bif !(n == n_2 && (n_1 == n_3 && true)) then some (AV.bool false, []) else KN { nt := 26, t := [(0, AV.sl 2 fl xs), (1, AV.sl 2 fl' ys), (4, AV.bool false), (5, AV.int IntKind.i64 (IntKind.wrap IntKind.i64 (i + 1))), (10, AV.bool c), (14, AV.bool (decide (i < ((List.length xs : Nat) : Int)))), (25, AV.bool !(n == n_2 && (n_1 == n_3 && true)))], b := [], r := [], g := [], rd := [], wr := [] }) else none) else none else some (AV.bool true, []) := by kernel_rfl
theorem leq_body0 (F : Fns) (N : Nat) (a b : Nat) (fl fl' c : Bool) (KN : St → Res) : bodyOf F 22 0 N (leqS0 a b fl fl' c) (brk (contOf F 22 0 N 0) KN) =
  some (AV.bool true, []) := by kernel_rfl
theorem leq_loop (F : Fns) (N : Nat) (fl fl' c : Bool) (l l' : List (Int × Int)) (hl : l.length = l'.length) (hb : l.length < 4611686018427387904) : ∀ (dd i m : Nat) (st : St), i + dd = l.length → dd < m → st.clean (deadOf 22 0) = leqS fl fl' c (l.map brV) (l'.map brV) i →
    loopA (bodyOf F 22 0 N) (deadOf 22 0) (contOf F 22 0 N 0) m st = some (.bool (decide (l.drop i = l'.drop i)), []) := by
  intro dd
  induction dd with
  | zero =>
    intro i m st hi hm hst
    obtain ⟨m, rfl⟩ : ∃ m', m = m' + 1 := ⟨m - 1, by omega⟩
    have h1 : l.drop i = [] := List.drop_eq_nil_of_le (by omega)
    have h2 : l'.drop i = [] := List.drop_eq_nil_of_le (by omega)
    rw [loopA_succ, hst, leq_body, List.length_map, decide_eq_false (by omega), h1, h2]
    rfl
  | succ dd ih =>
    intro i m st hi hm hst
    obtain ⟨m, rfl⟩ : ∃ m', m = m' + 1 := ⟨m - 1, by omega⟩
    have hlt : i < l.length := by omega
    have hlt' : i < l'.length := by omega
    rw [loopA_succ, hst, leq_body, List.length_map, decide_eq_true (show (i : Int) < l.length by omega), decide_eq_true (show (0 : Int) ≤ i by omega), getBr l i hlt, getBr l' i hlt', List.drop_eq_getElem_cons hlt, List.drop_eq_getElem_cons hlt']
    simp only [cond_true, onOpt, asAgg, asCons, asInt, if_true, asNil]
    rw [wrap_small (n := (i : Int) + 1) (by omega) (by omega)]
    by_cases hc : l[i] = l'[i]
    · rw [hc]
      simp only [beq_self_eq_true, Bool.true_and, Bool.not_true, cond_false]
      refine (ih (i + 1) m _ (by omega) (by omega) (by kernel_rfl)).trans ?_
      have : decide (l.drop (i + 1) = l'.drop (i + 1)) = decide (l'[i] :: l.drop (i + 1) = l'[i] :: l'.drop (i + 1)) := by
        rw [decide_eq_decide]
        simp only [List.cons.injEq, true_and]
      rw [this]
    · have : ((l[i]).1 == (l'[i]).1 && ((l[i]).2 == (l'[i]).2 && true)) = false := by
        by_cases h1 : (l[i]).1 = (l'[i]).1
        · have h2 : (l[i]).2 ≠ (l'[i]).2 := fun h2 => hc (Prod.ext h1 h2)
          simp [h1, h2]
        · simp [h1]
      rw [this, decide_eq_false (fun h => hc (List.cons.inj h).1)]
      rfl
theorem leq_nil (F : Fns) (N m a b : Nat) (fl fl' c : Bool) (st : St) (h : st.clean (deadOf 22 0) = leqS0 a b fl fl' c) : loopA (bodyOf F 22 0 N) (deadOf 22 0) (contOf F 22 0 N 0) (m + 1) st = some (.bool true, []) := by rw [loopA_succ, h, leq_body0]
theorem e22 (k : Nat) (fl fl' : Bool) (l l' : List (Int × Int)) (hk : l.length + 3 ≤ k) (hb : l.length < 4611686018427387904) : evF pr k 22 [.sl 2 fl (l.map brV), .sl 2 fl' (l'.map brV)] [] = some (.bool (decide (l = l')), []) := by
  obtain ⟨k, rfl⟩ : ∃ m, k = m + 1 := ⟨k - 1, by omega⟩
  rw [ev_step _ _ _ _ (by kernel_rfl), leq_tree, List.length_map, List.length_map]
  by_cases h : l.length = l'.length
  · rw [show (((l.length : Nat) : Int) != ((l'.length : Nat) : Int)) = false by simp [h]]
    exact leq_loop (evF pr k) k fl fl' false l l' h hb l.length 0 k _ (Nat.zero_add _) (by omega) (by kernel_rfl)
  · rw [show (((l.length : Nat) : Int) != ((l'.length : Nat) : Int)) = true by simp only [bne_iff_ne, ne_eq]; omega, decide_eq_false (fun e => h (by rw [e]))]
    rfl
theorem leq_nils (k a b : Nat) (fl fl' : Bool) : evF pr (k + 2) 22 [.sl a fl [], .sl b fl' []] [] = some (.bool true, []) := by
  rw [ev_step _ _ _ _ (by kernel_rfl), leq_tree, show ((((([] : List AV).length : Nat) : Int)) != ((([] : List AV).length : Nat) : Int)) = false from rfl, cond_false]
  exact leq_nil _ _ _ a b fl fl' false _ (by kernel_rfl)
/-- Slices of branches, as they come. -/
def IsL (v : AV) (l : List (Int × Int)) : Prop := (∃ fl, v = .sl 2 fl (l.map brV)) ∨ (l = [] ∧ ∃ a fl, v = .sl a fl [])
theorem IsL.slB (l : List (Int × Int)) : IsL (slB l) l := by
  unfold AM.Ytnhfjkckgicidaa.slB
  split
  · rename_i h; exact .inr ⟨h, _, _, rfl⟩
  · exact .inl ⟨_, rfl⟩
theorem e22' (k : Nat) {v v' : AV} {l l' : List (Int × Int)} (hv : IsL v l) (hv' : IsL v' l') (hk : l.length + 3 ≤ k) (hb : l.length < 4611686018427387904) : evF pr k 22 [v, v'] [] = some (.bool (decide (l = l')), []) := by
  rcases hv with ⟨fl, rfl⟩ | ⟨rfl, a, fl, rfl⟩
  · rcases hv' with ⟨fl', rfl⟩ | ⟨rfl, a', fl', rfl⟩
    · exact e22 k fl fl' l l' hk hb
    · cases l with
      | nil =>
        obtain ⟨k, rfl⟩ : ∃ m, k = m + 2 := ⟨k - 2, by omega⟩
        exact leq_nils k 2 a' fl fl'
      | cons b r =>
        obtain ⟨k, rfl⟩ : ∃ m, k = m + 1 := ⟨k - 1, by omega⟩
        rw [ev_step _ _ _ _ (by kernel_rfl), leq_tree, List.length_map]
        rw [show ((((b :: r).length : Nat) : Int) != ((([] : List AV).length : Nat) : Int)) = true by simp only [bne_iff_ne, ne_eq, List.length_cons, List.length_nil]; omega]
        rfl
  · rcases hv' with ⟨fl', rfl⟩ | ⟨rfl, a', fl', rfl⟩
    · cases l' with
      | nil =>
        obtain ⟨k, rfl⟩ : ∃ m, k = m + 2 := ⟨k - 2, by simp at hk; omega⟩
        exact leq_nils k a 2 fl fl'
      | cons b r =>
        obtain ⟨k, rfl⟩ : ∃ m, k = m + 1 := ⟨k - 1, by omega⟩
        rw [ev_step _ _ _ _ (by kernel_rfl), leq_tree, List.length_map]
        rw [show (((([] : List AV).length : Nat) : Int) != (((b :: r).length : Nat) : Int)) = true by simp only [bne_iff_ne, ne_eq, List.length_cons, List.length_nil]; omega]
        rfl
    · obtain ⟨k, rfl⟩ : ∃ m, k = m + 2 := ⟨k - 2, by simp at hk; omega⟩
      exact leq_nils k a a' fl fl'

/-! The law -/
theorem lines_tree (F : Fns) (N : Nat) (fl : Bool) (xs : List AV) (s : List UInt8) : runOf F 4 N [.sl 2 fl xs, .str s] [] =
  bif decide (((List.length xs : Nat) : Int) > 100) then onRes (F 10 [] []) fun v bs => AM.asBool v fun b => asNil bs (some (AV.bool b, [])) else onRes (F 17 [AV.sl 2 fl xs] []) fun v bs => asTup v fun cs => asCons cs fun v r => asStr v fun s_1 => asCons r fun v r => AM.asInt IntKind.i64 v fun n => asNil r (asNil bs (onRes (F 18 [AV.sl 2 fl xs] []) fun v bs => AM.asBool v fun b => asNil bs (bif b then onRes (F 19 [AV.sl 2 fl xs] []) fun v bs => asStr v fun s_2 => asNil bs (bif !s_1 == s_2 then some (AV.bool false, []) else bif n != 0 then some (AV.bool false, []) else onRes (F 20 [AV.str s] []) fun v bs => asTup v fun cs => asCons cs fun v r => asSl v fun m fl xs => asCons r fun v r => asStr v fun s_3 => asCons r fun v r => AM.asInt IntKind.i64 v fun n => asNil r (asNil bs (onRes (F 21 [AV.str s, AV.int IntKind.i64 0] []) fun v bs => asTup v fun cs => asCons cs fun v r => asSl v fun m_1 fl_1 xs_1 => asCons r fun v r => AM.asInt IntKind.i64 v fun n_1 => asCons r fun v r => AM.asBool v fun b => asNil r (asNil bs (bif !b then bif ((List.length xs : Nat) : Int) == 0 then bif s_3 == Array.toList (ByteArray.data { data := #[] }) then bif n == 3 then onRes (F 10 [] []) fun v bs => AM.asBool v fun b => asNil bs (some (AV.bool b, [])) else some (AV.bool false, []) else some (AV.bool false, []) else some (AV.bool false, []) else onRes (F 22 [AV.sl m fl xs, AV.sl m_1 fl_1 xs_1] []) fun v bs => AM.asBool v fun b => asNil bs (bif b then bif decide (0 ≤ n_1 ∧ n_1 ≤ ((List.length s : Nat) : Int) ∧ ((List.length s : Nat) : Int) ≤ ((List.length s : Nat) : Int)) then bif s_3 == List.drop (Int.toNat n_1) (List.take (Int.toNat ((List.length s : Nat) : Int)) s) then bif n == 0 then onRes (F 10 [] []) fun v bs => AM.asBool v fun b => asNil bs (some (AV.bool b, [])) else some (AV.bool false, []) else some (AV.bool false, []) else none else some (AV.bool false, []))))))) else bif !s_1 == [] then some (AV.bool false, []) else bif n != 1 then some (AV.bool false, []) else onRes (F 20 [AV.str s] []) fun v bs => asTup v fun cs => asCons cs fun v r => asSl v fun m fl xs => asCons r fun v r => asStr v fun s_2 => asCons r fun v r => AM.asInt IntKind.i64 v fun n => asNil r (asNil bs (onRes (F 21 [AV.str s, AV.int IntKind.i64 0] []) fun v bs => asTup v fun cs => asCons cs fun v r => asSl v fun m_1 fl_1 xs_1 => asCons r fun v r => AM.asInt IntKind.i64 v fun n_1 => asCons r fun v r => AM.asBool v fun b => asNil r (asNil bs (bif !b then bif ((List.length xs : Nat) : Int) == 0 then bif s_2 == Array.toList (ByteArray.data { data := #[] }) then bif n == 3 then onRes (F 10 [] []) fun v bs => AM.asBool v fun b => asNil bs (some (AV.bool b, [])) else some (AV.bool false, []) else some (AV.bool false, []) else some (AV.bool false, []) else onRes (F 22 [AV.sl m fl xs, AV.sl m_1 fl_1 xs_1] []) fun v bs => AM.asBool v fun b => asNil bs (bif b then bif decide (0 ≤ n_1 ∧ n_1 ≤ ((List.length s : Nat) : Int) ∧ ((List.length s : Nat) : Int) ≤ ((List.length s : Nat) : Int)) then bif s_2 == List.drop (Int.toNat n_1) (List.take (Int.toNat ((List.length s : Nat) : Int)) s) then bif n == 0 then onRes (F 10 [] []) fun v bs => AM.asBool v fun b => asNil bs (some (AV.bool b, [])) else some (AV.bool false, []) else some (AV.bool false, []) else none else some (AV.bool false, []))))))))) := by kernel_rfl
theorem slB_sl (l : List (Int × Int)) : ∃ m fl xs, slB l = .sl m fl xs ∧ xs.length = l.length := by
  unfold slB
  split
  · rename_i h; exact ⟨_, _, _, rfl, by simp [h]⟩
  · exact ⟨_, _, _, rfl, by simp⟩
theorem msgLines (fl : Bool) (l : List (Int × Int)) (hs : Sm l) (s : List UInt8) (hl : s.length < 1152921504606846976) : evF pr 2000 4 [.sl 2 fl (l.map brV), .str s] [] = some (.bool true, []) := by
  have h21 : evF pr 1999 21 [.str s, .int .i64 0] [] = RTakeAt 0 s := e21 1999 (by omega) s hl 0 (by omega)
  rw [ev_step _ _ _ _ (by kernel_rfl), lines_tree, List.length_map, e10]
  by_cases h : l.length ≤ 100
  · rw [decide_eq_false (show ¬ ((l.length : Nat) : Int) > 100 by omega), e17 1999 fl l (by omega) hs (by omega), e18 1999 (by omega), e19 1999 fl l (by omega) hs (by omega), e20 1999 (by omega), h21]
    have key : TakeR (takeL s) = some (.tup [.sl 0 true [], .str [], .int .i64 3], []) ∧ (RTakeAt 0 s = some (.tup [.sl 0 true [], .int .i64 0, .bool false], []) ∨ ∃ l n, RTakeAt 0 s = some (.tup [slB l, .int .i64 n, .bool false], [])) ∨
        ∃ l n, TakeR (takeL s) = some (.tup [slB l, .str (s.drop n), .int .i64 0], []) ∧ RTakeAt 0 s = some (.tup [slB l, .int .i64 (n : Nat), .bool true], []) ∧ n ≤ s.length ∧ l.length ≤ 255 := by
      unfold takeL RTakeAt
      rw [List.drop_zero]
      cases h1 : num 1 s with
      | none => exact .inl ⟨rfl, .inl rfl⟩
      | some q =>
        obtain ⟨n, t⟩ := q
        have hn := (num_lt h1).1
        obtain ⟨r1, r2, r3⟩ := num_at h1
        have hl1 : ¬ s.length < 1 := by
          intro hl
          simp [numE, hl] at r1
        simp only
        cases h2 : brs n t with
        | none => exact .inl ⟨rfl, .inl rfl⟩
        | some q =>
          obtain ⟨l, u⟩ := q
          obtain ⟨g1, g2, g3, _⟩ := brs_spec n t l u h2
          simp only [RTake, List.nil_append, TakeR]
          cases hok : lined l with
          | false => exact .inl ⟨rfl, .inr ⟨l, _, rfl⟩⟩
          | true =>
            refine .inr ⟨l, 0 + 1 + 16 * n, ?_, rfl, ?_, by omega⟩
            · rw [g1, r3, List.drop_drop]
              simp
            · rw [r3, List.length_drop] at g3
              omega
    rcases key with ⟨k1, k2⟩ | ⟨l2, n, k1, k2, k3, k4⟩
    · rw [k1]
      cases hok : lined l with
      | false =>
        rcases k2 with k2 | ⟨l2, n, k2⟩
        · rw [k2]; rfl
        · rw [k2]
          obtain ⟨m, f2, xs, hsl, _⟩ := slB_sl l2
          rw [hsl]
          rfl
      | true =>
        simp only [if_true, onRes, asTup, asCons, asStr, asInt, asNil, asBool, cond_false, cond_true, beq_self_eq_true, Bool.not_true]
        rcases k2 with k2 | ⟨l2, n, k2⟩
        · rw [k2]; rfl
        · rw [k2]
          obtain ⟨m, f2, xs, hsl, _⟩ := slB_sl l2
          rw [hsl]
          rfl
    · rw [k1, k2]
      have he := e22' 1999 (IsL.slB l2) (IsL.slB l2) (by omega) (by omega)
      rw [decide_eq_true rfl] at he
      obtain ⟨m, f2, xs, hsl, _⟩ := slB_sl l2
      rw [hsl] at he ⊢
      have hc : decide (0 ≤ ((n : Nat) : Int) ∧ ((n : Nat) : Int) ≤ ((s.length : Nat) : Int) ∧ ((s.length : Nat) : Int) ≤ ((s.length : Nat) : Int)) = true := decide_eq_true (by omega)
      have hd : s.drop (((n : Nat) : Int).toNat) = s.drop n := by rw [Int.toNat_natCast]
      have ht : s.take (((s.length : Nat) : Int).toNat) = s := by rw [Int.toNat_natCast, List.take_length]
      cases hok : lined l with
      | false =>
        simp only [if_false, onRes, asTup, asCons, asStr, asInt, asNil, asBool, asSl, cond_false, cond_true, beq_self_eq_true, Bool.not_true, Bool.false_eq_true, if_true, he, hc, hd, ht]
        rfl
      | true =>
        simp only [if_true, onRes, asTup, asCons, asStr, asInt, asNil, asBool, asSl, cond_false, cond_true, beq_self_eq_true, Bool.not_true, he, hc, hd, ht]
        rfl
  · rw [decide_eq_true (show ((l.length : Nat) : Int) > 100 by omega)]
    rfl

end Go.AM.Ytnhfjkckgicidaa
