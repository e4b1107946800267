/- Writes: TakeWrites, and the law MsgWrites, plain. -/
import Derived.Test.YtnhfjkckgicidaaAmN9
set_option linter.unusedVariables false
set_option linter.unusedSimpArgs false
namespace Go.AM.Ytnhfjkckgicidaa
open Go.AM Go.Proofs Go

/-! taking, plain -/
theorem num_eq (w : Nat) (hw : w ≤ 7) (s : List UInt8) : num w s = if s.length < w then none else some (unbe (s.take w) 0, s.drop w) := by
  unfold num numN numE
  by_cases h : s.length < w
  · simp [h]
  · have hl := unbe_lt (s.take w) 0
    have h7 : 256 ^ (s.take w).length ≤ 256 ^ 7 := Nat.pow_le_pow_right (by omega) (by rw [List.length_take]; omega)
    have : ¬ unbe (s.take w) 0 ≥ 9223372036854775808 := by omega
    simp [h, this]
/-- A write at the beginning, and the rest. -/
def wr1 (s : List UInt8) : Option (Wr × List UInt8) := match num 1 s with
  | none => none
  | some (v, s1) => match num 1 s1 with
    | none => none
    | some (b, s2) => match takeT s2 with
      | none => none
      | some (d, s3) => some (((v : Int), (b : Int), d), s3)
def wrs : Nat → List UInt8 → Option (List Wr × List UInt8)
  | 0, s => some ([], s)
  | n + 1, s => match wr1 s with
    | none => none
    | some (w, t) => match wrs n t with
      | none => none
      | some (l, u) => some (w :: l, u)
def takeW (s : List UInt8) : Option (List Wr × List UInt8) := match num 2 s with
  | none => none
  | some (n, t) => match wrs n t with
    | none => none
    | some (l, u) => if wOk l then some (l, u) else none
theorem num_suffix {w : Nat} {s : List UInt8} {n : Nat} {t : List UInt8} (h : num w s = some (n, t)) : t = s.drop w ∧ w ≤ s.length := by
  obtain ⟨h1, h2, h3⟩ := num_at h
  refine ⟨h3, ?_⟩
  by_cases hl : s.length < w
  · simp [numE, hl] at h1
  · omega
theorem takeT_suffix {s a b : List UInt8} (h : takeT s = some (a, b)) : ∃ q, b = s.drop q ∧ q ≤ s.length := by
  unfold takeT at h
  split at h
  · simp at h
  · rename_i n t hn
    obtain ⟨h1, h2⟩ := num_suffix hn
    split at h
    · simp at h
    · rename_i hl
      simp only [Option.some.injEq, Prod.mk.injEq] at h
      refine ⟨2 + n, ?_, ?_⟩
      · rw [← h.2, h1, List.drop_drop]
      · rw [h1, List.length_drop] at hl
        omega
theorem wr1_suffix {s : List UInt8} {w : Wr} {t : List UInt8} (h : wr1 s = some (w, t)) : ∃ q, t = s.drop q ∧ q ≤ s.length := by
  unfold wr1 at h
  split at h
  · simp at h
  · rename_i v s1 h1
    split at h
    · simp at h
    · rename_i b s2 h2
      split at h
      · simp at h
      · rename_i d s3 h3
        simp only [Option.some.injEq, Prod.mk.injEq] at h
        obtain ⟨a1, a2⟩ := num_suffix h1
        obtain ⟨b1, b2⟩ := num_suffix h2
        obtain ⟨q, c1, c2⟩ := takeT_suffix h3
        refine ⟨1 + (1 + q), ?_, ?_⟩
        · rw [← h.2, c1, b1, a1, List.drop_drop, List.drop_drop]
        · rw [a1, List.length_drop] at b2
          rw [b1, a1, List.length_drop, List.length_drop] at c2
          omega
theorem wrs_suffix : ∀ (n : Nat) (s : List UInt8) (l : List Wr) (t : List UInt8), wrs n s = some (l, t) → (∃ q, t = s.drop q ∧ q ≤ s.length) ∧ l.length = n
  | 0, s, l, t, h => by
    simp only [wrs, Option.some.injEq, Prod.mk.injEq] at h
    exact ⟨⟨0, by simp [h.2], by omega⟩, by simp [← h.1]⟩
  | n + 1, s, l, t, h => by
    simp only [wrs] at h
    split at h
    · simp at h
    · rename_i w s1 h1
      split at h
      · simp at h
      · rename_i l' s2 h2
        simp only [Option.some.injEq, Prod.mk.injEq] at h
        obtain ⟨q, a1, a2⟩ := wr1_suffix h1
        obtain ⟨⟨p, b1, b2⟩, b3⟩ := wrs_suffix n s1 l' s2 h2
        refine ⟨⟨q + p, ?_, ?_⟩, ?_⟩
        · rw [← h.2, b1, a1, List.drop_drop]
        · rw [a1, List.length_drop] at b2
          omega
        · rw [← h.1, List.length_cons, b3]

/-! reader.writes -/
def rwritesS (s : List UInt8) (b : Bool) (v : AV) (n i : Int) : St := ⟨61, [(0, AV.ptr 1000000 0 0), (2, AV.sl 0 true []), (3, v), (9, AV.int IntKind.i64 n), (10, AV.int IntKind.i64 i)], [(1000000, [AV.str s, AV.bool b])], [], [], [], []⟩
theorem rwrites_tree (F : Fns) (N : Nat) (s : List UInt8) (b : Bool) : runOf F 42 N [.ptr 0 0 0] [[.str s, .bool b]] =
  onRes (F 49 [AV.ptr 0 0 0, AV.int IntKind.i64 2] [[AV.str s, AV.bool b]]) fun v bs => AM.asInt IntKind.i64 v fun n => asCons bs fun v r => asCons v fun v r_1 => asStr v fun s => asCons r_1 fun v r_2 => AM.asBool v fun b => asNil r_2 (asNil r (loopA (bodyOf F 42 0 N) (deadOf 42 0) (contOf F 42 0 N 1) N { nt := 61, t := [(0, AV.ptr (1000000 + 0) 0 0), (2, AV.sl 0 true []), (3, AV.sl 0 true []), (9, AV.int IntKind.i64 n), (10, AV.int IntKind.i64 0)], b := [(1000000, [AV.str s, AV.bool b])], r := [], g := [], rd := [], wr := [] })) := by kernel_rfl
theorem rwrites_body0 (F : Fns) (N : Nat) (s : List UInt8) (b : Bool) (n i : Int) (KN : St → Res) : bodyOf F 42 0 N (rwritesS s b (.sl 0 true []) n i) (brk (contOf F 42 0 N 1) KN) =
  bif decide (i < n) then onRes (F 49 [AV.ptr 0 0 0, AV.int IntKind.i64 1] [[AV.str s, AV.bool b]]) fun v bs => AM.asInt IntKind.i64 v fun n_1 => asCons bs fun v r => asCons v fun v r_1 => asStr v fun s => asCons r_1 fun v r_2 => AM.asBool v fun b => asNil r_2 (asNil r (onRes (F 49 [AV.ptr 0 0 0, AV.int IntKind.i64 1] [[AV.str s, AV.bool b]]) fun v bs => AM.asInt IntKind.i64 v fun n_2 => asCons bs fun v r => asCons v fun v r_3 => asStr v fun s => asCons r_3 fun v r_4 => AM.asBool v fun b => asNil r_4 (asNil r (onRes (F 85 [AV.str s] []) fun v bs => asTup v fun cs => asCons cs fun v r => asStr v fun s_1 => asCons r fun v r => asStr v fun s_2 => asCons r fun v r => AM.asInt IntKind.i64 v fun n_3 => asNil r (asNil bs (bif b then some (AV.sl 0 true [], [[AV.str s, AV.bool true]]) else bif n_3 != 0 then some (AV.sl 0 true [], [[AV.str s, AV.bool true]]) else KN { nt := 61, t := [(0, AV.ptr 1000000 0 0), (2, AV.sl 0 true []), (3, AV.tip 46 0 3 [AV.agg [AV.int IntKind.i64 n_1, AV.int IntKind.i64 n_2, AV.str s_1]]), (4, AV.ptr 4 0 0), (5, AV.str s_1), (6, AV.str s_2), (7, AV.int IntKind.i64 n_3), (9, AV.int IntKind.i64 n), (10, AV.int IntKind.i64 (IntKind.wrap IntKind.i64 (i + 1))), (11, AV.bool (decide (i < n))), (33, AV.bool (n_3 != 0))], b := [(4, [AV.int IntKind.i64 n_1, AV.int IntKind.i64 n_2, AV.str s_1]), (1000000, [AV.str s_2, AV.bool b])], r := [], g := [], rd := [], wr := [] })))))) else bif b then some (AV.sl 0 true [], [[AV.str s, AV.bool true]]) else onRes (F 36 [AV.sl 0 true []] []) fun v bs => AM.asBool v fun b => asNil bs (some (AV.sl 0 true [], [[AV.str s, AV.bool !b]])) := by kernel_rfl
theorem rwrites_body1 (F : Fns) (N : Nat) (s : List UInt8) (b : Bool) (n i : Int) (ys : List AV) (KN : St → Res) : bodyOf F 42 0 N (rwritesS s b (.tip 46 0 3 ys) n i) (brk (contOf F 42 0 N 1) KN) =
  bif decide (i < n) then onRes (F 49 [AV.ptr 0 0 0, AV.int IntKind.i64 1] [[AV.str s, AV.bool b]]) fun v bs => AM.asInt IntKind.i64 v fun n_1 => asCons bs fun v r => asCons v fun v r_1 => asStr v fun s_1 => asCons r_1 fun v r_2 => AM.asBool v fun b_1 => asNil r_2 (asNil r (onRes (F 49 [AV.ptr 0 0 0, AV.int IntKind.i64 1] [[AV.str s_1, AV.bool b_1]]) fun v bs => AM.asInt IntKind.i64 v fun n_2 => asCons bs fun v r => asCons v fun v r_3 => asStr v fun s_2 => asCons r_3 fun v r_4 => AM.asBool v fun b_2 => asNil r_4 (asNil r (onRes (F 85 [AV.str s_2] []) fun v bs => asTup v fun cs => asCons cs fun v r => asStr v fun s_3 => asCons r fun v r => asStr v fun s_4 => asCons r fun v r => AM.asInt IntKind.i64 v fun n_3 => asNil r (asNil bs (bif b_2 then some (AV.sl 0 true [], [[AV.str s_2, AV.bool true]]) else bif n_3 != 0 then some (AV.sl 0 true [], [[AV.str s_2, AV.bool true]]) else bif decide (3 = 3 ∧ fitsB (List.length ys + List.length [AV.agg [AV.int IntKind.i64 n_1, AV.int IntKind.i64 n_2, AV.str s_3]]) 32 = true ∧ List.length ys + List.length [AV.agg [AV.int IntKind.i64 n_1, AV.int IntKind.i64 n_2, AV.str s_3]] ≤ 4611686018427387904) then KN { nt := 61, t := [(0, AV.ptr 1000000 0 0), (2, AV.sl 0 true []), (3, AV.tip 46 0 3 (ys ++ [AV.agg [AV.int IntKind.i64 n_1, AV.int IntKind.i64 n_2, AV.str s_3]])), (4, AV.ptr 4 0 0), (5, AV.str s_3), (6, AV.str s_4), (7, AV.int IntKind.i64 n_3), (9, AV.int IntKind.i64 n), (10, AV.int IntKind.i64 (IntKind.wrap IntKind.i64 (i + 1))), (11, AV.bool (decide (i < n))), (33, AV.bool (n_3 != 0))], b := [(4, [AV.int IntKind.i64 n_1, AV.int IntKind.i64 n_2, AV.str s_3]), (1000000, [AV.str s_4, AV.bool b_2])], r := [], g := [], rd := [], wr := [] } else none)))))) else bif b then some (AV.sl 3 false ys, [[AV.str s, AV.bool true]]) else onRes (F 36 [AV.sl 3 false ys] []) fun v bs => AM.asBool v fun b => asNil bs (some (AV.sl 3 false ys, [[AV.str s, AV.bool !b]])) := by kernel_rfl
def WriteR (x : Option (List Wr × List UInt8)) (r : Res) : Prop := match x with
  | none => Bad r
  | some (l, s) => r = some (slW l, [[.str s, .bool false]])
def restW (acc : List Wr) (x : Option (List Wr × List UInt8)) : Option (List Wr × List UInt8) := match x with
  | none => none
  | some (l, s) => if wOk (acc ++ l) then some (acc ++ l, s) else none
/-- One round: a write is read, or all is bad. -/
theorem wr1_none {s : List UInt8} (h : wr1 s = none) : rdB 1 (rdS 1 s false) (rdB 1 s false) = true ∨ (rdB 1 (rdS 1 s false) (rdB 1 s false) = false ∧ takeT (rdS 1 (rdS 1 s false) (rdB 1 s false)) = none) := by
  unfold wr1 at h
  split at h
  · rename_i h1
    left
    rw [rd_none h1, (rd_bad _ _).1]
  · rename_i v s1 h1
    obtain ⟨a1, a2, a3⟩ := rd_some h1
    rw [a1, a3]
    split at h
    · rename_i h2
      left
      exact rd_none h2
    · rename_i b s2 h2
      obtain ⟨b1, b2, b3⟩ := rd_some h2
      right
      rw [b1, b3]
      refine ⟨rfl, ?_⟩
      split at h
      · assumption
      · simp at h
theorem wr1_some {s : List UInt8} {w : Wr} {t : List UInt8} (h : wr1 s = some (w, t)) : rdB 1 (rdS 1 s false) (rdB 1 s false) = false ∧ takeT (rdS 1 (rdS 1 s false) (rdB 1 s false)) = some (w.2.2, t) ∧ (rdN 1 s false : Int) = w.1 ∧ (rdN 1 (rdS 1 s false) (rdB 1 s false) : Int) = w.2.1 := by
  unfold wr1 at h
  split at h
  · simp at h
  · rename_i v s1 h1
    obtain ⟨a1, a2, a3⟩ := rd_some h1
    rw [a1, a2, a3]
    split at h
    · simp at h
    · rename_i b s2 h2
      obtain ⟨b1, b2, b3⟩ := rd_some h2
      rw [b1, b2, b3]
      split at h
      · simp at h
      · rename_i d s3 h3
        simp only [Option.some.injEq, Prod.mk.injEq] at h
        obtain ⟨rfl, rfl⟩ := h
        exact ⟨rfl, h3, rfl, rfl⟩
theorem rwrites_loop (k : Nat) (hk : 140 ≤ k) (n : Nat) (hn : n ≤ 65536) : ∀ (dd i m : Nat) (acc : List Wr) (s : List UInt8) (st : St), i + dd = n → dd < m → acc ≠ [] → acc.length = i → st.clean (deadOf 42 0) = rwritesS s false (.tip 46 0 3 (acc.map wrV)) n i →
    WriteR (restW acc (wrs dd s)) (loopA (bodyOf (evF pr k) 42 0 k) (deadOf 42 0) (contOf (evF pr k) 42 0 k 1) m st) := by
  intro dd
  induction dd with
  | zero =>
    intro i m acc s st hi hm ha hl hst
    obtain ⟨m, rfl⟩ : ∃ m', m = m' + 1 := ⟨m - 1, by omega⟩
    rw [loopA_succ, hst, rwrites_body1, decide_eq_false (by omega), e36 k false acc hk]
    simp only [cond_false, cond_true, onRes, asBool, asNil, wrs, restW, List.append_nil]
    cases wOk acc with
    | false => exact ⟨_, _, _, _, rfl⟩
    | true =>
      show _ = some (slW acc, _)
      rw [slW, if_neg ha]
      rfl
  | succ dd ih =>
    intro i m acc s st hi hm ha hl hst
    obtain ⟨m, rfl⟩ : ∃ m', m = m' + 1 := ⟨m - 1, by omega⟩
    rw [loopA_succ, hst, rwrites_body1, decide_eq_true (show (i : Int) < n by omega), show (1 : Int) = ((1 : Nat) : Int) from rfl, e49 k (by omega) s false 1 (by omega) (by omega)]
    simp only [cond_true, onRes, asBool, asNil, asInt, if_true, asCons, asStr]
    rw [e49 k (by omega) _ _ 1 (by omega) (by omega)]
    simp only [onRes, asBool, asNil, asInt, if_true, asCons, asStr]
    rw [e85 k (by omega), wrs]
    cases h1 : wr1 s with
    | none =>
      rcases wr1_none h1 with h | ⟨h, h2⟩
      · rw [h]
        cases takeT (rdS 1 (rdS 1 s false) (rdB 1 s false)) with
        | none => exact ⟨_, _, _, _, rfl⟩
        | some q => exact ⟨_, _, _, _, rfl⟩
      · rw [h, h2]
        exact ⟨_, _, _, _, rfl⟩
    | some p =>
      obtain ⟨w, t⟩ := p
      obtain ⟨r1, r2, r3, r4⟩ := wr1_some h1
      rw [r1, r2, r3, r4]
      simp only [asTup, asCons, asStr, asInt, if_true, asNil, cond_false, show ((0 : Int) != 0) = false from rfl]
      rw [decide_eq_true (by
        refine ⟨trivial, fitsB_small ?_, ?_⟩ <;> simp only [List.length_map, List.length_cons, List.length_nil] <;> omega)]
      simp only [cond_true]
      rw [show IntKind.wrap IntKind.i64 ((i : Int) + ((1 : Nat) : Int)) = ((i + 1 : Nat) : Int) by rw [wrap_small (by omega) (by omega)]; omega]
      have := ih (i + 1) m (acc ++ [w]) t ⟨61, [(0, AV.ptr 1000000 0 0), (2, AV.sl 0 true []), (3, AV.tip 46 0 3 (acc.map wrV ++ [AV.agg [AV.int IntKind.i64 w.1, AV.int IntKind.i64 w.2.1, AV.str w.2.2]])), (4, AV.ptr 4 0 0), (5, AV.str w.2.2), (6, AV.str t), (7, AV.int IntKind.i64 0), (9, AV.int IntKind.i64 n), (10, AV.int IntKind.i64 ((i + 1 : Nat) : Int)), (11, AV.bool true), (33, AV.bool false)], [(4, [AV.int IntKind.i64 w.1, AV.int IntKind.i64 w.2.1, AV.str w.2.2]), (1000000, [AV.str t, AV.bool false])], [], [], [], []⟩ (by omega) (by omega) (by simp) (by simp [hl]) (by rw [List.map_append]; kernel_rfl)
      cases h3 : wrs dd t with
      | none => rw [h3] at this; exact this
      | some r =>
        obtain ⟨l, s3⟩ := r
        rw [h3] at this
        simp only [restW, List.append_assoc, List.cons_append, List.nil_append] at this ⊢
        exact this
theorem e42 (k : Nat) (hk : 66000 ≤ k) (s : List UInt8) : WriteR (takeW s) (evF pr k 42 [.ptr 0 0 0] [[.str s, .bool false]]) := by
  obtain ⟨k, rfl⟩ : ∃ m, k = m + 1 := ⟨k - 1, by omega⟩
  rw [ev_step _ _ _ _ (by kernel_rfl), rwrites_tree, show (2 : Int) = ((2 : Nat) : Int) from rfl, e49 k (by omega) s false 2 (by omega) (by omega)]
  simp only [onRes, asBool, asNil, asInt, if_true, asCons, asStr]
  obtain ⟨k', hk'⟩ : ∃ m, k = m + 1 := ⟨k - 1, by omega⟩
  unfold takeW
  cases h1 : num 2 s with
  | none =>
    rw [rd_none h1]
    have : rdN 2 s false = 0 := by simp [rdN, rd_none h1]
    rw [this]
    conv => arg 2; arg 4; rw [hk']
    rw [loopA_succ]
    refine ⟨0, true, [], rdS 2 s false, ?_⟩
    exact rwrites_body0 _ _ (rdS 2 s false) true ((0 : Nat) : Int) 0 _
  | some p =>
    obtain ⟨n, s1⟩ := p
    obtain ⟨r1, r2, r3⟩ := rd_some h1
    have hn := (num_lt h1).1
    rw [r1, r2, r3]
    simp only
    conv => arg 2; arg 4; rw [hk']
    rw [loopA_succ]
    have hb : ∀ x, (x = bodyOf (evF pr k) 42 0 k (rwritesS s1 false (.sl 0 true []) n 0) (brk (contOf (evF pr k) 42 0 k 1) fun st' => loopA (bodyOf (evF pr k) 42 0 k) (deadOf 42 0) (contOf (evF pr k) 42 0 k 1) k' st')) → WriteR (match wrs n s1 with
      | none => none
      | some (l, s2) => if wOk l then some (l, s2) else none) x := by
      intro x hx
      rw [rwrites_body0] at hx
      cases n with
      | zero =>
        obtain ⟨k2, hk2⟩ : ∃ m, k = m + 6 := ⟨k - 6, by omega⟩
        have h36 : evF pr k 36 [.sl 0 true []] [] = some (.bool true, []) := by rw [hk2]; exact e36nil k2
        rw [hx, h36]
        rfl
      | succ n =>
        rw [hx, decide_eq_true (show (0 : Int) < ((n + 1 : Nat) : Int) by omega), show (1 : Int) = ((1 : Nat) : Int) from rfl, e49 k (by omega) s1 false 1 (by omega) (by omega)]
        simp only [cond_true, onRes, asBool, asNil, asInt, if_true, asCons, asStr]
        rw [e49 k (by omega) _ _ 1 (by omega) (by omega)]
        simp only [onRes, asBool, asNil, asInt, if_true, asCons, asStr]
        rw [e85 k (by omega), wrs]
        cases h1 : wr1 s1 with
        | none =>
          rcases wr1_none h1 with h | ⟨h, h2⟩
          · rw [h]
            cases takeT (rdS 1 (rdS 1 s1 false) (rdB 1 s1 false)) with
            | none => exact ⟨_, _, _, _, rfl⟩
            | some q => exact ⟨_, _, _, _, rfl⟩
          · rw [h, h2]
            exact ⟨_, _, _, _, rfl⟩
        | some p =>
          obtain ⟨w, t⟩ := p
          obtain ⟨r1, r2, r3, r4⟩ := wr1_some h1
          rw [r1, r2, r3, r4]
          simp only [asTup, asCons, asStr, asInt, if_true, asNil, cond_false, show ((0 : Int) != 0) = false from rfl]
          have := rwrites_loop k (by omega) (n + 1) (by omega) n 1 k' [w] t ⟨61, [(0, AV.ptr 1000000 0 0), (2, AV.sl 0 true []), (3, AV.tip 46 0 3 [AV.agg [AV.int IntKind.i64 w.1, AV.int IntKind.i64 w.2.1, AV.str w.2.2]]), (4, AV.ptr 4 0 0), (5, AV.str w.2.2), (6, AV.str t), (7, AV.int IntKind.i64 0), (9, AV.int IntKind.i64 ((n + 1 : Nat) : Int)), (10, AV.int IntKind.i64 (IntKind.wrap IntKind.i64 (0 + ((1 : Nat) : Int)))), (11, AV.bool true), (33, AV.bool false)], [(4, [AV.int IntKind.i64 w.1, AV.int IntKind.i64 w.2.1, AV.str w.2.2]), (1000000, [AV.str t, AV.bool false])], [], [], [], []⟩ (by omega) (by omega) (by simp) rfl (by kernel_rfl)
          cases h3 : wrs n t with
          | none => rw [h3] at this; exact this
          | some r =>
            obtain ⟨l, s4⟩ := r
            rw [h3] at this
            exact this
    exact hb _ (by kernel_rfl)
theorem takew_tree (F : Fns) (N : Nat) (s : List UInt8) : runOf F 14 N [.str s] [] =
  onRes (F 42 [AV.ptr 0 0 0] [[AV.str s, AV.bool false]]) fun v bs => asSl v fun m fl xs => asCons bs fun v r => asCons v fun v r_1 => asStr v fun s => asCons r_1 fun v r_2 => AM.asBool v fun b => asNil r_2 (asNil r (bif b then some (AV.tup [AV.sl 0 true [], AV.str [], AV.int IntKind.i64 3], []) else some (AV.tup [AV.sl m fl xs, AV.str s, AV.int IntKind.i64 0], []))) := by kernel_rfl
def TakeWR (x : Option (List Wr × List UInt8)) : Res := match x with
  | none => some (.tup [.sl 0 true [], .str [], .int .i64 3], [])
  | some (l, s) => some (.tup [slW l, .str s, .int .i64 0], [])
theorem e14 (k : Nat) (hk : 66001 ≤ k) (s : List UInt8) : evF pr k 14 [.str s] [] = TakeWR (takeW s) := by
  obtain ⟨k, rfl⟩ : ∃ m, k = m + 1 := ⟨k - 1, by omega⟩
  rw [ev_step _ _ _ _ (by kernel_rfl), takew_tree]
  have h := e42 k (by omega) s
  cases ht : takeW s with
  | none =>
    rw [ht] at h
    obtain ⟨m, fl, xs, s', h⟩ := h
    rw [h]
    rfl
  | some p =>
    obtain ⟨l, s'⟩ := p
    rw [ht] at h
    have h : _ = some (slW l, _) := h
    rw [h]
    show _ = some (AV.tup [slW l, .str s', .int .i64 0], [])
    unfold slW
    split <;> rfl

/-! ref17.TakeWrites -/
theorem wr1_ref (s : List UInt8) (p : Nat) : wr1 (s.drop p) = match num 2 (s.drop (p + 2)) with
    | none => none
    | some (n, u) => if u.length < n then none else some ((((s.getD p 0).toNat : Int), ((s.getD (p + 1) 0).toNat : Int), u.take n), u.drop n) := by
  have h1 : num 1 (s.drop p) = if s.length ≤ p then none else some ((s.getD p 0).toNat, s.drop (p + 1)) := by
    rw [num_eq 1 (by omega)]
    by_cases h : s.length ≤ p
    · rw [if_pos (by rw [List.length_drop]; omega), if_pos h]
    · rw [if_neg (by rw [List.length_drop]; omega), if_neg h, List.drop_drop, List.drop_eq_getElem_cons (show p < s.length by omega)]
      simp only [List.take_succ_cons, List.take_zero, unbe]
      rw [List.getD_eq_getElem?_getD, List.getElem?_eq_getElem (show p < s.length by omega)]
      simp
  have h2 : num 1 (s.drop (p + 1)) = if s.length ≤ p + 1 then none else some ((s.getD (p + 1) 0).toNat, s.drop (p + 2)) := by
    rw [num_eq 1 (by omega)]
    by_cases h : s.length ≤ p + 1
    · rw [if_pos (by rw [List.length_drop]; omega), if_pos h]
    · rw [if_neg (by rw [List.length_drop]; omega), if_neg h, List.drop_drop, List.drop_eq_getElem_cons (show p + 1 < s.length by omega)]
      simp only [List.take_succ_cons, List.take_zero, unbe]
      rw [List.getD_eq_getElem?_getD, List.getElem?_eq_getElem (show p + 1 < s.length by omega)]
      simp
  unfold wr1
  rw [h1]
  have hno : s.length ≤ p + 1 → num 2 (s.drop (p + 2)) = none := by
    intro h
    rw [num_eq 2 (by omega), if_pos (by rw [List.length_drop]; omega)]
  by_cases hp : s.length ≤ p
  · rw [if_pos hp, hno (by omega)]
  · rw [if_neg hp]
    simp only
    rw [h2]
    by_cases hp1 : s.length ≤ p + 1
    · rw [if_pos hp1, hno hp1]
    · rw [if_neg hp1]
      simp only [takeT]
      cases num 2 (s.drop (p + 2)) with
      | none => rfl
      | some q =>
        obtain ⟨n, u⟩ := q
        simp only
        split <;> simp_all
def rtakewS (s : List UInt8) (p n i : Int) (b c : Bool) (v : AV) : St := ⟨75, [(0, AV.str s), (1, AV.int IntKind.i64 p), (4, AV.sl 0 true []), (5, AV.int IntKind.i64 0), (6, AV.bool false), (7, AV.int IntKind.i64 n), (8, AV.bool b), (9, v), (10, AV.int IntKind.i64 i), (20, AV.bool c)], [], [], [], [], []⟩
theorem rtakew_tree (F : Fns) (N : Nat) (s : List UInt8) (p : Int) : runOf F 15 N [.str s, .int .i64 p] [] =
  onRes (F 43 [AV.str s, AV.int IntKind.i64 p, AV.int IntKind.i64 2] []) fun v bs => asTup v fun cs => asCons cs fun v r => AM.asInt IntKind.i64 v fun n => asCons r fun v r => AM.asBool v fun b => asNil r (asNil bs (bif !b then some (AV.tup [AV.sl 0 true [], AV.int IntKind.i64 0, AV.bool false], []) else loopA (bodyOf F 15 0 N) (deadOf 15 0) (contOf F 15 0 N 0) N { nt := 75, t := [(0, AV.str s), (1, AV.int IntKind.i64 (IntKind.wrap IntKind.i64 (p + 2))), (4, AV.sl 0 true []), (5, AV.int IntKind.i64 0), (6, AV.bool false), (7, AV.int IntKind.i64 n), (8, AV.bool b), (9, AV.sl 0 true []), (10, AV.int IntKind.i64 0), (20, AV.bool !b)], b := [], r := [], g := [], rd := [], wr := [] })) := by kernel_rfl
theorem rtakew_body0 (F : Fns) (N : Nat) (s : List UInt8) (p n i : Int) (b c : Bool) (KN : St → Res) : bodyOf F 15 0 N (rtakewS s p n i b c (.sl 0 true [])) (brk (contOf F 15 0 N 0) KN) =
  bif decide (i < n) then onRes (F 43 [AV.str s, AV.int IntKind.i64 (IntKind.wrap IntKind.i64 (p + 2)), AV.int IntKind.i64 2] []) fun v bs => asTup v fun cs => asCons cs fun v r => AM.asInt IntKind.i64 v fun n_1 => asCons r fun v r => AM.asBool v fun b_1 => asNil r (asNil bs (bif !b_1 then some (AV.tup [AV.sl 0 true [], AV.int IntKind.i64 0, AV.bool false], []) else bif decide (IntKind.wrap IntKind.i64 (IntKind.wrap IntKind.i64 (p + 4) + n_1) > ((List.length s : Nat) : Int)) then some (AV.tup [AV.sl 0 true [], AV.int IntKind.i64 0, AV.bool false], []) else bif decide (0 ≤ p) then onOpt (Option.map (fun b => AV.int IntKind.u8 ((UInt8.toNat b : Nat) : Int)) s[Int.toNat p]?) fun x => AM.asInt IntKind.u8 x fun n_2 => bif decide (0 ≤ IntKind.wrap IntKind.i64 (p + 1)) then onOpt (Option.map (fun b => AV.int IntKind.u8 ((UInt8.toNat b : Nat) : Int)) s[Int.toNat (IntKind.wrap IntKind.i64 (p + 1))]?) fun x => AM.asInt IntKind.u8 x fun n_3 => bif decide (0 ≤ IntKind.wrap IntKind.i64 (p + 4) ∧ IntKind.wrap IntKind.i64 (p + 4) ≤ IntKind.wrap IntKind.i64 (IntKind.wrap IntKind.i64 (p + 4) + n_1) ∧ IntKind.wrap IntKind.i64 (IntKind.wrap IntKind.i64 (p + 4) + n_1) ≤ ((List.length s : Nat) : Int)) then KN { nt := 75, t := [(0, AV.str s), (1, AV.int IntKind.i64 (IntKind.wrap IntKind.i64 (IntKind.wrap IntKind.i64 (p + 4) + n_1))), (4, AV.sl 0 true []), (5, AV.int IntKind.i64 0), (6, AV.bool false), (7, AV.int IntKind.i64 n), (8, AV.bool b), (9, AV.tip 66 0 3 [AV.agg [AV.int IntKind.i64 (IntKind.wrap IntKind.i64 n_2), AV.int IntKind.i64 (IntKind.wrap IntKind.i64 n_3), AV.str (List.drop (Int.toNat (IntKind.wrap IntKind.i64 (p + 4))) (List.take (Int.toNat (IntKind.wrap IntKind.i64 (IntKind.wrap IntKind.i64 (p + 4) + n_1))) s))]]), (10, AV.int IntKind.i64 (IntKind.wrap IntKind.i64 (i + 1))), (11, AV.int IntKind.i64 n_1), (12, AV.bool b_1), (20, AV.bool c), (25, AV.bool (decide (i < n))), (45, AV.bool (decide (IntKind.wrap IntKind.i64 (IntKind.wrap IntKind.i64 (p + 4) + n_1) > ((List.length s : Nat) : Int))))], b := [], r := [], g := [], rd := [], wr := [] } else none else none else none)) else onRes (F 12 [AV.sl 0 true []] []) fun v bs => AM.asBool v fun b => asNil bs (some (AV.tup [AV.sl 0 true [], AV.int IntKind.i64 p, AV.bool b], [])) := by kernel_rfl
theorem rtakew_body1 (F : Fns) (N : Nat) (s : List UInt8) (p n i : Int) (b c : Bool) (ys : List AV) (KN : St → Res) : bodyOf F 15 0 N (rtakewS s p n i b c (.tip 66 0 3 ys)) (brk (contOf F 15 0 N 0) KN) =
  bif decide (i < n) then onRes (F 43 [AV.str s, AV.int IntKind.i64 (IntKind.wrap IntKind.i64 (p + 2)), AV.int IntKind.i64 2] []) fun v bs => asTup v fun cs => asCons cs fun v r => AM.asInt IntKind.i64 v fun n_1 => asCons r fun v r => AM.asBool v fun b_1 => asNil r (asNil bs (bif !b_1 then some (AV.tup [AV.sl 0 true [], AV.int IntKind.i64 0, AV.bool false], []) else bif decide (IntKind.wrap IntKind.i64 (IntKind.wrap IntKind.i64 (p + 4) + n_1) > ((List.length s : Nat) : Int)) then some (AV.tup [AV.sl 0 true [], AV.int IntKind.i64 0, AV.bool false], []) else bif decide (0 ≤ p) then onOpt (Option.map (fun b => AV.int IntKind.u8 ((UInt8.toNat b : Nat) : Int)) s[Int.toNat p]?) fun x => AM.asInt IntKind.u8 x fun n_2 => bif decide (0 ≤ IntKind.wrap IntKind.i64 (p + 1)) then onOpt (Option.map (fun b => AV.int IntKind.u8 ((UInt8.toNat b : Nat) : Int)) s[Int.toNat (IntKind.wrap IntKind.i64 (p + 1))]?) fun x => AM.asInt IntKind.u8 x fun n_3 => bif decide (0 ≤ IntKind.wrap IntKind.i64 (p + 4) ∧ IntKind.wrap IntKind.i64 (p + 4) ≤ IntKind.wrap IntKind.i64 (IntKind.wrap IntKind.i64 (p + 4) + n_1) ∧ IntKind.wrap IntKind.i64 (IntKind.wrap IntKind.i64 (p + 4) + n_1) ≤ ((List.length s : Nat) : Int)) then bif decide (3 = 3 ∧ fitsB (List.length ys + List.length [AV.agg [AV.int IntKind.i64 (IntKind.wrap IntKind.i64 n_2), AV.int IntKind.i64 (IntKind.wrap IntKind.i64 n_3), AV.str (List.drop (Int.toNat (IntKind.wrap IntKind.i64 (p + 4))) (List.take (Int.toNat (IntKind.wrap IntKind.i64 (IntKind.wrap IntKind.i64 (p + 4) + n_1))) s))]]) 32 = true ∧ List.length ys + List.length [AV.agg [AV.int IntKind.i64 (IntKind.wrap IntKind.i64 n_2), AV.int IntKind.i64 (IntKind.wrap IntKind.i64 n_3), AV.str (List.drop (Int.toNat (IntKind.wrap IntKind.i64 (p + 4))) (List.take (Int.toNat (IntKind.wrap IntKind.i64 (IntKind.wrap IntKind.i64 (p + 4) + n_1))) s))]] ≤ 4611686018427387904) then KN { nt := 75, t := [(0, AV.str s), (1, AV.int IntKind.i64 (IntKind.wrap IntKind.i64 (IntKind.wrap IntKind.i64 (p + 4) + n_1))), (4, AV.sl 0 true []), (5, AV.int IntKind.i64 0), (6, AV.bool false), (7, AV.int IntKind.i64 n), (8, AV.bool b), (9, AV.tip 66 0 3 (ys ++ [AV.agg [AV.int IntKind.i64 (IntKind.wrap IntKind.i64 n_2), AV.int IntKind.i64 (IntKind.wrap IntKind.i64 n_3), AV.str (List.drop (Int.toNat (IntKind.wrap IntKind.i64 (p + 4))) (List.take (Int.toNat (IntKind.wrap IntKind.i64 (IntKind.wrap IntKind.i64 (p + 4) + n_1))) s))]])), (10, AV.int IntKind.i64 (IntKind.wrap IntKind.i64 (i + 1))), (11, AV.int IntKind.i64 n_1), (12, AV.bool b_1), (20, AV.bool c), (25, AV.bool (decide (i < n))), (45, AV.bool (decide (IntKind.wrap IntKind.i64 (IntKind.wrap IntKind.i64 (p + 4) + n_1) > ((List.length s : Nat) : Int))))], b := [], r := [], g := [], rd := [], wr := [] } else none else none else none else none)) else onRes (F 12 [AV.sl 3 false ys] []) fun v bs => AM.asBool v fun b => asNil bs (some (AV.tup [AV.sl 3 false ys, AV.int IntKind.i64 p, AV.bool b], [])) := by kernel_rfl
/-- What ref17.TakeWrites answers. -/
def RTakeW (s : List UInt8) (acc : List Wr) (x : Option (List Wr × List UInt8)) : Res := match x with
  | none => some (.tup [.sl 0 true [], .int .i64 0, .bool false], [])
  | some (l, u) => some (.tup [slW (acc ++ l), .int .i64 ((s.length - u.length : Nat) : Int), .bool (wOk (acc ++ l))], [])
theorem getD_map (s : List UInt8) (p : Nat) (h : p < s.length) : Option.map (fun b => AV.int IntKind.u8 ((UInt8.toNat b : Nat) : Int)) s[Int.toNat (p : Int)]? = some (AV.int .u8 ((s.getD p 0).toNat : Int)) := by
  rw [Int.toNat_natCast, List.getElem?_eq_getElem h, List.getD_eq_getElem?_getD, List.getElem?_eq_getElem h]
  rfl
/-- What one round reads. -/
theorem rtakew_round (s : List UInt8) (hs : s.length < 1152921504606846976) (p : Nat) (hp : p ≤ s.length) (X : Res) (G : Nat → List UInt8 → Wr → Res) (n1 : Nat) (u : List UInt8) (h : num 2 (s.drop (p + 2)) = some (n1, u)) (hu : ¬ u.length < n1) :
    p + 4 + n1 ≤ s.length ∧ u = s.drop (p + 4) ∧ IntKind.wrap IntKind.i64 ((p : Int) + 4) = ((p + 4 : Nat) : Int) ∧ IntKind.wrap IntKind.i64 (((p + 4 : Nat) : Int) + (n1 : Int)) = ((p + 4 + n1 : Nat) : Int) ∧ IntKind.wrap IntKind.i64 ((p : Int) + 1) = ((p + 1 : Nat) : Int) ∧ List.drop (p + 4) (List.take (p + 4 + n1) s) = u.take n1 ∧ u.drop n1 = s.drop (p + 4 + n1) := by
  obtain ⟨a1, a2⟩ := num_suffix h
  have hu' : u = s.drop (p + 4) := by rw [a1, List.drop_drop]
  have hlt := (num_lt h).1
  rw [List.length_drop] at a2
  have hul : u.length = s.length - (p + 4) := by rw [hu', List.length_drop]
  have hp4 : p + 4 ≤ s.length := by omega
  refine ⟨by omega, hu', by rw [wrap_small (by omega) (by omega)]; omega, by rw [wrap_small (by omega) (by omega)]; omega, by rw [wrap_small (by omega) (by omega)]; omega, ?_, ?_⟩
  · rw [List.drop_take, hu', show p + 4 + n1 - (p + 4) = n1 by omega]
  · rw [hu', List.drop_drop]
theorem byte_i64 (b : UInt8) : IntKind.wrap IntKind.i64 ((b.toNat : Nat) : Int) = ((b.toNat : Nat) : Int) := by
  have := b.toNat_lt
  exact wrap_small (by omega) (by omega)
theorem rtakew_loop (k : Nat) (hk : 240 ≤ k) (s : List UInt8) (hs : s.length < 1152921504606846976) (n : Nat) (hn : n ≤ 65536) (b c : Bool) : ∀ (dd i m p : Nat) (acc : List Wr) (st : St), i + dd = n → dd < m → p ≤ s.length → acc ≠ [] → acc.length = i → st.clean (deadOf 15 0) = rtakewS s p n i b c (.tip 66 0 3 (acc.map wrV)) →
    loopA (bodyOf (evF pr k) 15 0 k) (deadOf 15 0) (contOf (evF pr k) 15 0 k 0) m st = RTakeW s acc (wrs dd (s.drop p)) := by
  intro dd
  induction dd with
  | zero =>
    intro i m p acc st hi hm hp ha hl hst
    obtain ⟨m, rfl⟩ : ∃ m', m = m' + 1 := ⟨m - 1, by omega⟩
    rw [loopA_succ, hst, rtakew_body1, decide_eq_false (by omega), e12 k false acc (by omega)]
    simp only [cond_false, onRes, asBool, asNil, wrs, RTakeW, List.append_nil]
    rw [List.length_drop, show s.length - (s.length - p) = p by omega, slW, if_neg ha]
  | succ dd ih =>
    intro i m p acc st hi hm hp ha hl hst
    obtain ⟨m, rfl⟩ : ∃ m', m = m' + 1 := ⟨m - 1, by omega⟩
    rw [loopA_succ, hst, rtakew_body1, decide_eq_true (show (i : Int) < n by omega), show IntKind.wrap IntKind.i64 ((p : Int) + 2) = ((p + 2 : Nat) : Int) by (rw [wrap_small (by omega) (by omega)]; omega), show (2 : Int) = ((2 : Nat) : Int) from rfl,
      e43 k (by omega) s (by omega) (p + 2) (by omega) 2 (by omega) (by omega)]
    simp only [cond_true, onRes, asBool, asNil, asInt, if_true, asCons, asTup, wrs]
    rw [wr1_ref]
    cases h1 : num 2 (s.drop (p + 2)) with
    | none =>
      rw [show (numE 2 (s.drop (p + 2)) == 0) = false by simpa using num_no h1]
      rfl
    | some q =>
      obtain ⟨n1, u⟩ := q
      obtain ⟨r1, r2, r3⟩ := num_at h1
      have hlt := (num_lt h1).1
      rw [r1, r2]
      simp only [show ((0 : Int) == 0) = true from rfl, Bool.not_true, cond_false]
      by_cases hu : u.length < n1
      · rw [if_pos hu]
        have hul : u.length = s.length - (p + 4) := by rw [r3, List.length_drop, List.length_drop]; omega
        have h4 := (num_suffix h1).2
        rw [List.length_drop] at h4
        rw [show IntKind.wrap IntKind.i64 ((p : Int) + 4) = ((p + 4 : Nat) : Int) by (rw [wrap_small (by omega) (by omega)]; omega), wrap_small (n := ((p + 4 : Nat) : Int) + (n1 : Int)) (by omega) (by omega), decide_eq_true (show ((p + 4 : Nat) : Int) + (n1 : Int) > s.length by omega)]
        rfl
      · rw [if_neg hu]
        obtain ⟨g1, g2, g3, g4, g5, g6, g7⟩ := rtakew_round s hs p hp none (fun _ _ _ => none) n1 u h1 hu
        rw [g3, g4, g5, decide_eq_false (show ¬ ((p + 4 + n1 : Nat) : Int) > s.length by omega), decide_eq_true (show (0 : Int) ≤ p by omega), decide_eq_true (show (0 : Int) ≤ (p + 1 : Nat) by omega), getD_map s p (by omega), getD_map s (p + 1) (by omega), decide_eq_true (show 0 ≤ ((p + 4 : Nat) : Int) ∧ ((p + 4 : Nat) : Int) ≤ ((p + 4 + n1 : Nat) : Int) ∧ ((p + 4 + n1 : Nat) : Int) ≤ s.length by omega)]
        simp only [cond_true, cond_false, onOpt, asInt, if_true, byte_i64]
        rw [Int.toNat_natCast, Int.toNat_natCast, g6]
        rw [decide_eq_true (by
          refine ⟨trivial, fitsB_small ?_, ?_⟩ <;> simp only [List.length_map, List.length_cons, List.length_nil] <;> omega)]
        simp only [cond_true]
        rw [wrap_small (n := (i : Int) + 1) (by omega) (by omega), g7]
        refine (ih (i + 1) m (p + 4 + n1) (acc ++ [(((s.getD p 0).toNat : Int), ((s.getD (p + 1) 0).toNat : Int), u.take n1)]) _ (by omega) (by omega) g1 (by simp) (by simp [hl]) (by rw [List.map_append]; kernel_rfl)).trans ?_
        cases h3 : wrs dd (s.drop (p + 4 + n1)) with
        | none => rfl
        | some r =>
          obtain ⟨l, s3⟩ := r
          simp only [RTakeW, List.append_assoc, List.cons_append, List.nil_append]
def RTakeWAt (p : Nat) (s : List UInt8) : Res := match num 2 (s.drop p) with
  | none => RTakeW s [] none
  | some (n, t) => RTakeW s [] (wrs n t)
theorem e15 (k : Nat) (hk : 66000 ≤ k) (s : List UInt8) (hs : s.length < 1152921504606846976) (p : Nat) (hp : p < 1152921504606846976) : evF pr k 15 [.str s, .int .i64 p] [] = RTakeWAt p s := by
  obtain ⟨k, rfl⟩ : ∃ m, k = m + 1 := ⟨k - 1, by omega⟩
  rw [ev_step _ _ _ _ (by kernel_rfl), rtakew_tree, show (2 : Int) = ((2 : Nat) : Int) from rfl, e43 k (by omega) s (by omega) p (by omega) 2 (by omega) (by omega)]
  simp only [onRes, asBool, asNil, asInt, if_true, asCons, asTup]
  unfold RTakeWAt
  cases h1 : num 2 (s.drop p) with
  | none =>
    rw [show (numE 2 (s.drop p) == 0) = false by simpa using num_no h1]
    rfl
  | some q =>
    obtain ⟨n, t⟩ := q
    obtain ⟨r1, r2, r3⟩ := num_at h1
    have hn := (num_lt h1).1
    have hp2 := (num_suffix h1).2
    rw [List.length_drop] at hp2
    rw [r1, r2]
    rw [List.drop_drop] at r3
    subst r3
    rw [show IntKind.wrap IntKind.i64 ((p : Int) + ((2 : Nat) : Int)) = ((p + 2 : Nat) : Int) by (rw [wrap_small (by omega) (by omega)]; omega)]
    simp only [show ((0 : Int) == 0) = true from rfl, Bool.not_true, cond_false]
    obtain ⟨k', hk'⟩ : ∃ m, k = m + 1 := ⟨k - 1, by omega⟩
    conv => lhs; arg 4; rw [hk']
    rw [loopA_succ]
    refine (rtakew_body0 _ _ s ((p + 2 : Nat) : Int) n 0 true false _).trans ?_
    cases n with
    | zero =>
      obtain ⟨k2, hk2⟩ : ∃ m, k = m + 6 := ⟨k - 6, by omega⟩
      have h12 : evF pr k 12 [.sl 0 true []] [] = some (.bool true, []) := by rw [hk2]; exact e12nil k2
      rw [h12, decide_eq_false (show ¬ (0 : Int) < ((0 : Nat) : Int) by omega)]
      simp only [cond_false, onRes, asBool, asNil, wrs, RTakeW, List.append_nil]
      rw [List.length_drop, show s.length - (s.length - (p + 2)) = p + 2 by omega]
      rfl
    | succ n =>
      rw [decide_eq_true (show (0 : Int) < ((n + 1 : Nat) : Int) by omega), show IntKind.wrap IntKind.i64 (((p + 2 : Nat) : Int) + 2) = ((p + 2 + 2 : Nat) : Int) by (rw [wrap_small (by omega) (by omega)]; omega), show (2 : Int) = ((2 : Nat) : Int) from rfl,
        e43 k (by omega) s (by omega) (p + 2 + 2) (by omega) 2 (by omega) (by omega)]
      simp only [cond_true, onRes, asBool, asNil, asInt, if_true, asCons, asTup, wrs]
      rw [wr1_ref]
      cases h1 : num 2 (s.drop (p + 2 + 2)) with
      | none =>
        rw [show (numE 2 (s.drop (p + 2 + 2)) == 0) = false by simpa using num_no h1]
        rfl
      | some q =>
        obtain ⟨n1, u⟩ := q
        obtain ⟨r1, r2, r3⟩ := num_at h1
        have hlt := (num_lt h1).1
        rw [r1, r2]
        simp only [show ((0 : Int) == 0) = true from rfl, Bool.not_true, cond_false]
        by_cases hu : u.length < n1
        · rw [if_pos hu]
          have hul : u.length = s.length - (p + 2 + 4) := by rw [r3, List.length_drop, List.length_drop]; omega
          have h4 := (num_suffix h1).2
          rw [List.length_drop] at h4
          rw [show IntKind.wrap IntKind.i64 (((p + 2 : Nat) : Int) + 4) = ((p + 2 + 4 : Nat) : Int) by (rw [wrap_small (by omega) (by omega)]; omega), wrap_small (n := ((p + 2 + 4 : Nat) : Int) + (n1 : Int)) (by omega) (by omega), decide_eq_true (show ((p + 2 + 4 : Nat) : Int) + (n1 : Int) > s.length by omega)]
          rfl
        · rw [if_neg hu]
          obtain ⟨g1, g2, g3, g4, g5, g6, g7⟩ := rtakew_round s hs (p + 2) (by omega) none (fun _ _ _ => none) n1 u h1 hu
          rw [g3, g4, g5, decide_eq_false (show ¬ ((p + 2 + 4 + n1 : Nat) : Int) > s.length by omega), decide_eq_true (show (0 : Int) ≤ (p + 2 : Nat) by omega), decide_eq_true (show (0 : Int) ≤ (p + 2 + 1 : Nat) by omega), getD_map s (p + 2) (by omega), getD_map s (p + 2 + 1) (by omega), decide_eq_true (show 0 ≤ ((p + 2 + 4 : Nat) : Int) ∧ ((p + 2 + 4 : Nat) : Int) ≤ ((p + 2 + 4 + n1 : Nat) : Int) ∧ ((p + 2 + 4 + n1 : Nat) : Int) ≤ s.length by omega)]
          simp only [cond_true, cond_false, onOpt, asInt, if_true, byte_i64]
          rw [Int.toNat_natCast, Int.toNat_natCast, g6, g7]
          refine (rtakew_loop k (by omega) s hs (n + 1) (by omega) true false n 1 k' (p + 2 + 4 + n1) [(((s.getD (p + 2) 0).toNat : Int), ((s.getD (p + 2 + 1) 0).toNat : Int), u.take n1)] _ (by omega) (by omega) g1 (by simp) rfl (by kernel_rfl)).trans ?_
          cases h3 : wrs n (s.drop (p + 2 + 4 + n1)) with
          | none => rfl
          | some r => rfl

/-! The law -/
theorem writes_tree (F : Fns) (N : Nat) (fl : Bool) (xs : List AV) (s : List UInt8) : runOf F 3 N [.sl 3 fl xs, .str s] [] =
  bif decide (((List.length xs : Nat) : Int) > 200) then onRes (F 10 [] []) fun v bs => AM.asBool v fun b => asNil bs (some (AV.bool b, [])) else bif decide (((List.length s : Nat) : Int) > 16384) then onRes (F 10 [] []) fun v bs => AM.asBool v fun b => asNil bs (some (AV.bool b, [])) else onRes (F 11 [AV.sl 3 fl xs] []) fun v bs => asTup v fun cs => asCons cs fun v r => asStr v fun s_1 => asCons r fun v r => AM.asInt IntKind.i64 v fun n => asNil r (asNil bs (onRes (F 12 [AV.sl 3 fl xs] []) fun v bs => AM.asBool v fun b => asNil bs (bif b then onRes (F 13 [AV.sl 3 fl xs] []) fun v bs => asStr v fun s_2 => asNil bs (bif !s_1 == s_2 then some (AV.bool false, []) else bif n != 0 then some (AV.bool false, []) else onRes (F 14 [AV.str s] []) fun v bs => asTup v fun cs => asCons cs fun v r => asSl v fun m fl xs => asCons r fun v r => asStr v fun s_3 => asCons r fun v r => AM.asInt IntKind.i64 v fun n => asNil r (asNil bs (onRes (F 15 [AV.str s, AV.int IntKind.i64 0] []) fun v bs => asTup v fun cs => asCons cs fun v r => asSl v fun m_1 fl_1 xs_1 => asCons r fun v r => AM.asInt IntKind.i64 v fun n_1 => asCons r fun v r => AM.asBool v fun b => asNil r (asNil bs (bif !b then bif ((List.length xs : Nat) : Int) == 0 then bif s_3 == Array.toList (ByteArray.data { data := #[] }) then bif n == 3 then onRes (F 10 [] []) fun v bs => AM.asBool v fun b => asNil bs (some (AV.bool b, [])) else some (AV.bool false, []) else some (AV.bool false, []) else some (AV.bool false, []) else onRes (F 16 [AV.sl m fl xs, AV.sl m_1 fl_1 xs_1] []) fun v bs => AM.asBool v fun b => asNil bs (bif b then bif decide (0 ≤ n_1 ∧ n_1 ≤ ((List.length s : Nat) : Int) ∧ ((List.length s : Nat) : Int) ≤ ((List.length s : Nat) : Int)) then bif s_3 == List.drop (Int.toNat n_1) (List.take (Int.toNat ((List.length s : Nat) : Int)) s) then bif n == 0 then onRes (F 10 [] []) fun v bs => AM.asBool v fun b => asNil bs (some (AV.bool b, [])) else some (AV.bool false, []) else some (AV.bool false, []) else none else some (AV.bool false, []))))))) else bif !s_1 == [] then some (AV.bool false, []) else bif n != 1 then some (AV.bool false, []) else onRes (F 14 [AV.str s] []) fun v bs => asTup v fun cs => asCons cs fun v r => asSl v fun m fl xs => asCons r fun v r => asStr v fun s_2 => asCons r fun v r => AM.asInt IntKind.i64 v fun n => asNil r (asNil bs (onRes (F 15 [AV.str s, AV.int IntKind.i64 0] []) fun v bs => asTup v fun cs => asCons cs fun v r => asSl v fun m_1 fl_1 xs_1 => asCons r fun v r => AM.asInt IntKind.i64 v fun n_1 => asCons r fun v r => AM.asBool v fun b => asNil r (asNil bs (bif !b then bif ((List.length xs : Nat) : Int) == 0 then bif s_2 == Array.toList (ByteArray.data { data := #[] }) then bif n == 3 then onRes (F 10 [] []) fun v bs => AM.asBool v fun b => asNil bs (some (AV.bool b, [])) else some (AV.bool false, []) else some (AV.bool false, []) else some (AV.bool false, []) else onRes (F 16 [AV.sl m fl xs, AV.sl m_1 fl_1 xs_1] []) fun v bs => AM.asBool v fun b => asNil bs (bif b then bif decide (0 ≤ n_1 ∧ n_1 ≤ ((List.length s : Nat) : Int) ∧ ((List.length s : Nat) : Int) ≤ ((List.length s : Nat) : Int)) then bif s_2 == List.drop (Int.toNat n_1) (List.take (Int.toNat ((List.length s : Nat) : Int)) s) then bif n == 0 then onRes (F 10 [] []) fun v bs => AM.asBool v fun b => asNil bs (some (AV.bool b, [])) else some (AV.bool false, []) else some (AV.bool false, []) else none else some (AV.bool false, []))))))))) := by kernel_rfl
theorem e10b : evF pr 69999 10 [] [] = some (.bool true, []) := by kernel_rfl
theorem msgWrites (fl : Bool) (l : List Wr) (s : List UInt8) : evF pr 70000 3 [.sl 3 fl (l.map wrV), .str s] [] = some (.bool true, []) := by
  rw [ev_step _ _ _ _ (by kernel_rfl), writes_tree, List.length_map, e10b]
  by_cases h : l.length ≤ 200
  · by_cases hsl : s.length ≤ 16384
    · have h15 : evF pr 69999 15 [.str s, .int .i64 0] [] = RTakeWAt 0 s := e15 69999 (by omega) s (by omega) 0 (by omega)
      rw [decide_eq_false (show ¬ ((l.length : Nat) : Int) > 200 by omega), decide_eq_false (show ¬ ((s.length : Nat) : Int) > 16384 by omega), e11 69999 fl l (by omega), e12 69999 fl l (by omega), e14 69999 (by omega), h15]
      have key : TakeWR (takeW s) = some (.tup [.sl 0 true [], .str [], .int .i64 3], []) ∧ (RTakeWAt 0 s = some (.tup [.sl 0 true [], .int .i64 0, .bool false], []) ∨ ∃ l n, RTakeWAt 0 s = some (.tup [slW l, .int .i64 n, .bool false], [])) ∨
          ∃ l n, TakeWR (takeW s) = some (.tup [slW l, .str (s.drop n), .int .i64 0], []) ∧ RTakeWAt 0 s = some (.tup [slW l, .int .i64 (n : Nat), .bool true], []) ∧ n ≤ s.length ∧ l.length ≤ 65535 := by
        unfold takeW RTakeWAt
        rw [List.drop_zero]
        cases h1 : num 2 s with
        | none => exact .inl ⟨rfl, .inl rfl⟩
        | some q =>
          obtain ⟨n, t⟩ := q
          have hn := (num_lt h1).1
          obtain ⟨r1, r2⟩ := num_suffix h1
          simp only
          cases h2 : wrs n t with
          | none => exact .inl ⟨rfl, .inl rfl⟩
          | some q =>
            obtain ⟨l, u⟩ := q
            obtain ⟨⟨q, g1, g2⟩, g3⟩ := wrs_suffix n t l u h2
            simp only [RTakeW, List.nil_append, TakeWR]
            cases hok : wOk l with
            | false => exact .inl ⟨rfl, .inr ⟨l, _, rfl⟩⟩
            | true =>
              have hul : u.length = s.length - (2 + q) := by rw [g1, r1, List.length_drop, List.length_drop]; omega
              rw [r1, List.length_drop] at g2
              refine .inr ⟨l, s.length - u.length, ?_, rfl, by omega, by omega⟩
              have hu : u = s.drop (s.length - u.length) := by
                rw [hul, show s.length - (s.length - (2 + q)) = 2 + q by omega, g1, r1, List.drop_drop]
              rw [← hu]
              rfl
      rcases key with ⟨k1, k2⟩ | ⟨l2, n, k1, k2, k3, k4⟩
      · rw [k1]
        cases hok : wOk l with
        | false =>
          rcases k2 with k2 | ⟨l2, n, k2⟩
          · rw [k2]; rfl
          · rw [k2]
            obtain ⟨m, f2, xs, hsl, _⟩ := slW_sl l2
            rw [hsl]
            rfl
        | true =>
          rw [e13 69999 fl l (by omega) hok]
          simp only [if_true, onRes, asTup, asCons, asStr, asInt, asNil, asBool, cond_false, cond_true, beq_self_eq_true, Bool.not_true]
          rcases k2 with k2 | ⟨l2, n, k2⟩
          · rw [k2]; rfl
          · rw [k2]
            obtain ⟨m, f2, xs, hsl, _⟩ := slW_sl l2
            rw [hsl]
            rfl
      · rw [k1, k2]
        have he := e16' 69999 (IsW.slW l2) (IsW.slW l2) (by omega) (by omega)
        rw [decide_eq_true rfl] at he
        obtain ⟨m, f2, xs, hsl, _⟩ := slW_sl l2
        rw [hsl] at he ⊢
        have hc : decide (0 ≤ ((n : Nat) : Int) ∧ ((n : Nat) : Int) ≤ ((s.length : Nat) : Int) ∧ ((s.length : Nat) : Int) ≤ ((s.length : Nat) : Int)) = true := decide_eq_true (by omega)
        have hd : s.drop (((n : Nat) : Int).toNat) = s.drop n := by rw [Int.toNat_natCast]
        have ht : s.take (((s.length : Nat) : Int).toNat) = s := by rw [Int.toNat_natCast, List.take_length]
        cases hok : wOk l with
        | false =>
          simp only [if_false, onRes, asTup, asCons, asStr, asInt, asNil, asBool, asSl, cond_false, cond_true, beq_self_eq_true, Bool.not_true, Bool.false_eq_true, if_true, he, hc, hd, ht]
          rfl
        | true =>
          rw [e13 69999 fl l (by omega) hok]
          simp only [if_true, onRes, asTup, asCons, asStr, asInt, asNil, asBool, asSl, cond_false, cond_true, beq_self_eq_true, Bool.not_true, he, hc, hd, ht]
          rfl
    · rw [decide_eq_false (show ¬ ((l.length : Nat) : Int) > 200 by omega), decide_eq_true (show ((s.length : Nat) : Int) > 16384 by omega)]
      rfl
  · rw [decide_eq_true (show ((l.length : Nat) : Int) > 200 by omega)]
    rfl

end Go.AM.Ytnhfjkckgicidaa
