/- Numbers as bytes: the functions of octet, ref01, ref17 and msg's reader that read and write them. -/
import Derived.Test.YtnhfjkckgicidaaAmMa
set_option linter.unusedVariables false
namespace Go.AM.Ytnhfjkckgicidaa
open Go.AM Go.Proofs Go

theorem ev_step (k f : Nat) (a : List AV) (b : Boxes) (h : (find f fnl).isSome = true) : evF pr (k + 1) f a b = runOf (evF pr k) f k a b := by
  unfold runOf fxOf
  obtain ⟨fx, hfx⟩ := Option.isSome_iff_exists.1 h
  have : pr.f f = some (.inl fx) := by
    show mkF fnl [] f = _
    simp [mkF, find, hfx]
  simp only [evF, this, hfx]
  rfl

theorem e89 (k : Nat) (hk : 10 ≤ k) (s : List UInt8) : evF pr k 89 [.str s] [] = some (.tup [.int .i64 (AM.getV s).1, .int .i64 (AM.getV s).2], []) := by
  obtain ⟨k, rfl⟩ : ∃ m, k = m + 1 := ⟨k - 1, by omega⟩
  rw [ev_step _ _ _ _ (by kernel_rfl)]
  exact get_run _ _ (by omega) s
theorem e37 (k : Nat) (hk : 10 ≤ k) (z : Int) (hz : z < 9223372036854775808) (w : Nat) (hw1 : 1 ≤ w) (hw : w ≤ 8) : evF pr k 37 [.int .i64 z, .int .i64 w] [] = some (.tup [.str (putV z w).1, .int .i64 (putV z w).2], []) := by
  obtain ⟨k, rfl⟩ : ∃ m, k = m + 1 := ⟨k - 1, by omega⟩
  rw [ev_step _ _ _ _ (by kernel_rfl)]
  exact put_run _ _ (by omega) z hz w hw1 hw

theorem one_tree (F : Fns) (N : Nat) (z : Int) : runOf F 41 N [.int .i64 z] [] =
  some (AV.str [UInt8.ofNat (Int.toNat (IntKind.wrap IntKind.u8 z))], []) := by kernel_rfl
theorem two_tree (F : Fns) (N : Nat) (z : Int) : runOf F 40 N [.int .i64 z] [] =
  some (AV.str [UInt8.ofNat (Int.toNat (IntKind.wrap IntKind.u8 (IntKind.wrap IntKind.i64 (Int.tdiv z 256)))), UInt8.ofNat (Int.toNat (IntKind.wrap IntKind.u8 (Int.tmod z 256)))], []) := by kernel_rfl
theorem byte_wrap (n : Nat) : UInt8.ofNat (Int.toNat (IntKind.wrap IntKind.u8 (n : Int))) = UInt8.ofNat n := by
  have : (IntKind.wrap IntKind.u8 (n : Int)) = ((n % 256 : Nat) : Int) := by
    simp [IntKind.wrap, IntKind.bits, IntKind.signed]
  rw [this, Int.toNat_natCast]
  apply UInt8.toNat_inj.1
  simp
theorem e41 (k : Nat) (hk : 1 ≤ k) (n : Nat) : evF pr k 41 [.int .i64 n] [] = some (.str [UInt8.ofNat n], []) := by
  obtain ⟨k, rfl⟩ : ∃ m, k = m + 1 := ⟨k - 1, by omega⟩
  rw [ev_step _ _ _ _ (by kernel_rfl), one_tree, byte_wrap]
theorem e40 (k : Nat) (hk : 1 ≤ k) (n : Nat) (hn : n < 9223372036854775808) : evF pr k 40 [.int .i64 n] [] = some (.str (be 2 n), []) := by
  obtain ⟨k, rfl⟩ : ∃ m, k = m + 1 := ⟨k - 1, by omega⟩
  rw [ev_step _ _ _ _ (by kernel_rfl), two_tree]
  have e1 : Int.tdiv (n : Int) 256 = ((n / 256 : Nat) : Int) := rfl
  have e2 : Int.tmod (n : Int) 256 = ((n % 256 : Nat) : Int) := rfl
  rw [e1, e2, wrap_small (by omega) (by omega), byte_wrap, byte_wrap]
  simp only [be, List.nil_append, List.cons_append]
  have : UInt8.ofNat (n / 256 % 256) = UInt8.ofNat (n / 256) := by apply UInt8.toNat_inj.1; simp
  rw [this]

def rputS (z w i : Int) (s : List UInt8) (b d : Bool) : St := ⟨33, [(0, AV.int IntKind.i64 z), (1, AV.int IntKind.i64 w), (4, AV.str []), (5, AV.int IntKind.i64 0), (6, AV.str s), (7, AV.int IntKind.i64 i), (13, AV.bool b), (15, AV.bool d)], [], [], [], [], []⟩
theorem rput_body (F : Fns) (N : Nat) (z w i : Int) (s : List UInt8) (b d : Bool) (KN : St → Res) : bodyOf F 87 0 N (rputS z w i s b d) (brk (contOf F 87 0 N 0) KN) =
  bif decide (i < w) then bif decide (List.length [UInt8.ofNat (Int.toNat (IntKind.wrap IntKind.u8 (Int.tmod z 256)))] + List.length s ≤ 4611686018427387904) then KN { nt := 33, t := [(0, AV.int IntKind.i64 (IntKind.wrap IntKind.i64 (Int.tdiv z 256))), (1, AV.int IntKind.i64 w), (4, AV.str []), (5, AV.int IntKind.i64 0), (6, AV.str ([UInt8.ofNat (Int.toNat (IntKind.wrap IntKind.u8 (Int.tmod z 256)))] ++ s)), (7, AV.int IntKind.i64 (IntKind.wrap IntKind.i64 (i + 1))), (13, AV.bool b), (15, AV.bool d), (18, AV.bool (decide (i < w)))], b := [], r := [], g := [], rd := [], wr := [] } else none else bif decide (z > 0) then some (AV.tup [AV.str [], AV.int IntKind.i64 10], []) else some (AV.tup [AV.str s, AV.int IntKind.i64 0], []) := by kernel_rfl
theorem rput_tree (F : Fns) (N : Nat) (z w : Int) : runOf F 87 N [.int .i64 z, .int .i64 w] [] =
  bif decide (w < 1) then some (AV.tup [AV.str [], AV.int IntKind.i64 1], []) else bif decide (w > 8) then some (AV.tup [AV.str [], AV.int IntKind.i64 1], []) else bif decide (z < 0) then some (AV.tup [AV.str [], AV.int IntKind.i64 10], []) else loopA (bodyOf F 87 0 N) (deadOf 87 0) (contOf F 87 0 N 0) N { nt := 33, t := [(0, AV.int IntKind.i64 z), (1, AV.int IntKind.i64 w), (4, AV.str []), (5, AV.int IntKind.i64 0), (6, AV.str []), (7, AV.int IntKind.i64 0), (13, AV.bool (decide (w > 8))), (15, AV.bool (decide (z < 0)))], b := [], r := [], g := [], rd := [], wr := [] } := by kernel_rfl
theorem rput_loop (F : Fns) (N : Nat) (w : Nat) (hw : w ≤ 8) (b d : Bool) : ∀ (dd i M m : Nat) (s : List UInt8) (st : St), i + dd = w → dd < m → s.length ≤ i → M < 9223372036854775808 → st.clean (deadOf 87 0) = rputS M w i s b d →
    loopA (bodyOf F 87 0 N) (deadOf 87 0) (contOf F 87 0 N 0) m st = bif decide (((M / 256 ^ dd : Nat) : Int) > 0) then some (.tup [.str [], .int .i64 10], []) else some (.tup [.str (be dd M ++ s), .int .i64 0], []) := by
  intro dd
  induction dd with
  | zero =>
    intro i M m s st hi hm hs hM hst
    obtain ⟨m, rfl⟩ : ∃ m', m = m' + 1 := ⟨m - 1, by omega⟩
    have : i = w := by omega
    subst this
    rw [loopA_succ, hst, rput_body, decide_eq_false (by omega)]
    simp [be]
  | succ dd ih =>
    intro i M m s st hi hm hs hM hst
    obtain ⟨m, rfl⟩ : ∃ m', m = m' + 1 := ⟨m - 1, by omega⟩
    rw [loopA_succ, hst, rput_body, decide_eq_true (show (i : Int) < w by omega), decide_eq_true (show List.length [UInt8.ofNat (Int.toNat (IntKind.wrap IntKind.u8 (Int.tmod M 256)))] + s.length ≤ 4611686018427387904 by simp only [List.length_singleton]; omega)]
    have e1 : Int.tdiv (M : Int) 256 = ((M / 256 : Nat) : Int) := rfl
    have e2 : Int.tmod (M : Int) 256 = ((M % 256 : Nat) : Int) := rfl
    simp only [cond_true, e1, e2, byte_wrap]
    rw [wrap_small (n := ((M / 256 : Nat) : Int)) (by omega) (by omega), wrap_small (n := (i : Int) + 1) (by omega) (by omega)]
    rw [ih (i + 1) (M / 256) m ([UInt8.ofNat (M % 256)] ++ s) _ (by omega) (by omega) (by simp only [List.length_append, List.length_singleton]; omega) (by omega) (by kernel_rfl)]
    rw [Nat.div_div_eq_div_mul, ← Nat.pow_succ', be, List.append_assoc]
theorem rput_run (F : Fns) (N : Nat) (hN : 8 < N) (z : Int) (hz : z < 9223372036854775808) (w : Nat) (hw1 : 1 ≤ w) (hw : w ≤ 8) : runOf F 87 N [.int .i64 z, .int .i64 w] [] = some (.tup [.str (putV z w).1, .int .i64 (putV z w).2], []) := by
  rw [rput_tree]
  unfold putV
  rw [decide_eq_false (show ¬ ((w : Int) < 1) by omega), decide_eq_false (show ¬ ((w : Int) > 8) by omega), if_neg (by omega)]
  simp only [cond_false]
  by_cases h0 : z < 0
  · rw [decide_eq_true h0, if_pos h0]; rfl
  obtain ⟨M, rfl⟩ : ∃ m : Nat, z = m := ⟨z.toNat, by omega⟩
  rw [decide_eq_false h0, if_neg h0]
  simp only [cond_false]
  rw [rput_loop F N w hw false false w 0 M N [] _ (by omega) (by omega) (by simp) (by omega) (by kernel_rfl)]
  have e1 : (w : Int).toNat = w := by omega
  have e2 : (M : Int).toNat = M := by omega
  rw [e1, e2, List.append_nil]
  by_cases hq : M / 256 ^ w = 0
  · simp [hq]
  · have : ((M / 256 ^ w : Nat) : Int) > 0 := by
      generalize M / 256 ^ w = q at hq
      omega
    rw [decide_eq_true this, if_pos hq]; rfl
theorem e87 (k : Nat) (hk : 10 ≤ k) (z : Int) (hz : z < 9223372036854775808) (w : Nat) (hw1 : 1 ≤ w) (hw : w ≤ 8) : evF pr k 87 [.int .i64 z, .int .i64 w] [] = some (.tup [.str (putV z w).1, .int .i64 (putV z w).2], []) := by
  obtain ⟨k, rfl⟩ : ∃ m, k = m + 1 := ⟨k - 1, by omega⟩
  rw [ev_step _ _ _ _ (by kernel_rfl)]
  exact rput_run _ _ (by omega) z hz w hw1 hw
theorem eight_tree (F : Fns) (N : Nat) (z : Int) : runOf F 47 N [.int .i64 z] [] =
  onRes (F 87 [AV.int IntKind.i64 z, AV.int IntKind.i64 8] []) fun v bs => asTup v fun cs => asCons cs fun v r => asStr v fun s => asCons r fun v r => AM.asInt IntKind.i64 v fun n => asNil r (asNil bs (some (AV.str s, []))) := by kernel_rfl
theorem e47 (k : Nat) (hk : 11 ≤ k) (z : Int) (hz : z < 9223372036854775808) : evF pr k 47 [.int .i64 z] [] = some (.str (putV z 8).1, []) := by
  obtain ⟨k, rfl⟩ : ∃ m, k = m + 1 := ⟨k - 1, by omega⟩
  rw [ev_step _ _ _ _ (by kernel_rfl), eight_tree, show (8 : Int) = ((8 : Nat) : Int) from rfl, e87 k (by omega) z hz 8 (by omega) (by omega)]
  rfl

def rgetS (s : List UInt8) (a i : Int) (b d : Bool) : St := ⟨36, [(0, AV.str s), (2, AV.int IntKind.i64 0), (3, AV.int IntKind.i64 0), (4, AV.int IntKind.i64 a), (5, AV.int IntKind.i64 i), (13, AV.bool b), (21, AV.bool d)], [], [], [], [], []⟩
theorem rget_body (F : Fns) (N : Nat) (s : List UInt8) (a i : Int) (b d : Bool) (KN : St → Res) : bodyOf F 86 0 N (rgetS s a i b d) (brk (contOf F 86 0 N 0) KN) =
  bif decide (i < ((List.length s : Nat) : Int)) then bif decide (0 ≤ i) then onOpt (Option.map (fun b => AV.int IntKind.u8 ((UInt8.toNat b : Nat) : Int)) s[Int.toNat i]?) fun x => AM.asInt IntKind.u8 x fun n => KN { nt := 36, t := [(0, AV.str s), (2, AV.int IntKind.i64 0), (3, AV.int IntKind.i64 0), (4, AV.int IntKind.i64 (IntKind.wrap IntKind.i64 (IntKind.wrap IntKind.i64 (256 * a) + IntKind.wrap IntKind.i64 n))), (5, AV.int IntKind.i64 (IntKind.wrap IntKind.i64 (i + 1))), (13, AV.bool b), (21, AV.bool d), (25, AV.bool (decide (i < ((List.length s : Nat) : Int))))], b := [], r := [], g := [], rd := [], wr := [] } else none else some (AV.tup [AV.int IntKind.i64 a, AV.int IntKind.i64 0], []) := by kernel_rfl
theorem rget_tree (F : Fns) (N : Nat) (s : List UInt8) : runOf F 86 N [.str s] [] =
  bif ((List.length s : Nat) : Int) == 0 then some (AV.tup [AV.int IntKind.i64 0, AV.int IntKind.i64 1], []) else bif decide (((List.length s : Nat) : Int) > 8) then some (AV.tup [AV.int IntKind.i64 0, AV.int IntKind.i64 1], []) else bif ((List.length s : Nat) : Int) == 8 then onOpt (Option.map (fun b => AV.int IntKind.u8 ((UInt8.toNat b : Nat) : Int)) s[Int.toNat 0]?) fun x => AM.asInt IntKind.u8 x fun n => bif decide (n ≥ 128) then some (AV.tup [AV.int IntKind.i64 0, AV.int IntKind.i64 10], []) else loopA (bodyOf F 86 0 N) (deadOf 86 0) (contOf F 86 0 N 0) N { nt := 36, t := [(0, AV.str s), (2, AV.int IntKind.i64 0), (3, AV.int IntKind.i64 0), (4, AV.int IntKind.i64 0), (5, AV.int IntKind.i64 0), (13, AV.bool (decide (((List.length s : Nat) : Int) > 8))), (21, AV.bool (decide (n ≥ 128)))], b := [], r := [], g := [], rd := [], wr := [] } else loopA (bodyOf F 86 0 N) (deadOf 86 0) (contOf F 86 0 N 0) N { nt := 36, t := [(0, AV.str s), (2, AV.int IntKind.i64 0), (3, AV.int IntKind.i64 0), (4, AV.int IntKind.i64 0), (5, AV.int IntKind.i64 0), (13, AV.bool (decide (((List.length s : Nat) : Int) > 8))), (21, AV.bool false)], b := [], r := [], g := [], rd := [], wr := [] } := by kernel_rfl
theorem rget_loop (F : Fns) (N : Nat) (s : List UInt8) (b d : Bool) (hs : s.length ≤ 8) : ∀ (dd i m a : Nat) (st : St), i + dd = s.length → dd < m → unbe (s.drop i) a < 9223372036854775808 → st.clean (deadOf 86 0) = rgetS s a i b d →
    loopA (bodyOf F 86 0 N) (deadOf 86 0) (contOf F 86 0 N 0) m st = some (.tup [.int .i64 (unbe (s.drop i) a : Nat), .int .i64 0], []) := by
  intro dd
  induction dd with
  | zero =>
    intro i m a st hi hm ha hst
    obtain ⟨m, rfl⟩ : ∃ m', m = m' + 1 := ⟨m - 1, by omega⟩
    have : i = s.length := by omega
    subst this
    rw [loopA_succ, hst, rget_body, decide_eq_false (by omega), List.drop_length]
    rfl
  | succ dd ih =>
    intro i m a st hi hm ha hst
    obtain ⟨m, rfl⟩ : ∃ m', m = m' + 1 := ⟨m - 1, by omega⟩
    have hlt : i < s.length := by omega
    rw [loopA_succ, hst, rget_body, decide_eq_true (show (i : Int) < s.length by omega), decide_eq_true (show (0 : Int) ≤ i by omega)]
    rw [List.drop_eq_getElem_cons hlt, unbe] at ha ⊢
    have h1 := le_unbe (s.drop (i + 1)) (a * 256 + (s[i]).toNat)
    simp only [cond_true, Int.toNat_natCast, List.getElem?_eq_getElem hlt, Option.map_some, onOpt, asInt, if_true]
    have e : IntKind.wrap IntKind.i64 (IntKind.wrap IntKind.i64 (256 * (a : Int)) + IntKind.wrap IntKind.i64 ((s[i]).toNat : Int)) = ((a * 256 + (s[i]).toNat : Nat) : Int) := by
      have hb := (s[i]).toNat_lt
      rw [wrap_small (n := 256 * (a : Int)) (by omega) (by omega), wrap_small (n := ((s[i]).toNat : Int)) (by omega) (by omega), wrap_small (by omega) (by omega)]
      omega
    rw [e, wrap_small (n := (i : Int) + 1) (by omega) (by omega)]
    exact ih (i + 1) m _ _ (by omega) (by omega) ha (by kernel_rfl)
theorem rget_run (F : Fns) (N : Nat) (hN : 8 < N) (s : List UInt8) : runOf F 86 N [.str s] [] = some (.tup [.int .i64 (AM.getV s).1, .int .i64 (AM.getV s).2], []) := by
  rw [rget_tree]
  unfold AM.getV
  by_cases h0 : s.length = 0
  · rw [if_pos (by omega), show (((s.length : Nat) : Int) == 0) = true by simp [h0]]
    rfl
  rw [show (((s.length : Nat) : Int) == 0) = false by simp only [beq_eq_false_iff_ne, ne_eq]; omega]
  by_cases h8 : s.length > 8
  · rw [if_pos (by omega), decide_eq_true (by omega)]
    rfl
  rw [if_neg (by omega), decide_eq_false (by omega)]
  simp only [cond_false]
  by_cases h9 : s.length = 8
  · rw [show (((s.length : Nat) : Int) == 8) = true by simp [h9]]
    obtain ⟨c, r, rfl⟩ : ∃ c r, s = c :: r := by cases s with | nil => simp at h9 | cons c r => exact ⟨c, r, rfl⟩
    have hr : r.length = 7 := by simpa using h9
    have hu : unbe (c :: r) 0 = c.toNat * 72057594037927936 + unbe r 0 := by
      rw [unbe, unbe_acc, hr]
      simp
    have hl := unbe_lt r 0
    rw [hr] at hl
    have hc := c.toNat_lt
    simp only [cond_true, onOpt, asInt, if_true, show Int.toNat 0 = 0 from rfl, List.getElem?_cons_zero, Option.map_some]
    by_cases hd : c.toNat ≥ 128
    · rw [decide_eq_true (show (c.toNat : Int) ≥ 128 by omega), if_pos (by omega)]
      rfl
    · rw [decide_eq_false (show ¬ (c.toNat : Int) ≥ 128 by omega), if_neg (by omega)]
      simp only [cond_false]
      exact rget_loop F N (c :: r) false false (by omega) _ 0 N 0 _ (Nat.zero_add _) (by omega) (by rw [List.drop_zero]; omega) (by kernel_rfl)
  · rw [show (((s.length : Nat) : Int) == 8) = false by simp only [beq_eq_false_iff_ne, ne_eq]; omega]
    have hl := unbe_lt s 0
    have hp : 256 ^ s.length ≤ 256 ^ 7 := Nat.pow_le_pow_right (by omega) (by omega)
    rw [if_neg (by omega)]
    simp only [cond_false]
    exact rget_loop F N s false false (by omega) _ 0 N 0 _ (Nat.zero_add _) (by omega) (by rw [List.drop_zero]; omega) (by kernel_rfl)
theorem e86 (k : Nat) (hk : 10 ≤ k) (s : List UInt8) : evF pr k 86 [.str s] [] = some (.tup [.int .i64 (AM.getV s).1, .int .i64 (AM.getV s).2], []) := by
  obtain ⟨k, rfl⟩ : ∃ m, k = m + 1 := ⟨k - 1, by omega⟩
  rw [ev_step _ _ _ _ (by kernel_rfl)]
  exact rget_run _ _ (by omega) s

/-- The error where a number of w bytes is wanted at the beginning; the number. -/
def numE (w : Nat) (s : List UInt8) : Int := if s.length < w then 2 else if unbe (s.take w) 0 ≥ 9223372036854775808 then 10 else 0
def numN (w : Nat) (s : List UInt8) : Nat := if numE w s = 0 then unbe (s.take w) 0 else 0
def numR (w : Nat) (s : List UInt8) : List UInt8 := if numE w s = 0 then s.drop w else []
theorem getV_take (w : Nat) (hw1 : 1 ≤ w) (hw : w ≤ 8) (s : List UInt8) (h : ¬ s.length < w) : AM.getV (s.take w) = (((numN w s : Nat) : Int), numE w s) := by
  have hl : (s.take w).length = w := by rw [List.length_take]; omega
  unfold AM.getV numN numE
  rw [if_neg (by omega), if_neg h]
  split <;> simp
theorem number_tree (F : Fns) (N : Nat) (s : List UInt8) (w : Int) : runOf F 88 N [.str s, .int .i64 w] [] =
  bif decide (w < 1) then some (AV.tup [AV.int IntKind.i64 0, AV.str [], AV.int IntKind.i64 1], []) else bif decide (w > 8) then some (AV.tup [AV.int IntKind.i64 0, AV.str [], AV.int IntKind.i64 1], []) else bif decide (((List.length s : Nat) : Int) < w) then some (AV.tup [AV.int IntKind.i64 0, AV.str [], AV.int IntKind.i64 2], []) else bif decide ((0 : Int) ≤ 0 ∧ 0 ≤ w ∧ w ≤ ((List.length s : Nat) : Int)) then onRes (F 89 [AV.str (List.drop (Int.toNat 0) (List.take (Int.toNat w) s))] []) fun v bs => asTup v fun cs => asCons cs fun v r => AM.asInt IntKind.i64 v fun n => asCons r fun v r => AM.asInt IntKind.i64 v fun n_1 => asNil r (asNil bs (bif n_1 != 0 then some (AV.tup [AV.int IntKind.i64 0, AV.str [], AV.int IntKind.i64 n_1], []) else bif decide (0 ≤ w ∧ w ≤ ((List.length s : Nat) : Int) ∧ ((List.length s : Nat) : Int) ≤ ((List.length s : Nat) : Int)) then some (AV.tup [AV.int IntKind.i64 n, AV.str (List.drop (Int.toNat w) (List.take (Int.toNat ((List.length s : Nat) : Int)) s)), AV.int IntKind.i64 0], []) else none)) else none := by kernel_rfl
theorem e88 (k : Nat) (hk : 11 ≤ k) (s : List UInt8) (w : Nat) (hw1 : 1 ≤ w) (hw : w ≤ 8) : evF pr k 88 [.str s, .int .i64 w] [] = some (.tup [.int .i64 (numN w s), .str (numR w s), .int .i64 (numE w s)], []) := by
  obtain ⟨k, rfl⟩ : ∃ m, k = m + 1 := ⟨k - 1, by omega⟩
  rw [ev_step _ _ _ _ (by kernel_rfl), number_tree, decide_eq_false (show ¬ ((w : Int) < 1) by omega), decide_eq_false (show ¬ ((w : Int) > 8) by omega)]
  simp only [cond_false]
  by_cases h : s.length < w
  · rw [decide_eq_true (by omega)]
    simp [numN, numR, numE, h]
  · rw [decide_eq_false (by omega), decide_eq_true (show (0 : Int) ≤ 0 ∧ 0 ≤ (w : Int) ∧ (w : Int) ≤ s.length by omega)]
    simp only [cond_false, cond_true, Int.toNat_natCast, Int.toNat_zero, List.drop_zero]
    rw [e89 k (by omega), getV_take w hw1 hw s h]
    simp only [onRes, asTup, asCons, asInt, if_true, asNil]
    by_cases h0 : numE w s = 0
    · rw [decide_eq_true (show 0 ≤ (w : Int) ∧ (w : Int) ≤ s.length ∧ (s.length : Int) ≤ s.length by omega)]
      simp [h0, numR]
    · rw [show (numE w s != 0) = true by simp [h0]]
      simp [numN, numR, h0]
theorem rnum_tree (F : Fns) (N : Nat) (s : List UInt8) (b : Bool) (w : Int) : runOf F 49 N [.ptr 0 0 0, .int .i64 w] [[.str s, .bool b]] =
  onRes (F 88 [AV.str s, AV.int IntKind.i64 w] []) fun v bs => asTup v fun cs => asCons cs fun v r => AM.asInt IntKind.i64 v fun n => asCons r fun v r => asStr v fun s_1 => asCons r fun v r => AM.asInt IntKind.i64 v fun n_1 => asNil r (asNil bs (bif b then some (AV.int IntKind.i64 0, [[AV.str s, AV.bool true]]) else bif n_1 != 0 then some (AV.int IntKind.i64 0, [[AV.str s, AV.bool true]]) else some (AV.int IntKind.i64 n, [[AV.str s_1, AV.bool b]]))) := by kernel_rfl
/-- reader.number: the number, the rest, whether it is bad. -/
def rdB (w : Nat) (s : List UInt8) (b : Bool) : Bool := b || decide (numE w s ≠ 0)
def rdN (w : Nat) (s : List UInt8) (b : Bool) : Nat := if rdB w s b then 0 else numN w s
def rdS (w : Nat) (s : List UInt8) (b : Bool) : List UInt8 := if rdB w s b then s else s.drop w
theorem e49 (k : Nat) (hk : 12 ≤ k) (s : List UInt8) (b : Bool) (w : Nat) (hw1 : 1 ≤ w) (hw : w ≤ 8) : evF pr k 49 [.ptr 0 0 0, .int .i64 w] [[.str s, .bool b]] = some (.int .i64 (rdN w s b), [[.str (rdS w s b), .bool (rdB w s b)]]) := by
  obtain ⟨k, rfl⟩ : ∃ m, k = m + 1 := ⟨k - 1, by omega⟩
  rw [ev_step _ _ _ _ (by kernel_rfl), rnum_tree, e88 k (by omega) s w hw1 hw]
  simp only [onRes, asTup, asCons, asInt, asStr, if_true, asNil]
  cases b
  · by_cases h0 : numE w s = 0
    · simp [rdN, rdS, rdB, h0, numR]
    · rw [show (numE w s != 0) = true by simp [h0]]
      simp [rdN, rdS, rdB, h0]
  · simp [rdN, rdS, rdB]
theorem at_tree (F : Fns) (N : Nat) (s : List UInt8) (p w : Int) : runOf F 43 N [.str s, .int .i64 p, .int .i64 w] [] =
  bif decide (p < 0) then some (AV.tup [AV.int IntKind.i64 0, AV.bool false], []) else bif decide (p > IntKind.wrap IntKind.i64 (((List.length s : Nat) : Int) - w)) then some (AV.tup [AV.int IntKind.i64 0, AV.bool false], []) else bif decide (0 ≤ p ∧ p ≤ IntKind.wrap IntKind.i64 (p + w) ∧ IntKind.wrap IntKind.i64 (p + w) ≤ ((List.length s : Nat) : Int)) then onRes (F 86 [AV.str (List.drop (Int.toNat p) (List.take (Int.toNat (IntKind.wrap IntKind.i64 (p + w))) s))] []) fun v bs => asTup v fun cs => asCons cs fun v r => AM.asInt IntKind.i64 v fun n => asCons r fun v r => AM.asInt IntKind.i64 v fun n_1 => asNil r (asNil bs (some (AV.tup [AV.int IntKind.i64 n, AV.bool (n_1 == 0)], []))) else none := by kernel_rfl
theorem e43 (k : Nat) (hk : 11 ≤ k) (s : List UInt8) (hs : s.length < 4611686018427387904) (p : Nat) (hp : p < 4611686018427387904) (w : Nat) (hw1 : 1 ≤ w) (hw : w ≤ 8) :
    evF pr k 43 [.str s, .int .i64 p, .int .i64 w] [] = some (.tup [.int .i64 (numN w (s.drop p)), .bool (numE w (s.drop p) == 0)], []) := by
  obtain ⟨k, rfl⟩ : ∃ m, k = m + 1 := ⟨k - 1, by omega⟩
  rw [ev_step _ _ _ _ (by kernel_rfl), at_tree, decide_eq_false (show ¬ ((p : Int) < 0) by omega), wrap_small (n := (s.length : Int) - w) (by omega) (by omega), wrap_small (n := (p : Int) + w) (by omega) (by omega)]
  simp only [cond_false]
  by_cases h : (s.drop p).length < w
  · have : (p : Int) > (s.length : Int) - w := by rw [List.length_drop] at h; omega
    rw [decide_eq_true this]
    simp only [cond_true, numN, numE, h, if_true]
    rfl
  · have hl : p + w ≤ s.length := by rw [List.length_drop] at h; omega
    rw [decide_eq_false (show ¬ (p : Int) > (s.length : Int) - w by omega), decide_eq_true (show 0 ≤ (p : Int) ∧ (p : Int) ≤ p + w ∧ (p : Int) + w ≤ s.length by omega)]
    have e1 : ((p : Int) + w).toNat = p + w := by omega
    simp only [cond_false, cond_true, Int.toNat_natCast, e1]
    rw [List.drop_take, show p + w - p = w by omega, e86 k (by omega), getV_take w hw1 hw _ h]
    simp only [onRes, asTup, asCons, asInt, if_true, asNil]

end Go.AM.Ytnhfjkckgicidaa
