/- Bits: dirty.Right, Bytes, Parse and ref10's: what they answer, plain. -/
import Derived.Test.YtnhfjkckgicidaaAmNB
set_option linter.unusedVariables false
set_option linter.unusedSimpArgs false
namespace Go.AM.Ytnhfjkckgicidaa
open Go.AM Go.Proofs Go

/-- Bits of a volume as the machine has them. -/
def btV (b : Int × Int) : AV := .agg [.int .i64 b.1, .int .u64 b.2]
def bitsOk : Int → List (Int × Int) → Bool
  | _, [] => true
  | last, b :: r => decide (last < b.1 ∧ b.1 ≤ 255 ∧ b.2 ≠ 0 ∧ b.2 < 4294967296) && bitsOk b.1 r
/-- Are bits right? -/
def bOk (l : List (Int × Int)) : Bool := bitsOk 0 l
/-- Masks are whole numbers. -/
def UM (l : List (Int × Int)) : Prop := ∀ b ∈ l, 0 ≤ b.2 ∧ b.2 < 18446744073709551616
theorem getBt (l : List (Int × Int)) (i : Nat) (h : i < l.length) : (l.map btV)[Int.toNat (i : Int)]? = some (.agg [.int .i64 (l[i]).1, .int .u64 (l[i]).2]) := by
  rw [Int.toNat_natCast, List.getElem?_map, List.getElem?_eq_getElem h]
  rfl
theorem bitsOk_length : ∀ (l : List (Int × Int)) (last : Int), last ≤ 255 → bitsOk last l = true → (l.length : Int) + last ≤ 255
  | [], last, h, _ => by simp only [List.length_nil]; omega
  | b :: r, last, h, hb => by
    rw [bitsOk, Bool.and_eq_true, decide_eq_true_eq] at hb
    have := bitsOk_length r b.1 hb.1.2.1 hb.2
    simp only [List.length_cons]
    omega
theorem bOk_length {l : List (Int × Int)} (h : bOk l = true) : l.length ≤ 255 := by
  have := bitsOk_length l 0 (by omega) h
  omega
theorem bitsOk_parts : ∀ (l : List (Int × Int)) (last : Int), 0 ≤ last → bitsOk last l = true → ∀ b ∈ l, 1 ≤ b.1 ∧ b.1 ≤ 255 ∧ b.2 ≠ 0 ∧ b.2 < 4294967296
  | [], last, _, _ => by simp
  | b :: r, last, hl, hb => by
    rw [bitsOk, Bool.and_eq_true, decide_eq_true_eq] at hb
    intro c hc
    rcases List.mem_cons.1 hc with rfl | hc
    · omega
    · exact bitsOk_parts r b.1 (by omega) hb.2 c hc

/-! dirty.Right -/
def drightS (fl : Bool) (xs : List AV) (last len i : Int) : St := ⟨34, [(0, AV.sl 2 fl xs), (2, AV.bool false), (3, AV.int IntKind.i64 last), (6, AV.sl 2 fl xs), (7, AV.int IntKind.i64 len), (8, AV.int IntKind.i64 i)], [], [], [], [], []⟩
theorem dright_tree (F : Fns) (N : Nat) (fl : Bool) (xs : List AV) : runOf F 62 N [.sl 2 fl xs] [] =
  loopA (bodyOf F 62 0 N) (deadOf 62 0) (contOf F 62 0 N 0) N { nt := 34, t := [(0, AV.sl 2 fl xs), (2, AV.bool false), (3, AV.int IntKind.i64 0), (6, AV.sl 2 fl xs), (7, AV.int IntKind.i64 ((List.length xs : Nat) : Int)), (8, AV.int IntKind.i64 0)], b := [], r := [], g := [], rd := [], wr := [] } := by kernel_rfl
theorem dright_body (F : Fns) (N : Nat) (fl : Bool) (xs : List AV) (last len i : Int) (KN : St → Res) : bodyOf F 62 0 N (drightS fl xs last len i) (brk (contOf F 62 0 N 0) KN) =
  bif decide (i < len) then bif decide (0 ≤ i) then onOpt xs[Int.toNat i]? fun x => AM.asAgg x fun cs => asCons cs fun v r => AM.asInt IntKind.i64 v fun n => asCons r fun v r => AM.asInt IntKind.u64 v fun n_1 => asNil r (bif decide (n ≤ last) then some (AV.bool false, []) else bif decide (n > 255) then some (AV.bool false, []) else bif n_1 == 0 then some (AV.bool false, []) else bif decide (n_1 ≥ 4294967296) then some (AV.bool false, []) else KN { nt := 34, t := [(0, AV.sl 2 fl xs), (2, AV.bool false), (3, AV.int IntKind.i64 n), (5, AV.ptr 5 0 0), (6, AV.sl 2 fl xs), (7, AV.int IntKind.i64 len), (8, AV.int IntKind.i64 (IntKind.wrap IntKind.i64 (i + 1))), (9, AV.bool (decide (i < len))), (30, AV.bool (decide (n_1 ≥ 4294967296)))], b := [(5, [AV.int IntKind.i64 n, AV.int IntKind.u64 n_1])], r := [], g := [], rd := [], wr := [] }) else none else some (AV.bool true, []) := by kernel_rfl
theorem dright_loop (F : Fns) (N : Nat) (fl : Bool) (l : List (Int × Int)) (hl : l.length ≤ 1000000000) : ∀ (dd i m : Nat) (last : Int) (st : St), i + dd = l.length → dd < m → st.clean (deadOf 62 0) = drightS fl (l.map btV) last l.length i →
    loopA (bodyOf F 62 0 N) (deadOf 62 0) (contOf F 62 0 N 0) m st = some (.bool (bitsOk last (l.drop i)), []) := by
  intro dd
  induction dd with
  | zero =>
    intro i m last st hi hm hst
    obtain ⟨m, rfl⟩ : ∃ m', m = m' + 1 := ⟨m - 1, by omega⟩
    have h1 : l.drop i = [] := List.drop_eq_nil_of_le (by omega)
    rw [loopA_succ, hst, dright_body, decide_eq_false (by omega), h1]
    rfl
  | succ dd ih =>
    intro i m last st hi hm hst
    obtain ⟨m, rfl⟩ : ∃ m', m = m' + 1 := ⟨m - 1, by omega⟩
    have hlt : i < l.length := by omega
    rw [loopA_succ, hst, dright_body, decide_eq_true (show (i : Int) < l.length by omega), decide_eq_true (show (0 : Int) ≤ i by omega), getBt l i hlt, List.drop_eq_getElem_cons hlt, bitsOk]
    simp only [cond_true, onOpt, asAgg, asCons, asInt, if_true, asNil]
    rw [wrap_small (n := (i : Int) + 1) (by omega) (by omega)]
    generalize l[i] = b
    obtain ⟨x, y⟩ := b
    simp only
    by_cases hc : last < x ∧ x ≤ 255 ∧ y ≠ 0 ∧ y < 4294967296
    · rw [decide_eq_true hc, decide_eq_false (show ¬ x ≤ last by omega), decide_eq_false (show ¬ x > 255 by omega), show (y == 0) = false by simp [hc.2.2.1], decide_eq_false (show ¬ y ≥ 4294967296 by omega)]
      simp only [cond_false, Bool.true_and]
      exact ih (i + 1) m _ _ (by omega) (by omega) (by kernel_rfl)
    · rw [decide_eq_false hc, Bool.false_and]
      by_cases h1 : x ≤ last
      · rw [decide_eq_true h1]; rfl
      by_cases h2 : x > 255
      · rw [decide_eq_false h1, decide_eq_true h2]; rfl
      by_cases h3 : y = 0
      · rw [decide_eq_false h1, decide_eq_false h2, show (y == 0) = true by simp [h3]]; rfl
      by_cases h4 : y ≥ 4294967296
      · rw [decide_eq_false h1, decide_eq_false h2, show (y == 0) = false by simp [h3], decide_eq_true h4]; rfl
      exact absurd (by omega) hc
theorem e62 (k : Nat) (fl : Bool) (l : List (Int × Int)) (hk : l.length + 3 ≤ k) (hl : l.length ≤ 1000000000) : evF pr k 62 [.sl 2 fl (l.map btV)] [] = some (.bool (bOk l), []) := by
  obtain ⟨k, rfl⟩ : ∃ m, k = m + 1 := ⟨k - 1, by omega⟩
  rw [ev_step _ _ _ _ (by kernel_rfl), dright_tree, List.length_map]
  exact dright_loop (evF pr k) k fl l hl l.length 0 k 0 _ (Nat.zero_add _) (by omega) (by kernel_rfl)
theorem e62nil (k a : Nat) (fl : Bool) : evF pr (k + 6) 62 [.sl a fl []] [] = some (.bool true, []) := by kernel_rfl

/-! ref10.Right -/
theorem e91 (k : Nat) : evF pr (k + 40) 91 [.int .i64 32] [] = some (.int .u64 4294967296, []) := by kernel_rfl
def rbrightS (fl : Bool) (xs : List AV) (i : Int) : St := ⟨59, [(0, AV.sl 2 fl xs), (2, AV.bool false), (3, AV.int IntKind.i64 i)], [], [], [], [], []⟩
theorem rbright_tree (F : Fns) (N : Nat) (fl : Bool) (xs : List AV) : runOf F 58 N [.sl 2 fl xs] [] =
  loopA (bodyOf F 58 0 N) (deadOf 58 0) (contOf F 58 0 N 0) N { nt := 59, t := [(0, AV.sl 2 fl xs), (2, AV.bool false), (3, AV.int IntKind.i64 0)], b := [], r := [], g := [], rd := [], wr := [] } := by kernel_rfl
theorem rbright_body (F : Fns) (N : Nat) (fl : Bool) (xs : List AV) (i : Int) (KN : St → Res) : bodyOf F 58 0 N (rbrightS fl xs i) (brk (contOf F 58 0 N 0) KN) =
  bif decide (i < ((List.length xs : Nat) : Int)) then bif decide (0 ≤ i) then onOpt xs[Int.toNat i]? fun x => AM.asAgg x fun cs => asCons cs fun v r => AM.asInt IntKind.i64 v fun n => asCons r fun v r => AM.asInt IntKind.u64 v fun n_1 => asNil r (bif decide (n < 1) then some (AV.bool false, []) else bif decide (0 ≤ i) then onOpt xs[Int.toNat i]? fun x => AM.asAgg x fun cs => asCons cs fun v r => AM.asInt IntKind.i64 v fun n => asCons r fun v r => AM.asInt IntKind.u64 v fun n_2 => asNil r (bif decide (n > 255) then some (AV.bool false, []) else bif decide (0 ≤ i) then onOpt xs[Int.toNat i]? fun x => AM.asAgg x fun cs => asCons cs fun v r => AM.asInt IntKind.i64 v fun n => asCons r fun v r => AM.asInt IntKind.u64 v fun n => asNil r (bif n == 0 then some (AV.bool false, []) else bif decide (0 ≤ i) then onOpt xs[Int.toNat i]? fun x => AM.asAgg x fun cs => asCons cs fun v r => AM.asInt IntKind.i64 v fun n => asCons r fun v r => AM.asInt IntKind.u64 v fun n => asNil r (onRes (F 91 [AV.int IntKind.i64 32] []) fun v bs => AM.asInt IntKind.u64 v fun n_3 => asNil bs (bif decide (n ≥ n_3) then some (AV.bool false, []) else bif decide (i > 0) then bif decide (0 ≤ IntKind.wrap IntKind.i64 (i - 1)) then onOpt xs[Int.toNat (IntKind.wrap IntKind.i64 (i - 1))]? fun x => AM.asAgg x fun cs => asCons cs fun v r => AM.asInt IntKind.i64 v fun n => asCons r fun v r => AM.asInt IntKind.u64 v fun n_4 => asNil r (bif decide (0 ≤ i) then onOpt xs[Int.toNat i]? fun x => AM.asAgg x fun cs => asCons cs fun v r => AM.asInt IntKind.i64 v fun n_5 => asCons r fun v r => AM.asInt IntKind.u64 v fun n_6 => asNil r (bif decide (n ≥ n_5) then some (AV.bool false, []) else KN { nt := 59, t := [(0, AV.sl 2 fl xs), (2, AV.bool false), (3, AV.int IntKind.i64 (IntKind.wrap IntKind.i64 (i + 1))), (7, AV.bool (decide (i < ((List.length xs : Nat) : Int)))), (58, AV.bool (decide (n ≥ n_5)))], b := [], r := [], g := [], rd := [], wr := [] }) else none) else none else KN { nt := 59, t := [(0, AV.sl 2 fl xs), (2, AV.bool false), (3, AV.int IntKind.i64 (IntKind.wrap IntKind.i64 (i + 1))), (7, AV.bool (decide (i < ((List.length xs : Nat) : Int)))), (58, AV.bool false)], b := [], r := [], g := [], rd := [], wr := [] })) else none) else none) else none) else none else some (AV.bool true, []) := by kernel_rfl
theorem rbright_loop (k : Nat) (hk : 40 ≤ k) (fl : Bool) (l : List (Int × Int)) (hl : l.length ≤ 1000000000) : ∀ (dd i m : Nat) (v y : Int) (st : St), i + 1 + dd = l.length → dd < m → (∀ h : i < l.length, l[i] = (v, y)) → 1 ≤ v → st.clean (deadOf 58 0) = rbrightS fl (l.map btV) ((i + 1 : Nat) : Int) →
    loopA (bodyOf (evF pr k) 58 0 k) (deadOf 58 0) (contOf (evF pr k) 58 0 k 0) m st = some (.bool (bitsOk v (l.drop (i + 1))), []) := by
  obtain ⟨k, rfl⟩ : ∃ m, k = m + 40 := ⟨k - 40, by omega⟩
  intro dd
  induction dd with
  | zero =>
    intro i m v y st hi hm hp hv hst
    obtain ⟨m, rfl⟩ : ∃ m', m = m' + 1 := ⟨m - 1, by omega⟩
    have h1 : l.drop (i + 1) = [] := List.drop_eq_nil_of_le (by omega)
    rw [loopA_succ, hst, rbright_body, List.length_map, decide_eq_false (by omega), h1]
    rfl
  | succ dd ih =>
    intro i m v y st hi hm hp hv hst
    obtain ⟨m, rfl⟩ : ∃ m', m = m' + 1 := ⟨m - 1, by omega⟩
    have hlt : i + 1 < l.length := by omega
    have hb0 := getBt l i (by omega)
    rw [hp (by omega)] at hb0
    have hw : IntKind.wrap IntKind.i64 (((i + 1 : Nat) : Int) - 1) = (i : Int) := by rw [wrap_small (by omega) (by omega)]; omega
    rw [loopA_succ, hst, rbright_body, List.length_map, decide_eq_true (show (((i + 1 : Nat)) : Int) < l.length by omega), decide_eq_true (show (0 : Int) ≤ (i + 1 : Nat) by omega), getBt l (i + 1) hlt, List.drop_eq_getElem_cons hlt, bitsOk, e91, hw, hb0, decide_eq_true (show (0 : Int) ≤ i by omega), decide_eq_true (show (((i + 1 : Nat)) : Int) > 0 by omega)]
    simp only [cond_true, onOpt, asAgg, asCons, asInt, if_true, asNil, onRes]
    rw [show IntKind.wrap IntKind.i64 (((i + 1 : Nat) : Int) + 1) = ((i + 1 + 1 : Nat) : Int) by rw [wrap_small (by omega) (by omega)]; omega]
    generalize hx : l[i + 1] = b
    obtain ⟨x, y'⟩ := b
    simp only
    by_cases hc : v < x ∧ x ≤ 255 ∧ y' ≠ 0 ∧ y' < 4294967296
    · rw [decide_eq_true hc, decide_eq_false (show ¬ x < 1 by omega), decide_eq_false (show ¬ x > 255 by omega), show (y' == 0) = false by simp [hc.2.2.1], decide_eq_false (show ¬ y' ≥ 4294967296 by omega), decide_eq_false (show ¬ v ≥ x by omega)]
      simp only [cond_false, Bool.true_and]
      exact ih (i + 1) m x y' _ (by omega) (by omega) (fun _ => hx) (by omega) (by kernel_rfl)
    · rw [decide_eq_false hc, Bool.false_and]
      by_cases h1 : x < 1
      · rw [decide_eq_true h1]; rfl
      by_cases h2 : x > 255
      · rw [decide_eq_false h1, decide_eq_true h2]; rfl
      by_cases h3 : y' = 0
      · rw [decide_eq_false h1, decide_eq_false h2, show (y' == 0) = true by simp [h3]]; rfl
      by_cases h4 : y' ≥ 4294967296
      · rw [decide_eq_false h1, decide_eq_false h2, show (y' == 0) = false by simp [h3], decide_eq_true h4]; rfl
      by_cases h5 : v ≥ x
      · rw [decide_eq_false h1, decide_eq_false h2, show (y' == 0) = false by simp [h3], decide_eq_false h4, decide_eq_true h5]; rfl
      exact absurd (by omega) hc
theorem e58nil (k a : Nat) (fl : Bool) : evF pr (k + 6) 58 [.sl a fl []] [] = some (.bool true, []) := by kernel_rfl
theorem e58 (k : Nat) (fl : Bool) (l : List (Int × Int)) (hk : l.length + 50 ≤ k) (hl : l.length ≤ 1000000000) : evF pr k 58 [.sl 2 fl (l.map btV)] [] = some (.bool (bOk l), []) := by
  obtain ⟨k, rfl⟩ : ∃ m, k = m + 1 + 40 := ⟨k - 41, by omega⟩
  cases l with
  | nil => exact e58nil (k + 35) 2 fl
  | cons b r =>
    rw [ev_step _ _ _ _ (by kernel_rfl), rbright_tree]
    conv => lhs; arg 4; rw [show k + 40 = (k + 39) + 1 by omega]
    rw [loopA_succ]
    refine (rbright_body _ _ fl ((b :: r).map btV) 0 _).trans ?_
    simp only [List.length_cons] at hk hl
    rw [List.length_map, decide_eq_true (show (0 : Int) < (((b :: r).length : Nat) : Int) by simp only [List.length_cons]; omega), e91, bOk, bitsOk]
    obtain ⟨x, y⟩ := b
    simp only [cond_true, cond_false, Int.toNat_zero, List.map_cons, List.getElem?_cons_zero, onOpt, btV, asAgg, asCons, asInt, if_true, asNil, onRes, show decide ((0 : Int) ≤ 0) = true from rfl, show decide ((0 : Int) > 0) = false from rfl]
    by_cases hc : 0 < x ∧ x ≤ 255 ∧ y ≠ 0 ∧ y < 4294967296
    · rw [decide_eq_true hc, decide_eq_false (show ¬ x < 1 by omega), decide_eq_false (show ¬ x > 255 by omega), show (y == 0) = false by simp [hc.2.2.1], decide_eq_false (show ¬ y ≥ 4294967296 by omega)]
      simp only [cond_false, Bool.true_and]
      exact rbright_loop (k + 40) (by omega) fl ((x, y) :: r) (by simpa using hl) r.length 0 (k + 39) x y _ (by simp only [List.length_cons]; omega) (by omega) (fun _ => rfl) (by omega) (by kernel_rfl)
    · rw [decide_eq_false hc, Bool.false_and]
      by_cases h1 : x < 1
      · rw [decide_eq_true h1]; rfl
      by_cases h2 : x > 255
      · rw [decide_eq_false h1, decide_eq_true h2]; rfl
      by_cases h3 : y = 0
      · rw [decide_eq_false h1, decide_eq_false h2, show (y == 0) = true by simp [h3]]; rfl
      rw [decide_eq_false h1, decide_eq_false h2, show (y == 0) = false by simp [h3], decide_eq_true (show y ≥ 4294967296 by omega)]
      rfl

/-! Bytes -/
def btB (b : Int × Int) : List UInt8 := UInt8.ofNat b.1.toNat :: be 4 b.2.toNat
def putB (l : List (Int × Int)) : List UInt8 := UInt8.ofNat l.length :: l.flatMap btB
theorem btB_length (b : Int × Int) : (btB b).length = 5 := by simp [btB, be_length]
theorem u8_ofBytes (n : Nat) : AV.int IntKind.u8 (IntKind.wrap IntKind.u8 (n : Int)) = AV.int .u8 (((UInt8.ofNat n).toNat : Nat) : Int) := by
  have : IntKind.wrap IntKind.u8 (n : Int) = (((UInt8.ofNat n).toNat : Nat) : Int) := by
    simp [IntKind.wrap, IntKind.bits, IntKind.signed]
  rw [this]
def dbytesS (fl d : Bool) (xs : List AV) (v : AV) (len i : Int) : St := ⟨40, [(0, AV.sl 2 fl xs), (2, AV.str []), (3, AV.int IntKind.i64 0), (4, v), (11, AV.bool d), (16, AV.sl 2 fl xs), (17, AV.int IntKind.i64 len), (18, AV.int IntKind.i64 i)], [], [], [], [], []⟩
theorem dbytes_tree (F : Fns) (N : Nat) (fl : Bool) (xs : List AV) : runOf F 53 N [.sl 2 fl xs] [] =
  onRes (F 62 [AV.sl 2 fl xs] []) fun v bs => AM.asBool v fun b => asNil bs (bif !b then some (AV.tup [AV.str [], AV.int IntKind.i64 1], []) else loopA (bodyOf F 53 0 N) (deadOf 53 0) (contOf F 53 0 N 0) N { nt := 40, t := [(0, AV.sl 2 fl xs), (2, AV.str []), (3, AV.int IntKind.i64 0), (4, AV.sl 1 true [AV.int IntKind.u8 (IntKind.wrap IntKind.u8 ((List.length xs : Nat) : Int))]), (11, AV.bool !b), (16, AV.sl 2 fl xs), (17, AV.int IntKind.i64 ((List.length xs : Nat) : Int)), (18, AV.int IntKind.i64 0)], b := [], r := [], g := [], rd := [], wr := [] }) := by kernel_rfl
theorem dbytes_body0 (F : Fns) (N : Nat) (fl d : Bool) (xs ys : List AV) (len i : Int) (KN : St → Res) : bodyOf F 53 0 N (dbytesS fl d xs (.sl 1 true ys) len i) (brk (contOf F 53 0 N 0) KN) =
  bif decide (i < len) then bif decide (0 ≤ i) then onOpt xs[Int.toNat i]? fun x => AM.asAgg x fun cs => asCons cs fun v r => AM.asInt IntKind.i64 v fun n => asCons r fun v r => AM.asInt IntKind.u64 v fun n_1 => asNil r (onRes (F 37 [AV.int IntKind.i64 (IntKind.wrap IntKind.i64 n_1), AV.int IntKind.i64 4] []) fun v bs => asTup v fun cs => asCons cs fun v r => asStr v fun s => asCons r fun v r => AM.asInt IntKind.i64 v fun n_2 => asNil r (asNil bs (bif decide ((1 = 1 ∨ ys = []) ∧ fitsB (List.length ys + List.length [AV.int IntKind.u8 (IntKind.wrap IntKind.u8 n)]) 1 = true ∧ List.length ys + List.length [AV.int IntKind.u8 (IntKind.wrap IntKind.u8 n)] ≤ 4611686018427387904) then bif decide (1 = 1 ∧ fitsB (List.length (ys ++ [AV.int IntKind.u8 (IntKind.wrap IntKind.u8 n)]) + List.length (ofBytes s)) 1 = true ∧ List.length (ys ++ [AV.int IntKind.u8 (IntKind.wrap IntKind.u8 n)]) + List.length (ofBytes s) ≤ 4611686018427387904) then KN { nt := 40, t := [(0, AV.sl 2 fl xs), (2, AV.str []), (3, AV.int IntKind.i64 0), (4, AV.tip 34 0 1 (ys ++ [AV.int IntKind.u8 (IntKind.wrap IntKind.u8 n)] ++ ofBytes s)), (6, AV.ptr 6 0 0), (7, AV.str s), (11, AV.bool d), (16, AV.sl 2 fl xs), (17, AV.int IntKind.i64 len), (18, AV.int IntKind.i64 (IntKind.wrap IntKind.i64 (i + 1))), (19, AV.bool (decide (i < len)))], b := [(6, [AV.int IntKind.i64 n, AV.int IntKind.u64 n_1])], r := [], g := [], rd := [], wr := [] } else none else none))) else none else onOpt (Option.map AV.str (bytesOf ys)) fun x => asStr x fun s => some (AV.tup [AV.str s, AV.int IntKind.i64 0], []) := by kernel_rfl
theorem dbytes_body1 (F : Fns) (N : Nat) (fl d : Bool) (xs ys : List AV) (len i : Int) (KN : St → Res) : bodyOf F 53 0 N (dbytesS fl d xs (.tip 34 0 1 ys) len i) (brk (contOf F 53 0 N 0) KN) =
  bif decide (i < len) then bif decide (0 ≤ i) then onOpt xs[Int.toNat i]? fun x => AM.asAgg x fun cs => asCons cs fun v r => AM.asInt IntKind.i64 v fun n => asCons r fun v r => AM.asInt IntKind.u64 v fun n_1 => asNil r (onRes (F 37 [AV.int IntKind.i64 (IntKind.wrap IntKind.i64 n_1), AV.int IntKind.i64 4] []) fun v bs => asTup v fun cs => asCons cs fun v r => asStr v fun s => asCons r fun v r => AM.asInt IntKind.i64 v fun n_2 => asNil r (asNil bs (bif decide (1 = 1 ∧ fitsB (List.length ys + List.length [AV.int IntKind.u8 (IntKind.wrap IntKind.u8 n)]) 1 = true ∧ List.length ys + List.length [AV.int IntKind.u8 (IntKind.wrap IntKind.u8 n)] ≤ 4611686018427387904) then bif decide (1 = 1 ∧ fitsB (List.length (ys ++ [AV.int IntKind.u8 (IntKind.wrap IntKind.u8 n)]) + List.length (ofBytes s)) 1 = true ∧ List.length (ys ++ [AV.int IntKind.u8 (IntKind.wrap IntKind.u8 n)]) + List.length (ofBytes s) ≤ 4611686018427387904) then KN { nt := 40, t := [(0, AV.sl 2 fl xs), (2, AV.str []), (3, AV.int IntKind.i64 0), (4, AV.tip 34 0 1 (ys ++ [AV.int IntKind.u8 (IntKind.wrap IntKind.u8 n)] ++ ofBytes s)), (6, AV.ptr 6 0 0), (7, AV.str s), (11, AV.bool d), (16, AV.sl 2 fl xs), (17, AV.int IntKind.i64 len), (18, AV.int IntKind.i64 (IntKind.wrap IntKind.i64 (i + 1))), (19, AV.bool (decide (i < len)))], b := [(6, [AV.int IntKind.i64 n, AV.int IntKind.u64 n_1])], r := [], g := [], rd := [], wr := [] } else none else none))) else none else onOpt (Option.map AV.str (bytesOf ys)) fun x => asStr x fun s => some (AV.tup [AV.str s, AV.int IntKind.i64 0], []) := by kernel_rfl
/-- One round's bytes. -/
theorem btB_ofBytes {b : Int × Int} (h : 1 ≤ b.1 ∧ b.1 ≤ 255) (acc : List UInt8) : ofBytes acc ++ [AV.int IntKind.u8 (IntKind.wrap IntKind.u8 b.1)] ++ ofBytes (be 4 b.2.toNat) = ofBytes (acc ++ btB b) := by
  obtain ⟨v, m⟩ := b
  simp only at h ⊢
  obtain ⟨n, rfl⟩ : ∃ n : Nat, v = n := ⟨v.toNat, by omega⟩
  rw [u8_ofBytes, show [AV.int IntKind.u8 (((UInt8.ofNat n).toNat : Nat) : Int)] = ofBytes [UInt8.ofNat n] from rfl, ofBytes_append, ofBytes_append, btB]
  simp
theorem put4 (k : Nat) (hk : 10 ≤ k) (m : Int) (h0 : 0 ≤ m) (h1 : m < 4294967296) : evF pr k 37 [.int .i64 (IntKind.wrap IntKind.i64 m), .int .i64 4] [] = some (.tup [.str (be 4 m.toNat), .int .i64 0], []) := by
  obtain ⟨n, rfl⟩ : ∃ n : Nat, m = n := ⟨m.toNat, by omega⟩
  rw [wrap_small (by omega) (by omega), show (4 : Int) = ((4 : Nat) : Int) from rfl, e37 k hk _ (by omega) 4 (by omega) (by omega), putV_small n 4 (by omega) (by omega) (by omega), Int.toNat_natCast]
theorem dbytes_loop (k : Nat) (hk : 12 ≤ k) (fl d : Bool) (l : List (Int × Int)) (hu : UM l) (hp : ∀ b ∈ l, 1 ≤ b.1 ∧ b.1 ≤ 255 ∧ b.2 ≠ 0 ∧ b.2 < 4294967296) (hl : l.length ≤ 1000) : ∀ (dd i m : Nat) (acc : List UInt8) (st : St), i + dd = l.length → dd < m → acc.length = 1 + 5 * i → st.clean (deadOf 53 0) = dbytesS fl d (l.map btV) (.tip 34 0 1 (ofBytes acc)) l.length i →
    loopA (bodyOf (evF pr k) 53 0 k) (deadOf 53 0) (contOf (evF pr k) 53 0 k 0) m st = some (.tup [.str (acc ++ (l.drop i).flatMap btB), .int .i64 0], []) := by
  intro dd
  induction dd with
  | zero =>
    intro i m acc st hi hm ha hst
    obtain ⟨m, rfl⟩ : ∃ m', m = m' + 1 := ⟨m - 1, by omega⟩
    have h1 : l.drop i = [] := List.drop_eq_nil_of_le (by omega)
    rw [loopA_succ, hst, dbytes_body1, decide_eq_false (by omega), h1, bytesOf_ofBytes]
    simp [onOpt, asStr]
  | succ dd ih =>
    intro i m acc st hi hm ha hst
    obtain ⟨m, rfl⟩ : ∃ m', m = m' + 1 := ⟨m - 1, by omega⟩
    have hlt : i < l.length := by omega
    have hpi := hp _ (List.getElem_mem hlt)
    have hui := hu _ (List.getElem_mem hlt)
    rw [loopA_succ, hst, dbytes_body1, decide_eq_true (show (i : Int) < l.length by omega), decide_eq_true (show (0 : Int) ≤ i by omega), getBt l i hlt, List.drop_eq_getElem_cons hlt, List.flatMap_cons]
    simp only [cond_true, onOpt, asAgg, asCons, asInt, if_true, asNil]
    generalize l[i] = b at *
    rw [put4 k (by omega) b.2 hui.1 hpi.2.2.2]
    simp only [onRes, asTup, asCons, asStr, asInt, if_true, asNil]
    rw [btB_ofBytes ⟨hpi.1, hpi.2.1⟩]
    rw [decide_eq_true (by
      refine ⟨trivial, fitsB_small ?_, ?_⟩ <;> simp only [ofBytes, List.length_map, List.length_cons, List.length_nil] <;> omega)]
    rw [decide_eq_true (by
      refine ⟨trivial, fitsB_small ?_, ?_⟩ <;> simp only [ofBytes, List.length_map, List.length_append, List.length_cons, List.length_nil, be_length] <;> omega)]
    simp only [cond_true]
    rw [wrap_small (n := (i : Int) + 1) (by omega) (by omega)]
    refine (ih (i + 1) m (acc ++ btB b) _ (by omega) (by omega) (by rw [List.length_append, btB_length]; omega) (by kernel_rfl)).trans ?_
    rw [List.append_assoc]
theorem e53 (k : Nat) (fl : Bool) (l : List (Int × Int)) (hu : UM l) (hk : l.length + 14 ≤ k) (hl : l.length ≤ 1000) : evF pr k 53 [.sl 2 fl (l.map btV)] [] = some (if bOk l then .tup [.str (putB l), .int .i64 0] else .tup [.str [], .int .i64 1], []) := by
  obtain ⟨k, rfl⟩ : ∃ m, k = m + 1 := ⟨k - 1, by omega⟩
  rw [ev_step _ _ _ _ (by kernel_rfl), dbytes_tree, e62 k fl l (by omega) (by omega)]
  simp only [onRes, asBool, asNil]
  cases hok : bOk l with
  | false => rfl
  | true =>
    have hp := bitsOk_parts l 0 (by omega) hok
    rw [List.length_map, u8_ofBytes, show [AV.int IntKind.u8 (((UInt8.ofNat l.length).toNat : Nat) : Int)] = ofBytes [UInt8.ofNat l.length] from rfl]
    simp only [Bool.not_true, cond_false]
    obtain ⟨k', hk'⟩ : ∃ m, k = m + 1 := ⟨k - 1, by omega⟩
    conv => lhs; arg 4; rw [hk']
    rw [loopA_succ]
    refine (dbytes_body0 _ _ fl false (l.map btV) (ofBytes [UInt8.ofNat l.length]) l.length 0 _).trans ?_
    cases l with
    | nil =>
      rw [bytesOf_ofBytes]
      rfl
    | cons b r =>
      have hpi := hp b (List.mem_cons_self ..)
      have hui := hu b (List.mem_cons_self ..)
      rw [decide_eq_true (show (0 : Int) < (((b :: r).length : Nat) : Int) by simp only [List.length_cons]; omega)]
      simp only [cond_true, Int.toNat_zero, List.map_cons, List.getElem?_cons_zero, onOpt, btV, asAgg, asCons, asInt, if_true, asNil, show decide ((0 : Int) ≤ 0) = true from rfl]
      rw [put4 k (by omega) b.2 hui.1 hpi.2.2.2]
      simp only [onRes, asTup, asCons, asStr, asInt, if_true, asNil]
      rw [btB_ofBytes ⟨hpi.1, hpi.2.1⟩]
      rw [decide_eq_true (by
        refine ⟨.inl trivial, fitsB_small ?_, ?_⟩ <;> simp only [ofBytes, List.length_map, List.length_cons, List.length_nil] <;> omega)]
      rw [decide_eq_true (by
        refine ⟨trivial, fitsB_small ?_, ?_⟩ <;> simp only [ofBytes, List.length_map, List.length_append, List.length_cons, List.length_nil, be_length] <;> omega)]
      simp only [cond_true]
      simp only [List.length_cons] at hk
      exact dbytes_loop k (by omega) fl false (b :: r) hu hp hl r.length 1 k' ([UInt8.ofNat (b :: r).length] ++ btB b) _ (by simp only [List.length_cons]; omega) (by omega) (by rw [List.length_append, btB_length]; rfl) (by kernel_rfl)
def rbbytesS (fl : Bool) (xs : List AV) (s : List UInt8) (i : Int) : St := ⟨48, [(0, AV.sl 2 fl xs), (2, AV.str []), (3, AV.str s), (4, AV.int IntKind.i64 i)], [], [], [], [], []⟩
theorem rbbytes_tree (F : Fns) (N : Nat) (fl : Bool) (xs : List AV) : runOf F 63 N [.sl 2 fl xs] [] =
  loopA (bodyOf F 63 0 N) (deadOf 63 0) (contOf F 63 0 N 0) N { nt := 48, t := [(0, AV.sl 2 fl xs), (2, AV.str []), (3, AV.str [UInt8.ofNat (Int.toNat (IntKind.wrap IntKind.u8 ((List.length xs : Nat) : Int)))]), (4, AV.int IntKind.i64 0)], b := [], r := [], g := [], rd := [], wr := [] } := by kernel_rfl
theorem rbbytes_body (F : Fns) (N : Nat) (fl : Bool) (xs : List AV) (s : List UInt8) (i : Int) (KN : St → Res) : bodyOf F 63 0 N (rbbytesS fl xs s i) (brk (contOf F 63 0 N 0) KN) =
  bif decide (i < ((List.length xs : Nat) : Int)) then bif decide (0 ≤ i) then onOpt xs[Int.toNat i]? fun x => AM.asAgg x fun cs => asCons cs fun v r => AM.asInt IntKind.i64 v fun n => asCons r fun v r => AM.asInt IntKind.u64 v fun n => asNil r (bif decide (0 ≤ i) then onOpt xs[Int.toNat i]? fun x => AM.asAgg x fun cs => asCons cs fun v r => AM.asInt IntKind.i64 v fun n_1 => asCons r fun v r => AM.asInt IntKind.u64 v fun n_2 => asNil r (bif decide (List.length s + List.length [UInt8.ofNat (Int.toNat (IntKind.wrap IntKind.u8 n_1)), UInt8.ofNat (Int.toNat (IntKind.wrap IntKind.u8 (IntKind.wrap IntKind.i64 (Int.tdiv (IntKind.wrap IntKind.i64 n) 16777216)))), UInt8.ofNat (Int.toNat (IntKind.wrap IntKind.u8 (Int.tmod (IntKind.wrap IntKind.i64 (Int.tdiv (IntKind.wrap IntKind.i64 n) 65536)) 256))), UInt8.ofNat (Int.toNat (IntKind.wrap IntKind.u8 (Int.tmod (IntKind.wrap IntKind.i64 (Int.tdiv (IntKind.wrap IntKind.i64 n) 256)) 256))), UInt8.ofNat (Int.toNat (IntKind.wrap IntKind.u8 (Int.tmod (IntKind.wrap IntKind.i64 n) 256)))] ≤ 4611686018427387904) then KN { nt := 48, t := [(0, AV.sl 2 fl xs), (2, AV.str []), (3, AV.str (s ++ [UInt8.ofNat (Int.toNat (IntKind.wrap IntKind.u8 n_1)), UInt8.ofNat (Int.toNat (IntKind.wrap IntKind.u8 (IntKind.wrap IntKind.i64 (Int.tdiv (IntKind.wrap IntKind.i64 n) 16777216)))), UInt8.ofNat (Int.toNat (IntKind.wrap IntKind.u8 (Int.tmod (IntKind.wrap IntKind.i64 (Int.tdiv (IntKind.wrap IntKind.i64 n) 65536)) 256))), UInt8.ofNat (Int.toNat (IntKind.wrap IntKind.u8 (Int.tmod (IntKind.wrap IntKind.i64 (Int.tdiv (IntKind.wrap IntKind.i64 n) 256)) 256))), UInt8.ofNat (Int.toNat (IntKind.wrap IntKind.u8 (Int.tmod (IntKind.wrap IntKind.i64 n) 256)))])), (4, AV.int IntKind.i64 (IntKind.wrap IntKind.i64 (i + 1))), (5, AV.int IntKind.i64 (IntKind.wrap IntKind.i64 n)), (14, AV.bool (decide (i < ((List.length xs : Nat) : Int))))], b := [], r := [], g := [], rd := [], wr := [] } else none) else none) else none else some (AV.str s, []) := by kernel_rfl
theorem be4_list (n : Nat) (h : n < 4294967296) : be 4 n = [UInt8.ofNat (n / 16777216), UInt8.ofNat (n / 65536 % 256), UInt8.ofNat (n / 256 % 256), UInt8.ofNat (n % 256)] := by
  simp only [be, List.nil_append, List.cons_append]
  have h1 : n / 256 / 256 / 256 % 256 = n / 16777216 := by omega
  have h2 : n / 256 / 256 % 256 = n / 65536 % 256 := by omega
  rw [h1, h2]
theorem rbbytes_loop (F : Fns) (N : Nat) (fl : Bool) (l : List (Int × Int)) (hu : UM l) (hp : ∀ b ∈ l, 1 ≤ b.1 ∧ b.1 ≤ 255 ∧ b.2 ≠ 0 ∧ b.2 < 4294967296) (hl : l.length ≤ 1000) : ∀ (dd i m : Nat) (acc : List UInt8) (st : St), i + dd = l.length → dd < m → acc.length = 1 + 5 * i → st.clean (deadOf 63 0) = rbbytesS fl (l.map btV) acc i →
    loopA (bodyOf F 63 0 N) (deadOf 63 0) (contOf F 63 0 N 0) m st = some (.str (acc ++ (l.drop i).flatMap btB), []) := by
  intro dd
  induction dd with
  | zero =>
    intro i m acc st hi hm ha hst
    obtain ⟨m, rfl⟩ : ∃ m', m = m' + 1 := ⟨m - 1, by omega⟩
    have h1 : l.drop i = [] := List.drop_eq_nil_of_le (by omega)
    rw [loopA_succ, hst, rbbytes_body, List.length_map, decide_eq_false (by omega), h1]
    simp
  | succ dd ih =>
    intro i m acc st hi hm ha hst
    obtain ⟨m, rfl⟩ : ∃ m', m = m' + 1 := ⟨m - 1, by omega⟩
    have hlt : i < l.length := by omega
    have hpi := hp _ (List.getElem_mem hlt)
    have hui := hu _ (List.getElem_mem hlt)
    rw [loopA_succ, hst, rbbytes_body, List.length_map, decide_eq_true (show (i : Int) < l.length by omega), decide_eq_true (show (0 : Int) ≤ i by omega), getBt l i hlt, List.drop_eq_getElem_cons hlt, List.flatMap_cons]
    simp only [cond_true, onOpt, asAgg, asCons, asInt, if_true, asNil]
    generalize l[i] = b at *
    obtain ⟨v, y⟩ := b
    simp only at hpi hui ⊢
    obtain ⟨v, rfl⟩ : ∃ n : Nat, v = n := ⟨v.toNat, by omega⟩
    obtain ⟨y, rfl⟩ : ∃ n : Nat, y = n := ⟨y.toNat, by omega⟩
    have hy : y < 4294967296 := by omega
    rw [wrap_small (n := (y : Int)) (by omega) (by omega)]
    have e1 : Int.tdiv (y : Int) 16777216 = ((y / 16777216 : Nat) : Int) := rfl
    have e2 : Int.tdiv (y : Int) 65536 = ((y / 65536 : Nat) : Int) := rfl
    have e3 : Int.tdiv (y : Int) 256 = ((y / 256 : Nat) : Int) := rfl
    rw [e1, e2, e3, wrap_small (n := ((y / 16777216 : Nat) : Int)) (by omega) (by omega), wrap_small (n := ((y / 65536 : Nat) : Int)) (by omega) (by omega), wrap_small (n := ((y / 256 : Nat) : Int)) (by omega) (by omega)]
    have e4 : Int.tmod ((y / 65536 : Nat) : Int) 256 = ((y / 65536 % 256 : Nat) : Int) := rfl
    have e5 : Int.tmod ((y / 256 : Nat) : Int) 256 = ((y / 256 % 256 : Nat) : Int) := rfl
    have e6 : Int.tmod (y : Int) 256 = ((y % 256 : Nat) : Int) := rfl
    rw [e4, e5, e6, byte_wrap, byte_wrap, byte_wrap, byte_wrap, byte_wrap]
    have hb : [UInt8.ofNat v, UInt8.ofNat (y / 16777216), UInt8.ofNat (y / 65536 % 256), UInt8.ofNat (y / 256 % 256), UInt8.ofNat (y % 256)] = btB ((v : Int), (y : Int)) := by
      rw [btB, Int.toNat_natCast, Int.toNat_natCast, be4_list y hy]
    rw [hb, decide_eq_true (by rw [btB_length]; omega), wrap_small (n := (i : Int) + 1) (by omega) (by omega)]
    simp only [cond_true]
    refine (ih (i + 1) m (acc ++ btB ((v : Int), (y : Int))) _ (by omega) (by omega) (by rw [List.length_append, btB_length]; omega) (by kernel_rfl)).trans ?_
    rw [List.append_assoc]
theorem e63 (k : Nat) (fl : Bool) (l : List (Int × Int)) (hu : UM l) (hk : l.length + 3 ≤ k) (hok : bOk l = true) : evF pr k 63 [.sl 2 fl (l.map btV)] [] = some (.str (putB l), []) := by
  obtain ⟨k, rfl⟩ : ∃ m, k = m + 1 := ⟨k - 1, by omega⟩
  have hl := bOk_length hok
  have hp := bitsOk_parts l 0 (by omega) hok
  rw [ev_step _ _ _ _ (by kernel_rfl), rbbytes_tree, List.length_map, byte_wrap]
  exact rbbytes_loop (evF pr k) k fl l hu hp (by omega) l.length 0 k [UInt8.ofNat l.length] _ (Nat.zero_add _) (by omega) rfl (by kernel_rfl)

/-! Parse -/
def bt1 (t : List UInt8) : Int × Int := (((t.getD 0 0).toNat : Int), ((unbe ((t.drop 1).take 4) 0 : Nat) : Int))
def bts : Nat → List UInt8 → List (Int × Int)
  | 0, _ => []
  | n + 1, t => bt1 t :: bts n (t.drop 5)
/-- Bits at the beginning, and the rest. -/
def parseB (s : List UInt8) : Option (List (Int × Int) × List UInt8) := match num 1 s with
  | none => none
  | some (n, t) => if t.length < 5 * n then none else if bOk (bts n t) then some (bts n t, t.drop (5 * n)) else none
def slT (l : List (Int × Int)) : AV := if l = [] then .sl 0 true [] else .sl 2 false (l.map btV)
def ParseBR (x : Option (List (Int × Int) × List UInt8)) (r : Res) : Prop := match x with
  | none => ∃ e : Int, e ≠ 0 ∧ r = some (.tup [.sl 0 true [], .str [], .int .i64 e], [])
  | some (l, t) => r = some (.tup [slT l, .str t, .int .i64 0], [])
theorem bt1_bound (t : List UInt8) : 0 ≤ (bt1 t).2 ∧ (bt1 t).2 < 4294967296 := by
  have h := unbe_lt ((t.drop 1).take 4) 0
  have h4 : 256 ^ ((t.drop 1).take 4).length ≤ 256 ^ 4 := Nat.pow_le_pow_right (by omega) (by rw [List.length_take]; omega)
  unfold bt1
  simp only
  omega
theorem bts_um : ∀ (n : Nat) (t : List UInt8), UM (bts n t)
  | 0, t => by simp [UM, bts]
  | n + 1, t => by
    intro b hb
    rw [bts] at hb
    rcases List.mem_cons.1 hb with rfl | hb
    · have := bt1_bound t
      omega
    · exact bts_um n _ b hb
theorem bts_length : ∀ (n : Nat) (t : List UInt8), (bts n t).length = n
  | 0, t => rfl
  | n + 1, t => by rw [bts, List.length_cons, bts_length n]
def dparseS (s0 s : List UInt8) (v : AV) (n e m i : Int) (d : Bool) : St := ⟨52, [(0, AV.str s0), (2, AV.sl 0 true []), (3, AV.str []), (4, AV.int IntKind.i64 0), (5, AV.int IntKind.i64 n), (6, AV.str s), (7, AV.int IntKind.i64 e), (8, v), (25, AV.bool d), (26, AV.int IntKind.i64 m), (27, AV.int IntKind.i64 i)], [], [], [], [], []⟩
theorem dparse_tree (F : Fns) (N : Nat) (s : List UInt8) : runOf F 50 N [.str s] [] =
  onRes (F 88 [AV.str s, AV.int IntKind.i64 1] []) fun v bs => asTup v fun cs => asCons cs fun v r => AM.asInt IntKind.i64 v fun n => asCons r fun v r => asStr v fun s_1 => asCons r fun v r => AM.asInt IntKind.i64 v fun n_1 => asNil r (asNil bs (bif n_1 != 0 then some (AV.tup [AV.sl 0 true [], AV.str [], AV.int IntKind.i64 2], []) else bif decide (((List.length s_1 : Nat) : Int) < IntKind.wrap IntKind.i64 (5 * n)) then some (AV.tup [AV.sl 0 true [], AV.str [], AV.int IntKind.i64 2], []) else loopA (bodyOf F 50 0 N) (deadOf 50 0) (contOf F 50 0 N 0) N { nt := 52, t := [(0, AV.str s), (2, AV.sl 0 true []), (3, AV.str []), (4, AV.int IntKind.i64 0), (5, AV.int IntKind.i64 n), (6, AV.str s_1), (7, AV.int IntKind.i64 n_1), (8, AV.sl 0 true []), (25, AV.bool (decide (((List.length s_1 : Nat) : Int) < IntKind.wrap IntKind.i64 (5 * n)))), (26, AV.int IntKind.i64 n), (27, AV.int IntKind.i64 0)], b := [], r := [], g := [], rd := [], wr := [] })) := by kernel_rfl
theorem dparse_body0 (F : Fns) (N : Nat) (s0 s : List UInt8) (n e m i : Int) (d : Bool) (KN : St → Res) : bodyOf F 50 0 N (dparseS s0 s (.sl 0 true []) n e m i d) (brk (contOf F 50 0 N 0) KN) =
  bif decide (i < m) then bif decide ((0 : Int) ≤ 1 ∧ (1 : Int) ≤ 5 ∧ 5 ≤ ((List.length s : Nat) : Int)) then onRes (F 89 [AV.str (List.drop (Int.toNat 1) (List.take (Int.toNat 5) s))] []) fun v bs => asTup v fun cs => asCons cs fun v r => AM.asInt IntKind.i64 v fun n_1 => asCons r fun v r => AM.asInt IntKind.i64 v fun n_2 => asNil r (asNil bs (onOpt (Option.map (fun b => AV.int IntKind.u8 ((UInt8.toNat b : Nat) : Int)) s[Int.toNat 0]?) fun x => AM.asInt IntKind.u8 x fun n_3 => bif decide ((0 : Int) ≤ 5 ∧ 5 ≤ ((List.length s : Nat) : Int) ∧ ((List.length s : Nat) : Int) ≤ ((List.length s : Nat) : Int)) then KN { nt := 52, t := [(0, AV.str s0), (2, AV.sl 0 true []), (3, AV.str []), (4, AV.int IntKind.i64 0), (5, AV.int IntKind.i64 n), (6, AV.str (List.drop (Int.toNat 5) (List.take (Int.toNat ((List.length s : Nat) : Int)) s))), (7, AV.int IntKind.i64 e), (8, AV.tip 43 0 2 [AV.agg [AV.int IntKind.i64 (IntKind.wrap IntKind.i64 n_3), AV.int IntKind.u64 (IntKind.wrap IntKind.u64 n_1)]]), (9, AV.int IntKind.i64 n_1), (25, AV.bool d), (26, AV.int IntKind.i64 m), (27, AV.int IntKind.i64 (IntKind.wrap IntKind.i64 (i + 1))), (28, AV.bool (decide (i < m)))], b := [], r := [], g := [], rd := [], wr := [] } else none)) else none else onRes (F 62 [AV.sl 0 true []] []) fun v bs => AM.asBool v fun b => asNil bs (bif !b then some (AV.tup [AV.sl 0 true [], AV.str [], AV.int IntKind.i64 3], []) else some (AV.tup [AV.sl 0 true [], AV.str s, AV.int IntKind.i64 0], [])) := by kernel_rfl
theorem dparse_body1 (F : Fns) (N : Nat) (s0 s : List UInt8) (ys : List AV) (n e m i : Int) (d : Bool) (KN : St → Res) : bodyOf F 50 0 N (dparseS s0 s (.tip 43 0 2 ys) n e m i d) (brk (contOf F 50 0 N 0) KN) =
  bif decide (i < m) then bif decide ((0 : Int) ≤ 1 ∧ (1 : Int) ≤ 5 ∧ 5 ≤ ((List.length s : Nat) : Int)) then onRes (F 89 [AV.str (List.drop (Int.toNat 1) (List.take (Int.toNat 5) s))] []) fun v bs => asTup v fun cs => asCons cs fun v r => AM.asInt IntKind.i64 v fun n_1 => asCons r fun v r => AM.asInt IntKind.i64 v fun n_2 => asNil r (asNil bs (onOpt (Option.map (fun b => AV.int IntKind.u8 ((UInt8.toNat b : Nat) : Int)) s[Int.toNat 0]?) fun x => AM.asInt IntKind.u8 x fun n_3 => bif decide (2 = 2 ∧ fitsB (List.length ys + List.length [AV.agg [AV.int IntKind.i64 (IntKind.wrap IntKind.i64 n_3), AV.int IntKind.u64 (IntKind.wrap IntKind.u64 n_1)]]) 16 = true ∧ List.length ys + List.length [AV.agg [AV.int IntKind.i64 (IntKind.wrap IntKind.i64 n_3), AV.int IntKind.u64 (IntKind.wrap IntKind.u64 n_1)]] ≤ 4611686018427387904) then bif decide ((0 : Int) ≤ 5 ∧ 5 ≤ ((List.length s : Nat) : Int) ∧ ((List.length s : Nat) : Int) ≤ ((List.length s : Nat) : Int)) then KN { nt := 52, t := [(0, AV.str s0), (2, AV.sl 0 true []), (3, AV.str []), (4, AV.int IntKind.i64 0), (5, AV.int IntKind.i64 n), (6, AV.str (List.drop (Int.toNat 5) (List.take (Int.toNat ((List.length s : Nat) : Int)) s))), (7, AV.int IntKind.i64 e), (8, AV.tip 43 0 2 (ys ++ [AV.agg [AV.int IntKind.i64 (IntKind.wrap IntKind.i64 n_3), AV.int IntKind.u64 (IntKind.wrap IntKind.u64 n_1)]])), (9, AV.int IntKind.i64 n_1), (25, AV.bool d), (26, AV.int IntKind.i64 m), (27, AV.int IntKind.i64 (IntKind.wrap IntKind.i64 (i + 1))), (28, AV.bool (decide (i < m)))], b := [], r := [], g := [], rd := [], wr := [] } else none else none)) else none else onRes (F 62 [AV.sl 2 false ys] []) fun v bs => AM.asBool v fun b => asNil bs (bif !b then some (AV.tup [AV.sl 0 true [], AV.str [], AV.int IntKind.i64 3], []) else some (AV.tup [AV.sl 2 false ys, AV.str s, AV.int IntKind.i64 0], [])) := by kernel_rfl
/-- What one round takes. -/
theorem get4 (k : Nat) (hk : 10 ≤ k) (s : List UInt8) (h : 5 ≤ s.length) : evF pr k 89 [.str (List.drop (Int.toNat 1) (List.take (Int.toNat 5) s))] [] = some (.tup [.int .i64 (bt1 s).2, .int .i64 0], []) := by
  have e : List.drop (Int.toNat 1) (List.take (Int.toNat 5) s) = (s.drop 1).take 4 := by
    rw [List.drop_take]
    rfl
  have hl : ((s.drop 1).take 4).length = 4 := by rw [List.length_take, List.length_drop]; omega
  have hb := bt1_bound s
  unfold bt1 at hb
  rw [e, e89 k hk, AM.getV, if_neg (by omega), if_neg (by simp only at hb; omega)]
  rfl
theorem head_map (s : List UInt8) (h : 1 ≤ s.length) : Option.map (fun b => AV.int IntKind.u8 ((UInt8.toNat b : Nat) : Int)) s[Int.toNat 0]? = some (AV.int .u8 (bt1 s).1) := by
  have := getD_map s 0 (by omega)
  exact this
theorem bt1_wraps (s : List UInt8) : IntKind.wrap IntKind.i64 (bt1 s).1 = (bt1 s).1 ∧ IntKind.wrap IntKind.u64 (bt1 s).2 = (bt1 s).2 := by
  refine ⟨?_, ?_⟩
  · unfold bt1
    exact byte_i64 _
  · have := bt1_bound s
    obtain ⟨n, hn⟩ : ∃ n : Nat, (bt1 s).2 = n := ⟨(bt1 s).2.toNat, by omega⟩
    rw [hn] at this ⊢
    exact wrap_u64 (by omega)
theorem dparse_loop (k : Nat) (hk : 10 ≤ k) (n : Nat) (hn : n ≤ 1000) (hkn : n + 4 ≤ k) (s0 : List UInt8) (n0 e0 : Int) (d : Bool) : ∀ (dd i m : Nat) (acc : List (Int × Int)) (s : List UInt8) (st : St), i + dd = n → dd < m → acc ≠ [] → acc.length = i → 5 * dd ≤ s.length → st.clean (deadOf 50 0) = dparseS s0 s (.tip 43 0 2 (acc.map btV)) n0 e0 n i d →
    loopA (bodyOf (evF pr k) 50 0 k) (deadOf 50 0) (contOf (evF pr k) 50 0 k 0) m st = some (if bOk (acc ++ bts dd s) then .tup [.sl 2 false ((acc ++ bts dd s).map btV), .str (s.drop (5 * dd)), .int .i64 0] else .tup [.sl 0 true [], .str [], .int .i64 3], []) := by
  intro dd
  induction dd with
  | zero =>
    intro i m acc s st hi hm ha hl hs hst
    obtain ⟨m, rfl⟩ : ∃ m', m = m' + 1 := ⟨m - 1, by omega⟩
    rw [loopA_succ, hst, dparse_body1, decide_eq_false (by omega), e62 k false acc (by omega) (by omega)]
    simp only [cond_false, onRes, asBool, asNil, bts, List.append_nil]
    cases bOk acc with
    | false => rfl
    | true => rfl
  | succ dd ih =>
    intro i m acc s st hi hm ha hl hs hst
    obtain ⟨m, rfl⟩ : ∃ m', m = m' + 1 := ⟨m - 1, by omega⟩
    rw [loopA_succ, hst, dparse_body1, decide_eq_true (show (i : Int) < n by omega), decide_eq_true (show (0 : Int) ≤ 1 ∧ (1 : Int) ≤ 5 ∧ (5 : Int) ≤ s.length by omega), get4 k hk s (by omega), head_map s (by omega), decide_eq_true (show (0 : Int) ≤ 5 ∧ (5 : Int) ≤ s.length ∧ (s.length : Int) ≤ s.length by omega)]
    simp only [cond_true, onRes, asTup, asCons, asInt, if_true, asNil, onOpt]
    rw [decide_eq_true (by
      refine ⟨trivial, fitsB_small ?_, ?_⟩ <;> simp only [List.length_map, List.length_cons, List.length_nil] <;> omega)]
    simp only [cond_true]
    rw [(bt1_wraps s).1, (bt1_wraps s).2, wrap_small (n := (i : Int) + 1) (by omega) (by omega), Int.toNat_natCast, List.take_length, show Int.toNat 5 = 5 from rfl]
    refine (ih (i + 1) m (acc ++ [bt1 s]) (s.drop 5) _ (by omega) (by omega) (by simp) (by simp [hl]) (by rw [List.length_drop]; omega) (by rw [List.map_append]; kernel_rfl)).trans ?_
    rw [bts, List.append_assoc, List.singleton_append, List.drop_drop, show 5 + 5 * dd = 5 * (dd + 1) by omega]
theorem e50 (k : Nat) (hk : 400 ≤ k) (s : List UInt8) : ParseBR (parseB s) (evF pr k 50 [.str s] []) := by
  obtain ⟨k, rfl⟩ : ∃ m, k = m + 1 := ⟨k - 1, by omega⟩
  rw [ev_step _ _ _ _ (by kernel_rfl), dparse_tree, show (1 : Int) = ((1 : Nat) : Int) from rfl, e88 k (by omega) s 1 (by omega) (by omega)]
  simp only [onRes, asTup, asCons, asInt, asStr, if_true, asNil]
  unfold parseB
  cases h1 : num 1 s with
  | none =>
    rw [show (numE 1 s != 0) = true by simp [num_no h1]]
    exact ⟨2, by omega, rfl⟩
  | some q =>
    obtain ⟨n, t⟩ := q
    obtain ⟨r1, r2, r3⟩ := num_at h1
    have r4 : numR 1 s = t := by rw [numR, if_pos r1, r3]
    have hn := (num_lt h1).1
    rw [r1, r2, r4]
    simp only [show ((0 : Int) != 0) = false from rfl, cond_false]
    rw [wrap_small (n := 5 * (n : Int)) (by omega) (by omega)]
    by_cases hl : t.length < 5 * n
    · rw [decide_eq_true (show ((t.length : Nat) : Int) < 5 * (n : Int) by omega), if_pos hl]
      exact ⟨2, by omega, rfl⟩
    · rw [decide_eq_false (show ¬ ((t.length : Nat) : Int) < 5 * (n : Int) by omega), if_neg hl]
      simp only [cond_false]
      obtain ⟨k', hk'⟩ : ∃ m, k = m + 1 := ⟨k - 1, by omega⟩
      conv => arg 2; arg 4; rw [hk']
      rw [loopA_succ]
      have hb : bodyOf (evF pr k) 50 0 k (dparseS s t (.sl 0 true []) n 0 n 0 false) (brk (contOf (evF pr k) 50 0 k 0) fun st' => loopA (bodyOf (evF pr k) 50 0 k) (deadOf 50 0) (contOf (evF pr k) 50 0 k 0) k' st') = some (if bOk (bts n t) then .tup [slT (bts n t), .str (t.drop (5 * n)), .int .i64 0] else .tup [.sl 0 true [], .str [], .int .i64 3], []) := by
        rw [dparse_body0]
        cases n with
        | zero =>
          obtain ⟨k2, hk2⟩ : ∃ m, k = m + 6 := ⟨k - 6, by omega⟩
          have h62 : evF pr k 62 [.sl 0 true []] [] = some (.bool true, []) := by rw [hk2]; exact e62nil k2 0 true
          rw [h62]
          rfl
        | succ n =>
          rw [decide_eq_true (show (0 : Int) < ((n + 1 : Nat) : Int) by omega), decide_eq_true (show (0 : Int) ≤ 1 ∧ (1 : Int) ≤ 5 ∧ (5 : Int) ≤ t.length by omega), get4 k (by omega) t (by omega), head_map t (by omega), decide_eq_true (show (0 : Int) ≤ 5 ∧ (5 : Int) ≤ t.length ∧ (t.length : Int) ≤ t.length by omega)]
          simp only [cond_true, onRes, asTup, asCons, asInt, if_true, asNil, onOpt]
          rw [(bt1_wraps t).1, (bt1_wraps t).2, Int.toNat_natCast, List.take_length, show Int.toNat 5 = 5 from rfl]
          refine (dparse_loop k (by omega) (n + 1) (by omega) (by omega) s ((n + 1 : Nat) : Int) 0 false n 1 k' [bt1 t] (t.drop 5) _ (by omega) (by omega) (by simp) rfl (by rw [List.length_drop]; omega) (by kernel_rfl)).trans ?_
          rw [bts, List.drop_drop, show 5 + 5 * n = 5 * (n + 1) by omega, show slT (bt1 t :: bts n (t.drop 5)) = .sl 2 false ((bt1 t :: bts n (t.drop 5)).map btV) from if_neg (by simp)]
          rfl
      have hfin : ParseBR (if bOk (bts n t) = true then some (bts n t, List.drop (5 * n) t) else none) (some (if bOk (bts n t) then .tup [slT (bts n t), .str (t.drop (5 * n)), .int .i64 0] else .tup [.sl 0 true [], .str [], .int .i64 3], [])) := by
        cases bOk (bts n t) with
        | false => exact ⟨3, by omega, rfl⟩
        | true => rfl
      rw [← hb] at hfin
      exact hfin

end Go.AM.Ytnhfjkckgicidaa
