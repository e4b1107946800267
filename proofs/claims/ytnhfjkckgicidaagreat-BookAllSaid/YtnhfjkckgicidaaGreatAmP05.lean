/- Bits: dirty.Right, Bytes, Parse and ref10's: what they answer, plain. -/
import Derived.Test.YtnhfjkckgicidaaGreatAmP04
import Derived.Test.YtnhfjkckgicidaaGreatAmP03
set_option linter.unusedVariables false
set_option linter.unusedSimpArgs false
namespace Go.AM.YtnhfjkckgicidaaGreat
open Go.AM Go.Proofs Go
def btV (b : Int × Int) : AV := .agg [.int .i64 b.1, .int .u64 b.2]
def bitsOk : Int → List (Int × Int) → Bool
 | _, [] => true
 | last, b :: r => decide (last < b.1 ∧ b.1 ≤ 255 ∧ b.2 ≠ 0 ∧ b.2 < 4294967296) && bitsOk b.1 r
def bOk (l : List (Int × Int)) : Bool := bitsOk 0 l
def UM (l : List (Int × Int)) : Prop := ∀ b ∈ l, 0 ≤ b.2 ∧ b.2 < 18446744073709551616
theorem getBt (l : List (Int × Int)) (i : Nat) (h : i < l.length) : (l.map btV)[Int.toNat (i : Int)]? = some (.agg [.int .i64 (l[i]).1, .int .u64 (l[i]).2]) := by
 rw [Int.toNat_natCast, List.getElem?_map, List.getElem?_eq_getElem h]
 rfl
theorem bitsOk_length : ∀ (l : List (Int × Int)) (last : Int), last ≤ 255 → bitsOk last l = true → (l.length : Int) + last ≤ 255
 | [], last, h, _ => by simp only [List.length_nil]; omega
 | b :: r, last, h, hb => by
  rw [bitsOk, Bool.and_eq_true, decide_eq_true_eq] at hb
  have := bitsOk_length r b.1 hb.1.2.1 hb.2
  simp only [List.length_cons]
  omega
theorem bOk_length {l : List (Int × Int)} (h : bOk l = true) : l.length ≤ 255 := by
 have := bitsOk_length l 0 (by omega) h
 omega
theorem bitsOk_parts : ∀ (l : List (Int × Int)) (last : Int), 0 ≤ last → bitsOk last l = true → ∀ b ∈ l, 1 ≤ b.1 ∧ b.1 ≤ 255 ∧ b.2 ≠ 0 ∧ b.2 < 4294967296
 | [], last, _, _ => by simp
 | b :: r, last, hl, hb => by
  rw [bitsOk, Bool.and_eq_true, decide_eq_true_eq] at hb
  intro c hc
  rcases List.mem_cons.1 hc with rfl | hc
  ·omega
  ·exact bitsOk_parts r b.1 (by omega) hb.2 c hc
def drightS (fl : Bool) (xs : List AV) (last len i : Int) : St := ⟨34, [(0, AV.sl 2 fl xs), (2, AV.bool false), (3, AV.int .i64 last), (6, AV.sl 2 fl xs), (7, AV.int .i64 len), (8, AV.int .i64 i)], [], [], [], [], []⟩
theorem dright_tree (F : Fns) (N : Nat) (fl : Bool) (xs : List AV) : runOf F 72 N [.sl 2 fl xs] [] =
 loopA (zBy F 72 0 N) (zDe 72 0) (zCt F 72 0 N 0) N { nt := 34, t := [(0, AV.sl 2 fl xs), (2, AV.bool false), (3, AV.int .i64 0), (6, AV.sl 2 fl xs), (7, AV.int .i64 (xs.length : Int)), (8, AV.int .i64 0)], b := [], r := [], g := [], rd := [], wr := [] } := by kernel_rfl
theorem dright_body (F : Fns) (N : Nat) (fl : Bool) (xs : List AV) (last len i : Int) (KN : St → Res) : zBy F 72 0 N (drightS fl xs last len i) (brk (zCt F 72 0 N 0) KN) =
 bif decide (i < len) then bif decide (0 ≤ i) then zOp xs[Int.toNat i]? fun x => zAg x fun cs => zCo cs fun v r => zIn .i64 v fun n => zCo r fun v r => zIn .u64 v fun n_1 => zNi r (bif decide (n ≤ last) then some (AV.bool false, []) else bif decide (n > 255) then some (AV.bool false, []) else bif n_1 == 0 then some (AV.bool false, []) else bif decide (n_1 ≥ 4294967296) then some (AV.bool false, []) else KN { nt := 34, t := [(0, AV.sl 2 fl xs), (2, AV.bool false), (3, AV.int .i64 n), (5, AV.ptr 5 0 0), (6, AV.sl 2 fl xs), (7, AV.int .i64 len), (8, AV.int .i64 (IntKind.wrap .i64 (i + 1))), (9, AV.bool (decide (i < len))), (30, AV.bool (decide (n_1 ≥ 4294967296)))], b := [(5, [AV.int .i64 n, AV.int .u64 n_1])], r := [], g := [], rd := [], wr := [] }) else none else some (AV.bool true, []) := by kernel_rfl
theorem dright_loop (F : Fns) (N : Nat) (fl : Bool) (l : List (Int × Int)) (hl : l.length ≤ 1000000000) : ∀ (dd i m : Nat) (last : Int) (st : St), i + dd = l.length → dd < m → st.clean (zDe 72 0) = drightS fl (l.map btV) last l.length i →
  loopA (zBy F 72 0 N) (zDe 72 0) (zCt F 72 0 N 0) m st = some (.bool (bitsOk last (l.drop i)), []) := by
 intro dd
 induction dd with
 | zero =>
  intro i m last st hi hm hst
  obtain ⟨m, rfl⟩ : ∃ m', m = m' + 1 := ⟨m - 1, by omega⟩
  have h1 : l.drop i = [] := List.drop_eq_nil_of_le (by omega)
  rw [loopA_succ, hst, dright_body, decide_eq_false (by omega), h1]
  rfl
 | succ dd ih =>
  intro i m last st hi hm hst
  obtain ⟨m, rfl⟩ : ∃ m', m = m' + 1 := ⟨m - 1, by omega⟩
  have hlt : i < l.length := by omega
  rw [loopA_succ, hst, dright_body, decide_eq_true (show (i : Int) < l.length by omega), decide_eq_true (show (0 : Int) ≤ i by omega), getBt l i hlt, List.drop_eq_getElem_cons hlt, bitsOk]
  simp only [cond_true, zOp, zAg, zCo, zIn, if_true, zNi]
  rw [wrap_small (n := (i : Int) + 1) (by omega) (by omega)]
  generalize l[i] = b
  obtain ⟨x, y⟩ := b
  simp only
  by_cases hc : last < x ∧ x ≤ 255 ∧ y ≠ 0 ∧ y < 4294967296
  ·rw [decide_eq_true hc, decide_eq_false (show ¬ x ≤ last by omega), decide_eq_false (show ¬ x > 255 by omega), show (y == 0) = false by simp [hc.2.2.1], decide_eq_false (show ¬ y ≥ 4294967296 by omega)]
   simp only [cond_false, Bool.true_and]
   exact ih (i + 1) m _ _ (by omega) (by omega) (by kernel_rfl)
  ·rw [decide_eq_false hc, Bool.false_and]
   by_cases h1 : x ≤ last
   ·rw [decide_eq_true h1]; rfl
   by_cases h2 : x > 255
   ·rw [decide_eq_false h1, decide_eq_true h2]; rfl
   by_cases h3 : y = 0
   ·rw [decide_eq_false h1, decide_eq_false h2, show (y == 0) = true by simp [h3]]; rfl
   by_cases h4 : y ≥ 4294967296
   ·rw [decide_eq_false h1, decide_eq_false h2, show (y == 0) = false by simp [h3], decide_eq_true h4]; rfl
   exact absurd (by omega) hc
theorem e62 (k : Nat) (fl : Bool) (l : List (Int × Int)) (hk : l.length + 3 ≤ k) (hl : l.length ≤ 1000000000) : evF pr k 72 [.sl 2 fl (l.map btV)] [] = some (.bool (bOk l), []) := by
 obtain ⟨k, rfl⟩ : ∃ m, k = m + 1 := ⟨k - 1, by omega⟩
 rw [ev_step _ _ _ _ (by kernel_rfl), dright_tree, List.length_map]
 exact dright_loop (evF pr k) k fl l hl l.length 0 k 0 _ (Nat.zero_add _) (by omega) (by kernel_rfl)
theorem e62nil (k a : Nat) (fl : Bool) : evF pr (k + 6) 72 [.sl a fl []] [] = some (.bool true, []) := by kernel_rfl
theorem e91 (k : Nat) : evF pr (k + 40) 124 [.int .i64 32] [] = some (.int .u64 4294967296, []) := by kernel_rfl
def rbrightS (fl : Bool) (xs : List AV) (i : Int) : St := ⟨59, [(0, AV.sl 2 fl xs), (2, AV.bool false), (3, AV.int .i64 i)], [], [], [], [], []⟩
theorem rbright_tree (F : Fns) (N : Nat) (fl : Bool) (xs : List AV) : runOf F 81 N [.sl 2 fl xs] [] =
 loopA (zBy F 81 0 N) (zDe 81 0) (zCt F 81 0 N 0) N { nt := 59, t := [(0, AV.sl 2 fl xs), (2, AV.bool false), (3, AV.int .i64 0)], b := [], r := [], g := [], rd := [], wr := [] } := by kernel_rfl
theorem rbright_body (F : Fns) (N : Nat) (fl : Bool) (xs : List AV) (i : Int) (KN : St → Res) : zBy F 81 0 N (rbrightS fl xs i) (brk (zCt F 81 0 N 0) KN) =
 bif decide (i < (xs.length : Int)) then bif decide (0 ≤ i) then zOp xs[Int.toNat i]? fun x => zAg x fun cs => zCo cs fun v r => zIn .i64 v fun n => zCo r fun v r => zIn .u64 v fun n_1 => zNi r (bif decide (n < 1) then some (AV.bool false, []) else bif decide (0 ≤ i) then zOp xs[Int.toNat i]? fun x => zAg x fun cs => zCo cs fun v r => zIn .i64 v fun n => zCo r fun v r => zIn .u64 v fun n_2 => zNi r (bif decide (n > 255) then some (AV.bool false, []) else bif decide (0 ≤ i) then zOp xs[Int.toNat i]? fun x => zAg x fun cs => zCo cs fun v r => zIn .i64 v fun n => zCo r fun v r => zIn .u64 v fun n => zNi r (bif n == 0 then some (AV.bool false, []) else bif decide (0 ≤ i) then zOp xs[Int.toNat i]? fun x => zAg x fun cs => zCo cs fun v r => zIn .i64 v fun n => zCo r fun v r => zIn .u64 v fun n => zNi r (zRe (F 124 [AV.int .i64 32] []) fun v bs => zIn .u64 v fun n_3 => zNi bs (bif decide (n ≥ n_3) then some (AV.bool false, []) else bif decide (i > 0) then bif decide (0 ≤ IntKind.wrap .i64 (i - 1)) then zOp xs[Int.toNat (IntKind.wrap .i64 (i - 1))]? fun x => zAg x fun cs => zCo cs fun v r => zIn .i64 v fun n => zCo r fun v r => zIn .u64 v fun n_4 => zNi r (bif decide (0 ≤ i) then zOp xs[Int.toNat i]? fun x => zAg x fun cs => zCo cs fun v r => zIn .i64 v fun n_5 => zCo r fun v r => zIn .u64 v fun n_6 => zNi r (bif decide (n ≥ n_5) then some (AV.bool false, []) else KN { nt := 59, t := [(0, AV.sl 2 fl xs), (2, AV.bool false), (3, AV.int .i64 (IntKind.wrap .i64 (i + 1))), (7, AV.bool (decide (i < (xs.length : Int)))), (58, AV.bool (decide (n ≥ n_5)))], b := [], r := [], g := [], rd := [], wr := [] }) else none) else none else KN { nt := 59, t := [(0, AV.sl 2 fl xs), (2, AV.bool false), (3, AV.int .i64 (IntKind.wrap .i64 (i + 1))), (7, AV.bool (decide (i < (xs.length : Int)))), (58, AV.bool false)], b := [], r := [], g := [], rd := [], wr := [] })) else none) else none) else none) else none else some (AV.bool true, []) := by kernel_rfl
theorem rbright_loop (k : Nat) (hk : 40 ≤ k) (fl : Bool) (l : List (Int × Int)) (hl : l.length ≤ 1000000000) : ∀ (dd i m : Nat) (v y : Int) (st : St), i + 1 + dd = l.length → dd < m → (∀ h : i < l.length, l[i] = (v, y)) → 1 ≤ v → st.clean (zDe 81 0) = rbrightS fl (l.map btV) ((i + 1 : Nat) : Int) →
  loopA (zBy (evF pr k) 81 0 k) (zDe 81 0) (zCt (evF pr k) 81 0 k 0) m st = some (.bool (bitsOk v (l.drop (i + 1))), []) := by
 obtain ⟨k, rfl⟩ : ∃ m, k = m + 40 := ⟨k - 40, by omega⟩
 intro dd
 induction dd with
 | zero =>
  intro i m v y st hi hm hp hv hst
  obtain ⟨m, rfl⟩ : ∃ m', m = m' + 1 := ⟨m - 1, by omega⟩
  have h1 : l.drop (i + 1) = [] := List.drop_eq_nil_of_le (by omega)
  rw [loopA_succ, hst, rbright_body, List.length_map, decide_eq_false (by omega), h1]
  rfl
 | succ dd ih =>
  intro i m v y st hi hm hp hv hst
  obtain ⟨m, rfl⟩ : ∃ m', m = m' + 1 := ⟨m - 1, by omega⟩
  have hlt : i + 1 < l.length := by omega
  have hb0 := getBt l i (by omega)
  rw [hp (by omega)] at hb0
  have hw : IntKind.wrap .i64 (((i + 1 : Nat) : Int) - 1) = (i : Int) := by rw [wrap_small (by omega) (by omega)]; omega
  rw [loopA_succ, hst, rbright_body, List.length_map, decide_eq_true (show (((i + 1 : Nat)) : Int) < l.length by omega), decide_eq_true (show (0 : Int) ≤ (i + 1 : Nat) by omega), getBt l (i + 1) hlt, List.drop_eq_getElem_cons hlt, bitsOk, e91, hw, hb0, decide_eq_true (show (0 : Int) ≤ i by omega), decide_eq_true (show (((i + 1 : Nat)) : Int) > 0 by omega)]
  simp only [cond_true, zOp, zAg, zCo, zIn, if_true, zNi, zRe]
  rw [show IntKind.wrap .i64 (((i + 1 : Nat) : Int) + 1) = ((i + 1 + 1 : Nat) : Int) by rw [wrap_small (by omega) (by omega)]; omega]
  generalize hx : l[i + 1] = b
  obtain ⟨x, y'⟩ := b
  simp only
  by_cases hc : v < x ∧ x ≤ 255 ∧ y' ≠ 0 ∧ y' < 4294967296
  ·rw [decide_eq_true hc, decide_eq_false (show ¬ x < 1 by omega), decide_eq_false (show ¬ x > 255 by omega), show (y' == 0) = false by simp [hc.2.2.1], decide_eq_false (show ¬ y' ≥ 4294967296 by omega), decide_eq_false (show ¬ v ≥ x by omega)]
   simp only [cond_false, Bool.true_and]
   exact ih (i + 1) m x y' _ (by omega) (by omega) (fun _ => hx) (by omega) (by kernel_rfl)
  ·rw [decide_eq_false hc, Bool.false_and]
   by_cases h1 : x < 1
   ·rw [decide_eq_true h1]; rfl
   by_cases h2 : x > 255
   ·rw [decide_eq_false h1, decide_eq_true h2]; rfl
   by_cases h3 : y' = 0
   ·rw [decide_eq_false h1, decide_eq_false h2, show (y' == 0) = true by simp [h3]]; rfl
   by_cases h4 : y' ≥ 4294967296
   ·rw [decide_eq_false h1, decide_eq_false h2, show (y' == 0) = false by simp [h3], decide_eq_true h4]; rfl
   by_cases h5 : v ≥ x
   ·rw [decide_eq_false h1, decide_eq_false h2, show (y' == 0) = false by simp [h3], decide_eq_false h4, decide_eq_true h5]; rfl
   exact absurd (by omega) hc
theorem e58nil (k a : Nat) (fl : Bool) : evF pr (k + 6) 81 [.sl a fl []] [] = some (.bool true, []) := by kernel_rfl
theorem e58 (k : Nat) (fl : Bool) (l : List (Int × Int)) (hk : l.length + 50 ≤ k) (hl : l.length ≤ 1000000000) : evF pr k 81 [.sl 2 fl (l.map btV)] [] = some (.bool (bOk l), []) := by
 obtain ⟨k, rfl⟩ : ∃ m, k = m + 1 + 40 := ⟨k - 41, by omega⟩
 cases l with
 | nil => exact e58nil (k + 35) 2 fl
 | cons b r =>
  rw [ev_step _ _ _ _ (by kernel_rfl), rbright_tree]
  conv => lhs; arg 4; rw [show k + 40 = (k + 39) + 1 by omega]
  rw [loopA_succ]
  refine (rbright_body _ _ fl ((b :: r).map btV) 0 _).trans ?_
  simp only [List.length_cons] at hk hl
  rw [List.length_map, decide_eq_true (show (0 : Int) < (((b :: r).length : Nat) : Int) by simp only [List.length_cons]; omega), e91, bOk, bitsOk]
  obtain ⟨x, y⟩ := b
  simp only [cond_true, cond_false, Int.toNat_zero, List.map_cons, List.getElem?_cons_zero, zOp, btV, zAg, zCo, zIn, if_true, zNi, zRe, show decide ((0 : Int) ≤ 0) = true from rfl, show decide ((0 : Int) > 0) = false from rfl]
  by_cases hc : 0 < x ∧ x ≤ 255 ∧ y ≠ 0 ∧ y < 4294967296
  ·rw [decide_eq_true hc, decide_eq_false (show ¬ x < 1 by omega), decide_eq_false (show ¬ x > 255 by omega), show (y == 0) = false by simp [hc.2.2.1], decide_eq_false (show ¬ y ≥ 4294967296 by omega)]
   simp only [cond_false, Bool.true_and]
   exact rbright_loop (k + 40) (by omega) fl ((x, y) :: r) (by simpa using hl) r.length 0 (k + 39) x y _ (by simp only [List.length_cons]; omega) (by omega) (fun _ => rfl) (by omega) (by kernel_rfl)
  ·rw [decide_eq_false hc, Bool.false_and]
   by_cases h1 : x < 1
   ·rw [decide_eq_true h1]; rfl
   by_cases h2 : x > 255
   ·rw [decide_eq_false h1, decide_eq_true h2]; rfl
   by_cases h3 : y = 0
   ·rw [decide_eq_false h1, decide_eq_false h2, show (y == 0) = true by simp [h3]]; rfl
   rw [decide_eq_false h1, decide_eq_false h2, show (y == 0) = false by simp [h3], decide_eq_true (show y ≥ 4294967296 by omega)]
   rfl
def btB (b : Int × Int) : List UInt8 := UInt8.ofNat b.1.toNat :: be 4 b.2.toNat
def putB (l : List (Int × Int)) : List UInt8 := UInt8.ofNat l.length :: l.flatMap btB
theorem btB_length (b : Int × Int) : (btB b).length = 5 := by simp [btB, be_length]
theorem u8_ofBytes (n : Nat) : AV.int .u8 (IntKind.wrap .u8 (n : Int)) = AV.int .u8 (((UInt8.ofNat n).toNat : Nat) : Int) := by
 have : IntKind.wrap .u8 (n : Int) = (((UInt8.ofNat n).toNat : Nat) : Int) := by
  simp [IntKind.wrap, IntKind.bits, IntKind.signed]
 rw [this]
def dbytesS (fl d : Bool) (xs : List AV) (v : AV) (len i : Int) : St := ⟨40, [(0, AV.sl 2 fl xs), (2, AV.str []), (3, AV.int .i64 0), (4, v), (11, AV.bool d), (16, AV.sl 2 fl xs), (17, AV.int .i64 len), (18, AV.int .i64 i)], [], [], [], [], []⟩
theorem dbytes_tree (F : Fns) (N : Nat) (fl : Bool) (xs : List AV) : runOf F 24 N [.sl 2 fl xs] [] =
 zRe (F 72 [AV.sl 2 fl xs] []) fun v bs => zBo v fun b => zNi bs (bif !b then some (AV.tup [AV.str [], AV.int .i64 1], []) else loopA (zBy F 24 0 N) (zDe 24 0) (zCt F 24 0 N 0) N { nt := 40, t := [(0, AV.sl 2 fl xs), (2, AV.str []), (3, AV.int .i64 0), (4, AV.sl 1 true [AV.int .u8 (IntKind.wrap .u8 (xs.length : Int))]), (11, AV.bool !b), (16, AV.sl 2 fl xs), (17, AV.int .i64 (xs.length : Int)), (18, AV.int .i64 0)], b := [], r := [], g := [], rd := [], wr := [] }) := by kernel_rfl
theorem dbytes_body0 (F : Fns) (N : Nat) (fl d : Bool) (xs ys : List AV) (len i : Int) (KN : St → Res) : zBy F 24 0 N (dbytesS fl d xs (.sl 1 true ys) len i) (brk (zCt F 24 0 N 0) KN) =
 bif decide (i < len) then bif decide (0 ≤ i) then zOp xs[Int.toNat i]? fun x => zAg x fun cs => zCo cs fun v r => zIn .i64 v fun n => zCo r fun v r => zIn .u64 v fun n_1 => zNi r (zRe (F 23 [AV.int .i64 (IntKind.wrap .i64 n_1), AV.int .i64 4] []) fun v bs => zTu v fun cs => zCo cs fun v r => zSt v fun s => zCo r fun v r => zIn .i64 v fun n_2 => zNi r (zNi bs (bif decide ((1 = 1 ∨ ys = []) ∧ fitsB (List.length ys + List.length [AV.int .u8 (IntKind.wrap .u8 n)]) 1 = true ∧ List.length ys + List.length [AV.int .u8 (IntKind.wrap .u8 n)] ≤ 4611686018427387904) then bif decide (1 = 1 ∧ fitsB (List.length (ys ++ [AV.int .u8 (IntKind.wrap .u8 n)]) + List.length (ofBytes s)) 1 = true ∧ List.length (ys ++ [AV.int .u8 (IntKind.wrap .u8 n)]) + List.length (ofBytes s) ≤ 4611686018427387904) then KN { nt := 40, t := [(0, AV.sl 2 fl xs), (2, AV.str []), (3, AV.int .i64 0), (4, AV.tip 34 0 1 (ys ++ [AV.int .u8 (IntKind.wrap .u8 n)] ++ ofBytes s)), (6, AV.ptr 6 0 0), (7, AV.str s), (11, AV.bool d), (16, AV.sl 2 fl xs), (17, AV.int .i64 len), (18, AV.int .i64 (IntKind.wrap .i64 (i + 1))), (19, AV.bool (decide (i < len)))], b := [(6, [AV.int .i64 n, AV.int .u64 n_1])], r := [], g := [], rd := [], wr := [] } else none else none))) else none else zOp (Option.map AV.str (bytesOf ys)) fun x => zSt x fun s => some (AV.tup [AV.str s, AV.int .i64 0], []) := by kernel_rfl
theorem dbytes_body1 (F : Fns) (N : Nat) (fl d : Bool) (xs ys : List AV) (len i : Int) (KN : St → Res) : zBy F 24 0 N (dbytesS fl d xs (.tip 34 0 1 ys) len i) (brk (zCt F 24 0 N 0) KN) =
 bif decide (i < len) then bif decide (0 ≤ i) then zOp xs[Int.toNat i]? fun x => zAg x fun cs => zCo cs fun v r => zIn .i64 v fun n => zCo r fun v r => zIn .u64 v fun n_1 => zNi r (zRe (F 23 [AV.int .i64 (IntKind.wrap .i64 n_1), AV.int .i64 4] []) fun v bs => zTu v fun cs => zCo cs fun v r => zSt v fun s => zCo r fun v r => zIn .i64 v fun n_2 => zNi r (zNi bs (bif decide (1 = 1 ∧ fitsB (List.length ys + List.length [AV.int .u8 (IntKind.wrap .u8 n)]) 1 = true ∧ List.length ys + List.length [AV.int .u8 (IntKind.wrap .u8 n)] ≤ 4611686018427387904) then bif decide (1 = 1 ∧ fitsB (List.length (ys ++ [AV.int .u8 (IntKind.wrap .u8 n)]) + List.length (ofBytes s)) 1 = true ∧ List.length (ys ++ [AV.int .u8 (IntKind.wrap .u8 n)]) + List.length (ofBytes s) ≤ 4611686018427387904) then KN { nt := 40, t := [(0, AV.sl 2 fl xs), (2, AV.str []), (3, AV.int .i64 0), (4, AV.tip 34 0 1 (ys ++ [AV.int .u8 (IntKind.wrap .u8 n)] ++ ofBytes s)), (6, AV.ptr 6 0 0), (7, AV.str s), (11, AV.bool d), (16, AV.sl 2 fl xs), (17, AV.int .i64 len), (18, AV.int .i64 (IntKind.wrap .i64 (i + 1))), (19, AV.bool (decide (i < len)))], b := [(6, [AV.int .i64 n, AV.int .u64 n_1])], r := [], g := [], rd := [], wr := [] } else none else none))) else none else zOp (Option.map AV.str (bytesOf ys)) fun x => zSt x fun s => some (AV.tup [AV.str s, AV.int .i64 0], []) := by kernel_rfl
theorem btB_ofBytes {b : Int × Int} (h : 1 ≤ b.1 ∧ b.1 ≤ 255) (acc : List UInt8) : ofBytes acc ++ [AV.int .u8 (IntKind.wrap .u8 b.1)] ++ ofBytes (be 4 b.2.toNat) = ofBytes (acc ++ btB b) := by
 obtain ⟨v, m⟩ := b
 simp only at h ⊢
 obtain ⟨n, rfl⟩ : ∃ n : Nat, v = n := ⟨v.toNat, by omega⟩
 rw [u8_ofBytes, show [AV.int .u8 (((UInt8.ofNat n).toNat : Nat) : Int)] = ofBytes [UInt8.ofNat n] from rfl, ofBytes_append, ofBytes_append, btB]
 simp
theorem put4 (k : Nat) (hk : 10 ≤ k) (m : Int) (h0 : 0 ≤ m) (h1 : m < 4294967296) : evF pr k 23 [.int .i64 (IntKind.wrap .i64 m), .int .i64 4] [] = some (.tup [.str (be 4 m.toNat), .int .i64 0], []) := by
 obtain ⟨n, rfl⟩ : ∃ n : Nat, m = n := ⟨m.toNat, by omega⟩
 rw [wrap_small (by omega) (by omega), show (4 : Int) = ((4 : Nat) : Int) from rfl, e37 k hk _ (by omega) 4 (by omega) (by omega), putV_small n 4 (by omega) (by omega) (by omega), Int.toNat_natCast]
theorem dbytes_loop (k : Nat) (hk : 12 ≤ k) (fl d : Bool) (l : List (Int × Int)) (hu : UM l) (hp : ∀ b ∈ l, 1 ≤ b.1 ∧ b.1 ≤ 255 ∧ b.2 ≠ 0 ∧ b.2 < 4294967296) (hl : l.length ≤ 1000) : ∀ (dd i m : Nat) (acc : List UInt8) (st : St), i + dd = l.length → dd < m → acc.length = 1 + 5 * i → st.clean (zDe 24 0) = dbytesS fl d (l.map btV) (.tip 34 0 1 (ofBytes acc)) l.length i →
  loopA (zBy (evF pr k) 24 0 k) (zDe 24 0) (zCt (evF pr k) 24 0 k 0) m st = some (.tup [.str (acc ++ (l.drop i).flatMap btB), .int .i64 0], []) := by
 intro dd
 induction dd with
 | zero =>
  intro i m acc st hi hm ha hst
  obtain ⟨m, rfl⟩ : ∃ m', m = m' + 1 := ⟨m - 1, by omega⟩
  have h1 : l.drop i = [] := List.drop_eq_nil_of_le (by omega)
  rw [loopA_succ, hst, dbytes_body1, decide_eq_false (by omega), h1, bytesOf_ofBytes]
  simp [zOp, zSt]
 | succ dd ih =>
  intro i m acc st hi hm ha hst
  obtain ⟨m, rfl⟩ : ∃ m', m = m' + 1 := ⟨m - 1, by omega⟩
  have hlt : i < l.length := by omega
  have hpi := hp _ (List.getElem_mem hlt)
  have hui := hu _ (List.getElem_mem hlt)
  rw [loopA_succ, hst, dbytes_body1, decide_eq_true (show (i : Int) < l.length by omega), decide_eq_true (show (0 : Int) ≤ i by omega), getBt l i hlt, List.drop_eq_getElem_cons hlt, List.flatMap_cons]
  simp only [cond_true, zOp, zAg, zCo, zIn, if_true, zNi]
  generalize l[i] = b at *
  rw [put4 k (by omega) b.2 hui.1 hpi.2.2.2]
  simp only [zRe, zTu, zCo, zSt, zIn, if_true, zNi]
  rw [btB_ofBytes ⟨hpi.1, hpi.2.1⟩]
  rw [decide_eq_true (by
   refine ⟨trivial, fitsB_small ?_, ?_⟩ <;> simp only [ofBytes, List.length_map, List.length_cons, List.length_nil] <;> omega)]
  rw [decide_eq_true (by
   refine ⟨trivial, fitsB_small ?_, ?_⟩ <;> simp only [ofBytes, List.length_map, List.length_append, List.length_cons, List.length_nil, be_length] <;> omega)]
  simp only [cond_true]
  rw [wrap_small (n := (i : Int) + 1) (by omega) (by omega)]
  refine (ih (i + 1) m (acc ++ btB b) _ (by omega) (by omega) (by rw [List.length_append, btB_length]; omega) (by kernel_rfl)).trans ?_
  rw [List.append_assoc]
theorem e53 (k : Nat) (fl : Bool) (l : List (Int × Int)) (hu : UM l) (hk : l.length + 14 ≤ k) (hl : l.length ≤ 1000) : evF pr k 24 [.sl 2 fl (l.map btV)] [] = some (if bOk l then .tup [.str (putB l), .int .i64 0] else .tup [.str [], .int .i64 1], []) := by
 obtain ⟨k, rfl⟩ : ∃ m, k = m + 1 := ⟨k - 1, by omega⟩
 rw [ev_step _ _ _ _ (by kernel_rfl), dbytes_tree, e62 k fl l (by omega) (by omega)]
 simp only [zRe, zBo, zNi]
 cases hok : bOk l with
 | false => rfl
 | true =>
  have hp := bitsOk_parts l 0 (by omega) hok
  rw [List.length_map, u8_ofBytes, show [AV.int .u8 (((UInt8.ofNat l.length).toNat : Nat) : Int)] = ofBytes [UInt8.ofNat l.length] from rfl]
  simp only [Bool.not_true, cond_false]
  obtain ⟨k', hk'⟩ : ∃ m, k = m + 1 := ⟨k - 1, by omega⟩
  conv => lhs; arg 4; rw [hk']
  rw [loopA_succ]
  refine (dbytes_body0 _ _ fl false (l.map btV) (ofBytes [UInt8.ofNat l.length]) l.length 0 _).trans ?_
  cases l with
  | nil =>
   rw [bytesOf_ofBytes]
   rfl
  | cons b r =>
   have hpi := hp b (List.mem_cons_self ..)
   have hui := hu b (List.mem_cons_self ..)
   rw [decide_eq_true (show (0 : Int) < (((b :: r).length : Nat) : Int) by simp only [List.length_cons]; omega)]
   simp only [cond_true, Int.toNat_zero, List.map_cons, List.getElem?_cons_zero, zOp, btV, zAg, zCo, zIn, if_true, zNi, show decide ((0 : Int) ≤ 0) = true from rfl]
   rw [put4 k (by omega) b.2 hui.1 hpi.2.2.2]
   simp only [zRe, zTu, zCo, zSt, zIn, if_true, zNi]
   rw [btB_ofBytes ⟨hpi.1, hpi.2.1⟩]
   rw [decide_eq_true (by
    refine ⟨.inl trivial, fitsB_small ?_, ?_⟩ <;> simp only [ofBytes, List.length_map, List.length_cons, List.length_nil] <;> omega)]
   rw [decide_eq_true (by
    refine ⟨trivial, fitsB_small ?_, ?_⟩ <;> simp only [ofBytes, List.length_map, List.length_append, List.length_cons, List.length_nil, be_length] <;> omega)]
   simp only [cond_true]
   simp only [List.length_cons] at hk
   exact dbytes_loop k (by omega) fl false (b :: r) hu hp hl r.length 1 k' ([UInt8.ofNat (b :: r).length] ++ btB b) _ (by simp only [List.length_cons]; omega) (by omega) (by rw [List.length_append, btB_length]; rfl) (by kernel_rfl)
def rbbytesS (fl : Bool) (xs : List AV) (s : List UInt8) (i : Int) : St := ⟨48, [(0, AV.sl 2 fl xs), (2, AV.str []), (3, AV.str s), (4, AV.int .i64 i)], [], [], [], [], []⟩
theorem rbbytes_tree (F : Fns) (N : Nat) (fl : Bool) (xs : List AV) : runOf F 51 N [.sl 2 fl xs] [] =
 loopA (zBy F 51 0 N) (zDe 51 0) (zCt F 51 0 N 0) N { nt := 48, t := [(0, AV.sl 2 fl xs), (2, AV.str []), (3, AV.str [UInt8.ofNat (Int.toNat (IntKind.wrap .u8 (xs.length : Int)))]), (4, AV.int .i64 0)], b := [], r := [], g := [], rd := [], wr := [] } := by kernel_rfl
theorem rbbytes_body (F : Fns) (N : Nat) (fl : Bool) (xs : List AV) (s : List UInt8) (i : Int) (KN : St → Res) : zBy F 51 0 N (rbbytesS fl xs s i) (brk (zCt F 51 0 N 0) KN) =
 bif decide (i < (xs.length : Int)) then bif decide (0 ≤ i) then zOp xs[Int.toNat i]? fun x => zAg x fun cs => zCo cs fun v r => zIn .i64 v fun n => zCo r fun v r => zIn .u64 v fun n => zNi r (bif decide (0 ≤ i) then zOp xs[Int.toNat i]? fun x => zAg x fun cs => zCo cs fun v r => zIn .i64 v fun n_1 => zCo r fun v r => zIn .u64 v fun n_2 => zNi r (bif decide (List.length s + List.length [UInt8.ofNat (Int.toNat (IntKind.wrap .u8 n_1)), UInt8.ofNat (Int.toNat (IntKind.wrap .u8 (IntKind.wrap .i64 (Int.tdiv (IntKind.wrap .i64 n) 16777216)))), UInt8.ofNat (Int.toNat (IntKind.wrap .u8 (Int.tmod (IntKind.wrap .i64 (Int.tdiv (IntKind.wrap .i64 n) 65536)) 256))), UInt8.ofNat (Int.toNat (IntKind.wrap .u8 (Int.tmod (IntKind.wrap .i64 (Int.tdiv (IntKind.wrap .i64 n) 256)) 256))), UInt8.ofNat (Int.toNat (IntKind.wrap .u8 (Int.tmod (IntKind.wrap .i64 n) 256)))] ≤ 4611686018427387904) then KN { nt := 48, t := [(0, AV.sl 2 fl xs), (2, AV.str []), (3, AV.str (s ++ [UInt8.ofNat (Int.toNat (IntKind.wrap .u8 n_1)), UInt8.ofNat (Int.toNat (IntKind.wrap .u8 (IntKind.wrap .i64 (Int.tdiv (IntKind.wrap .i64 n) 16777216)))), UInt8.ofNat (Int.toNat (IntKind.wrap .u8 (Int.tmod (IntKind.wrap .i64 (Int.tdiv (IntKind.wrap .i64 n) 65536)) 256))), UInt8.ofNat (Int.toNat (IntKind.wrap .u8 (Int.tmod (IntKind.wrap .i64 (Int.tdiv (IntKind.wrap .i64 n) 256)) 256))), UInt8.ofNat (Int.toNat (IntKind.wrap .u8 (Int.tmod (IntKind.wrap .i64 n) 256)))])), (4, AV.int .i64 (IntKind.wrap .i64 (i + 1))), (5, AV.int .i64 (IntKind.wrap .i64 n)), (14, AV.bool (decide (i < (xs.length : Int))))], b := [], r := [], g := [], rd := [], wr := [] } else none) else none) else none else some (AV.str s, []) := by kernel_rfl
theorem be4_list (n : Nat) (h : n < 4294967296) : be 4 n = [UInt8.ofNat (n / 16777216), UInt8.ofNat (n / 65536 % 256), UInt8.ofNat (n / 256 % 256), UInt8.ofNat (n % 256)] := by
 simp only [be, List.nil_append, List.cons_append]
 have h1 : n / 256 / 256 / 256 % 256 = n / 16777216 := by omega
 have h2 : n / 256 / 256 % 256 = n / 65536 % 256 := by omega
 rw [h1, h2]
theorem rbbytes_loop (F : Fns) (N : Nat) (fl : Bool) (l : List (Int × Int)) (hu : UM l) (hp : ∀ b ∈ l, 1 ≤ b.1 ∧ b.1 ≤ 255 ∧ b.2 ≠ 0 ∧ b.2 < 4294967296) (hl : l.length ≤ 1000) : ∀ (dd i m : Nat) (acc : List UInt8) (st : St), i + dd = l.length → dd < m → acc.length = 1 + 5 * i → st.clean (zDe 51 0) = rbbytesS fl (l.map btV) acc i →
  loopA (zBy F 51 0 N) (zDe 51 0) (zCt F 51 0 N 0) m st = some (.str (acc ++ (l.drop i).flatMap btB), []) := by
 intro dd
 induction dd with
 | zero =>
  intro i m acc st hi hm ha hst
  obtain ⟨m, rfl⟩ : ∃ m', m = m' + 1 := ⟨m - 1, by omega⟩
  have h1 : l.drop i = [] := List.drop_eq_nil_of_le (by omega)
  rw [loopA_succ, hst, rbbytes_body, List.length_map, decide_eq_false (by omega), h1]
  simp
 | succ dd ih =>
  intro i m acc st hi hm ha hst
  obtain ⟨m, rfl⟩ : ∃ m', m = m' + 1 := ⟨m - 1, by omega⟩
  have hlt : i < l.length := by omega
  have hpi := hp _ (List.getElem_mem hlt)
  have hui := hu _ (List.getElem_mem hlt)
  rw [loopA_succ, hst, rbbytes_body, List.length_map, decide_eq_true (show (i : Int) < l.length by omega), decide_eq_true (show (0 : Int) ≤ i by omega), getBt l i hlt, List.drop_eq_getElem_cons hlt, List.flatMap_cons]
  simp only [cond_true, zOp, zAg, zCo, zIn, if_true, zNi]
  generalize l[i] = b at *
  obtain ⟨v, y⟩ := b
  simp only at hpi hui ⊢
  obtain ⟨v, rfl⟩ : ∃ n : Nat, v = n := ⟨v.toNat, by omega⟩
  obtain ⟨y, rfl⟩ : ∃ n : Nat, y = n := ⟨y.toNat, by omega⟩
  have hy : y < 4294967296 := by omega
  rw [wrap_small (n := (y : Int)) (by omega) (by omega)]
  have e1 : Int.tdiv (y : Int) 16777216 = ((y / 16777216 : Nat) : Int) := rfl
  have e2 : Int.tdiv (y : Int) 65536 = ((y / 65536 : Nat) : Int) := rfl
  have e3 : Int.tdiv (y : Int) 256 = ((y / 256 : Nat) : Int) := rfl
  rw [e1, e2, e3, wrap_small (n := ((y / 16777216 : Nat) : Int)) (by omega) (by omega), wrap_small (n := ((y / 65536 : Nat) : Int)) (by omega) (by omega), wrap_small (n := ((y / 256 : Nat) : Int)) (by omega) (by omega)]
  have e4 : Int.tmod ((y / 65536 : Nat) : Int) 256 = ((y / 65536 % 256 : Nat) : Int) := rfl
  have e5 : Int.tmod ((y / 256 : Nat) : Int) 256 = ((y / 256 % 256 : Nat) : Int) := rfl
  have e6 : Int.tmod (y : Int) 256 = ((y % 256 : Nat) : Int) := rfl
  rw [e4, e5, e6, byte_wrap, byte_wrap, byte_wrap, byte_wrap, byte_wrap]
  have hb : [UInt8.ofNat v, UInt8.ofNat (y / 16777216), UInt8.ofNat (y / 65536 % 256), UInt8.ofNat (y / 256 % 256), UInt8.ofNat (y % 256)] = btB ((v : Int), (y : Int)) := by
   rw [btB, Int.toNat_natCast, Int.toNat_natCast, be4_list y hy]
  rw [hb, decide_eq_true (by rw [btB_length]; omega), wrap_small (n := (i : Int) + 1) (by omega) (by omega)]
  simp only [cond_true]
  refine (ih (i + 1) m (acc ++ btB ((v : Int), (y : Int))) _ (by omega) (by omega) (by rw [List.length_append, btB_length]; omega) (by kernel_rfl)).trans ?_
  rw [List.append_assoc]
theorem e63 (k : Nat) (fl : Bool) (l : List (Int × Int)) (hu : UM l) (hk : l.length + 3 ≤ k) (hok : bOk l = true) : evF pr k 51 [.sl 2 fl (l.map btV)] [] = some (.str (putB l), []) := by
 obtain ⟨k, rfl⟩ : ∃ m, k = m + 1 := ⟨k - 1, by omega⟩
 have hl := bOk_length hok
 have hp := bitsOk_parts l 0 (by omega) hok
 rw [ev_step _ _ _ _ (by kernel_rfl), rbbytes_tree, List.length_map, byte_wrap]
 exact rbbytes_loop (evF pr k) k fl l hu hp (by omega) l.length 0 k [UInt8.ofNat l.length] _ (Nat.zero_add _) (by omega) rfl (by kernel_rfl)
def bt1 (t : List UInt8) : Int × Int := (((t.getD 0 0).toNat : Int), ((unbe ((t.drop 1).take 4) 0 : Nat) : Int))
def bts : Nat → List UInt8 → List (Int × Int)
 | 0, _ => []
 | n + 1, t => bt1 t :: bts n (t.drop 5)
def parseB (s : List UInt8) : Option (List (Int × Int) × List UInt8) := match num 1 s with
 | none => none
 | some (n, t) => if t.length < 5 * n then none else if bOk (bts n t) then some (bts n t, t.drop (5 * n)) else none
def slT (l : List (Int × Int)) : AV := if l = [] then .sl 0 true [] else .sl 2 false (l.map btV)
def ParseBR (x : Option (List (Int × Int) × List UInt8)) (r : Res) : Prop := match x with
 | none => ∃ e : Int, e ≠ 0 ∧ r = some (.tup [.sl 0 true [], .str [], .int .i64 e], [])
 | some (l, t) => r = some (.tup [slT l, .str t, .int .i64 0], [])
theorem bt1_bound (t : List UInt8) : 0 ≤ (bt1 t).2 ∧ (bt1 t).2 < 4294967296 := by
 have h := unbe_lt ((t.drop 1).take 4) 0
 have h4 : 256 ^ ((t.drop 1).take 4).length ≤ 256 ^ 4 := Nat.pow_le_pow_right (by omega) (by rw [List.length_take]; omega)
 unfold bt1
 simp only
 omega
theorem bts_um : ∀ (n : Nat) (t : List UInt8), UM (bts n t)
 | 0, t => by simp [UM, bts]
 | n + 1, t => by
  intro b hb
  rw [bts] at hb
  rcases List.mem_cons.1 hb with rfl | hb
  ·have := bt1_bound t
   omega
  ·exact bts_um n _ b hb
theorem bts_length : ∀ (n : Nat) (t : List UInt8), (bts n t).length = n
 | 0, t => rfl
 | n + 1, t => by rw [bts, List.length_cons, bts_length n]
def dparseS (s0 s : List UInt8) (v : AV) (n e m i : Int) (d : Bool) : St := ⟨52, [(0, AV.str s0), (2, AV.sl 0 true []), (3, AV.str []), (4, AV.int .i64 0), (5, AV.int .i64 n), (6, AV.str s), (7, AV.int .i64 e), (8, v), (25, AV.bool d), (26, AV.int .i64 m), (27, AV.int .i64 i)], [], [], [], [], []⟩
theorem dparse_tree (F : Fns) (N : Nat) (s : List UInt8) : runOf F 43 N [.str s] [] =
 zRe (F 88 [AV.str s, AV.int .i64 1] []) fun v bs => zTu v fun cs => zCo cs fun v r => zIn .i64 v fun n => zCo r fun v r => zSt v fun s_1 => zCo r fun v r => zIn .i64 v fun n_1 => zNi r (zNi bs (bif n_1 != 0 then some (AV.tup [AV.sl 0 true [], AV.str [], AV.int .i64 2], []) else bif decide ((s_1.length : Int) < IntKind.wrap .i64 (5 * n)) then some (AV.tup [AV.sl 0 true [], AV.str [], AV.int .i64 2], []) else loopA (zBy F 43 0 N) (zDe 43 0) (zCt F 43 0 N 0) N { nt := 52, t := [(0, AV.str s), (2, AV.sl 0 true []), (3, AV.str []), (4, AV.int .i64 0), (5, AV.int .i64 n), (6, AV.str s_1), (7, AV.int .i64 n_1), (8, AV.sl 0 true []), (25, AV.bool (decide ((s_1.length : Int) < IntKind.wrap .i64 (5 * n)))), (26, AV.int .i64 n), (27, AV.int .i64 0)], b := [], r := [], g := [], rd := [], wr := [] })) := by kernel_rfl
theorem dparse_body0 (F : Fns) (N : Nat) (s0 s : List UInt8) (n e m i : Int) (d : Bool) (KN : St → Res) : zBy F 43 0 N (dparseS s0 s (.sl 0 true []) n e m i d) (brk (zCt F 43 0 N 0) KN) =
 bif decide (i < m) then bif decide ((0 : Int) ≤ 1 ∧ (1 : Int) ≤ 5 ∧ 5 ≤ (s.length : Int)) then zRe (F 92 [AV.str (List.drop (Int.toNat 1) (List.take (Int.toNat 5) s))] []) fun v bs => zTu v fun cs => zCo cs fun v r => zIn .i64 v fun n_1 => zCo r fun v r => zIn .i64 v fun n_2 => zNi r (zNi bs (zOp (Option.map (fun b => AV.int .u8 ((UInt8.toNat b : Nat) : Int)) s[Int.toNat 0]?) fun x => zIn .u8 x fun n_3 => bif decide ((0 : Int) ≤ 5 ∧ 5 ≤ (s.length : Int) ∧ (s.length : Int) ≤ (s.length : Int)) then KN { nt := 52, t := [(0, AV.str s0), (2, AV.sl 0 true []), (3, AV.str []), (4, AV.int .i64 0), (5, AV.int .i64 n), (6, AV.str (List.drop (Int.toNat 5) (List.take (Int.toNat (s.length : Int)) s))), (7, AV.int .i64 e), (8, AV.tip 43 0 2 [AV.agg [AV.int .i64 (IntKind.wrap .i64 n_3), AV.int .u64 (IntKind.wrap .u64 n_1)]]), (9, AV.int .i64 n_1), (25, AV.bool d), (26, AV.int .i64 m), (27, AV.int .i64 (IntKind.wrap .i64 (i + 1))), (28, AV.bool (decide (i < m)))], b := [], r := [], g := [], rd := [], wr := [] } else none)) else none else zRe (F 72 [AV.sl 0 true []] []) fun v bs => zBo v fun b => zNi bs (bif !b then some (AV.tup [AV.sl 0 true [], AV.str [], AV.int .i64 3], []) else some (AV.tup [AV.sl 0 true [], AV.str s, AV.int .i64 0], [])) := by kernel_rfl
theorem dparse_body1 (F : Fns) (N : Nat) (s0 s : List UInt8) (ys : List AV) (n e m i : Int) (d : Bool) (KN : St → Res) : zBy F 43 0 N (dparseS s0 s (.tip 43 0 2 ys) n e m i d) (brk (zCt F 43 0 N 0) KN) =
 bif decide (i < m) then bif decide ((0 : Int) ≤ 1 ∧ (1 : Int) ≤ 5 ∧ 5 ≤ (s.length : Int)) then zRe (F 92 [AV.str (List.drop (Int.toNat 1) (List.take (Int.toNat 5) s))] []) fun v bs => zTu v fun cs => zCo cs fun v r => zIn .i64 v fun n_1 => zCo r fun v r => zIn .i64 v fun n_2 => zNi r (zNi bs (zOp (Option.map (fun b => AV.int .u8 ((UInt8.toNat b : Nat) : Int)) s[Int.toNat 0]?) fun x => zIn .u8 x fun n_3 => bif decide (2 = 2 ∧ fitsB (List.length ys + List.length [AV.agg [AV.int .i64 (IntKind.wrap .i64 n_3), AV.int .u64 (IntKind.wrap .u64 n_1)]]) 16 = true ∧ List.length ys + List.length [AV.agg [AV.int .i64 (IntKind.wrap .i64 n_3), AV.int .u64 (IntKind.wrap .u64 n_1)]] ≤ 4611686018427387904) then bif decide ((0 : Int) ≤ 5 ∧ 5 ≤ (s.length : Int) ∧ (s.length : Int) ≤ (s.length : Int)) then KN { nt := 52, t := [(0, AV.str s0), (2, AV.sl 0 true []), (3, AV.str []), (4, AV.int .i64 0), (5, AV.int .i64 n), (6, AV.str (List.drop (Int.toNat 5) (List.take (Int.toNat (s.length : Int)) s))), (7, AV.int .i64 e), (8, AV.tip 43 0 2 (ys ++ [AV.agg [AV.int .i64 (IntKind.wrap .i64 n_3), AV.int .u64 (IntKind.wrap .u64 n_1)]])), (9, AV.int .i64 n_1), (25, AV.bool d), (26, AV.int .i64 m), (27, AV.int .i64 (IntKind.wrap .i64 (i + 1))), (28, AV.bool (decide (i < m)))], b := [], r := [], g := [], rd := [], wr := [] } else none else none)) else none else zRe (F 72 [AV.sl 2 false ys] []) fun v bs => zBo v fun b => zNi bs (bif !b then some (AV.tup [AV.sl 0 true [], AV.str [], AV.int .i64 3], []) else some (AV.tup [AV.sl 2 false ys, AV.str s, AV.int .i64 0], [])) := by kernel_rfl
theorem get4 (k : Nat) (hk : 10 ≤ k) (s : List UInt8) (h : 5 ≤ s.length) : evF pr k 92 [.str (List.drop (Int.toNat 1) (List.take (Int.toNat 5) s))] [] = some (.tup [.int .i64 (bt1 s).2, .int .i64 0], []) := by
 have e : List.drop (Int.toNat 1) (List.take (Int.toNat 5) s) = (s.drop 1).take 4 := by
  rw [List.drop_take]
  rfl
 have hl : ((s.drop 1).take 4).length = 4 := by rw [List.length_take, List.length_drop]; omega
 have hb := bt1_bound s
 unfold bt1 at hb
 rw [e, e89 k hk, AM.getV, if_neg (by omega), if_neg (by simp only at hb; omega)]
 rfl
theorem head_map (s : List UInt8) (h : 1 ≤ s.length) : Option.map (fun b => AV.int .u8 ((UInt8.toNat b : Nat) : Int)) s[Int.toNat 0]? = some (AV.int .u8 (bt1 s).1) := by
 have := getD_map s 0 (by omega)
 exact this
theorem bt1_wraps (s : List UInt8) : IntKind.wrap .i64 (bt1 s).1 = (bt1 s).1 ∧ IntKind.wrap .u64 (bt1 s).2 = (bt1 s).2 := by
 refine ⟨?_, ?_⟩
 ·unfold bt1
  exact byte_i64 _
 ·have := bt1_bound s
  obtain ⟨n, hn⟩ : ∃ n : Nat, (bt1 s).2 = n := ⟨(bt1 s).2.toNat, by omega⟩
  rw [hn] at this ⊢
  exact wrap_u64 (by omega)
theorem dparse_loop (k : Nat) (hk : 10 ≤ k) (n : Nat) (hn : n ≤ 1000) (hkn : n + 4 ≤ k) (s0 : List UInt8) (n0 e0 : Int) (d : Bool) : ∀ (dd i m : Nat) (acc : List (Int × Int)) (s : List UInt8) (st : St), i + dd = n → dd < m → acc ≠ [] → acc.length = i → 5 * dd ≤ s.length → st.clean (zDe 43 0) = dparseS s0 s (.tip 43 0 2 (acc.map btV)) n0 e0 n i d →
  loopA (zBy (evF pr k) 43 0 k) (zDe 43 0) (zCt (evF pr k) 43 0 k 0) m st = some (if bOk (acc ++ bts dd s) then .tup [.sl 2 false ((acc ++ bts dd s).map btV), .str (s.drop (5 * dd)), .int .i64 0] else .tup [.sl 0 true [], .str [], .int .i64 3], []) := by
 intro dd
 induction dd with
 | zero =>
  intro i m acc s st hi hm ha hl hs hst
  obtain ⟨m, rfl⟩ : ∃ m', m = m' + 1 := ⟨m - 1, by omega⟩
  rw [loopA_succ, hst, dparse_body1, decide_eq_false (by omega), e62 k false acc (by omega) (by omega)]
  simp only [cond_false, zRe, zBo, zNi, bts, List.append_nil]
  cases bOk acc with
  | false => rfl
  | true => rfl
 | succ dd ih =>
  intro i m acc s st hi hm ha hl hs hst
  obtain ⟨m, rfl⟩ : ∃ m', m = m' + 1 := ⟨m - 1, by omega⟩
  rw [loopA_succ, hst, dparse_body1, decide_eq_true (show (i : Int) < n by omega), decide_eq_true (show (0 : Int) ≤ 1 ∧ (1 : Int) ≤ 5 ∧ (5 : Int) ≤ s.length by omega), get4 k hk s (by omega), head_map s (by omega), decide_eq_true (show (0 : Int) ≤ 5 ∧ (5 : Int) ≤ s.length ∧ (s.length : Int) ≤ s.length by omega)]
  simp only [cond_true, zRe, zTu, zCo, zIn, if_true, zNi, zOp]
  rw [decide_eq_true (by
   refine ⟨trivial, fitsB_small ?_, ?_⟩ <;> simp only [List.length_map, List.length_cons, List.length_nil] <;> omega)]
  simp only [cond_true]
  rw [(bt1_wraps s).1, (bt1_wraps s).2, wrap_small (n := (i : Int) + 1) (by omega) (by omega), Int.toNat_natCast, List.take_length, show Int.toNat 5 = 5 from rfl]
  refine (ih (i + 1) m (acc ++ [bt1 s]) (s.drop 5) _ (by omega) (by omega) (by simp) (by simp [hl]) (by rw [List.length_drop]; omega) (by rw [List.map_append]; kernel_rfl)).trans ?_
  rw [bts, List.append_assoc, List.singleton_append, List.drop_drop, show 5 + 5 * dd = 5 * (dd + 1) by omega]
theorem e50 (k : Nat) (hk : 400 ≤ k) (s : List UInt8) : ParseBR (parseB s) (evF pr k 43 [.str s] []) := by
 obtain ⟨k, rfl⟩ : ∃ m, k = m + 1 := ⟨k - 1, by omega⟩
 rw [ev_step _ _ _ _ (by kernel_rfl), dparse_tree, show (1 : Int) = ((1 : Nat) : Int) from rfl, e88 k (by omega) s 1 (by omega) (by omega)]
 simp only [zRe, zTu, zCo, zIn, zSt, if_true, zNi]
 unfold parseB
 cases h1 : num 1 s with
 | none =>
  rw [show (numE 1 s != 0) = true by simp [num_no h1]]
  exact ⟨2, by omega, rfl⟩
 | some q =>
  obtain ⟨n, t⟩ := q
  obtain ⟨r1, r2, r3⟩ := num_at h1
  have r4 : numR 1 s = t := by rw [numR, if_pos r1, r3]
  have hn := (num_lt h1).1
  rw [r1, r2, r4]
  simp only [show ((0 : Int) != 0) = false from rfl, cond_false]
  rw [wrap_small (n := 5 * (n : Int)) (by omega) (by omega)]
  by_cases hl : t.length < 5 * n
  ·rw [decide_eq_true (show ((t.length : Nat) : Int) < 5 * (n : Int) by omega), if_pos hl]
   exact ⟨2, by omega, rfl⟩
  ·rw [decide_eq_false (show ¬ ((t.length : Nat) : Int) < 5 * (n : Int) by omega), if_neg hl]
   simp only [cond_false]
   obtain ⟨k', hk'⟩ : ∃ m, k = m + 1 := ⟨k - 1, by omega⟩
   conv => arg 2; arg 4; rw [hk']
   rw [loopA_succ]
   have hb : zBy (evF pr k) 43 0 k (dparseS s t (.sl 0 true []) n 0 n 0 false) (brk (zCt (evF pr k) 43 0 k 0) fun st' => loopA (zBy (evF pr k) 43 0 k) (zDe 43 0) (zCt (evF pr k) 43 0 k 0) k' st') = some (if bOk (bts n t) then .tup [slT (bts n t), .str (t.drop (5 * n)), .int .i64 0] else .tup [.sl 0 true [], .str [], .int .i64 3], []) := by
    rw [dparse_body0]
    cases n with
    | zero =>
     obtain ⟨k2, hk2⟩ : ∃ m, k = m + 6 := ⟨k - 6, by omega⟩
     have h62 : evF pr k 72 [.sl 0 true []] [] = some (.bool true, []) := by rw [hk2]; exact e62nil k2 0 true
     rw [h62]
     rfl
    | succ n =>
     rw [decide_eq_true (show (0 : Int) < ((n + 1 : Nat) : Int) by omega), decide_eq_true (show (0 : Int) ≤ 1 ∧ (1 : Int) ≤ 5 ∧ (5 : Int) ≤ t.length by omega), get4 k (by omega) t (by omega), head_map t (by omega), decide_eq_true (show (0 : Int) ≤ 5 ∧ (5 : Int) ≤ t.length ∧ (t.length : Int) ≤ t.length by omega)]
     simp only [cond_true, zRe, zTu, zCo, zIn, if_true, zNi, zOp]
     rw [(bt1_wraps t).1, (bt1_wraps t).2, Int.toNat_natCast, List.take_length, show Int.toNat 5 = 5 from rfl]
     refine (dparse_loop k (by omega) (n + 1) (by omega) (by omega) s ((n + 1 : Nat) : Int) 0 false n 1 k' [bt1 t] (t.drop 5) _ (by omega) (by omega) (by simp) rfl (by rw [List.length_drop]; omega) (by kernel_rfl)).trans ?_
     rw [bts, List.drop_drop, show 5 + 5 * n = 5 * (n + 1) by omega, show slT (bt1 t :: bts n (t.drop 5)) = .sl 2 false ((bt1 t :: bts n (t.drop 5)).map btV) from if_neg (by simp)]
     rfl
   have hfin : ParseBR (if bOk (bts n t) = true then some (bts n t, List.drop (5 * n) t) else none) (some (if bOk (bts n t) then .tup [slT (bts n t), .str (t.drop (5 * n)), .int .i64 0] else .tup [.sl 0 true [], .str [], .int .i64 3], [])) := by
    cases bOk (bts n t) with
    | false => exact ⟨3, by omega, rfl⟩
    | true => rfl
   rw [← hb] at hfin
   exact hfin
open Go.AM Go.Proofs Go
def teqS (fl fl' c : Bool) (xs ys : List AV) (i : Int) : St := ⟨26, [(0, AV.sl 2 fl xs), (1, AV.sl 2 fl' ys), (4, AV.bool false), (5, AV.int .i64 i), (10, AV.bool c)], [], [], [], [], []⟩
def teqS0 (a b : Nat) (fl fl' c : Bool) : St := ⟨26, [(0, AV.sl a fl []), (1, AV.sl b fl' []), (4, AV.bool false), (5, AV.int .i64 0), (10, AV.bool c)], [], [], [], [], []⟩
theorem teq_tree (F : Fns) (N : Nat) (a b : Nat) (fl fl' : Bool) (xs ys : List AV) : runOf F 58 N [.sl a fl xs, .sl b fl' ys] [] =
 bif (xs.length : Int) != (ys.length : Int) then some (AV.bool false, []) else loopA (zBy F 58 0 N) (zDe 58 0) (zCt F 58 0 N 0) N { nt := 26, t := [(0, AV.sl a fl xs), (1, AV.sl b fl' ys), (4, AV.bool false), (5, AV.int .i64 0), (10, AV.bool ((xs.length : Int) != (ys.length : Int)))], b := [], r := [], g := [], rd := [], wr := [] } := by kernel_rfl
theorem teq_body (F : Fns) (N : Nat) (fl fl' c : Bool) (xs ys : List AV) (i : Int) (KN : St → Res) : zBy F 58 0 N (teqS fl fl' c xs ys i) (brk (zCt F 58 0 N 0) KN) =
 bif decide (i < (xs.length : Int)) then bif decide (0 ≤ i) then zOp xs[Int.toNat i]? fun x => zAg x fun cs => zCo cs fun v r => zIn .i64 v fun n => zCo r fun v r => zIn .u64 v fun n_1 => zNi r (bif decide (0 ≤ i) then zOp ys[Int.toNat i]? fun x => zAg x fun cs => zCo cs fun v r => zIn .i64 v fun n_2 => zCo r fun v r => zIn .u64 v fun n_3 => zNi r (bif !(n == n_2 && (n_1 == n_3 && true)) then some (AV.bool false, []) else KN { nt := 26, t := [(0, AV.sl 2 fl xs), (1, AV.sl 2 fl' ys), (4, AV.bool false), (5, AV.int .i64 (IntKind.wrap .i64 (i + 1))), (10, AV.bool c), (14, AV.bool (decide (i < (xs.length : Int)))), (25, AV.bool !(n == n_2 && (n_1 == n_3 && true)))], b := [], r := [], g := [], rd := [], wr := [] }) else none) else none else some (AV.bool true, []) := by kernel_rfl
theorem teq_body0 (F : Fns) (N : Nat) (a b : Nat) (fl fl' c : Bool) (KN : St → Res) : zBy F 58 0 N (teqS0 a b fl fl' c) (brk (zCt F 58 0 N 0) KN) =
 some (AV.bool true, []) := by kernel_rfl
theorem teq_loop (F : Fns) (N : Nat) (fl fl' c : Bool) (l l' : List (Int × Int)) (hl : l.length = l'.length) (hb : l.length < 4611686018427387904) : ∀ (dd i m : Nat) (st : St), i + dd = l.length → dd < m → st.clean (zDe 58 0) = teqS fl fl' c (l.map btV) (l'.map btV) i →
  loopA (zBy F 58 0 N) (zDe 58 0) (zCt F 58 0 N 0) m st = some (.bool (decide (l.drop i = l'.drop i)), []) := by
 intro dd
 induction dd with
 | zero =>
  intro i m st hi hm hst
  obtain ⟨m, rfl⟩ : ∃ m', m = m' + 1 := ⟨m - 1, by omega⟩
  have h1 : l.drop i = [] := List.drop_eq_nil_of_le (by omega)
  have h2 : l'.drop i = [] := List.drop_eq_nil_of_le (by omega)
  rw [loopA_succ, hst, teq_body, List.length_map, decide_eq_false (by omega), h1, h2]
  rfl
 | succ dd ih =>
  intro i m st hi hm hst
  obtain ⟨m, rfl⟩ : ∃ m', m = m' + 1 := ⟨m - 1, by omega⟩
  have hlt : i < l.length := by omega
  have hlt' : i < l'.length := by omega
  rw [loopA_succ, hst, teq_body, List.length_map, decide_eq_true (show (i : Int) < l.length by omega), decide_eq_true (show (0 : Int) ≤ i by omega), getBt l i hlt, getBt l' i hlt', List.drop_eq_getElem_cons hlt, List.drop_eq_getElem_cons hlt']
  simp only [cond_true, zOp, zAg, zCo, zIn, if_true, zNi]
  rw [wrap_small (n := (i : Int) + 1) (by omega) (by omega)]
  by_cases hc : l[i] = l'[i]
  ·rw [hc]
   simp only [beq_self_eq_true, Bool.true_and, Bool.not_true, cond_false]
   refine (ih (i + 1) m _ (by omega) (by omega) (by kernel_rfl)).trans ?_
   have : decide (l.drop (i + 1) = l'.drop (i + 1)) = decide (l'[i] :: l.drop (i + 1) = l'[i] :: l'.drop (i + 1)) := by
    rw [decide_eq_decide]
    simp only [List.cons.injEq, true_and]
   rw [this]
  ·have : ((l[i]).1 == (l'[i]).1 && ((l[i]).2 == (l'[i]).2 && true)) = false := by
    by_cases h1 : (l[i]).1 = (l'[i]).1
    ·have h2 : (l[i]).2 ≠ (l'[i]).2 := fun h2 => hc (Prod.ext h1 h2)
     simp [h1, h2]
    ·simp [h1]
   rw [this, decide_eq_false (fun h => hc (List.cons.inj h).1)]
   rfl
theorem teq_nil (F : Fns) (N m a b : Nat) (fl fl' c : Bool) (st : St) (h : st.clean (zDe 58 0) = teqS0 a b fl fl' c) : loopA (zBy F 58 0 N) (zDe 58 0) (zCt F 58 0 N 0) (m + 1) st = some (.bool true, []) := by rw [loopA_succ, h, teq_body0]
theorem e52 (k : Nat) (fl fl' : Bool) (l l' : List (Int × Int)) (hk : l.length + 3 ≤ k) (hb : l.length < 4611686018427387904) : evF pr k 58 [.sl 2 fl (l.map btV), .sl 2 fl' (l'.map btV)] [] = some (.bool (decide (l = l')), []) := by
 obtain ⟨k, rfl⟩ : ∃ m, k = m + 1 := ⟨k - 1, by omega⟩
 rw [ev_step _ _ _ _ (by kernel_rfl), teq_tree, List.length_map, List.length_map]
 by_cases h : l.length = l'.length
 ·rw [show (((l.length : Nat) : Int) != ((l'.length : Nat) : Int)) = false by simp [h]]
  exact teq_loop (evF pr k) k fl fl' false l l' h hb l.length 0 k _ (Nat.zero_add _) (by omega) (by kernel_rfl)
 ·rw [show (((l.length : Nat) : Int) != ((l'.length : Nat) : Int)) = true by simp only [bne_iff_ne, ne_eq]; omega, decide_eq_false (fun e => h (by rw [e]))]
  rfl
theorem teq_nils (k a b : Nat) (fl fl' : Bool) : evF pr (k + 2) 58 [.sl a fl [], .sl b fl' []] [] = some (.bool true, []) := by
 rw [ev_step _ _ _ _ (by kernel_rfl), teq_tree, show ((((([] : List AV).length : Nat) : Int)) != ((([] : List AV).length : Nat) : Int)) = false from rfl, cond_false]
 exact teq_nil _ _ _ a b fl fl' false _ (by kernel_rfl)
def IsT (v : AV) (l : List (Int × Int)) : Prop := (∃ fl, v = .sl 2 fl (l.map btV)) ∨ (l = [] ∧ ∃ a fl, v = .sl a fl [])
theorem IsT.slT (l : List (Int × Int)) : IsT (slT l) l := by
 unfold AM.YtnhfjkckgicidaaGreat.slT
 split
 ·rename_i h; exact .inr ⟨h, _, _, rfl⟩
 ·exact .inl ⟨_, rfl⟩
theorem e52' (k : Nat) {v v' : AV} {l l' : List (Int × Int)} (hv : IsT v l) (hv' : IsT v' l') (hk : l.length + 3 ≤ k) (hb : l.length < 4611686018427387904) : evF pr k 58 [v, v'] [] = some (.bool (decide (l = l')), []) := by
 rcases hv with ⟨fl, rfl⟩ | ⟨rfl, a, fl, rfl⟩
 ·rcases hv' with ⟨fl', rfl⟩ | ⟨rfl, a', fl', rfl⟩
  ·exact e52 k fl fl' l l' hk hb
  ·cases l with
   | nil =>
    obtain ⟨k, rfl⟩ : ∃ m, k = m + 2 := ⟨k - 2, by omega⟩
    exact teq_nils k 2 a' fl fl'
   | cons b r =>
    obtain ⟨k, rfl⟩ : ∃ m, k = m + 1 := ⟨k - 1, by omega⟩
    rw [ev_step _ _ _ _ (by kernel_rfl), teq_tree, List.length_map]
    rw [show ((((b :: r).length : Nat) : Int) != ((([] : List AV).length : Nat) : Int)) = true by simp only [bne_iff_ne, ne_eq, List.length_cons, List.length_nil]; omega]
    rfl
 ·rcases hv' with ⟨fl', rfl⟩ | ⟨rfl, a', fl', rfl⟩
  ·cases l' with
   | nil =>
    obtain ⟨k, rfl⟩ : ∃ m, k = m + 2 := ⟨k - 2, by simp at hk; omega⟩
    exact teq_nils k a 2 fl fl'
   | cons b r =>
    obtain ⟨k, rfl⟩ : ∃ m, k = m + 1 := ⟨k - 1, by omega⟩
    rw [ev_step _ _ _ _ (by kernel_rfl), teq_tree, List.length_map]
    rw [show (((([] : List AV).length : Nat) : Int) != (((b :: r).length : Nat) : Int)) = true by simp only [bne_iff_ne, ne_eq, List.length_cons, List.length_nil]; omega]
    rfl
  ·obtain ⟨k, rfl⟩ : ∃ m, k = m + 2 := ⟨k - 2, by simp at hk; omega⟩
   exact teq_nils k a a' fl fl'
def rbparseS (s : List UInt8) (v : AV) (i : Int) (d : Bool) : St := ⟨72, [(0, AV.str s), (2, AV.sl 0 true []), (3, AV.str []), (4, AV.int .i64 0), (5, v), (6, AV.int .i64 i), (20, AV.bool d)], [], [], [], [], []⟩
theorem rbparse_tree (F : Fns) (N : Nat) (s : List UInt8) : runOf F 62 N [.str s] [] =
 bif (s.length : Int) == 0 then some (AV.tup [AV.sl 0 true [], AV.str [], AV.int .i64 2], []) else zOp (Option.map (fun b => AV.int .u8 ((UInt8.toNat b : Nat) : Int)) s[Int.toNat 0]?) fun x => zIn .u8 x fun n => bif decide (IntKind.wrap .i64 ((s.length : Int) - 1) < IntKind.wrap .i64 (5 * IntKind.wrap .i64 n)) then some (AV.tup [AV.sl 0 true [], AV.str [], AV.int .i64 2], []) else loopA (zBy F 62 0 N) (zDe 62 0) (zCt F 62 0 N 0) N { nt := 72, t := [(0, AV.str s), (2, AV.sl 0 true []), (3, AV.str []), (4, AV.int .i64 0), (5, AV.sl 0 true []), (6, AV.int .i64 0), (20, AV.bool (decide (IntKind.wrap .i64 ((s.length : Int) - 1) < IntKind.wrap .i64 (5 * IntKind.wrap .i64 n))))], b := [], r := [], g := [], rd := [], wr := [] } := by kernel_rfl
theorem rbparse_body0 (F : Fns) (N : Nat) (s : List UInt8) (i : Int) (d : Bool) (KN : St → Res) : zBy F 62 0 N (rbparseS s (.sl 0 true []) i d) (brk (zCt F 62 0 N 0) KN) =
 zOp (Option.map (fun b => AV.int .u8 ((UInt8.toNat b : Nat) : Int)) s[Int.toNat 0]?) fun x => zIn .u8 x fun n => bif decide (i < IntKind.wrap .i64 n) then bif decide (0 ≤ IntKind.wrap .i64 (1 + IntKind.wrap .i64 (5 * i)) ∧ IntKind.wrap .i64 (1 + IntKind.wrap .i64 (5 * i)) ≤ IntKind.wrap .i64 (6 + IntKind.wrap .i64 (5 * i)) ∧ IntKind.wrap .i64 (6 + IntKind.wrap .i64 (5 * i)) ≤ (s.length : Int)) then zOp (Option.map (fun b => AV.int .u8 ((UInt8.toNat b : Nat) : Int)) (List.drop (Int.toNat (IntKind.wrap .i64 (1 + IntKind.wrap .i64 (5 * i)))) (List.take (Int.toNat (IntKind.wrap .i64 (6 + IntKind.wrap .i64 (5 * i)))) s))[Int.toNat 0]?) fun x => zIn .u8 x fun n_1 => zOp (Option.map (fun b => AV.int .u8 ((UInt8.toNat b : Nat) : Int)) (List.drop (Int.toNat (IntKind.wrap .i64 (1 + IntKind.wrap .i64 (5 * i)))) (List.take (Int.toNat (IntKind.wrap .i64 (6 + IntKind.wrap .i64 (5 * i)))) s))[Int.toNat 1]?) fun x => zIn .u8 x fun n_2 => zOp (Option.map (fun b => AV.int .u8 ((UInt8.toNat b : Nat) : Int)) (List.drop (Int.toNat (IntKind.wrap .i64 (1 + IntKind.wrap .i64 (5 * i)))) (List.take (Int.toNat (IntKind.wrap .i64 (6 + IntKind.wrap .i64 (5 * i)))) s))[Int.toNat 2]?) fun x => zIn .u8 x fun n_3 => zOp (Option.map (fun b => AV.int .u8 ((UInt8.toNat b : Nat) : Int)) (List.drop (Int.toNat (IntKind.wrap .i64 (1 + IntKind.wrap .i64 (5 * i)))) (List.take (Int.toNat (IntKind.wrap .i64 (6 + IntKind.wrap .i64 (5 * i)))) s))[Int.toNat 3]?) fun x => zIn .u8 x fun n_4 => zOp (Option.map (fun b => AV.int .u8 ((UInt8.toNat b : Nat) : Int)) (List.drop (Int.toNat (IntKind.wrap .i64 (1 + IntKind.wrap .i64 (5 * i)))) (List.take (Int.toNat (IntKind.wrap .i64 (6 + IntKind.wrap .i64 (5 * i)))) s))[Int.toNat 4]?) fun x => zIn .u8 x fun n_5 => KN { nt := 72, t := [(0, AV.str s), (2, AV.sl 0 true []), (3, AV.str []), (4, AV.int .i64 0), (5, AV.tip 60 0 2 [AV.agg [AV.int .i64 (IntKind.wrap .i64 n_1), AV.int .u64 (IntKind.wrap .u64 (IntKind.wrap .u64 (IntKind.wrap .u64 (IntKind.wrap .u64 (IntKind.wrap .u64 n_2 * 16777216) + IntKind.wrap .u64 (IntKind.wrap .u64 n_3 * 65536)) + IntKind.wrap .u64 (IntKind.wrap .u64 n_4 * 256)) + IntKind.wrap .u64 n_5))]]), (6, AV.int .i64 (IntKind.wrap .i64 (i + 1))), (7, AV.str (List.drop (Int.toNat (IntKind.wrap .i64 (1 + IntKind.wrap .i64 (5 * i)))) (List.take (Int.toNat (IntKind.wrap .i64 (6 + IntKind.wrap .i64 (5 * i)))) s))), (20, AV.bool d), (25, AV.bool (decide (i < IntKind.wrap .i64 n)))], b := [], r := [], g := [], rd := [], wr := [] } else none else zRe (F 81 [AV.sl 0 true []] []) fun v bs => zBo v fun b => zNi bs (bif !b then some (AV.tup [AV.sl 0 true [], AV.str [], AV.int .i64 3], []) else zOp (Option.map (fun b => AV.int .u8 ((UInt8.toNat b : Nat) : Int)) s[Int.toNat 0]?) fun x => zIn .u8 x fun n => bif decide (0 ≤ IntKind.wrap .i64 (1 + IntKind.wrap .i64 (5 * IntKind.wrap .i64 n)) ∧ IntKind.wrap .i64 (1 + IntKind.wrap .i64 (5 * IntKind.wrap .i64 n)) ≤ (s.length : Int) ∧ (s.length : Int) ≤ (s.length : Int)) then some (AV.tup [AV.sl 0 true [], AV.str (List.drop (Int.toNat (IntKind.wrap .i64 (1 + IntKind.wrap .i64 (5 * IntKind.wrap .i64 n)))) (List.take (Int.toNat (s.length : Int)) s)), AV.int .i64 0], []) else none) := by kernel_rfl
theorem rbparse_body1 (F : Fns) (N : Nat) (s : List UInt8) (ys : List AV) (i : Int) (d : Bool) (KN : St → Res) : zBy F 62 0 N (rbparseS s (.tip 60 0 2 ys) i d) (brk (zCt F 62 0 N 0) KN) =
 zOp (Option.map (fun b => AV.int .u8 ((UInt8.toNat b : Nat) : Int)) s[Int.toNat 0]?) fun x => zIn .u8 x fun n => bif decide (i < IntKind.wrap .i64 n) then bif decide (0 ≤ IntKind.wrap .i64 (1 + IntKind.wrap .i64 (5 * i)) ∧ IntKind.wrap .i64 (1 + IntKind.wrap .i64 (5 * i)) ≤ IntKind.wrap .i64 (6 + IntKind.wrap .i64 (5 * i)) ∧ IntKind.wrap .i64 (6 + IntKind.wrap .i64 (5 * i)) ≤ (s.length : Int)) then zOp (Option.map (fun b => AV.int .u8 ((UInt8.toNat b : Nat) : Int)) (List.drop (Int.toNat (IntKind.wrap .i64 (1 + IntKind.wrap .i64 (5 * i)))) (List.take (Int.toNat (IntKind.wrap .i64 (6 + IntKind.wrap .i64 (5 * i)))) s))[Int.toNat 0]?) fun x => zIn .u8 x fun n_1 => zOp (Option.map (fun b => AV.int .u8 ((UInt8.toNat b : Nat) : Int)) (List.drop (Int.toNat (IntKind.wrap .i64 (1 + IntKind.wrap .i64 (5 * i)))) (List.take (Int.toNat (IntKind.wrap .i64 (6 + IntKind.wrap .i64 (5 * i)))) s))[Int.toNat 1]?) fun x => zIn .u8 x fun n_2 => zOp (Option.map (fun b => AV.int .u8 ((UInt8.toNat b : Nat) : Int)) (List.drop (Int.toNat (IntKind.wrap .i64 (1 + IntKind.wrap .i64 (5 * i)))) (List.take (Int.toNat (IntKind.wrap .i64 (6 + IntKind.wrap .i64 (5 * i)))) s))[Int.toNat 2]?) fun x => zIn .u8 x fun n_3 => zOp (Option.map (fun b => AV.int .u8 ((UInt8.toNat b : Nat) : Int)) (List.drop (Int.toNat (IntKind.wrap .i64 (1 + IntKind.wrap .i64 (5 * i)))) (List.take (Int.toNat (IntKind.wrap .i64 (6 + IntKind.wrap .i64 (5 * i)))) s))[Int.toNat 3]?) fun x => zIn .u8 x fun n_4 => zOp (Option.map (fun b => AV.int .u8 ((UInt8.toNat b : Nat) : Int)) (List.drop (Int.toNat (IntKind.wrap .i64 (1 + IntKind.wrap .i64 (5 * i)))) (List.take (Int.toNat (IntKind.wrap .i64 (6 + IntKind.wrap .i64 (5 * i)))) s))[Int.toNat 4]?) fun x => zIn .u8 x fun n_5 => bif decide (2 = 2 ∧ fitsB (List.length ys + List.length [AV.agg [AV.int .i64 (IntKind.wrap .i64 n_1), AV.int .u64 (IntKind.wrap .u64 (IntKind.wrap .u64 (IntKind.wrap .u64 (IntKind.wrap .u64 (IntKind.wrap .u64 n_2 * 16777216) + IntKind.wrap .u64 (IntKind.wrap .u64 n_3 * 65536)) + IntKind.wrap .u64 (IntKind.wrap .u64 n_4 * 256)) + IntKind.wrap .u64 n_5))]]) 16 = true ∧ List.length ys + List.length [AV.agg [AV.int .i64 (IntKind.wrap .i64 n_1), AV.int .u64 (IntKind.wrap .u64 (IntKind.wrap .u64 (IntKind.wrap .u64 (IntKind.wrap .u64 (IntKind.wrap .u64 n_2 * 16777216) + IntKind.wrap .u64 (IntKind.wrap .u64 n_3 * 65536)) + IntKind.wrap .u64 (IntKind.wrap .u64 n_4 * 256)) + IntKind.wrap .u64 n_5))]] ≤ 4611686018427387904) then KN { nt := 72, t := [(0, AV.str s), (2, AV.sl 0 true []), (3, AV.str []), (4, AV.int .i64 0), (5, AV.tip 60 0 2 (ys ++ [AV.agg [AV.int .i64 (IntKind.wrap .i64 n_1), AV.int .u64 (IntKind.wrap .u64 (IntKind.wrap .u64 (IntKind.wrap .u64 (IntKind.wrap .u64 (IntKind.wrap .u64 n_2 * 16777216) + IntKind.wrap .u64 (IntKind.wrap .u64 n_3 * 65536)) + IntKind.wrap .u64 (IntKind.wrap .u64 n_4 * 256)) + IntKind.wrap .u64 n_5))]])), (6, AV.int .i64 (IntKind.wrap .i64 (i + 1))), (7, AV.str (List.drop (Int.toNat (IntKind.wrap .i64 (1 + IntKind.wrap .i64 (5 * i)))) (List.take (Int.toNat (IntKind.wrap .i64 (6 + IntKind.wrap .i64 (5 * i)))) s))), (20, AV.bool d), (25, AV.bool (decide (i < IntKind.wrap .i64 n)))], b := [], r := [], g := [], rd := [], wr := [] } else none else none else zRe (F 81 [AV.sl 2 false ys] []) fun v bs => zBo v fun b => zNi bs (bif !b then some (AV.tup [AV.sl 0 true [], AV.str [], AV.int .i64 3], []) else zOp (Option.map (fun b => AV.int .u8 ((UInt8.toNat b : Nat) : Int)) s[Int.toNat 0]?) fun x => zIn .u8 x fun n => bif decide (0 ≤ IntKind.wrap .i64 (1 + IntKind.wrap .i64 (5 * IntKind.wrap .i64 n)) ∧ IntKind.wrap .i64 (1 + IntKind.wrap .i64 (5 * IntKind.wrap .i64 n)) ≤ (s.length : Int) ∧ (s.length : Int) ≤ (s.length : Int)) then some (AV.tup [AV.sl 2 false ys, AV.str (List.drop (Int.toNat (IntKind.wrap .i64 (1 + IntKind.wrap .i64 (5 * IntKind.wrap .i64 n)))) (List.take (Int.toNat (s.length : Int)) s)), AV.int .i64 0], []) else none) := by kernel_rfl
theorem mask_sum (b c d e : UInt8) : IntKind.wrap .u64 (IntKind.wrap .u64 (IntKind.wrap .u64 (IntKind.wrap .u64 (IntKind.wrap .u64 ((b.toNat : Nat) : Int) * 16777216) + IntKind.wrap .u64 (IntKind.wrap .u64 ((c.toNat : Nat) : Int) * 65536)) + IntKind.wrap .u64 (IntKind.wrap .u64 ((d.toNat : Nat) : Int) * 256)) + IntKind.wrap .u64 ((e.toNat : Nat) : Int)) = ((unbe [b, c, d, e] 0 : Nat) : Int) := by
 have hb := b.toNat_lt
 have hc := c.toNat_lt
 have hd := d.toNat_lt
 have he := e.toNat_lt
 have w : ∀ n : Nat, n < 18446744073709551616 → IntKind.wrap .u64 (n : Int) = n := fun n h => wrap_u64 h
 simp only [unbe]
 rw [w _ (by omega), w _ (by omega), w _ (by omega), w _ (by omega)]
 rw [show ((b.toNat : Int) * 16777216) = ((b.toNat * 16777216 : Nat) : Int) by omega, show ((c.toNat : Int) * 65536) = ((c.toNat * 65536 : Nat) : Int) by omega, show ((d.toNat : Int) * 256) = ((d.toNat * 256 : Nat) : Int) by omega, w _ (by omega), w _ (by omega), w _ (by omega)]
 rw [show ((b.toNat * 16777216 : Nat) : Int) + ((c.toNat * 65536 : Nat) : Int) = ((b.toNat * 16777216 + c.toNat * 65536 : Nat) : Int) by omega, w _ (by omega)]
 rw [show ((b.toNat * 16777216 + c.toNat * 65536 : Nat) : Int) + ((d.toNat * 256 : Nat) : Int) = ((b.toNat * 16777216 + c.toNat * 65536 + d.toNat * 256 : Nat) : Int) by omega, w _ (by omega)]
 rw [show ((b.toNat * 16777216 + c.toNat * 65536 + d.toNat * 256 : Nat) : Int) + (e.toNat : Int) = ((b.toNat * 16777216 + c.toNat * 65536 + d.toNat * 256 + e.toNat : Nat) : Int) by omega, w _ (by omega)]
 omega
theorem five (s : List UInt8) (q : Nat) (h : q + 5 ≤ s.length) : ∃ a b c d e r, s.drop q = a :: b :: c :: d :: e :: r := by
 have hl : (s.drop q).length = s.length - q := List.length_drop
 match hx : s.drop q with
 | a :: b :: c :: d :: e :: r => exact ⟨a, b, c, d, e, r, rfl⟩
 | [] => rw [hx] at hl; simp at hl; omega
 | [a] => rw [hx] at hl; simp at hl; omega
 | [a, b] => rw [hx] at hl; simp at hl; omega
 | [a, b, c] => rw [hx] at hl; simp at hl; omega
 | [a, b, c, d] => rw [hx] at hl; simp at hl; omega
theorem rbparse_wraps (i : Nat) (hi : i ≤ 1000) : IntKind.wrap .i64 (1 + IntKind.wrap .i64 (5 * (i : Int))) = ((1 + 5 * i : Nat) : Int) ∧ IntKind.wrap .i64 (6 + IntKind.wrap .i64 (5 * (i : Int))) = ((1 + 5 * i + 5 : Nat) : Int) := by
 rw [wrap_small (n := 5 * (i : Int)) (by omega) (by omega), wrap_small (by omega) (by omega), wrap_small (by omega) (by omega)]
 omega
theorem rbparse_loop (k : Nat) (s t : List UInt8) (c0 : UInt8) (hs : s = c0 :: t) (hbig : s.length < 1152921504606846976) (ht : 5 * c0.toNat ≤ t.length) (hk : 400 ≤ k) (d : Bool) : ∀ (dd i m : Nat) (acc : List (Int × Int)) (st : St), i + dd = c0.toNat → dd < m → acc ≠ [] → acc.length = i → st.clean (zDe 62 0) = rbparseS s (.tip 60 0 2 (acc.map btV)) i d →
  loopA (zBy (evF pr k) 62 0 k) (zDe 62 0) (zCt (evF pr k) 62 0 k 0) m st = some (if bOk (acc ++ bts dd (s.drop (1 + 5 * i))) then .tup [.sl 2 false ((acc ++ bts dd (s.drop (1 + 5 * i))).map btV), .str (s.drop (1 + 5 * c0.toNat)), .int .i64 0] else .tup [.sl 0 true [], .str [], .int .i64 3], []) := by
 have hc0 := c0.toNat_lt
 have h0 : Option.map (fun b => AV.int .u8 ((UInt8.toNat b : Nat) : Int)) s[Int.toNat 0]? = some (AV.int .u8 ((c0.toNat : Nat) : Int)) := by rw [hs]; rfl
 have hlen : s.length = t.length + 1 := by rw [hs]; rfl
 intro dd
 induction dd with
 | zero =>
  intro i m acc st hi hm ha hl hst
  obtain ⟨m, rfl⟩ : ∃ m', m = m' + 1 := ⟨m - 1, by omega⟩
  have hi : i = c0.toNat := by omega
  rw [loopA_succ, hst, rbparse_body1, h0]
  simp only [zOp, zIn, if_true, byte_i64]
  rw [decide_eq_false (by omega), e58 k false acc (by omega) (by omega), (rbparse_wraps c0.toNat (by omega)).1]
  simp only [cond_false, zRe, zBo, zNi, bts, List.append_nil]
  cases bOk acc with
  | false => rfl
  | true =>
   rw [decide_eq_true (show 0 ≤ ((1 + 5 * c0.toNat : Nat) : Int) ∧ ((1 + 5 * c0.toNat : Nat) : Int) ≤ ((s.length : Nat) : Int) ∧ ((s.length : Nat) : Int) ≤ ((s.length : Nat) : Int) by omega)]
   simp only [Bool.not_true, cond_false, cond_true, Int.toNat_natCast, List.take_length, if_true]
 | succ dd ih =>
  intro i m acc st hi hm ha hl hst
  obtain ⟨m, rfl⟩ : ∃ m', m = m' + 1 := ⟨m - 1, by omega⟩
  obtain ⟨x, y1, y2, y3, y4, r, hu⟩ := five s (1 + 5 * i) (by omega)
  rw [loopA_succ, hst, rbparse_body1, h0]
  simp only [zOp, zIn, if_true, byte_i64]
  rw [decide_eq_true (show (i : Int) < ((c0.toNat : Nat) : Int) by omega), (rbparse_wraps i (by omega)).1, (rbparse_wraps i (by omega)).2, decide_eq_true (show 0 ≤ ((1 + 5 * i : Nat) : Int) ∧ ((1 + 5 * i : Nat) : Int) ≤ ((1 + 5 * i + 5 : Nat) : Int) ∧ ((1 + 5 * i + 5 : Nat) : Int) ≤ s.length by omega)]
  rw [Int.toNat_natCast, Int.toNat_natCast, List.drop_take, hu, show 1 + 5 * i + 5 - (1 + 5 * i) = 5 by omega]
  simp only [cond_true, List.take_succ_cons, List.take_zero, show Int.toNat 0 = 0 from rfl, show Int.toNat 1 = 1 from rfl, show Int.toNat 2 = 2 from rfl, show Int.toNat 3 = 3 from rfl, show Int.toNat 4 = 4 from rfl, List.getElem?_cons_zero, List.getElem?_cons_succ, Option.map_some, zOp, zIn, if_true, byte_i64, mask_sum]
  rw [decide_eq_true (by
   refine ⟨trivial, fitsB_small ?_, ?_⟩ <;> simp only [List.length_map, List.length_cons, List.length_nil] <;> omega)]
  simp only [cond_true]
  rw [wrap_small (n := (i : Int) + 1) (by omega) (by omega)]
  have hb : bt1 (s.drop (1 + 5 * i)) = (((x.toNat : Nat) : Int), ((unbe [y1, y2, y3, y4] 0 : Nat) : Int)) := by rw [hu]; rfl
  refine (ih (i + 1) m (acc ++ [(((x.toNat : Nat) : Int), ((unbe [y1, y2, y3, y4] 0 : Nat) : Int))]) _ (by omega) (by omega) (by simp) (by simp [hl]) (by rw [List.map_append]; kernel_rfl)).trans ?_
  rw [← hu, bts, hb, List.append_assoc, List.singleton_append, List.drop_drop, show 1 + 5 * i + 5 = 1 + 5 * (i + 1) by omega]
theorem e51 (k : Nat) (hk : 401 ≤ k) (s : List UInt8) (hbig : s.length < 1152921504606846976) : ParseBR (parseB s) (evF pr k 62 [.str s] []) := by
 obtain ⟨k, rfl⟩ : ∃ m, k = m + 1 := ⟨k - 1, by omega⟩
 rw [ev_step _ _ _ _ (by kernel_rfl), rbparse_tree]
 unfold parseB
 rw [num_eq 1 (by omega)]
 match hs : s with
 | [] => exact ⟨2, by omega, rfl⟩
 | c0 :: t =>
  have hc0 := c0.toNat_lt
  have hu : unbe ((c0 :: t).take 1) 0 = c0.toNat := by simp [unbe]
  rw [if_neg (by simp only [List.length_cons]; omega), hu, show (c0 :: t).drop 1 = t from rfl]
  simp only [List.length_cons] at hbig
  have h0 : Option.map (fun b => AV.int .u8 ((UInt8.toNat b : Nat) : Int)) (c0 :: t)[Int.toNat 0]? = some (AV.int .u8 ((c0.toNat : Nat) : Int)) := rfl
  rw [show (((((c0 :: t).length : Nat) : Int)) == 0) = false by simp only [beq_eq_false_iff_ne, ne_eq, List.length_cons]; omega, h0]
  simp only [cond_false, zOp, zIn, if_true, byte_i64]
  rw [wrap_small (n := 5 * ((c0.toNat : Nat) : Int)) (by omega) (by omega), show IntKind.wrap .i64 ((((c0 :: t).length : Nat) : Int) - 1) = ((t.length : Nat) : Int) by (rw [List.length_cons, wrap_small (by omega) (by omega)]; omega)]
  by_cases hl : t.length < 5 * c0.toNat
  ·rw [decide_eq_true (show ((t.length : Nat) : Int) < 5 * ((c0.toNat : Nat) : Int) by omega), if_pos hl]
   exact ⟨2, by omega, rfl⟩
  ·rw [decide_eq_false (show ¬ ((t.length : Nat) : Int) < 5 * ((c0.toNat : Nat) : Int) by omega), if_neg hl]
   simp only [cond_false]
   obtain ⟨k', hk'⟩ : ∃ m, k = m + 1 := ⟨k - 1, by omega⟩
   conv => arg 2; arg 4; rw [hk']
   rw [loopA_succ]
   have hb : zBy (evF pr k) 62 0 k (rbparseS (c0 :: t) (.sl 0 true []) 0 false) (brk (zCt (evF pr k) 62 0 k 0) fun st' => loopA (zBy (evF pr k) 62 0 k) (zDe 62 0) (zCt (evF pr k) 62 0 k 0) k' st') = some (if bOk (bts c0.toNat t) then .tup [slT (bts c0.toNat t), .str (t.drop (5 * c0.toNat)), .int .i64 0] else .tup [.sl 0 true [], .str [], .int .i64 3], []) := by
    rw [rbparse_body0, h0]
    simp only [zOp, zIn, if_true, byte_i64]
    by_cases hz : c0.toNat = 0
    ·obtain ⟨k2, hk2⟩ : ∃ m, k = m + 6 := ⟨k - 6, by omega⟩
     have h58 : evF pr k 81 [.sl 0 true []] [] = some (.bool true, []) := by rw [hk2]; exact e58nil k2 0 true
     rw [h58, hz]
     have hd : (List.drop (Int.toNat (IntKind.wrap .i64 (1 + IntKind.wrap .i64 (5 * ((0 : Nat) : Int))))) (List.take (Int.toNat ((((c0 :: t).length : Nat) : Int))) (c0 :: t))) = t := by
      rw [Int.toNat_natCast, List.take_length]
      rfl
     rw [hd, show IntKind.wrap .i64 (1 + IntKind.wrap .i64 (5 * ((0 : Nat) : Int))) = 1 from rfl, decide_eq_true (show (0 : Int) ≤ 1 ∧ (1 : Int) ≤ (((c0 :: t).length : Nat) : Int) ∧ ((((c0 :: t).length : Nat) : Int)) ≤ ((((c0 :: t).length : Nat) : Int)) by simp only [List.length_cons]; omega)]
     rfl
    ·obtain ⟨n, hn⟩ : ∃ n, c0.toNat = n + 1 := ⟨c0.toNat - 1, by omega⟩
     obtain ⟨x, y1, y2, y3, y4, r, hu5⟩ := five (c0 :: t) 1 (by simp only [List.length_cons]; omega)
     have ht : t = x :: y1 :: y2 :: y3 :: y4 :: r := hu5
     rw [decide_eq_true (show (0 : Int) < ((c0.toNat : Nat) : Int) by omega), show IntKind.wrap .i64 (5 * 0) = 0 from rfl, show IntKind.wrap .i64 (1 + 0) = 1 from rfl, show IntKind.wrap .i64 (6 + 0) = 6 from rfl, decide_eq_true (show (0 : Int) ≤ 1 ∧ (1 : Int) ≤ 6 ∧ (6 : Int) ≤ (((c0 :: t).length : Nat) : Int) by simp only [List.length_cons]; omega), show Int.toNat 1 = 1 from rfl, show Int.toNat 6 = 6 from rfl, List.drop_take, hu5]
     simp only [cond_true, List.take_succ_cons, List.take_zero, show Int.toNat 0 = 0 from rfl, show Int.toNat 2 = 2 from rfl, show Int.toNat 3 = 3 from rfl, show Int.toNat 4 = 4 from rfl, List.getElem?_cons_zero, List.getElem?_cons_succ, Option.map_some, zOp, zIn, if_true, byte_i64, mask_sum, show 6 - 1 = 5 from rfl]
     have hb : bt1 t = (((x.toNat : Nat) : Int), ((unbe [y1, y2, y3, y4] 0 : Nat) : Int)) := by rw [ht]; rfl
     refine (rbparse_loop k (c0 :: t) t c0 rfl (by simp only [List.length_cons]; omega) (by omega) (by omega) false n 1 k' [(((x.toNat : Nat) : Int), ((unbe [y1, y2, y3, y4] 0 : Nat) : Int))] _ (by omega) (by omega) (by simp) rfl (by kernel_rfl)).trans ?_
     have hd6 : (c0 :: t).drop (1 + 5 * 1) = t.drop 5 := rfl
     have hdn : (c0 :: t).drop (1 + 5 * c0.toNat) = t.drop (5 * c0.toNat) := by rw [Nat.add_comm, List.drop_succ_cons]
     have hbt : [(((x.toNat : Nat) : Int), ((unbe [y1, y2, y3, y4] 0 : Nat) : Int))] ++ bts n (t.drop 5) = bts c0.toNat t := by rw [hn, bts, hb]; rfl
     rw [hd6, hdn, hbt, show slT (bts c0.toNat t) = .sl 2 false ((bts c0.toNat t).map btV) from if_neg (by rw [hn, bts]; simp)]
   have hfin : ParseBR (if bOk (bts c0.toNat t) = true then some (bts c0.toNat t, List.drop (5 * c0.toNat) t) else none) (some (if bOk (bts c0.toNat t) then .tup [slT (bts c0.toNat t), .str (t.drop (5 * c0.toNat)), .int .i64 0] else .tup [.sl 0 true [], .str [], .int .i64 3], [])) := by
    cases bOk (bts c0.toNat t) with
    | false => exact ⟨3, by omega, rfl⟩
    | true => rfl
   rw [← hb] at hfin
   exact hfin
abbrev Vol := Int × List (List UInt8)
def volV (fl : Bool) (v : Vol) : AV := .agg [.int .i64 v.1, .sl 1 fl (v.2.map AV.str)]
def longB (s : List UInt8) : Bool := decide ((s.length : Int) > 8)
def vsOk : Int → List Vol → Bool
 | _, [] => true
 | last, v :: r => decide (last < v.1 ∧ v.1 ≤ 255 ∧ 1 ≤ v.2.length ∧ v.2.length ≤ 32) && (!(v.2.any longB) && vsOk v.1 r)
def vOk (l : List Vol) : Bool := decide (l.length ≤ 4) && vsOk 0 l
theorem getVol (fl : Bool) (l : List Vol) (i : Nat) (h : i < l.length) : (l.map (volV fl))[Int.toNat (i : Int)]? = some (.agg [.int .i64 (l[i]).1, .sl 1 fl ((l[i]).2.map AV.str)]) := by
 rw [Int.toNat_natCast, List.getElem?_map, List.getElem?_eq_getElem h]
 rfl
theorem c108_tree (F : Fns) (N : Nat) (s : List UInt8) : runOf F 136 N [.str s] [] =
 some (AV.bool (decide ((s.length : Int) > 8)), []) := by kernel_rfl
theorem e108 (k : Nat) (hk : 1 ≤ k) (s : List UInt8) : evF pr k 136 [.str s] [] = some (.bool (longB s), []) := by
 obtain ⟨k, rfl⟩ : ∃ m, k = m + 1 := ⟨k - 1, by omega⟩
 rw [ev_step _ _ _ _ (by kernel_rfl), c108_tree]
 rfl
def c123S (fl : Bool) (xs : List AV) (len i : Int) : St := ⟨19, [(0, AV.sl 1 fl xs), (1, AV.fn 136), (4, AV.int .i64 0), (7, AV.int .i64 len), (8, AV.int .i64 i)], [], [], [], [], []⟩
theorem c123_tree (F : Fns) (N : Nat) (fl : Bool) (xs : List AV) : runOf F 148 N [.sl 1 fl xs, .fn 136] [] =
 loopA (zBy F 148 0 N) (zDe 148 0) (zCt F 148 0 N 0) N { nt := 19, t := [(0, AV.sl 1 fl xs), (1, AV.fn 136), (4, AV.int .i64 0), (7, AV.int .i64 (xs.length : Int)), (8, AV.int .i64 0)], b := [], r := [], g := [], rd := [], wr := [] } := by kernel_rfl
theorem c123_body (F : Fns) (N : Nat) (fl : Bool) (xs : List AV) (len i : Int) (KN : St → Res) : zBy F 148 0 N (c123S fl xs len i) (brk (zCt F 148 0 N 0) KN) =
 bif decide (i < len) then bif decide (0 ≤ i) then zOp xs[Int.toNat i]? fun x => zSt x fun s => zRe (F 136 [AV.str s] []) fun v bs => zBo v fun b => zNi bs (bif b then some (AV.int .i64 i, []) else KN { nt := 19, t := [(0, AV.sl 1 fl xs), (1, AV.fn 136), (4, AV.int .i64 0), (5, AV.int .i64 i), (7, AV.int .i64 len), (8, AV.int .i64 (IntKind.wrap .i64 (i + 1))), (9, AV.bool (decide (i < len))), (16, AV.bool b)], b := [], r := [], g := [], rd := [], wr := [] }) else none else some (AV.int .i64 (-1), []) := by kernel_rfl
theorem c123_loop (k : Nat) (hk : 1 ≤ k) (fl : Bool) (l : List (List UInt8)) (hl : l.length ≤ 100000) : ∀ (dd i m : Nat) (st : St), i + dd = l.length → dd < m → st.clean (zDe 148 0) = c123S fl (l.map AV.str) l.length i →
  ∃ z, loopA (zBy (evF pr k) 148 0 k) (zDe 148 0) (zCt (evF pr k) 148 0 k 0) m st = some (.int .i64 z, []) ∧ decide (z ≥ 0) = (l.drop i).any longB := by
 intro dd
 induction dd with
 | zero =>
  intro i m st hi hm hst
  obtain ⟨m, rfl⟩ : ∃ m', m = m' + 1 := ⟨m - 1, by omega⟩
  have : l.drop i = [] := List.drop_eq_nil_of_le (by omega)
  rw [loopA_succ, hst, c123_body, decide_eq_false (by omega), this]
  exact ⟨-1, rfl, rfl⟩
 | succ dd ih =>
  intro i m st hi hm hst
  obtain ⟨m, rfl⟩ : ∃ m', m = m' + 1 := ⟨m - 1, by omega⟩
  have hlt : i < l.length := by omega
  rw [loopA_succ, hst, c123_body, decide_eq_true (show (i : Int) < l.length by omega), decide_eq_true (show (0 : Int) ≤ i by omega), Int.toNat_natCast, List.getElem?_map, List.getElem?_eq_getElem hlt, List.drop_eq_getElem_cons hlt, List.any_cons]
  simp only [cond_true, Option.map_some, zOp, zSt]
  rw [e108 k hk]
  simp only [zRe, zBo, zNi]
  cases longB l[i] with
  | true => exact ⟨i, rfl, by simp⟩
  | false =>
   simp only [cond_false, Bool.false_or]
   rw [wrap_small (n := (i : Int) + 1) (by omega) (by omega)]
   exact ih (i + 1) m _ (by omega) (by omega) (by kernel_rfl)
theorem c107_tree (F : Fns) (N : Nat) (fl : Bool) (xs : List AV) : runOf F 135 N [.sl 1 fl xs, .fn 136] [] =
 zRe (F 148 [AV.sl 1 fl xs, AV.fn 136] []) fun v bs => zIn .i64 v fun n => zNi bs (some (AV.bool (decide (n ≥ 0)), [])) := by kernel_rfl
theorem e107 (k : Nat) (fl : Bool) (l : List (List UInt8)) (hk : 4 + l.length ≤ k) (hl : l.length ≤ 100000) : evF pr k 135 [.sl 1 fl (l.map AV.str), .fn 136] [] = some (.bool (l.any longB), []) := by
 obtain ⟨k, rfl⟩ : ∃ m, k = m + 2 := ⟨k - 2, by omega⟩
 rw [ev_step _ _ _ _ (by kernel_rfl), c107_tree, ev_step _ _ _ _ (by kernel_rfl), c123_tree, List.length_map]
 obtain ⟨z, h1, h2⟩ := c123_loop k (by omega) fl l hl l.length 0 k ⟨19, [(0, AV.sl 1 fl (l.map AV.str)), (1, AV.fn 136), (4, AV.int .i64 0), (7, AV.int .i64 l.length), (8, AV.int .i64 0)], [], [], [], [], []⟩ (Nat.zero_add _) (by omega) (by kernel_rfl)
 rw [List.drop_zero] at h2
 rw [← h2]
 refine (congrArg (fun x => zRe x _) h1).trans ?_
 rfl
theorem vsize_tree (F : Fns) (N : Nat) (z : Int) : runOf F 134 N [.int .i64 z] [] =
 bif decide (z ≥ 1) then some (AV.bool (decide (z ≤ 32)), []) else some (AV.bool false, []) := by kernel_rfl
def sizeOk (z : Int) : Bool := decide (1 ≤ z ∧ z ≤ 32)
theorem e92 (k : Nat) (hk : 1 ≤ k) (z : Int) : evF pr k 134 [.int .i64 z] [] = some (.bool (sizeOk z), []) := by
 obtain ⟨k, rfl⟩ : ∃ m, k = m + 1 := ⟨k - 1, by omega⟩
 rw [ev_step _ _ _ _ (by kernel_rfl), vsize_tree]
 by_cases h : z ≥ 1
 ·rw [decide_eq_true h, show sizeOk z = decide (z ≤ 32) by unfold sizeOk; rw [decide_eq_decide]; omega]; rfl
 ·rw [decide_eq_false h, show sizeOk z = false by unfold sizeOk; rw [decide_eq_false_iff_not]; omega]; rfl
def vrightS (fl : Bool) (xs : List AV) (last len i : Int) : St := ⟨37, [(0, AV.sl 2 fl xs), (2, AV.bool false), (3, AV.int .i64 last), (6, AV.sl 2 fl xs), (7, AV.int .i64 len), (8, AV.int .i64 i)], [], [], [], [], []⟩
theorem vright_tree (F : Fns) (N : Nat) (fl : Bool) (xs : List AV) : runOf F 110 N [.sl 2 fl xs] [] =
 loopA (zBy F 110 0 N) (zDe 110 0) (zCt F 110 0 N 0) N { nt := 37, t := [(0, AV.sl 2 fl xs), (2, AV.bool false), (3, AV.int .i64 0), (6, AV.sl 2 fl xs), (7, AV.int .i64 (xs.length : Int)), (8, AV.int .i64 0)], b := [], r := [], g := [], rd := [], wr := [] } := by kernel_rfl
theorem vright_body (F : Fns) (N : Nat) (fl : Bool) (xs : List AV) (last len i : Int) (KN : St → Res) : zBy F 110 0 N (vrightS fl xs last len i) (brk (zCt F 110 0 N 0) KN) =
 bif decide (i < len) then bif decide (0 ≤ i) then zOp xs[Int.toNat i]? fun x => zAg x fun cs => zCo cs fun v r => zIn .i64 v fun n => zCo r fun v r => asSl v fun m fl_1 xs_1 => zNi r (bif decide (n ≤ last) then some (AV.bool false, []) else bif decide (n > 255) then some (AV.bool false, []) else zRe (F 134 [AV.int .i64 (xs_1.length : Int)] []) fun v bs => zBo v fun b => zNi bs (bif !b then some (AV.bool false, []) else zRe (F 135 [AV.sl m fl_1 xs_1, AV.fn 136] []) fun v bs => zBo v fun b_1 => zNi bs (bif b_1 then some (AV.bool false, []) else KN { nt := 37, t := [(0, AV.sl 2 fl xs), (2, AV.bool false), (3, AV.int .i64 n), (5, AV.ptr 5 0 0), (6, AV.sl 2 fl xs), (7, AV.int .i64 len), (8, AV.int .i64 (IntKind.wrap .i64 (i + 1))), (9, AV.bool (decide (i < len))), (27, AV.bool !b), (30, AV.bool b_1)], b := [(5, [AV.int .i64 n, AV.sl m fl_1 xs_1])], r := [], g := [], rd := [], wr := [] }))) else none else some (AV.bool (decide ((xs.length : Int) ≤ 4)), []) := by kernel_rfl
theorem vright_loop (k : Nat) (hk : 40 ≤ k) (fl f2 : Bool) (l : List Vol) (hl : l.length ≤ 1000000000) : ∀ (dd i m : Nat) (last : Int) (st : St), i + dd = l.length → dd < m → st.clean (zDe 110 0) = vrightS fl (l.map (volV f2)) last l.length i →
  loopA (zBy (evF pr k) 110 0 k) (zDe 110 0) (zCt (evF pr k) 110 0 k 0) m st = some (.bool (vsOk last (l.drop i) && decide (l.length ≤ 4)), []) := by
 intro dd
 induction dd with
 | zero =>
  intro i m last st hi hm hst
  obtain ⟨m, rfl⟩ : ∃ m', m = m' + 1 := ⟨m - 1, by omega⟩
  have h1 : l.drop i = [] := List.drop_eq_nil_of_le (by omega)
  rw [loopA_succ, hst, vright_body, decide_eq_false (by omega), h1, List.length_map, vsOk, Bool.true_and, show decide (l.length ≤ 4) = decide (((l.length : Nat) : Int) ≤ 4) by rw [decide_eq_decide]; omega]
  rfl
 | succ dd ih =>
  intro i m last st hi hm hst
  obtain ⟨m, rfl⟩ : ∃ m', m = m' + 1 := ⟨m - 1, by omega⟩
  have hlt : i < l.length := by omega
  rw [loopA_succ, hst, vright_body, decide_eq_true (show (i : Int) < l.length by omega), decide_eq_true (show (0 : Int) ≤ i by omega), getVol f2 l i hlt, List.drop_eq_getElem_cons hlt, vsOk]
  simp only [cond_true, zOp, zAg, zCo, zIn, asSl, if_true, zNi]
  rw [wrap_small (n := (i : Int) + 1) (by omega) (by omega), List.length_map, e92 k (by omega)]
  simp only [zRe, zBo, zNi]
  generalize l[i] = v
  by_cases hc : last < v.1 ∧ v.1 ≤ 255 ∧ 1 ≤ v.2.length ∧ v.2.length ≤ 32
  ·rw [decide_eq_true hc, decide_eq_false (show ¬ v.1 ≤ last by omega), decide_eq_false (show ¬ v.1 > 255 by omega), show sizeOk ((v.2.length : Nat) : Int) = true from decide_eq_true (by omega), e107 k f2 v.2 (by omega) (by omega)]
   simp only [cond_false, Bool.not_true, Bool.true_and]
   cases hb : v.2.any longB with
   | true => rfl
   | false =>
    simp only [cond_false, Bool.not_false, Bool.true_and]
    exact ih (i + 1) m _ _ (by omega) (by omega) (by kernel_rfl)
  ·rw [decide_eq_false hc, Bool.false_and, Bool.false_and]
   by_cases h1 : v.1 ≤ last
   ·rw [decide_eq_true h1]; rfl
   by_cases h2 : v.1 > 255
   ·rw [decide_eq_false h1, decide_eq_true h2]; rfl
   rw [decide_eq_false h1, decide_eq_false h2, show sizeOk ((v.2.length : Nat) : Int) = false by unfold sizeOk; rw [decide_eq_false_iff_not]; omega]
   rfl
theorem e93 (k : Nat) (fl f2 : Bool) (l : List Vol) (hk : l.length + 50 ≤ k) (hl : l.length ≤ 1000000000) : evF pr k 110 [.sl 2 fl (l.map (volV f2))] [] = some (.bool (vOk l), []) := by
 obtain ⟨k, rfl⟩ : ∃ m, k = m + 1 := ⟨k - 1, by omega⟩
 rw [ev_step _ _ _ _ (by kernel_rfl), vright_tree, List.length_map, vOk, Bool.and_comm]
 exact vright_loop k (by omega) fl f2 l hl l.length 0 k 0 _ (Nat.zero_add _) (by omega) (by kernel_rfl)
def rvrightS (fl d : Bool) (xs : List AV) (i : Int) : St := ⟨84, [(0, AV.sl 2 fl xs), (2, AV.bool false), (3, AV.int .i64 i), (7, AV.bool d)], [], [], [], [], []⟩
def rvrI (fl d e f : Bool) (xs : List AV) (i j : Int) : St := ⟨84, [(0, AV.sl 2 fl xs), (2, AV.bool false), (3, AV.int .i64 i), (4, AV.int .i64 j), (7, AV.bool d), (11, AV.bool e), (63, AV.bool f)], [], [], [], [], []⟩
theorem rvright_tree (F : Fns) (N : Nat) (fl : Bool) (xs : List AV) : runOf F 35 N [.sl 2 fl xs] [] =
 bif decide ((xs.length : Int) > 4) then some (AV.bool false, []) else loopA (zBy F 35 0 N) (zDe 35 0) (zCt F 35 0 N 0) N { nt := 84, t := [(0, AV.sl 2 fl xs), (2, AV.bool false), (3, AV.int .i64 0), (7, AV.bool (decide ((xs.length : Int) > 4)))], b := [], r := [], g := [], rd := [], wr := [] } := by kernel_rfl
theorem rvright_body (F : Fns) (N : Nat) (fl d : Bool) (xs : List AV) (i : Int) (KN : St → Res) : zBy F 35 0 N (rvrightS fl d xs i) (brk (zCt F 35 0 N 0) KN) =
 bif decide (i < (xs.length : Int)) then bif decide (0 ≤ i) then zOp xs[Int.toNat i]? fun x => zAg x fun cs => zCo cs fun v r => zIn .i64 v fun n => zCo r fun v r => asSl v fun m fl_1 xs_1 => zNi r (bif decide (n < 1) then some (AV.bool false, []) else bif decide (0 ≤ i) then zOp xs[Int.toNat i]? fun x => zAg x fun cs => zCo cs fun v r => zIn .i64 v fun n => zCo r fun v r => asSl v fun m fl_2 xs_2 => zNi r (bif decide (n > 255) then some (AV.bool false, []) else bif decide (i > 0) then bif decide (0 ≤ IntKind.wrap .i64 (i - 1)) then zOp xs[Int.toNat (IntKind.wrap .i64 (i - 1))]? fun x => zAg x fun cs => zCo cs fun v r => zIn .i64 v fun n => zCo r fun v r => asSl v fun m fl_3 xs_3 => zNi r (bif decide (0 ≤ i) then zOp xs[Int.toNat i]? fun x => zAg x fun cs => zCo cs fun v r => zIn .i64 v fun n_1 => zCo r fun v r => asSl v fun m fl_4 xs_4 => zNi r (bif decide (n ≥ n_1) then some (AV.bool false, []) else bif decide (0 ≤ i) then zOp xs[Int.toNat i]? fun x => zAg x fun cs => zCo cs fun v r => zIn .i64 v fun n => zCo r fun v r => asSl v fun m fl_5 xs_5 => zNi r (bif decide ((xs_5.length : Int) < 1) then some (AV.bool false, []) else bif decide (0 ≤ i) then zOp xs[Int.toNat i]? fun x => zAg x fun cs => zCo cs fun v r => zIn .i64 v fun n => zCo r fun v r => asSl v fun m fl_6 xs_6 => zNi r (bif decide ((xs_6.length : Int) > 32) then some (AV.bool false, []) else loopA (zBy F 35 1 N) (zDe 35 1) (zCb F 35 0 0 N (brk (zCt F 35 0 N 0) KN)) N { nt := 84, t := [(0, AV.sl 2 fl xs), (2, AV.bool false), (3, AV.int .i64 i), (4, AV.int .i64 0), (7, AV.bool d), (11, AV.bool (decide (i < (xs.length : Int)))), (63, AV.bool (decide ((xs_6.length : Int) > 32)))], b := [], r := [], g := [], rd := [], wr := [] }) else none) else none) else none) else none else bif decide (0 ≤ i) then zOp xs[Int.toNat i]? fun x => zAg x fun cs => zCo cs fun v r => zIn .i64 v fun n => zCo r fun v r => asSl v fun m fl_3 xs_3 => zNi r (bif decide ((xs_3.length : Int) < 1) then some (AV.bool false, []) else bif decide (0 ≤ i) then zOp xs[Int.toNat i]? fun x => zAg x fun cs => zCo cs fun v r => zIn .i64 v fun n => zCo r fun v r => asSl v fun m fl_4 xs_4 => zNi r (bif decide ((xs_4.length : Int) > 32) then some (AV.bool false, []) else loopA (zBy F 35 1 N) (zDe 35 1) (zCb F 35 0 0 N (brk (zCt F 35 0 N 0) KN)) N { nt := 84, t := [(0, AV.sl 2 fl xs), (2, AV.bool false), (3, AV.int .i64 i), (4, AV.int .i64 0), (7, AV.bool d), (11, AV.bool (decide (i < (xs.length : Int)))), (63, AV.bool (decide ((xs_4.length : Int) > 32)))], b := [], r := [], g := [], rd := [], wr := [] }) else none) else none) else none) else none else some (AV.bool true, []) := by kernel_rfl
theorem rvright_in (F : Fns) (N : Nat) (fl d e f : Bool) (xs : List AV) (i j : Int) (KO KN : St → Res) : zBy F 35 1 N (rvrI fl d e f xs i j) (brk (zCb F 35 0 0 N (brk (zCt F 35 0 N 0) KO)) KN) =
 bif decide (0 ≤ i) then zOp xs[Int.toNat i]? fun x => zAg x fun cs => zCo cs fun v r => zIn .i64 v fun n => zCo r fun v r => asSl v fun m fl_1 xs_1 => zNi r (bif decide (j < (xs_1.length : Int)) then bif decide (0 ≤ i) then zOp xs[Int.toNat i]? fun x => zAg x fun cs => zCo cs fun v r => zIn .i64 v fun n => zCo r fun v r => asSl v fun m fl_2 xs_2 => zNi r (bif decide (m = 1) && decide (0 ≤ j) then zOp xs_2[Int.toNat j]? fun x => zSt x fun s => bif decide ((s.length : Int) > 8) then some (AV.bool false, []) else KN { nt := 84, t := [(0, AV.sl 2 fl xs), (2, AV.bool false), (3, AV.int .i64 i), (4, AV.int .i64 (IntKind.wrap .i64 (j + 1))), (7, AV.bool d), (11, AV.bool e), (63, AV.bool f), (71, AV.bool (decide (j < (xs_1.length : Int)))), (83, AV.bool (decide ((s.length : Int) > 8)))], b := [], r := [], g := [], rd := [], wr := [] } else none) else none else KO { nt := 84, t := [(0, AV.sl 2 fl xs), (2, AV.bool false), (3, AV.int .i64 (IntKind.wrap .i64 (i + 1))), (4, AV.int .i64 j), (7, AV.bool d), (11, AV.bool e), (63, AV.bool f), (71, AV.bool (decide (j < (xs_1.length : Int))))], b := [], r := [], g := [], rd := [], wr := [] }) else none := by kernel_rfl
theorem rvright_inner (F : Fns) (N : Nat) (fl f2 d e f : Bool) (l : List Vol) (i : Nat) (hi : i < l.length) (hb : (l[i]).2.length ≤ 1000) (hbl : l.length ≤ 1000000) (KO : St → Res) : ∀ (dd j m : Nat) (st : St), j + dd = (l[i]).2.length → dd < m → st.clean (zDe 35 1) = rvrI fl d e f (l.map (volV f2)) i j →
  loopA (zBy F 35 1 N) (zDe 35 1) (zCb F 35 0 0 N (brk (zCt F 35 0 N 0) KO)) m st = bif ((l[i]).2.drop j).any longB then some (.bool false, []) else KO ⟨84, [(0, AV.sl 2 fl (l.map (volV f2))), (2, AV.bool false), (3, AV.int .i64 ((i + 1 : Nat) : Int)), (4, AV.int .i64 ((l[i]).2.length : Nat)), (7, AV.bool d), (11, AV.bool e), (63, AV.bool f), (71, AV.bool false)], [], [], [], [], []⟩ := by
 have hw : IntKind.wrap .i64 ((i : Int) + 1) = ((i + 1 : Nat) : Int) := by rw [wrap_small (by omega) (by omega)]; omega
 intro dd
 induction dd with
 | zero =>
  intro j m st hj hm hst
  obtain ⟨m, rfl⟩ : ∃ m', m = m' + 1 := ⟨m - 1, by omega⟩
  have h1 : (l[i]).2.drop j = [] := List.drop_eq_nil_of_le (by omega)
  rw [loopA_succ, hst, rvright_in, decide_eq_true (show (0 : Int) ≤ i by omega), getVol f2 l i hi, h1]
  simp only [cond_true, zOp, zAg, zCo, zIn, asSl, if_true, zNi]
  rw [List.length_map, decide_eq_false (by omega), hw, show j = (l[i]).2.length by omega]
  rfl
 | succ dd ih =>
  intro j m st hj hm hst
  obtain ⟨m, rfl⟩ : ∃ m', m = m' + 1 := ⟨m - 1, by omega⟩
  have hlt : j < (l[i]).2.length := by omega
  rw [loopA_succ, hst, rvright_in, decide_eq_true (show (0 : Int) ≤ i by omega), getVol f2 l i hi, List.drop_eq_getElem_cons hlt, List.any_cons]
  simp only [cond_true, zOp, zAg, zCo, zIn, asSl, if_true, zNi]
  rw [List.length_map, decide_eq_true (show (j : Int) < (l[i]).2.length by omega), decide_eq_true (show (0 : Int) ≤ j by omega), Int.toNat_natCast, List.getElem?_map, List.getElem?_eq_getElem hlt, wrap_small (n := (j : Int) + 1) (by omega) (by omega)]
  simp only [cond_true, Option.map_some, zSt, show (decide (1 = 1) && true) = true from rfl]
  rw [show decide ((((((l[i]).2)[j]).length : Nat) : Int) > 8) = longB ((l[i]).2)[j] from rfl]
  cases longB ((l[i]).2)[j] with
  | true => rfl
  | false =>
   simp only [cond_false, Bool.false_or]
   exact ih (j + 1) m _ (by omega) (by omega) (by kernel_rfl)
theorem rvright_loop (k : Nat) (hk : 60 ≤ k) (fl f2 d : Bool) (l : List Vol) (hl : l.length ≤ 4) : ∀ (dd i m : Nat) (last : Int) (st : St), i + dd = l.length → dd < m → (i = 0 → last = 0) → (∀ h : 0 < i, ∀ h2 : i - 1 < l.length, (l[i - 1]).1 = last) → 0 ≤ last → st.clean (zDe 35 0) = rvrightS fl d (l.map (volV f2)) i →
  loopA (zBy (evF pr k) 35 0 k) (zDe 35 0) (zCt (evF pr k) 35 0 k 0) m st = some (.bool (vsOk last (l.drop i)), []) := by
 intro dd
 induction dd with
 | zero =>
  intro i m last st hi hm h0 hp hla hst
  obtain ⟨m, rfl⟩ : ∃ m', m = m' + 1 := ⟨m - 1, by omega⟩
  have h1 : l.drop i = [] := List.drop_eq_nil_of_le (by omega)
  rw [loopA_succ, hst, rvright_body, List.length_map, decide_eq_false (by omega), h1]
  rfl
 | succ dd ih =>
  intro i m last st hi hm h0 hp hla hst
  obtain ⟨m, rfl⟩ : ∃ m', m = m' + 1 := ⟨m - 1, by omega⟩
  have hlt : i < l.length := by omega
  rw [loopA_succ, hst, rvright_body, List.length_map, decide_eq_true (show (i : Int) < l.length by omega), decide_eq_true (show (0 : Int) ≤ i by omega), getVol f2 l i hlt, List.drop_eq_getElem_cons hlt, vsOk]
  simp only [cond_true, zOp, zAg, zCo, zIn, asSl, if_true, zNi]
  rw [List.length_map]
  have fin : last < (l[i]).1 ∧ (l[i]).1 ≤ 255 ∧ 1 ≤ (l[i]).2.length ∧ (l[i]).2.length ≤ 32 → ∀ st' : St, st'.clean (zDe 35 1) = rvrI fl d true false (l.map (volV f2)) i ((0 : Nat) : Int) →
    loopA (zBy (evF pr k) 35 1 k) (zDe 35 1) (zCb (evF pr k) 35 0 0 k (brk (zCt (evF pr k) 35 0 k 0) fun st' => loopA (zBy (evF pr k) 35 0 k) (zDe 35 0) (zCt (evF pr k) 35 0 k 0) m st')) k st' = some (.bool (decide (last < (l[i]).1 ∧ (l[i]).1 ≤ 255 ∧ 1 ≤ (l[i]).2.length ∧ (l[i]).2.length ≤ 32) && (!((l[i]).2.any longB) && vsOk (l[i]).1 (l.drop (i + 1)))), []) := by
   intro hc st' hst'
   rw [rvright_inner (evF pr k) k fl f2 d true false l i hlt (by omega) (by omega) _ (l[i]).2.length 0 k st' (Nat.zero_add _) (by omega) hst', List.drop_zero, decide_eq_true hc, Bool.true_and]
   cases (l[i]).2.any longB with
   | true => rfl
   | false =>
    simp only [cond_false, Bool.not_false, Bool.true_and]
    exact ih (i + 1) m (l[i]).1 _ (by omega) (by omega) (by omega) (fun _ _ => rfl) (by omega) (by kernel_rfl)
  by_cases h1 : (l[i]).1 < 1
  ·rw [decide_eq_true h1, decide_eq_false (show ¬ (last < (l[i]).1 ∧ (l[i]).1 ≤ 255 ∧ 1 ≤ (l[i]).2.length ∧ (l[i]).2.length ≤ 32) by omega)]; rfl
  by_cases h2 : (l[i]).1 > 255
  ·rw [decide_eq_false h1, decide_eq_true h2, decide_eq_false (show ¬ (last < (l[i]).1 ∧ (l[i]).1 ≤ 255 ∧ 1 ≤ (l[i]).2.length ∧ (l[i]).2.length ≤ 32) by omega)]; rfl
  rw [decide_eq_false h1, decide_eq_false h2]
  simp only [cond_false]
  by_cases hi0 : i = 0
  ·have hl0 := h0 hi0
   rw [decide_eq_false (show ¬ (i : Int) > 0 by omega)]
   simp only [cond_false]
   by_cases h3 : (l[i]).2.length < 1
   ·rw [decide_eq_true (show ((((l[i]).2.length : Nat) : Int)) < 1 by omega), decide_eq_false (show ¬ (last < (l[i]).1 ∧ (l[i]).1 ≤ 255 ∧ 1 ≤ (l[i]).2.length ∧ (l[i]).2.length ≤ 32) by omega)]; rfl
   by_cases h4 : (l[i]).2.length > 32
   ·rw [decide_eq_false (show ¬ ((((l[i]).2.length : Nat) : Int)) < 1 by omega), decide_eq_true (show ((((l[i]).2.length : Nat) : Int)) > 32 by omega), decide_eq_false (show ¬ (last < (l[i]).1 ∧ (l[i]).1 ≤ 255 ∧ 1 ≤ (l[i]).2.length ∧ (l[i]).2.length ≤ 32) by omega)]; rfl
   rw [decide_eq_false (show ¬ ((((l[i]).2.length : Nat) : Int)) < 1 by omega), decide_eq_false (show ¬ ((((l[i]).2.length : Nat) : Int)) > 32 by omega)]
   simp only [cond_false]
   exact fin (by omega) _ (by kernel_rfl)
  ·have hw : IntKind.wrap .i64 ((i : Int) - 1) = ((i - 1 : Nat) : Int) := by rw [wrap_small (by omega) (by omega)]; omega
   have hpi := hp (by omega) (by omega)
   rw [decide_eq_true (show (i : Int) > 0 by omega), hw, decide_eq_true (show (0 : Int) ≤ ((i - 1 : Nat) : Int) by omega), getVol f2 l (i - 1) (by omega), hpi]
   simp only [cond_true, zAg, zCo, zIn, asSl, if_true, zNi]
   by_cases h5 : last ≥ (l[i]).1
   ·rw [decide_eq_true h5, decide_eq_false (show ¬ (last < (l[i]).1 ∧ (l[i]).1 ≤ 255 ∧ 1 ≤ (l[i]).2.length ∧ (l[i]).2.length ≤ 32) by omega)]; rfl
   rw [decide_eq_false h5]
   simp only [cond_false]
   by_cases h3 : (l[i]).2.length < 1
   ·rw [decide_eq_true (show ((((l[i]).2.length : Nat) : Int)) < 1 by omega), decide_eq_false (show ¬ (last < (l[i]).1 ∧ (l[i]).1 ≤ 255 ∧ 1 ≤ (l[i]).2.length ∧ (l[i]).2.length ≤ 32) by omega)]; rfl
   by_cases h4 : (l[i]).2.length > 32
   ·rw [decide_eq_false (show ¬ ((((l[i]).2.length : Nat) : Int)) < 1 by omega), decide_eq_true (show ((((l[i]).2.length : Nat) : Int)) > 32 by omega), decide_eq_false (show ¬ (last < (l[i]).1 ∧ (l[i]).1 ≤ 255 ∧ 1 ≤ (l[i]).2.length ∧ (l[i]).2.length ≤ 32) by omega)]; rfl
   rw [decide_eq_false (show ¬ ((((l[i]).2.length : Nat) : Int)) < 1 by omega), decide_eq_false (show ¬ ((((l[i]).2.length : Nat) : Int)) > 32 by omega)]
   simp only [cond_false]
   exact fin (by omega) _ (by kernel_rfl)
theorem e90 (k : Nat) (fl f2 : Bool) (l : List Vol) (hk : 70 ≤ k) : evF pr k 35 [.sl 2 fl (l.map (volV f2))] [] = some (.bool (vOk l), []) := by
 obtain ⟨k, rfl⟩ : ∃ m, k = m + 1 := ⟨k - 1, by omega⟩
 rw [ev_step _ _ _ _ (by kernel_rfl), rvright_tree, List.length_map, vOk]
 by_cases h : l.length ≤ 4
 ·rw [decide_eq_false (show ¬ ((l.length : Nat) : Int) > 4 by omega), decide_eq_true h, Bool.true_and]
  exact rvright_loop k (by omega) fl f2 false l h l.length 0 k 0 _ (Nat.zero_add _) (by omega) (fun _ => rfl) (fun h => absurd h (by omega)) (by omega) (by kernel_rfl)
 ·rw [decide_eq_true (show ((l.length : Nat) : Int) > 4 by omega), decide_eq_false h]
  rfl
theorem e17nil (k a : Nat) (fl : Bool) : evF pr (k + 6) 73 [.sl a fl []] [] = some (.tup [.str [0], .int .i64 0], []) := by kernel_rfl
theorem e19nil (k a : Nat) (fl : Bool) : evF pr (k + 6) 50 [.sl a fl []] [] = some (.str [0], []) := by kernel_rfl
theorem e53nil (k a : Nat) (fl : Bool) : evF pr (k + 6) 24 [.sl a fl []] [] = some (.tup [.str [0], .int .i64 0], []) := by kernel_rfl
theorem e63nil (k a : Nat) (fl : Bool) : evF pr (k + 6) 51 [.sl a fl []] [] = some (.str [0], []) := by kernel_rfl
theorem e13nil (k a : Nat) (fl : Bool) : evF pr (k + 6) 53 [.sl a fl []] [] = some (.str [0, 0], []) := by kernel_rfl
theorem e17' (k : Nat) {v : AV} {l : List (Int × Int)} (h : IsL v l) (hk : 100 + l.length ≤ k) (hs : Sm l) (hl : l.length ≤ 1000) : evF pr k 73 [v] [] = some (if lined l then .tup [.str (putL l), .int .i64 0] else .tup [.str [], .int .i64 1], []) := by
 rcases h with ⟨fl, rfl⟩ | ⟨rfl, a, fl, rfl⟩
 ·exact e17 k fl l (by omega) hs hl
 ·obtain ⟨k, rfl⟩ : ∃ m, k = m + 6 := ⟨k - 6, by omega⟩
  exact e17nil k a fl
theorem e19' (k : Nat) {v : AV} {l : List (Int × Int)} (h : IsL v l) (hk : 100 + l.length ≤ k) (hs : Sm l) (hl : l.length ≤ 1000) : evF pr k 50 [v] [] = some (.str (putL l), []) := by
 rcases h with ⟨fl, rfl⟩ | ⟨rfl, a, fl, rfl⟩
 ·exact e19 k fl l (by omega) hs hl
 ·obtain ⟨k, rfl⟩ : ∃ m, k = m + 6 := ⟨k - 6, by omega⟩
  exact e19nil k a fl
theorem e62' (k : Nat) {v : AV} {l : List (Int × Int)} (h : IsT v l) (hk : 100 + l.length ≤ k) (hl : l.length ≤ 1000) : evF pr k 72 [v] [] = some (.bool (bOk l), []) := by
 rcases h with ⟨fl, rfl⟩ | ⟨rfl, a, fl, rfl⟩
 ·exact e62 k fl l (by omega) (by omega)
 ·obtain ⟨k, rfl⟩ : ∃ m, k = m + 6 := ⟨k - 6, by omega⟩
  exact e62nil k a fl
theorem e58' (k : Nat) {v : AV} {l : List (Int × Int)} (h : IsT v l) (hk : 100 + l.length ≤ k) (hl : l.length ≤ 1000) : evF pr k 81 [v] [] = some (.bool (bOk l), []) := by
 rcases h with ⟨fl, rfl⟩ | ⟨rfl, a, fl, rfl⟩
 ·exact e58 k fl l (by omega) (by omega)
 ·obtain ⟨k, rfl⟩ : ∃ m, k = m + 6 := ⟨k - 6, by omega⟩
  exact e58nil k a fl
theorem e53' (k : Nat) {v : AV} {l : List (Int × Int)} (h : IsT v l) (hu : UM l) (hk : 100 + l.length ≤ k) (hl : l.length ≤ 1000) : evF pr k 24 [v] [] = some (if bOk l then .tup [.str (putB l), .int .i64 0] else .tup [.str [], .int .i64 1], []) := by
 rcases h with ⟨fl, rfl⟩ | ⟨rfl, a, fl, rfl⟩
 ·exact e53 k fl l hu (by omega) hl
 ·obtain ⟨k, rfl⟩ : ∃ m, k = m + 6 := ⟨k - 6, by omega⟩
  exact e53nil k a fl
theorem e63' (k : Nat) {v : AV} {l : List (Int × Int)} (h : IsT v l) (hu : UM l) (hk : 100 + l.length ≤ k) (hok : bOk l = true) : evF pr k 51 [v] [] = some (.str (putB l), []) := by
 rcases h with ⟨fl, rfl⟩ | ⟨rfl, a, fl, rfl⟩
 ·exact e63 k fl l hu (by omega) hok
 ·obtain ⟨k, rfl⟩ : ∃ m, k = m + 6 := ⟨k - 6, by omega⟩
  exact e63nil k a fl
theorem e13' (k : Nat) {v : AV} {l : List Wr} (h : IsW v l) (hk : 240 ≤ k) (hok : wOk l = true) : evF pr k 53 [v] [] = some (.str (putW l), []) := by
 rcases h with ⟨fl, rfl⟩ | ⟨rfl, a, fl, rfl⟩
 ·exact e13 k fl l (by omega) hok
 ·obtain ⟨k, rfl⟩ : ∃ m, k = m + 6 := ⟨k - 6, by omega⟩
  exact e13nil k a fl
def IsZ (v : AV) (l : List Int) : Prop := (∃ fl, v = .sl 1 fl (l.map (AV.int .i64))) ∨ (l = [] ∧ ∃ a fl, v = .sl a fl [])
theorem IsL.sl {v : AV} {l : List (Int × Int)} (h : IsL v l) : ∃ a f xs, v = .sl a f xs ∧ xs.length = l.length := by
 rcases h with ⟨fl, rfl⟩ | ⟨rfl, a, fl, rfl⟩
 ·exact ⟨_, _, _, rfl, by simp⟩
 ·exact ⟨_, _, _, rfl, rfl⟩
theorem IsT.sl {v : AV} {l : List (Int × Int)} (h : IsT v l) : ∃ a f xs, v = .sl a f xs ∧ xs.length = l.length := by
 rcases h with ⟨fl, rfl⟩ | ⟨rfl, a, fl, rfl⟩
 ·exact ⟨_, _, _, rfl, by simp⟩
 ·exact ⟨_, _, _, rfl, rfl⟩
theorem IsW.sl {v : AV} {l : List Wr} (h : IsW v l) : ∃ a f xs, v = .sl a f xs ∧ xs.length = l.length := by
 rcases h with ⟨fl, rfl⟩ | ⟨rfl, a, fl, rfl⟩
 ·exact ⟨_, _, _, rfl, by simp⟩
 ·exact ⟨_, _, _, rfl, rfl⟩
theorem IsZ.sl {v : AV} {l : List Int} (h : IsZ v l) : ∃ a f xs, v = .sl a f xs ∧ xs.length = l.length := by
 rcases h with ⟨fl, rfl⟩ | ⟨rfl, a, fl, rfl⟩
 ·exact ⟨_, _, _, rfl, by simp⟩
 ·exact ⟨_, _, _, rfl, rfl⟩
def fitsI (z : Int) : Bool := decide (0 ≤ z ∧ z ≤ 1099511627776)
def lastAt (l : List (Int × Int)) : Int := (l.getD (l.length - 1) (0, 0)).2
def placedOk (l : List (Int × Int)) (z : Int) : Bool := lineOk l && decide (lastAt l ≤ z ∧ z ≤ 1099511627776)
def noneOk (l : List (Int × Int)) (z : Int) : Bool := decide (l.length = 0) && decide (z = 0)
theorem rplaced_tree (F : Fns) (N : Nat) (fl : Bool) (xs : List AV) (z : Int) : runOf F 33 N [.agg [.sl 2 fl xs, .int .i64 z]] [] =
 zRe (F 75 [AV.sl 2 fl xs] []) fun v bs => zBo v fun b => zNi bs (bif b then bif decide (z ≤ 1099511627776) then bif decide (0 ≤ IntKind.wrap .i64 ((xs.length : Int) - 1)) then zOp xs[Int.toNat (IntKind.wrap .i64 ((xs.length : Int) - 1))]? fun x => zAg x fun cs => zCo cs fun v r => zIn .i64 v fun n => zCo r fun v r => zIn .i64 v fun n => zNi r (some (AV.bool (decide (n ≤ z)), [])) else none else some (AV.bool false, []) else some (AV.bool false, [])) := by kernel_rfl
theorem lplaced_tree (F : Fns) (N : Nat) (fl : Bool) (xs : List AV) (z : Int) : runOf F 108 N [.agg [.sl 2 fl xs, .int .i64 z]] [] =
 zRe (F 119 [AV.sl 2 fl xs] []) fun v bs => zBo v fun b => zNi bs (bif b then bif decide (0 ≤ IntKind.wrap .i64 ((xs.length : Int) - 1)) then zOp xs[Int.toNat (IntKind.wrap .i64 ((xs.length : Int) - 1))]? fun x => zAg x fun cs => zCo cs fun v r => zIn .i64 v fun n => zCo r fun v r => zIn .i64 v fun n => zNi r (bif decide (z ≥ n) then some (AV.bool (decide (z ≤ 1099511627776)), []) else some (AV.bool false, [])) else none else some (AV.bool false, [])) := by kernel_rfl
theorem e57nil (k a : Nat) (fl : Bool) (z : Int) : evF pr (k + 6) 33 [.agg [.sl a fl [], .int .i64 z]] [] = some (.bool false, []) := by kernel_rfl
theorem e94nil (k a : Nat) (fl : Bool) (z : Int) : evF pr (k + 6) 108 [.agg [.sl a fl [], .int .i64 z]] [] = some (.bool false, []) := by kernel_rfl
theorem getLast (l : List (Int × Int)) (h : lineOk l = true) : 0 ≤ IntKind.wrap .i64 ((((l.map brV).length : Nat) : Int) - 1) ∧ ∃ e, (l.map brV)[Int.toNat (IntKind.wrap .i64 ((((l.map brV).length : Nat) : Int) - 1))]? = some (.agg [.int .i64 e, .int .i64 (lastAt l)]) := by
 have hl : l.length ≤ 64 ∧ 0 < l.length := by
  cases l with
  | nil => simp [lineOk] at h
  | cons b r =>
   rw [lineOk, Bool.and_eq_true, decide_eq_true_eq] at h
   exact ⟨h.1, by simp⟩
 have hw : IntKind.wrap .i64 ((((l.map brV).length : Nat) : Int) - 1) = ((l.length - 1 : Nat) : Int) := by
  rw [List.length_map, wrap_small (by omega) (by omega)]
  omega
 rw [hw, getBr l (l.length - 1) (by omega)]
 refine ⟨by omega, (l[l.length - 1]).1, ?_⟩
 have : lastAt l = (l[l.length - 1]).2 := by
  unfold lastAt
  rw [List.getD_eq_getElem?_getD, List.getElem?_eq_getElem (by omega)]
  rfl
 rw [this]
theorem e57 (k : Nat) (hk : 110 ≤ k) {v : AV} {l : List (Int × Int)} (h : IsL v l) (z : Int) : evF pr k 33 [.agg [v, .int .i64 z]] [] = some (.bool (placedOk l z), []) := by
 rcases h with ⟨fl, rfl⟩ | ⟨rfl, a, fl, rfl⟩
 ·obtain ⟨k, rfl⟩ : ∃ m, k = m + 1 := ⟨k - 1, by omega⟩
  rw [ev_step _ _ _ _ (by kernel_rfl), rplaced_tree, e46 k (by omega), placedOk]
  simp only [zRe, zBo, zNi]
  cases hok : lineOk l with
  | false => rfl
  | true =>
   obtain ⟨g1, e, g2⟩ := getLast l hok
   rw [decide_eq_true g1, g2]
   simp only [cond_true, zOp, zAg, zCo, zIn, if_true, zNi, Bool.true_and]
   by_cases h1 : z ≤ 1099511627776
   ·rw [decide_eq_true h1, show decide (lastAt l ≤ z ∧ z ≤ 1099511627776) = decide (lastAt l ≤ z) by rw [decide_eq_decide]; omega]
    rfl
   ·rw [decide_eq_false h1, decide_eq_false (show ¬ (lastAt l ≤ z ∧ z ≤ 1099511627776) by omega)]
    rfl
 ·obtain ⟨k, rfl⟩ : ∃ m, k = m + 6 := ⟨k - 6, by omega⟩
  exact e57nil k a fl z
theorem e94 (k : Nat) (hk : 110 ≤ k) {v : AV} {l : List (Int × Int)} (h : IsL v l) (z : Int) : evF pr k 108 [.agg [v, .int .i64 z]] [] = some (.bool (placedOk l z), []) := by
 rcases h with ⟨fl, rfl⟩ | ⟨rfl, a, fl, rfl⟩
 ·obtain ⟨k, rfl⟩ : ∃ m, k = m + 1 := ⟨k - 1, by omega⟩
  rw [ev_step _ _ _ _ (by kernel_rfl), lplaced_tree, e44 k (by omega), placedOk]
  simp only [zRe, zBo, zNi]
  cases hok : lineOk l with
  | false => rfl
  | true =>
   obtain ⟨g1, e, g2⟩ := getLast l hok
   rw [decide_eq_true g1, g2]
   simp only [cond_true, zOp, zAg, zCo, zIn, if_true, zNi, Bool.true_and]
   by_cases h1 : z ≥ lastAt l
   ·rw [decide_eq_true h1, show decide (lastAt l ≤ z ∧ z ≤ 1099511627776) = decide (z ≤ 1099511627776) by rw [decide_eq_decide]; omega]
    rfl
   ·rw [decide_eq_false h1, decide_eq_false (show ¬ (lastAt l ≤ z ∧ z ≤ 1099511627776) by omega)]
    rfl
 ·obtain ⟨k, rfl⟩ : ∃ m, k = m + 6 := ⟨k - 6, by omega⟩
  exact e94nil k a fl z
end Go.AM.YtnhfjkckgicidaaGreat

namespace Go.AM
open Go.RowKit Go.Lib Go.ChangeShapes Go.WideShapes
inductive Cn where
 | id
 | sl (z : Nat)
 | cells (l : List Cn)
 | tup (l : List Cn)
def can1 : Cn → AV → AV
 | .sl z, .sl s f xs => bif s == z then .sl z false xs else bif xs.isEmpty then .sl z false [] else .sl s f xs
 | _, v => v
def canL : List Cn → List AV → List AV
 | c :: r, v :: l => can1 c v :: canL r l
 | _, l => l
def canV : Cn → AV → AV
 | .cells l, .agg cs => .agg (canL l cs)
 | c, v => can1 c v
def canVs : List Cn → List AV → List AV
 | c :: r, v :: l => canV c v :: canVs r l
 | _, l => l
def canR : Cn → AV → AV
 | .tup l, .tup cs => .tup (canVs l cs)
 | c, v => canV c v
def cRes (c : Cn) : Res → Res
 | some (v, bs) => some (canR c v, bs)
 | none => none
abbrev Ct := List (Nat × (List Cn × Cn))
def ctA (ct : Ct) (f : Nat) : List Cn := match find f ct with | some p => p.1 | none => []
def ctR (ct : Ct) (f : Nat) : Cn := match find f ct with | some p => p.2 | none => .id
noncomputable def evW (pr : Prg) (old : List Nat) (ct : Ct) : Nat → Fns
 | 0, _, _, _ => none
 | k + 1, f, vs, bs => cRes (ctR ct f) (bif old.contains f then evF pr (k + 1) f (canVs (ctA ct f) vs) bs else match pr.f f with
  | some (.inl fx) => evFn (evW pr old ct k) pr.tb pr.sh fx k (canVs (ctA ct f) vs) bs
  | some (.inr g) => g (canVs (ctA ct f) vs) bs
  | none => none)
theorem cRes_id (r : Res) : cRes .id r = r := by
 cases r with
 | none => rfl
 | some p => obtain ⟨v, bs⟩ := p; cases v <;> rfl
section
variable {P : Program} {w : World} {D : Dead}
theorem can1_rep {c : Cn} {a : AV} {v : Value} (h : RepD w D a v) : RepD w D (can1 c a) v := by
 unfold can1
 split
 ·rename_i z s f xs
  cases hs : s == z with
  | true =>
   have : s = z := by simpa using hs
   subst this
   exact h.unfull
  | false =>
   cases hx : xs.isEmpty with
   | false => exact h
   | true =>
    have : xs = [] := by simpa using hx
    subst this
    cases h with
    | slN _ _ A cap hf => exact .slN z false A cap (by simp)
    | sl _ _ _ b o cap f hlc hf hs hc hr => exact .slN z false _ cap (by simp)
 ·exact h
theorem can1_cell {c : Cn} {a : AV} (h : a.cell1 = true) : (can1 c a).cell1 = true := by
 unfold can1
 split
 ·rename_i z s f xs
  cases s == z <;> cases xs.isEmpty <;> rfl
 ·exact h
theorem canL_length : ∀ (l : List Cn) (cs : List AV), (canL l cs).length = cs.length
 | [], cs => by cases cs <;> rfl
 | _ :: _, [] => rfl
 | _ :: r, _ :: l => by simp [canL, canL_length r l]
theorem canL_get : ∀ (l : List Cn) (cs : List AV) (i : Nat) (c : AV), (canL l cs)[i]? = some c → ∃ c0 n, cs[i]? = some c0 ∧ c = can1 n c0
 | [], cs, i, c, h => ⟨c, .id, by cases cs <;> exact h, by cases c <;> rfl⟩
 | n :: r, [], i, c, h => by simp [canL] at h
 | n :: r, v :: l, i, c, h => by
  cases i with
  | zero => simp [canL] at h; exact ⟨v, n, rfl, h.symm⟩
  | succ i => simp only [canL, List.getElem?_cons_succ] at h ⊢; exact canL_get r l i c h
theorem canV_rep {c : Cn} {a : AV} {v : Value} (h : RepD w D a v) : RepD w D (canV c a) v := by
 unfold canV
 split
 ·rename_i l cs
  cases h with
  | agg _ vs hn h1 h2 =>
   refine .agg _ vs (by rw [canL_length]; exact hn) (fun c hc => ?_) (fun i c v hi hj => ?_)
   ·obtain ⟨i, hi⟩ := List.getElem?_of_mem hc
    obtain ⟨c0, n, e1, rfl⟩ := canL_get _ _ _ _ hi
    exact can1_cell (h1 c0 (List.mem_of_getElem? e1))
   ·obtain ⟨c0, n, e1, rfl⟩ := canL_get _ _ _ _ hi
    exact can1_rep (h2 i c0 v e1 hj)
 ·exact can1_rep h
theorem canVs_length : ∀ (l : List Cn) (cs : List AV), (canVs l cs).length = cs.length
 | [], cs => by cases cs <;> rfl
 | _ :: _, [] => rfl
 | _ :: r, _ :: l => by simp [canVs, canVs_length r l]
theorem canV_id (c : AV) : canV .id c = c := by cases c <;> rfl
theorem canVs_get : ∀ (l : List Cn) (cs : List AV) (i : Nat) (c : AV), (canVs l cs)[i]? = some c → ∃ c0 n, cs[i]? = some c0 ∧ c = canV n c0
 | [], cs, i, c, h => ⟨c, .id, by cases cs <;> exact h, (canV_id c).symm⟩
 | n :: r, [], i, c, h => by simp [canVs] at h
 | n :: r, v :: l, i, c, h => by
  cases i with
  | zero => simp [canVs] at h; exact ⟨v, n, rfl, h.symm⟩
  | succ i => simp only [canVs, List.getElem?_cons_succ] at h ⊢; exact canVs_get r l i c h
theorem canV_ptr {c : Cn} {v : AV} : (∃ k g o, v = .ptr k g o ∧ canV c v = .ptr k g o) ∨ ((∀ k g o, v ≠ .ptr k g o) ∧ ∀ k g o, canV c v ≠ .ptr k g o) := by
 cases v with
 | ptr k g o => left; exact ⟨k, g, o, rfl, by cases c <;> rfl⟩
 | sl s f xs =>
  right
  refine ⟨by simp, fun k g o => ?_⟩
  cases c with
  | sl z => simp only [canV, can1]; cases s == z <;> cases xs.isEmpty <;> simp
  | _ => simp [canV, can1]
 | _ => right; refine ⟨by simp, fun k g o => ?_⟩; cases c <;> simp [canV, can1]
theorem args_can {B : Nat → Nat} {l : List Cn} {vs : List AV} {args : Array Value} (h : ArgsRep w D B vs args) : ArgsRep w D B (canVs l vs) args := by
 refine ⟨by rw [canVs_length]; exact h.1, fun i v cv hi hj => ?_⟩
 obtain ⟨c0, n, e1, rfl⟩ := canVs_get _ _ _ _ hi
 have := h.2 i c0 cv e1 hj
 rcases canV_ptr (c := n) (v := c0) with ⟨k, g, o, rfl, e⟩ | ⟨h1, h2⟩
 ·rw [e]; exact this
 ·have h0 : RepD w D c0 cv := by cases c0 <;> first | exact this | exact absurd rfl (h1 _ _ _)
  have h3 := canV_rep (c := n) h0
  generalize canV n c0 = x at h2 h3
  cases x <;> first | exact h3 | exact absurd rfl (h2 _ _ _)
theorem res_can {c : Cn} {r : AV} {cv : Value} (h : RepR w D r cv) : RepR w D (canR c r) cv := by
 unfold canR
 split
 ·rename_i l cs
  obtain ⟨arr, e, hn, hh⟩ := h
  refine ⟨arr, e, by rw [canVs_length]; exact hn, fun i c cv hi hj => ?_⟩
  obtain ⟨c0, n, e1, rfl⟩ := canVs_get _ _ _ _ hi
  exact canV_rep (hh i c0 cv e1 hj)
 ·cases r with
  | tup l => cases c <;> exact h
  | _ =>
   have h3 := canV_rep (c := c) (show RepD w D _ cv from h)
   generalize hx : canV c _ = x at h3
   cases x <;> first | exact h3 | (cases h3; done)
theorem OverOk.can {f : Nat} {g : Over} (h : OverOk P f g) (l : List Cn) (c : Cn) : OverOk P f (fun vs bs => cRes c (g (canVs l vs) bs)) := by
 intro vs bs r bs' hg
 simp only [cRes] at hg
 split at hg
 ·rename_i v bs1 hg1
  simp only [Option.some.injEq, Prod.mk.injEq] at hg
  obtain ⟨rfl, rfl⟩ := hg
  obtain ⟨h1, h2⟩ := h _ _ _ _ hg1
  refine ⟨h1, fun w D B args hD ha hb hi hl => (h2 w D B args hD (args_can ha) hb hi hl).mono fun e w' hp => ?_⟩
  obtain ⟨cv, D', q1, q2, q3⟩ := hp
  exact ⟨cv, D', q1, res_can q2, q3⟩
 ·simp at hg
theorem evW_sound {pr : Prg} (hP : PrgOk P pr) (hls : ∀ f fx, pr.f f = some (.inl fx) → fx.ls = []) (old : List Nat) (ct : Ct) : ∀ k, SoundF P (evW pr old ct k)
 | 0 => fun f vs bs r bs' h => by simp [evW] at h
 | k + 1 => fun f vs bs r bs' h => by
  have key : ∀ {g : Over}, OverOk P f g → cRes (ctR ct f) (g (canVs (ctA ct f) vs) bs) = some (r, bs') → _ := fun hg hh => hg.can (ctA ct f) (ctR ct f) vs bs r bs' hh
  unfold evW at h
  cases ho : old.contains f with
  | true =>
   rw [ho] at h
   exact key (fun vs bs r bs' hh => evF_sound hP (k + 1) f vs bs r bs' hh) h
  | false =>
   rw [ho] at h
   simp only [cond_false] at h
   split at h
   ·rename_i fx hf
    exact key (evFn_sound (evW_sound hP hls old ct k) hP.tb (hP.fn f fx hf) (fun c hc c' hc' LS hLS => by rw [hls f fx hf] at hLS; simp [find] at hLS) k) h
   ·rename_i g hg
    exact key (hP.over f g hg) h
   ·simp [cRes] at h
variable {H : Type} {enc : TypeId × Value → H} {W : World} {spare : Nat → Bool} {held : Bool} {base : Nat}
theorem law_callsW {F : Nat → Fns} (hF : ∀ k, SoundF P (F k)) {f n : Nat} {ts : List TypeId} (hts : ts.all (plainT P n) = true) {args : Array Value} {ds : List (DataW H)} {ps : List MemPlace} (hv : ∀ (j : Nat) t v, ts[j]? = some t → args[j]? = some v → Value.okWide P W .any base t v)
  (hA : DataW.TrodAll enc P W 0 spare held ts args.toList ds ps) (hw : (DataW.weightsEach P ts ds).all (· ≤ reachBytes) = true) (law : ∀ avs, WtArgs P n ts avs → ∃ k, F k f avs [] = some (.bool true, [])) :
  Calls P f args W fun e W' => e = .returned (.bool true) ∧ Below W.heap.size W W' := by
 obtain ⟨avs, h1, h2, h3⟩ := args_rep hts (fun j t v ht hj => hv j t v ht (by simpa using hj)) hA (fun m hm => by simpa using List.all_eq_true.1 hw m hm)
 obtain ⟨k, hk⟩ := law avs h1
 obtain ⟨_, hc⟩ := hF k f avs [] _ _ hk
 refine (hc W (oldD W) (fun _ => 0) args (fun b o h => h) ⟨by simpa using h2.symm, fun i v cv hi hj => ?_⟩ (by intro n cs h; simp at h) (by intro m n hm; simp at hm) (by intro n hn; simp at hn)).mono fun e W' hp => ?_
 ·obtain ⟨q1, q2⟩ := h3 i v cv hi (by simpa using hj)
  cases v <;> first | exact q1 | exact absurd rfl (q2 _ _ _)
 ·obtain ⟨cv, D', rfl, hR, _, _, hA⟩ := hp
  have : cv = .bool true := by cases (show RepD W' D' (.bool true) cv from hR); rfl
  subst this
  exact ⟨rfl, hA.os, hA.tape, hA.output, hA.size, fun b hb => hA.block b hb (by intro n hn; simp at hn)⟩
end
end Go.AM

namespace Go.AM.YtnhfjkckgicidaaGreat
open Go.AM Go.Proofs Go
noncomputable def ct : Ct := [
 (3, ([.cells [.id, .id, .id, .id, .sl 2, .id, .sl 2, .id, .sl 3, .sl 2, .id, .sl 2, .sl 3, .id, .id, .id, .id, .sl 3, .id, .sl 3, .sl 3]], .id)),
 (6, ([.sl 26], .id)),
 (7, ([.cells [.id, .id, .id, .id, .sl 2, .id, .sl 2, .id, .sl 3, .sl 2, .id, .sl 2, .sl 3, .id, .id, .id, .id, .sl 3, .id, .sl 3, .sl 3]], .id)),
 (9, ([.cells [.id, .id, .id, .id, .sl 2, .id, .sl 2, .id, .sl 3, .sl 2, .id, .sl 2, .sl 3, .id, .id, .id, .id, .sl 3, .id, .sl 3, .sl 3]], .id)),
 (10, ([.cells [.id, .id, .id, .id, .sl 2, .id, .sl 2, .id, .sl 3, .sl 2, .id, .sl 2, .sl 3, .id, .id, .id, .id, .sl 3, .id, .sl 3, .sl 3]], .id)),
 (11, ([], .tup [.cells [.id, .id, .id, .id, .sl 2, .id, .sl 2, .id, .sl 3, .sl 2, .id, .sl 2, .sl 3, .id, .id, .id, .id, .sl 3, .id, .sl 3, .sl 3], .id])),
 (12, ([.cells [.id, .id, .id, .id, .sl 2, .id, .sl 2, .id, .sl 3, .sl 2, .id, .sl 2, .sl 3, .id, .id, .id, .id, .sl 3, .id, .sl 3, .sl 3]], .id)),
 (13, ([.cells [.id, .id, .id, .id, .sl 2, .id, .sl 2, .id, .sl 3, .sl 2, .id, .sl 2, .sl 3, .id, .id, .id, .id, .sl 3, .id, .sl 3, .sl 3], .cells [.id, .id, .id, .id, .sl 2, .id, .sl 2, .id, .sl 3, .sl 2, .id, .sl 2, .sl 3, .id, .id, .id, .id, .sl 3, .id, .sl 3, .sl 3]], .id)),
 (14, ([], .tup [.cells [.id, .id, .id, .id, .sl 2, .id, .sl 2, .id, .sl 3, .sl 2, .id, .sl 2, .sl 3, .id, .id, .id, .id, .sl 3, .id, .sl 3, .sl 3], .id])),
 (15, ([], .tup [.sl 26, .id])),
 (16, ([], .tup [.sl 1, .id, .id])),
 (17, ([.sl 26], .id)),
 (18, ([.sl 1], .id)),
 (19, ([.sl 2, .sl 3], .id)),
 (20, ([.cells [.sl 3, .sl 3]], .id)),
 (21, ([], .cells [.id, .id, .id, .id, .sl 2, .id, .sl 2, .id, .sl 3, .sl 2, .id, .sl 2, .sl 3, .id, .id, .id, .id, .sl 3, .id, .sl 3, .sl 3])),
 (22, ([.cells [.id, .id, .id, .id, .sl 2, .id, .sl 2, .id, .sl 3, .sl 2, .id, .sl 2, .sl 3, .id, .id, .id, .id, .sl 3, .id, .sl 3, .sl 3]], .id)),
 (24, ([.sl 2], .id)),
 (26, ([.sl 1], .id)),
 (27, ([.sl 2], .id)),
 (28, ([.sl 2], .id)),
 (29, ([.sl 3], .id)),
 (31, ([.cells [.sl 2]], .id)),
 (32, ([.cells [.id, .id, .id, .id, .sl 2, .id, .sl 2, .id, .sl 3, .sl 2, .id, .sl 2, .sl 3, .id, .id, .id, .id, .sl 3, .id, .sl 3, .sl 3]], .cells [.sl 2])),
 (33, ([.cells [.sl 2]], .id)),
 (34, ([.sl 2], .id)),
 (35, ([.sl 2], .id)),
 (36, ([.sl 3, .sl 2], .id)),
 (37, ([.cells [.sl 2], .cells [.sl 2]], .id)),
 (38, ([.sl 2, .sl 2], .id)),
 (39, ([.cells [.id, .id, .id, .id, .sl 2, .id, .sl 2, .id, .sl 3, .sl 2, .id, .sl 2, .sl 3, .id, .id, .id, .id, .sl 3, .id, .sl 3, .sl 3]], .id)),
 (42, ([], .sl 2)),
 (43, ([], .tup [.sl 2, .id, .id])),
 (44, ([.id, .sl 2], .sl 2)),
 (45, ([], .sl 2)),
 (46, ([], .sl 3)),
 (50, ([.sl 2], .id)),
 (51, ([.sl 2], .id)),
 (52, ([.sl 2], .id)),
 (53, ([.sl 3], .id)),
 (55, ([.sl 3, .sl 3], .id)),
 (56, ([.sl 2, .sl 2], .id)),
 (57, ([.sl 2, .sl 2], .id)),
 (58, ([.sl 2, .sl 2], .id)),
 (59, ([.cells [.sl 3, .sl 3], .cells [.sl 3, .sl 3]], .id)),
 (61, ([], .sl 2)),
 (62, ([], .tup [.sl 2, .id, .id])),
 (63, ([.id, .cells [.id, .id, .id, .id, .sl 2, .id, .sl 2, .id, .sl 3, .sl 2, .id, .sl 2, .id, .id, .id, .id, .id, .sl 3, .id, .id, .sl 3]], .tup [.cells [.id, .id, .id, .id, .sl 2, .id, .sl 2, .id, .sl 3, .sl 2, .id, .sl 2, .sl 3, .id, .id, .id, .id, .sl 3, .id, .sl 3, .sl 3], .id])),
 (64, ([], .tup [.sl 1, .id, .id])),
 (66, ([.sl 1], .id)),
 (68, ([.cells [.id, .id, .id, .id, .sl 2, .id, .sl 2, .id, .sl 3, .sl 2, .id, .sl 2, .sl 3, .id, .id, .id, .id, .sl 3, .id, .sl 3, .sl 3]], .id)),
 (69, ([.cells [.id, .id, .id, .id, .sl 2, .id, .sl 2, .id, .sl 3, .sl 2, .id, .sl 2, .sl 3, .id, .id, .id, .id, .sl 3, .id, .sl 3, .sl 3]], .id)),
 (70, ([.cells [.id, .id, .id, .id, .sl 2, .id, .sl 2, .id, .sl 3, .sl 2, .id, .sl 2, .sl 3, .id, .id, .id, .id, .sl 3, .id, .sl 3, .sl 3]], .id)),
 (71, ([.cells [.id, .id, .id, .id, .sl 2, .id, .sl 2, .id, .sl 3, .sl 2, .id, .sl 2, .sl 3, .id, .id, .id, .id, .sl 3, .id, .sl 3, .sl 3]], .id)),
 (72, ([.sl 2], .id)),
 (73, ([.sl 2], .id)),
 (74, ([.sl 3], .id)),
 (75, ([.sl 2], .id)),
 (76, ([.sl 2, .sl 3], .id)),
 (77, ([.sl 3], .sl 3)),
 (78, ([.sl 2, .sl 2], .id)),
 (79, ([.sl 2], .sl 2)),
 (80, ([.sl 2], .id)),
 (81, ([.sl 2], .id)),
 (82, ([.cells [.id, .id, .id, .id, .sl 2, .id, .sl 2, .id, .sl 3, .sl 2, .id, .sl 2, .sl 3, .id, .id, .id, .id, .sl 3, .id, .sl 3, .sl 3]], .id)),
 (83, ([.cells [.sl 3, .sl 3]], .id)),
 (84, ([.cells [.sl 3, .sl 3]], .id)),
 (85, ([.cells [.sl 3, .sl 3]], .sl 3)),
 (86, ([.sl 3], .id)),
 (87, ([.cells [.id, .id, .id, .id, .sl 2, .id, .sl 2, .id, .sl 3, .sl 2, .id, .sl 2, .sl 3, .id, .id, .id, .id, .sl 3, .id, .sl 3, .sl 3]], .id)),
 (90, ([], .tup [.sl 2, .id, .id])),
 (91, ([.id, .sl 2], .sl 2)),
 (93, ([.id, .sl 1], .sl 1)),
 (94, ([], .tup [.sl 3, .id, .id])),
 (95, ([.id, .sl 3], .sl 3)),
 (101, ([], .tup [.sl 2, .id, .id])),
 (102, ([], .sl 3)),
 (105, ([.sl 1], .id)),
 (106, ([.cells [.sl 2]], .id)),
 (107, ([.cells [.id, .id, .id, .id, .sl 2, .id, .sl 2, .id, .sl 3, .sl 2, .id, .sl 2, .sl 3, .id, .id, .id, .id, .sl 3, .id, .sl 3, .sl 3]], .cells [.sl 2])),
 (108, ([.cells [.sl 2]], .id)),
 (109, ([.sl 2], .id)),
 (110, ([.sl 2], .id)),
 (111, ([.sl 3, .sl 2], .id)),
 (112, ([.cells [.sl 2], .cells [.sl 2]], .id)),
 (113, ([.sl 2, .sl 2], .id)),
 (114, ([.sl 2, .sl 3], .id)),
 (115, ([.cells [.id, .id, .id, .id, .sl 2, .id, .sl 2, .id, .sl 3, .sl 2, .id, .sl 2, .sl 3, .id, .id, .id, .id, .sl 3, .id, .sl 3, .sl 3]], .id)),
 (116, ([.cells [.sl 3, .sl 3]], .id)),
 (117, ([.cells [.sl 3, .sl 3]], .id)),
 (118, ([.cells [.id, .id, .id, .id, .sl 2, .id, .sl 2, .id, .sl 3, .sl 2, .id, .sl 2, .sl 3, .id, .id, .id, .id, .sl 3, .id, .sl 3, .sl 3]], .id)),
 (119, ([.sl 2], .id)),
 (120, ([.sl 1], .id)),
 (121, ([.sl 3], .id)),
 (123, ([.sl 2], .id)),
 (126, ([.sl 3], .id)),
 (127, ([], .sl 2)),
 (128, ([], .sl 3)),
 (130, ([.sl 2], .id)),
 (131, ([], .tup [.sl 3, .id, .id])),
 (132, ([.sl 1], .id)),
 (135, ([.sl 1], .id)),
 (137, ([.sl 3], .id)),
 (138, ([.cells [.sl 2], .cells [.sl 2]], .id)),
 (139, ([.sl 1], .id)),
 (140, ([.sl 2], .sl 2)),
 (141, ([.sl 2], .id)),
 (142, ([.cells [.sl 3, .sl 3]], .id)),
 (144, ([.sl 3], .id)),
 (147, ([.sl 1], .id)),
 (148, ([.sl 1], .id)),
 (150, ([.sl 3], .id)),
 (151, ([.sl 1], .id))]
def old : List Nat := [26,119,108,134,135,136,110,153,152,149,137,72,23,104,144,145,121,74,24,120,73,92,88,146,127,90,43,103,128,94,75,33,35,55,122,77,124,81,86,96,97,98,50,51,99,53,56,58,100,129,130,101,62,131]
noncomputable def W (k : Nat) : Fns := evW pr old ct k
theorem W_tree {k f : Nat} {vs vs' : List AV} {bs : Boxes} {r : Res} (hr : runOf (W k) f k vs' bs = r) (h : (bif old.contains f then false else (find f fnl).isSome, canVs (ctA ct f) vs) = (true, vs')) : W (k + 1) f vs bs = cRes (ctR ct f) r := by
 simp only [Prod.mk.injEq] at h
 obtain ⟨h1, rfl⟩ := h
 subst hr
 cases ho : old.contains f with
 | true => rw [ho] at h1; simp at h1
 | false =>
  rw [ho] at h1
  simp only [cond_false] at h1
  obtain ⟨fx, hfx⟩ := Option.isSome_iff_exists.1 h1
  have e : pr.f f = some (.inl fx) := by
   show mkF fnl [] f = _
   simp [mkF, find, hfx]
  unfold W
  simp only [evW, ho, cond_false, e]
  unfold runOf fxOf
  rw [hfx]
  rfl
theorem W_tree0 {k f : Nat} {vs vs' : List AV} {bs : Boxes} {r : Res} (hr : runOf (W k) f k vs' bs = r) (h : (bif old.contains f then false else (find f fnl).isSome, canVs (ctA ct f) vs, ctR ct f) = (true, vs', Cn.id)) : W (k + 1) f vs bs = r := by
 simp only [Prod.mk.injEq] at h
 rw [W_tree hr (by rw [h.1, h.2.1]), h.2.2, cRes_id]
theorem W_old {k f : Nat} {vs vs' : List AV} {bs : Boxes} {r : Res} (hr : evF pr k f vs' bs = r) (hk : 1 ≤ k) (h : (old.contains f, canVs (ctA ct f) vs) = (true, vs')) : W k f vs bs = cRes (ctR ct f) r := by
 obtain ⟨k, rfl⟩ : ∃ m, k = m + 1 := ⟨k - 1, by omega⟩
 simp only [Prod.mk.injEq] at h
 obtain ⟨h1, rfl⟩ := h
 subst hr
 unfold W
 simp only [evW, h1, cond_true]
theorem W_old0 {k f : Nat} {vs vs' : List AV} {bs : Boxes} {r : Res} (hr : evF pr k f vs' bs = r) (hk : 1 ≤ k) (h : (old.contains f, canVs (ctA ct f) vs, ctR ct f) = (true, vs', Cn.id)) : W k f vs bs = r := by
 simp only [Prod.mk.injEq] at h
 rw [W_old hr hk (by rw [h.1, h.2.1]), h.2.2, cRes_id]
theorem W_arg {k f : Nat} {vs vs' : List AV} {bs : Boxes} {r : Res} (hr : W k f vs' bs = r) (h : canVs (ctA ct f) vs = canVs (ctA ct f) vs') : W k f vs bs = r := by
 rw [← hr]
 cases k with
 | zero => rfl
 | succ k => unfold W; simp only [evW, h]
theorem succ1 {k : Nat} (h : 1 ≤ k) : ∃ m, k = m + 1 := ⟨k - 1, by omega⟩
theorem loopA_ind {α : Type} {body : St → (Ex → St → Res) → Res} {dead : List Nat} {K : Ex → St → Res} (S : α → St) (μ : α → Nat) (Q : α → Res → Prop)
  (h : ∀ (a : α) (m : Nat), (∀ (a' : α) (st : St), μ a' < μ a → st.clean dead = S a' → Q a' (loopA body dead K m st)) → Q a (body (S a) (brk K fun st' => loopA body dead K m st'))) :
  ∀ (m : Nat) (a : α) (st : St), μ a < m → st.clean dead = S a → Q a (loopA body dead K m st)
 | 0, a, st, hm, hs => by omega
 | m + 1, a, st, hm, hs => by
  rw [loopA_succ, hs]
  exact h a m fun a' st' ha hs' => loopA_ind S μ Q h m a' st' (by omega) hs'
abbrev Shot := Int × Int × List Wr
def shV (s : Shot) : AV := .agg [.int .i64 s.1, .int .i64 s.2.1, .sl 3 false (s.2.2.map wrV)]
structure Nd where (ro : Int) (st va : Bool) (kn : Int) (ln : List (Int × Int)) (sq : Int) (vs : List Vol) (sh : Bool) (kp : List Wr) (al : List (Int × Int)) (aq : Int) (ch : List (Int × Int)) (ss : List Shot) (sn md sy : Int) (fu : Bool) (cp : List Wr) (go : Int) (qs : List Shot) (qo : List Wr) (qf qt fr fn nx : Int)
abbrev lnV (l : List (Int × Int)) : AV := .sl 2 false (l.map brV)
abbrev wsV (l : List Wr) : AV := .sl 3 false (l.map wrV)
abbrev vsV (l : List Vol) : AV := .sl 2 false (l.map (volV false))
abbrev btsV (l : List (Int × Int)) : AV := .sl 2 false (l.map btV)
abbrev shsV (l : List Shot) : AV := .sl 3 false (l.map shV)
abbrev ndL (n : Nd) : List AV := [.int .i64 n.ro, .bool n.st, .bool n.va, .int .i64 n.kn, lnV n.ln, .int .i64 n.sq, vsV n.vs, .bool n.sh, wsV n.kp, lnV n.al, .int .i64 n.aq, btsV n.ch, shsV n.ss, .int .i64 n.sn, .int .i64 n.md, .int .i64 n.sy, .bool n.fu, wsV n.cp, .int .i64 n.go, shsV n.qs, wsV n.qo, .int .i64 n.qf, .int .i64 n.qt, .int .i64 n.fr, .int .i64 n.fn, .int .i64 n.nx]
abbrev isV (l : List Int) : AV := .sl 1 false (l.map (AV.int .i64))
def idxS (xs : List AV) (len i : Int) : St := ⟨19, [(0, AV.sl 1 false xs), (1, AV.fn 133), (4, AV.int .i64 0), (7, AV.int .i64 len), (8, AV.int .i64 i)], [], [], [], [], []⟩
theorem idx_tree (F : Fns) (N : Nat) (l : List Int) : runOf F 147 N [isV l, .fn 133] [] =
 loopA (zBy F 147 0 N) (zDe 147 0) (zCt F 147 0 N 0) N { nt := 19, t := [(0, isV l), (1, AV.fn 133), (4, AV.int .i64 0), (7, AV.int .i64 ((List.length (List.map (AV.int .i64) l) : Nat) : Int)), (8, AV.int .i64 0)], b := [], r := [], g := [], rd := [], wr := [] } := by kernel_rfl
theorem idx_body (F : Fns) (N : Nat) (l : List Int) (len i : Int) (KN : St → Res) : zBy F 147 0 N (idxS (l.map (AV.int .i64)) len i) (brk (zCt F 147 0 N 0) KN) =
 bif decide (i < len) then bif decide (0 ≤ i) then zOp (List.map (AV.int .i64) l)[Int.toNat i]? fun x => zIn .i64 x fun n => zRe (F 133 [AV.int .i64 n] []) fun v bs => zBo v fun b => zNi bs (bif b then some (AV.int .i64 i, []) else KN { nt := 19, t := [(0, isV l), (1, AV.fn 133), (4, AV.int .i64 0), (5, AV.int .i64 i), (7, AV.int .i64 len), (8, AV.int .i64 (IntKind.wrap .i64 (i + 1))), (9, AV.bool (decide (i < len))), (16, AV.bool b)], b := [], r := [], g := [], rd := [], wr := [] }) else none else some (AV.int .i64 (-1), []) := by kernel_rfl
theorem nums1_tree (F : Fns) (N : Nat) (z : Int) : runOf F 133 N [.int .i64 z] [] =
 bif decide (z < 0) then some (AV.bool true, []) else some (AV.bool (decide (z > 1099511627776)), []) := by kernel_rfl
theorem cont_tree (F : Fns) (N : Nat) (l : List Int) : runOf F 132 N [isV l, .fn 133] [] =
 zRe (F 147 [isV l, AV.fn 133] []) fun v bs => zIn .i64 v fun n => zNi bs (some (AV.bool (decide (n ≥ 0)), [])) := by kernel_rfl
theorem nums_tree (F : Fns) (N : Nat) (l : List Int) : runOf F 105 N [isV l] [] =
 zRe (F 132 [isV l, AV.fn 133] []) fun v bs => zBo v fun b => zNi bs (some (AV.bool !b, [])) := by kernel_rfl
theorem none_tree (F : Fns) (N : Nat) (l : List (Int × Int)) (z : Int) : runOf F 106 N [.agg [lnV l, .int .i64 z]] [] =
 bif ((List.length (List.map brV l) : Nat) : Int) == 0 then some (AV.bool (z == 0), []) else some (AV.bool false, []) := by kernel_rfl
theorem place_tree (F : Fns) (N : Nat) (n : Nd) : runOf F 107 N [.agg (ndL n)] [] =
 some (AV.agg [lnV (Nd.ln n), AV.int .i64 (Nd.sq n)], []) := by kernel_rfl
theorem last_tree (F : Fns) (N : Nat) (l : List (Int × Int)) : runOf F 109 N [lnV l] [] =
 zRe (F 119 [lnV l] []) fun v bs => zBo v fun b => zNi bs (bif !b then some (AV.int .i64 0, []) else bif decide (0 ≤ IntKind.wrap .i64 (((List.length (List.map brV l) : Nat) : Int) - 1)) then zOp (List.map brV l)[Int.toNat (IntKind.wrap .i64 (((List.length (List.map brV l) : Nat) : Int) - 1))]? fun x => zAg x fun cs => zCo cs fun v r => zIn .i64 v fun n => zCo r fun v r => zIn .i64 v fun n_1 => zNi r (some (AV.int .i64 n, [])) else none) := by kernel_rfl
theorem stands_tree (F : Fns) (N : Nat) (n : Nd) : runOf F 68 N [.agg (ndL n)] [] =
 bif Nd.ro n != 1 then bif Nd.ro n != 2 then some (AV.bool false, []) else bif decide (Nd.md n < 0) then some (AV.bool false, []) else bif decide (Nd.md n > 4) then some (AV.bool false, []) else zRe (F 105 [AV.sl 1 true [AV.int .i64 (Nd.kn n), AV.int .i64 (Nd.sy n), AV.int .i64 (Nd.sn n), AV.int .i64 (Nd.fr n), AV.int .i64 (Nd.fn n), AV.int .i64 (Nd.nx n)]] []) fun v bs => zBo v fun b => zNi bs (bif !b then some (AV.bool false, []) else zRe (F 107 [AV.agg (ndL n)] []) fun v bs => zAg v fun cs => zCo cs fun v r => asSl v fun m fl xs => zCo r fun v r => zIn .i64 v fun n_1 => zNi r (zNi bs (zRe (F 106 [AV.agg [AV.sl m fl xs, AV.int .i64 n_1]] []) fun v bs => zBo v fun b => zNi bs (bif b then bif Nd.ro n == 2 then some (AV.bool !Nd.va n, []) else some (AV.bool false, []) else zRe (F 107 [AV.agg (ndL n)] []) fun v bs => zAg v fun cs => zCo cs fun v r => asSl v fun m fl xs => zCo r fun v r => zIn .i64 v fun n_2 => zNi r (zNi bs (zRe (F 108 [AV.agg [AV.sl m fl xs, AV.int .i64 n_2]] []) fun v bs => zBo v fun b => zNi bs (bif !b then some (AV.bool false, []) else zRe (F 109 [lnV (Nd.ln n)] []) fun v bs => zIn .i64 v fun n_3 => zNi bs (bif decide (n_3 > Nd.kn n) then some (AV.bool false, []) else bif Nd.ro n == 2 then some (AV.bool true, []) else bif Nd.va n then bif !Nd.st n then zRe (F 109 [lnV (Nd.ln n)] []) fun v bs => zIn .i64 v fun n_4 => zNi bs (some (AV.bool (Nd.kn n == n_4), [])) else some (AV.bool false, []) else some (AV.bool false, []))))))))) else bif decide (Nd.md n < 0) then some (AV.bool false, []) else bif decide (Nd.md n > 4) then some (AV.bool false, []) else zRe (F 105 [AV.sl 1 true [AV.int .i64 (Nd.kn n), AV.int .i64 (Nd.sy n), AV.int .i64 (Nd.sn n), AV.int .i64 (Nd.fr n), AV.int .i64 (Nd.fn n), AV.int .i64 (Nd.nx n)]] []) fun v bs => zBo v fun b => zNi bs (bif !b then some (AV.bool false, []) else zRe (F 107 [AV.agg (ndL n)] []) fun v bs => zAg v fun cs => zCo cs fun v r => asSl v fun m fl xs => zCo r fun v r => zIn .i64 v fun n_1 => zNi r (zNi bs (zRe (F 106 [AV.agg [AV.sl m fl xs, AV.int .i64 n_1]] []) fun v bs => zBo v fun b => zNi bs (bif b then bif Nd.ro n == 2 then some (AV.bool !Nd.va n, []) else some (AV.bool false, []) else zRe (F 107 [AV.agg (ndL n)] []) fun v bs => zAg v fun cs => zCo cs fun v r => asSl v fun m fl xs => zCo r fun v r => zIn .i64 v fun n_2 => zNi r (zNi bs (zRe (F 108 [AV.agg [AV.sl m fl xs, AV.int .i64 n_2]] []) fun v bs => zBo v fun b => zNi bs (bif !b then some (AV.bool false, []) else zRe (F 109 [lnV (Nd.ln n)] []) fun v bs => zIn .i64 v fun n_3 => zNi bs (bif decide (n_3 > Nd.kn n) then some (AV.bool false, []) else bif Nd.ro n == 2 then some (AV.bool true, []) else bif Nd.va n then bif !Nd.st n then zRe (F 109 [lnV (Nd.ln n)] []) fun v bs => zIn .i64 v fun n_4 => zNi bs (some (AV.bool (Nd.kn n == n_4), [])) else some (AV.bool false, []) else some (AV.bool false, []))))))))) := by kernel_rfl
theorem x133 (k : Nat) (hk : 1 ≤ k) (z : Int) : W k 133 [.int .i64 z] [] = some (.bool (!fitsI z), []) := by
 obtain ⟨k, rfl⟩ := succ1 hk
 refine (W_tree0 (nums1_tree (W k) k z) (by kernel_rfl)).trans ?_
 grind [fitsI]
theorem x147 (k : Nat) (l : List Int) (hk : l.length + 2 ≤ k) (hl : l.length ≤ 100000) : ∃ z, W k 147 [isV l, .fn 133] [] = some (.int .i64 z, []) ∧ decide (z ≥ 0) = !(l.all fitsI) := by
 obtain ⟨k, rfl⟩ := succ1 (show 1 ≤ k by omega)
 rw [W_tree0 (idx_tree (W k) k l) (by kernel_rfl), List.length_map]
 refine loopA_ind (fun i : Nat => idxS (l.map (AV.int .i64)) l.length i) (fun i => l.length - i) (fun i r => ∃ z, r = some (.int .i64 z, []) ∧ decide (z ≥ 0) = !((l.drop i).all fitsI)) (fun i m ih => ?_) k 0 _ (by omega) (by kernel_rfl)
 rw [idx_body]
 by_cases hi : i < l.length
 ·rw [decide_eq_true (show (i : Int) < l.length by omega), decide_eq_true (show (0 : Int) ≤ i by omega), Int.toNat_natCast, List.getElem?_map, List.getElem?_eq_getElem hi, List.drop_eq_getElem_cons hi, List.all_cons, wrap_small (n := (i : Int) + 1) (by omega) (by omega)]
  simp only [cond_true, Option.map_some, zOp, zIn, if_true, x133 k (by omega), zRe, zBo, zNi]
  cases fitsI l[i] with
  | false => exact ⟨i, rfl, by simp⟩
  | true => exact ih (i + 1) _ (by omega) (by kernel_rfl)
 ·rw [decide_eq_false (by omega), List.drop_eq_nil_of_le (by omega)]
  exact ⟨-1, rfl, rfl⟩
theorem x105 (k : Nat) (l : List Int) (hk : l.length + 5 ≤ k) (hl : l.length ≤ 100000) : W k 105 [isV l] [] = some (.bool (l.all fitsI), []) := by
 obtain ⟨k, rfl⟩ := succ1 (show 1 ≤ k by omega)
 obtain ⟨k, rfl⟩ := succ1 (show 1 ≤ k by omega)
 rw [W_tree0 (nums_tree (W (k + 1)) (k + 1) l) (by kernel_rfl), W_tree0 (cont_tree (W k) k l) (by kernel_rfl)]
 obtain ⟨z, h1, h2⟩ := x147 k l (by omega) hl
 rw [show W k 147 [AV.sl 1 false (List.map (AV.int .i64) l), AV.fn 133] [] = _ from h1]
 simp only [zRe, zIn, if_true, zNi, zBo, h2, Bool.not_not]
theorem x106 (k : Nat) (hk : 1 ≤ k) (l : List (Int × Int)) (z : Int) : W k 106 [.agg [lnV l, .int .i64 z]] [] = some (.bool (noneOk l z), []) := by
 obtain ⟨k, rfl⟩ := succ1 hk
 rw [W_tree0 (none_tree (W k) k l z) (by kernel_rfl), List.length_map, noneOk]
 by_cases h : l.length = 0
 ·simp [h]; rfl
 ·rw [beq_eq_false_iff_ne.2 (show ((l.length : Nat) : Int) ≠ 0 by omega), decide_eq_false h]; rfl
theorem x107 (k : Nat) (hk : 1 ≤ k) (n : Nd) : W k 107 [.agg (ndL n)] [] = some (.agg [lnV n.ln, .int .i64 n.sq], []) := by
 obtain ⟨k, rfl⟩ := succ1 hk
 exact (W_tree (place_tree (W k) k n) (by kernel_rfl)).trans (by kernel_rfl)
theorem x119 (k : Nat) (hk : 100 ≤ k) (l : List (Int × Int)) : W k 119 [lnV l] [] = some (.bool (lineOk l), []) := W_old0 (e44 k (by omega) false l) (by omega) (by kernel_rfl)
def lastE (l : List (Int × Int)) : Int := if lineOk l then (l.getD (l.length - 1) (0, 0)).1 else 0
theorem line_len {l : List (Int × Int)} (h : lineOk l = true) : 0 < l.length ∧ l.length ≤ 64 := by
 cases l with
 | nil => simp [lineOk] at h
 | cons b r => rw [lineOk, Bool.and_eq_true, decide_eq_true_eq] at h; exact ⟨by simp, h.1⟩
theorem last_br {l : List (Int × Int)} (h : 0 < l.length) (h2 : l.length ≤ 100000) : 0 ≤ IntKind.wrap .i64 (((l.length : Nat) : Int) - 1) ∧ (l.map brV)[Int.toNat (IntKind.wrap .i64 (((l.length : Nat) : Int) - 1))]? = some (brV (l.getD (l.length - 1) (0, 0))) := by
 rw [wrap_small (by omega) (by omega)]
 refine ⟨by omega, ?_⟩
 rw [show Int.toNat (((l.length : Nat) : Int) - 1) = l.length - 1 by omega, List.getElem?_map, List.getElem?_eq_getElem (by omega), List.getD_eq_getElem?_getD, List.getElem?_eq_getElem (by omega)]
 rfl
theorem x109 (k : Nat) (hk : 101 ≤ k) (l : List (Int × Int)) : W k 109 [lnV l] [] = some (.int .i64 (lastE l), []) := by
 obtain ⟨k, rfl⟩ := succ1 (show 1 ≤ k by omega)
 rw [W_tree0 (last_tree (W k) k l) (by kernel_rfl), show W k 119 [AV.sl 2 false (List.map brV l)] [] = _ from x119 k (by omega) l, lastE, List.length_map]
 simp only [zRe, zBo, zNi]
 cases h : lineOk l with
 | false => rfl
 | true =>
  obtain ⟨h1, h2⟩ := line_len h
  obtain ⟨h3, h4⟩ := last_br h1 (by omega)
  rw [decide_eq_true h3, h4]
  rfl
def standsOk (n : Nd) : Bool := decide ((n.ro = 1 ∨ n.ro = 2) ∧ 0 ≤ n.md ∧ n.md ≤ 4) && [n.kn, n.sy, n.sn, n.fr, n.fn, n.nx].all fitsI && (if noneOk n.ln n.sq then decide (n.ro = 2) && !n.va else placedOk n.ln n.sq && decide (lastE n.ln ≤ n.kn) && (decide (n.ro = 2) || n.va && !n.st && decide (n.kn = lastE n.ln)))
theorem x108 (k : Nat) (hk : 120 ≤ k) (l : List (Int × Int)) (z : Int) : W k 108 [.agg [lnV l, .int .i64 z]] [] = some (.bool (placedOk l z), []) := W_old0 (e94 k (by omega) (.inl ⟨false, rfl⟩) z) (by omega) (by kernel_rfl)
theorem x68 (k : Nat) (hk : 150 ≤ k) (n : Nd) : W k 68 [.agg (ndL n)] [] = some (.bool (standsOk n), []) := by
 obtain ⟨k, rfl⟩ := succ1 (show 1 ≤ k by omega)
 rw [W_tree0 (stands_tree (W k) k n) (by kernel_rfl)]
 have h1 := W_arg (x105 k [n.kn, n.sy, n.sn, n.fr, n.fn, n.nx] (by simp; omega) (by simp)) (vs := [AV.sl 1 true [AV.int .i64 (Nd.kn n), AV.int .i64 (Nd.sy n), AV.int .i64 (Nd.sn n), AV.int .i64 (Nd.fr n), AV.int .i64 (Nd.fn n), AV.int .i64 (Nd.nx n)]]) (by kernel_rfl)
 rw [h1, x107 k (by omega) n]
 simp only [zRe, zBo, zNi, zAg, zCo, lnV, asSl, zIn, if_true]
 have h2 := x106 k (by omega) n.ln n.sq
 have h3 := x108 k (by omega) n.ln n.sq
 have h4 := x109 k (by omega) n.ln
 simp only [lnV] at h2 h3 h4
 rw [h2, h3, h4]
 simp only [zRe, zBo, zNi, zIn, if_true]
 unfold standsOk
 grind
abbrev ndG (n : Nd) (a b c d e f g h : AV) : List AV := [.int .i64 n.ro, .bool n.st, .bool n.va, .int .i64 n.kn, lnV n.ln, .int .i64 n.sq, a, .bool n.sh, b, lnV n.al, .int .i64 n.aq, btsV n.ch, c, .int .i64 n.sn, .int .i64 n.md, .int .i64 n.sy, .bool n.fu, d, .int .i64 n.go, e, f, g, h, .int .i64 n.fr, .int .i64 n.fn, .int .i64 n.nx]
abbrev zNd (v : AV) (K : Int → Bool → Bool → Int → Nat → Bool → List AV → Int → Nat → Bool → List AV → Bool → Nat → Bool → List AV → Nat → Bool → List AV → Int → Nat → Bool → List AV → Nat → Bool → List AV → Int → Int → Int → Bool → Nat → Bool → List AV → Int → Nat → Bool → List AV → Nat → Bool → List AV → Int → Int → Int → Int → Int → Res) : Res := zAg v fun cs => zCo cs fun v r => zIn .i64 v fun x0 => zCo r fun v r => zBo v fun x1 => zCo r fun v r => zBo v fun x2 => zCo r fun v r => zIn .i64 v fun x3 => zCo r fun v r => asSl v fun x4 y4 z4 => zCo r fun v r => zIn .i64 v fun x5 => zCo r fun v r => asSl v fun x6 y6 z6 => zCo r fun v r => zBo v fun x7 => zCo r fun v r => asSl v fun x8 y8 z8 => zCo r fun v r => asSl v fun x9 y9 z9 => zCo r fun v r => zIn .i64 v fun x10 => zCo r fun v r => asSl v fun x11 y11 z11 => zCo r fun v r => asSl v fun x12 y12 z12 => zCo r fun v r => zIn .i64 v fun x13 => zCo r fun v r => zIn .i64 v fun x14 => zCo r fun v r => zIn .i64 v fun x15 => zCo r fun v r => zBo v fun x16 => zCo r fun v r => asSl v fun x17 y17 z17 => zCo r fun v r => zIn .i64 v fun x18 => zCo r fun v r => asSl v fun x19 y19 z19 => zCo r fun v r => asSl v fun x20 y20 z20 => zCo r fun v r => zIn .i64 v fun x21 => zCo r fun v r => zIn .i64 v fun x22 => zCo r fun v r => zIn .i64 v fun x23 => zCo r fun v r => zIn .i64 v fun x24 => zCo r fun v r => zIn .i64 v fun x25 => zNi r (K x0 x1 x2 x3 x4 y4 z4 x5 x6 y6 z6 x7 x8 y8 z8 x9 y9 z9 x10 x11 y11 z11 x12 y12 z12 x13 x14 x15 x16 x17 y17 z17 x18 x19 y19 z19 x20 y20 z20 x21 x22 x23 x24 x25)
abbrev zB2 (bs : Boxes) (K : List UInt8 → Bool → Res) : Res := zCo bs fun v r => zCo v fun v r1 => zSt v fun s => zCo r1 fun v r2 => zBo v fun b => zNi r2 (zNi r (K s b))
abbrev zB3 (bs : Boxes) (K : List UInt8 → Int → Bool → Res) : Res := zCo bs fun v r => zCo v fun v r1 => zSt v fun s => zCo r1 fun v r2 => zIn .i64 v fun n => zCo r2 fun v r3 => zBo v fun b => zNi r3 (zNi r (K s n b))
abbrev zTC (v : AV) (K : AV → List AV → Res) : Res := zTu v fun cs => zCo cs K
end Go.AM.YtnhfjkckgicidaaGreat
