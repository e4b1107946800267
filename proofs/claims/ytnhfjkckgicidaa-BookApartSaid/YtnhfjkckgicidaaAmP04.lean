/- Bits: dirty.Right, Bytes, Parse and ref10's: what they answer, plain. -/
import Derived.Test.YtnhfjkckgicidaaAmP03
import Derived.Test.YtnhfjkckgicidaaAmP02
set_option linter.unusedVariables false
set_option linter.unusedSimpArgs false
namespace Go.AM.Ytnhfjkckgicidaa
open Go.AM Go.Proofs Go
def btV (b : Int × Int) : AV := .agg [.int .i64 b.1, .int .u64 b.2]
def bitsOk : Int → List (Int × Int) → Bool
 | _, [] => true
 | last, b :: r => decide (last < b.1 ∧ b.1 ≤ 255 ∧ b.2 ≠ 0 ∧ b.2 < 4294967296) && bitsOk b.1 r
def bOk (l : List (Int × Int)) : Bool := bitsOk 0 l
def UM (l : List (Int × Int)) : Prop := ∀ b ∈ l, 0 ≤ b.2 ∧ b.2 < 18446744073709551616
theorem getBt (l : List (Int × Int)) (i : Nat) (h : i < l.length) : (l.map btV)[Int.toNat (i : Int)]? = some (.agg [.int .i64 (l[i]).1, .int .u64 (l[i]).2]) := by
 rw [Int.toNat_natCast, List.getElem?_map, List.getElem?_eq_getElem h]
 rfl
theorem bitsOk_length : ∀ (l : List (Int × Int)) (last : Int), last ≤ 255 → bitsOk last l = true → (l.length : Int) + last ≤ 255
 | [], last, h, _ => by simp only [List.length_nil]; omega
 | b :: r, last, h, hb => by
  rw [bitsOk, Bool.and_eq_true, decide_eq_true_eq] at hb
  have := bitsOk_length r b.1 hb.1.2.1 hb.2
  simp only [List.length_cons]
  omega
theorem bOk_length {l : List (Int × Int)} (h : bOk l = true) : l.length ≤ 255 := by
 have := bitsOk_length l 0 (by omega) h
 omega
theorem bitsOk_parts : ∀ (l : List (Int × Int)) (last : Int), 0 ≤ last → bitsOk last l = true → ∀ b ∈ l, 1 ≤ b.1 ∧ b.1 ≤ 255 ∧ b.2 ≠ 0 ∧ b.2 < 4294967296
 | [], last, _, _ => by simp
 | b :: r, last, hl, hb => by
  rw [bitsOk, Bool.and_eq_true, decide_eq_true_eq] at hb
  intro c hc
  rcases List.mem_cons.1 hc with rfl | hc
  ·omega
  ·exact bitsOk_parts r b.1 (by omega) hb.2 c hc
def drightS (fl : Bool) (xs : List AV) (last len i : Int) : St := ⟨34, [(0, AV.sl 2 fl xs), (2, AV.bool false), (3, AV.int .i64 last), (6, AV.sl 2 fl xs), (7, AV.int .i64 len), (8, AV.int .i64 i)], [], [], [], [], []⟩
theorem dright_tree (F : Fns) (N : Nat) (fl : Bool) (xs : List AV) : runOf F 62 N [.sl 2 fl xs] [] =
 loopA (zBy F 62 0 N) (zDe 62 0) (zCt F 62 0 N 0) N { nt := 34, t := [(0, AV.sl 2 fl xs), (2, AV.bool false), (3, AV.int .i64 0), (6, AV.sl 2 fl xs), (7, AV.int .i64 (xs.length : Int)), (8, AV.int .i64 0)], b := [], r := [], g := [], rd := [], wr := [] } := by kernel_rfl
theorem dright_body (F : Fns) (N : Nat) (fl : Bool) (xs : List AV) (last len i : Int) (KN : St → Res) : zBy F 62 0 N (drightS fl xs last len i) (brk (zCt F 62 0 N 0) KN) =
 bif decide (i < len) then bif decide (0 ≤ i) then zOp xs[Int.toNat i]? fun x => zAg x fun cs => zCo cs fun v r => zIn .i64 v fun n => zCo r fun v r => zIn .u64 v fun n_1 => zNi r (bif decide (n ≤ last) then some (AV.bool false, []) else bif decide (n > 255) then some (AV.bool false, []) else bif n_1 == 0 then some (AV.bool false, []) else bif decide (n_1 ≥ 4294967296) then some (AV.bool false, []) else KN { nt := 34, t := [(0, AV.sl 2 fl xs), (2, AV.bool false), (3, AV.int .i64 n), (5, AV.ptr 5 0 0), (6, AV.sl 2 fl xs), (7, AV.int .i64 len), (8, AV.int .i64 (IntKind.wrap .i64 (i + 1))), (9, AV.bool (decide (i < len))), (30, AV.bool (decide (n_1 ≥ 4294967296)))], b := [(5, [AV.int .i64 n, AV.int .u64 n_1])], r := [], g := [], rd := [], wr := [] }) else none else some (AV.bool true, []) := by kernel_rfl
theorem dright_loop (F : Fns) (N : Nat) (fl : Bool) (l : List (Int × Int)) (hl : l.length ≤ 1000000000) : ∀ (dd i m : Nat) (last : Int) (st : St), i + dd = l.length → dd < m → st.clean (zDe 62 0) = drightS fl (l.map btV) last l.length i →
  loopA (zBy F 62 0 N) (zDe 62 0) (zCt F 62 0 N 0) m st = some (.bool (bitsOk last (l.drop i)), []) := by
 intro dd
 induction dd with
 | zero =>
  intro i m last st hi hm hst
  obtain ⟨m, rfl⟩ : ∃ m', m = m' + 1 := ⟨m - 1, by omega⟩
  have h1 : l.drop i = [] := List.drop_eq_nil_of_le (by omega)
  rw [loopA_succ, hst, dright_body, decide_eq_false (by omega), h1]
  rfl
 | succ dd ih =>
  intro i m last st hi hm hst
  obtain ⟨m, rfl⟩ : ∃ m', m = m' + 1 := ⟨m - 1, by omega⟩
  have hlt : i < l.length := by omega
  rw [loopA_succ, hst, dright_body, decide_eq_true (show (i : Int) < l.length by omega), decide_eq_true (show (0 : Int) ≤ i by omega), getBt l i hlt, List.drop_eq_getElem_cons hlt, bitsOk]
  simp only [cond_true, zOp, zAg, zCo, zIn, if_true, zNi]
  rw [wrap_small (n := (i : Int) + 1) (by omega) (by omega)]
  generalize l[i] = b
  obtain ⟨x, y⟩ := b
  simp only
  by_cases hc : last < x ∧ x ≤ 255 ∧ y ≠ 0 ∧ y < 4294967296
  ·rw [decide_eq_true hc, decide_eq_false (show ¬ x ≤ last by omega), decide_eq_false (show ¬ x > 255 by omega), show (y == 0) = false by simp [hc.2.2.1], decide_eq_false (show ¬ y ≥ 4294967296 by omega)]
   simp only [cond_false, Bool.true_and]
   exact ih (i + 1) m _ _ (by omega) (by omega) (by kernel_rfl)
  ·rw [decide_eq_false hc, Bool.false_and]
   by_cases h1 : x ≤ last
   ·rw [decide_eq_true h1]; rfl
   by_cases h2 : x > 255
   ·rw [decide_eq_false h1, decide_eq_true h2]; rfl
   by_cases h3 : y = 0
   ·rw [decide_eq_false h1, decide_eq_false h2, show (y == 0) = true by simp [h3]]; rfl
   by_cases h4 : y ≥ 4294967296
   ·rw [decide_eq_false h1, decide_eq_false h2, show (y == 0) = false by simp [h3], decide_eq_true h4]; rfl
   exact absurd (by omega) hc
theorem e62 (k : Nat) (fl : Bool) (l : List (Int × Int)) (hk : l.length + 3 ≤ k) (hl : l.length ≤ 1000000000) : evF pr k 62 [.sl 2 fl (l.map btV)] [] = some (.bool (bOk l), []) := by
 obtain ⟨k, rfl⟩ : ∃ m, k = m + 1 := ⟨k - 1, by omega⟩
 rw [ev_step _ _ _ _ (by kernel_rfl), dright_tree, List.length_map]
 exact dright_loop (evF pr k) k fl l hl l.length 0 k 0 _ (Nat.zero_add _) (by omega) (by kernel_rfl)
theorem e62nil (k a : Nat) (fl : Bool) : evF pr (k + 6) 62 [.sl a fl []] [] = some (.bool true, []) := by kernel_rfl
def btB (b : Int × Int) : List UInt8 := UInt8.ofNat b.1.toNat :: be 4 b.2.toNat
def putB (l : List (Int × Int)) : List UInt8 := UInt8.ofNat l.length :: l.flatMap btB
theorem btB_length (b : Int × Int) : (btB b).length = 5 := by simp [btB, be_length]
theorem u8_ofBytes (n : Nat) : AV.int .u8 (IntKind.wrap .u8 (n : Int)) = AV.int .u8 (((UInt8.ofNat n).toNat : Nat) : Int) := by
 have : IntKind.wrap .u8 (n : Int) = (((UInt8.ofNat n).toNat : Nat) : Int) := by
  simp [IntKind.wrap, IntKind.bits, IntKind.signed]
 rw [this]
def dbytesS (fl d : Bool) (xs : List AV) (v : AV) (len i : Int) : St := ⟨40, [(0, AV.sl 2 fl xs), (2, AV.str []), (3, AV.int .i64 0), (4, v), (11, AV.bool d), (16, AV.sl 2 fl xs), (17, AV.int .i64 len), (18, AV.int .i64 i)], [], [], [], [], []⟩
theorem dbytes_tree (F : Fns) (N : Nat) (fl : Bool) (xs : List AV) : runOf F 53 N [.sl 2 fl xs] [] =
 zRe (F 62 [AV.sl 2 fl xs] []) fun v bs => zBo v fun b => zNi bs (bif !b then some (AV.tup [AV.str [], AV.int .i64 1], []) else loopA (zBy F 53 0 N) (zDe 53 0) (zCt F 53 0 N 0) N { nt := 40, t := [(0, AV.sl 2 fl xs), (2, AV.str []), (3, AV.int .i64 0), (4, AV.sl 1 true [AV.int .u8 (IntKind.wrap .u8 (xs.length : Int))]), (11, AV.bool !b), (16, AV.sl 2 fl xs), (17, AV.int .i64 (xs.length : Int)), (18, AV.int .i64 0)], b := [], r := [], g := [], rd := [], wr := [] }) := by kernel_rfl
theorem dbytes_body0 (F : Fns) (N : Nat) (fl d : Bool) (xs ys : List AV) (len i : Int) (KN : St → Res) : zBy F 53 0 N (dbytesS fl d xs (.sl 1 true ys) len i) (brk (zCt F 53 0 N 0) KN) =
 bif decide (i < len) then bif decide (0 ≤ i) then zOp xs[Int.toNat i]? fun x => zAg x fun cs => zCo cs fun v r => zIn .i64 v fun n => zCo r fun v r => zIn .u64 v fun n_1 => zNi r (zRe (F 37 [AV.int .i64 (IntKind.wrap .i64 n_1), AV.int .i64 4] []) fun v bs => zTu v fun cs => zCo cs fun v r => zSt v fun s => zCo r fun v r => zIn .i64 v fun n_2 => zNi r (zNi bs (bif decide ((1 = 1 ∨ ys = []) ∧ fitsB (List.length ys + List.length [AV.int .u8 (IntKind.wrap .u8 n)]) 1 = true ∧ List.length ys + List.length [AV.int .u8 (IntKind.wrap .u8 n)] ≤ 4611686018427387904) then bif decide (1 = 1 ∧ fitsB (List.length (ys ++ [AV.int .u8 (IntKind.wrap .u8 n)]) + List.length (ofBytes s)) 1 = true ∧ List.length (ys ++ [AV.int .u8 (IntKind.wrap .u8 n)]) + List.length (ofBytes s) ≤ 4611686018427387904) then KN { nt := 40, t := [(0, AV.sl 2 fl xs), (2, AV.str []), (3, AV.int .i64 0), (4, AV.tip 34 0 1 (ys ++ [AV.int .u8 (IntKind.wrap .u8 n)] ++ ofBytes s)), (6, AV.ptr 6 0 0), (7, AV.str s), (11, AV.bool d), (16, AV.sl 2 fl xs), (17, AV.int .i64 len), (18, AV.int .i64 (IntKind.wrap .i64 (i + 1))), (19, AV.bool (decide (i < len)))], b := [(6, [AV.int .i64 n, AV.int .u64 n_1])], r := [], g := [], rd := [], wr := [] } else none else none))) else none else zOp (Option.map AV.str (bytesOf ys)) fun x => zSt x fun s => some (AV.tup [AV.str s, AV.int .i64 0], []) := by kernel_rfl
theorem dbytes_body1 (F : Fns) (N : Nat) (fl d : Bool) (xs ys : List AV) (len i : Int) (KN : St → Res) : zBy F 53 0 N (dbytesS fl d xs (.tip 34 0 1 ys) len i) (brk (zCt F 53 0 N 0) KN) =
 bif decide (i < len) then bif decide (0 ≤ i) then zOp xs[Int.toNat i]? fun x => zAg x fun cs => zCo cs fun v r => zIn .i64 v fun n => zCo r fun v r => zIn .u64 v fun n_1 => zNi r (zRe (F 37 [AV.int .i64 (IntKind.wrap .i64 n_1), AV.int .i64 4] []) fun v bs => zTu v fun cs => zCo cs fun v r => zSt v fun s => zCo r fun v r => zIn .i64 v fun n_2 => zNi r (zNi bs (bif decide (1 = 1 ∧ fitsB (List.length ys + List.length [AV.int .u8 (IntKind.wrap .u8 n)]) 1 = true ∧ List.length ys + List.length [AV.int .u8 (IntKind.wrap .u8 n)] ≤ 4611686018427387904) then bif decide (1 = 1 ∧ fitsB (List.length (ys ++ [AV.int .u8 (IntKind.wrap .u8 n)]) + List.length (ofBytes s)) 1 = true ∧ List.length (ys ++ [AV.int .u8 (IntKind.wrap .u8 n)]) + List.length (ofBytes s) ≤ 4611686018427387904) then KN { nt := 40, t := [(0, AV.sl 2 fl xs), (2, AV.str []), (3, AV.int .i64 0), (4, AV.tip 34 0 1 (ys ++ [AV.int .u8 (IntKind.wrap .u8 n)] ++ ofBytes s)), (6, AV.ptr 6 0 0), (7, AV.str s), (11, AV.bool d), (16, AV.sl 2 fl xs), (17, AV.int .i64 len), (18, AV.int .i64 (IntKind.wrap .i64 (i + 1))), (19, AV.bool (decide (i < len)))], b := [(6, [AV.int .i64 n, AV.int .u64 n_1])], r := [], g := [], rd := [], wr := [] } else none else none))) else none else zOp (Option.map AV.str (bytesOf ys)) fun x => zSt x fun s => some (AV.tup [AV.str s, AV.int .i64 0], []) := by kernel_rfl
theorem btB_ofBytes {b : Int × Int} (h : 1 ≤ b.1 ∧ b.1 ≤ 255) (acc : List UInt8) : ofBytes acc ++ [AV.int .u8 (IntKind.wrap .u8 b.1)] ++ ofBytes (be 4 b.2.toNat) = ofBytes (acc ++ btB b) := by
 obtain ⟨v, m⟩ := b
 simp only at h ⊢
 obtain ⟨n, rfl⟩ : ∃ n : Nat, v = n := ⟨v.toNat, by omega⟩
 rw [u8_ofBytes, show [AV.int .u8 (((UInt8.ofNat n).toNat : Nat) : Int)] = ofBytes [UInt8.ofNat n] from rfl, ofBytes_append, ofBytes_append, btB]
 simp
theorem put4 (k : Nat) (hk : 10 ≤ k) (m : Int) (h0 : 0 ≤ m) (h1 : m < 4294967296) : evF pr k 37 [.int .i64 (IntKind.wrap .i64 m), .int .i64 4] [] = some (.tup [.str (be 4 m.toNat), .int .i64 0], []) := by
 obtain ⟨n, rfl⟩ : ∃ n : Nat, m = n := ⟨m.toNat, by omega⟩
 rw [wrap_small (by omega) (by omega), show (4 : Int) = ((4 : Nat) : Int) from rfl, e37 k hk _ (by omega) 4 (by omega) (by omega), putV_small n 4 (by omega) (by omega) (by omega), Int.toNat_natCast]
theorem dbytes_loop (k : Nat) (hk : 12 ≤ k) (fl d : Bool) (l : List (Int × Int)) (hu : UM l) (hp : ∀ b ∈ l, 1 ≤ b.1 ∧ b.1 ≤ 255 ∧ b.2 ≠ 0 ∧ b.2 < 4294967296) (hl : l.length ≤ 1000) : ∀ (dd i m : Nat) (acc : List UInt8) (st : St), i + dd = l.length → dd < m → acc.length = 1 + 5 * i → st.clean (zDe 53 0) = dbytesS fl d (l.map btV) (.tip 34 0 1 (ofBytes acc)) l.length i →
  loopA (zBy (evF pr k) 53 0 k) (zDe 53 0) (zCt (evF pr k) 53 0 k 0) m st = some (.tup [.str (acc ++ (l.drop i).flatMap btB), .int .i64 0], []) := by
 intro dd
 induction dd with
 | zero =>
  intro i m acc st hi hm ha hst
  obtain ⟨m, rfl⟩ : ∃ m', m = m' + 1 := ⟨m - 1, by omega⟩
  have h1 : l.drop i = [] := List.drop_eq_nil_of_le (by omega)
  rw [loopA_succ, hst, dbytes_body1, decide_eq_false (by omega), h1, bytesOf_ofBytes]
  simp [zOp, zSt]
 | succ dd ih =>
  intro i m acc st hi hm ha hst
  obtain ⟨m, rfl⟩ : ∃ m', m = m' + 1 := ⟨m - 1, by omega⟩
  have hlt : i < l.length := by omega
  have hpi := hp _ (List.getElem_mem hlt)
  have hui := hu _ (List.getElem_mem hlt)
  rw [loopA_succ, hst, dbytes_body1, decide_eq_true (show (i : Int) < l.length by omega), decide_eq_true (show (0 : Int) ≤ i by omega), getBt l i hlt, List.drop_eq_getElem_cons hlt, List.flatMap_cons]
  simp only [cond_true, zOp, zAg, zCo, zIn, if_true, zNi]
  generalize l[i] = b at *
  rw [put4 k (by omega) b.2 hui.1 hpi.2.2.2]
  simp only [zRe, zTu, zCo, zSt, zIn, if_true, zNi]
  rw [btB_ofBytes ⟨hpi.1, hpi.2.1⟩]
  rw [decide_eq_true (by
   refine ⟨trivial, fitsB_small ?_, ?_⟩ <;> simp only [ofBytes, List.length_map, List.length_cons, List.length_nil] <;> omega)]
  rw [decide_eq_true (by
   refine ⟨trivial, fitsB_small ?_, ?_⟩ <;> simp only [ofBytes, List.length_map, List.length_append, List.length_cons, List.length_nil, be_length] <;> omega)]
  simp only [cond_true]
  rw [wrap_small (n := (i : Int) + 1) (by omega) (by omega)]
  refine (ih (i + 1) m (acc ++ btB b) _ (by omega) (by omega) (by rw [List.length_append, btB_length]; omega) (by kernel_rfl)).trans ?_
  rw [List.append_assoc]
theorem e53 (k : Nat) (fl : Bool) (l : List (Int × Int)) (hu : UM l) (hk : l.length + 14 ≤ k) (hl : l.length ≤ 1000) : evF pr k 53 [.sl 2 fl (l.map btV)] [] = some (if bOk l then .tup [.str (putB l), .int .i64 0] else .tup [.str [], .int .i64 1], []) := by
 obtain ⟨k, rfl⟩ : ∃ m, k = m + 1 := ⟨k - 1, by omega⟩
 rw [ev_step _ _ _ _ (by kernel_rfl), dbytes_tree, e62 k fl l (by omega) (by omega)]
 simp only [zRe, zBo, zNi]
 cases hok : bOk l with
 | false => rfl
 | true =>
  have hp := bitsOk_parts l 0 (by omega) hok
  rw [List.length_map, u8_ofBytes, show [AV.int .u8 (((UInt8.ofNat l.length).toNat : Nat) : Int)] = ofBytes [UInt8.ofNat l.length] from rfl]
  simp only [Bool.not_true, cond_false]
  obtain ⟨k', hk'⟩ : ∃ m, k = m + 1 := ⟨k - 1, by omega⟩
  conv => lhs; arg 4; rw [hk']
  rw [loopA_succ]
  refine (dbytes_body0 _ _ fl false (l.map btV) (ofBytes [UInt8.ofNat l.length]) l.length 0 _).trans ?_
  cases l with
  | nil =>
   rw [bytesOf_ofBytes]
   rfl
  | cons b r =>
   have hpi := hp b (List.mem_cons_self ..)
   have hui := hu b (List.mem_cons_self ..)
   rw [decide_eq_true (show (0 : Int) < (((b :: r).length : Nat) : Int) by simp only [List.length_cons]; omega)]
   simp only [cond_true, Int.toNat_zero, List.map_cons, List.getElem?_cons_zero, zOp, btV, zAg, zCo, zIn, if_true, zNi, show decide ((0 : Int) ≤ 0) = true from rfl]
   rw [put4 k (by omega) b.2 hui.1 hpi.2.2.2]
   simp only [zRe, zTu, zCo, zSt, zIn, if_true, zNi]
   rw [btB_ofBytes ⟨hpi.1, hpi.2.1⟩]
   rw [decide_eq_true (by
    refine ⟨.inl trivial, fitsB_small ?_, ?_⟩ <;> simp only [ofBytes, List.length_map, List.length_cons, List.length_nil] <;> omega)]
   rw [decide_eq_true (by
    refine ⟨trivial, fitsB_small ?_, ?_⟩ <;> simp only [ofBytes, List.length_map, List.length_append, List.length_cons, List.length_nil, be_length] <;> omega)]
   simp only [cond_true]
   simp only [List.length_cons] at hk
   exact dbytes_loop k (by omega) fl false (b :: r) hu hp hl r.length 1 k' ([UInt8.ofNat (b :: r).length] ++ btB b) _ (by simp only [List.length_cons]; omega) (by omega) (by rw [List.length_append, btB_length]; rfl) (by kernel_rfl)
def bt1 (t : List UInt8) : Int × Int := (((t.getD 0 0).toNat : Int), ((unbe ((t.drop 1).take 4) 0 : Nat) : Int))
def bts : Nat → List UInt8 → List (Int × Int)
 | 0, _ => []
 | n + 1, t => bt1 t :: bts n (t.drop 5)
def parseB (s : List UInt8) : Option (List (Int × Int) × List UInt8) := match num 1 s with
 | none => none
 | some (n, t) => if t.length < 5 * n then none else if bOk (bts n t) then some (bts n t, t.drop (5 * n)) else none
def slT (l : List (Int × Int)) : AV := if l = [] then .sl 0 true [] else .sl 2 false (l.map btV)
def ParseBR (x : Option (List (Int × Int) × List UInt8)) (r : Res) : Prop := match x with
 | none => ∃ e : Int, e ≠ 0 ∧ r = some (.tup [.sl 0 true [], .str [], .int .i64 e], [])
 | some (l, t) => r = some (.tup [slT l, .str t, .int .i64 0], [])
theorem bt1_bound (t : List UInt8) : 0 ≤ (bt1 t).2 ∧ (bt1 t).2 < 4294967296 := by
 have h := unbe_lt ((t.drop 1).take 4) 0
 have h4 : 256 ^ ((t.drop 1).take 4).length ≤ 256 ^ 4 := Nat.pow_le_pow_right (by omega) (by rw [List.length_take]; omega)
 unfold bt1
 simp only
 omega
def dparseS (s0 s : List UInt8) (v : AV) (n e m i : Int) (d : Bool) : St := ⟨52, [(0, AV.str s0), (2, AV.sl 0 true []), (3, AV.str []), (4, AV.int .i64 0), (5, AV.int .i64 n), (6, AV.str s), (7, AV.int .i64 e), (8, v), (25, AV.bool d), (26, AV.int .i64 m), (27, AV.int .i64 i)], [], [], [], [], []⟩
theorem dparse_tree (F : Fns) (N : Nat) (s : List UInt8) : runOf F 50 N [.str s] [] =
 zRe (F 88 [AV.str s, AV.int .i64 1] []) fun v bs => zTu v fun cs => zCo cs fun v r => zIn .i64 v fun n => zCo r fun v r => zSt v fun s_1 => zCo r fun v r => zIn .i64 v fun n_1 => zNi r (zNi bs (bif n_1 != 0 then some (AV.tup [AV.sl 0 true [], AV.str [], AV.int .i64 2], []) else bif decide ((s_1.length : Int) < IntKind.wrap .i64 (5 * n)) then some (AV.tup [AV.sl 0 true [], AV.str [], AV.int .i64 2], []) else loopA (zBy F 50 0 N) (zDe 50 0) (zCt F 50 0 N 0) N { nt := 52, t := [(0, AV.str s), (2, AV.sl 0 true []), (3, AV.str []), (4, AV.int .i64 0), (5, AV.int .i64 n), (6, AV.str s_1), (7, AV.int .i64 n_1), (8, AV.sl 0 true []), (25, AV.bool (decide ((s_1.length : Int) < IntKind.wrap .i64 (5 * n)))), (26, AV.int .i64 n), (27, AV.int .i64 0)], b := [], r := [], g := [], rd := [], wr := [] })) := by kernel_rfl
theorem dparse_body0 (F : Fns) (N : Nat) (s0 s : List UInt8) (n e m i : Int) (d : Bool) (KN : St → Res) : zBy F 50 0 N (dparseS s0 s (.sl 0 true []) n e m i d) (brk (zCt F 50 0 N 0) KN) =
 bif decide (i < m) then bif decide ((0 : Int) ≤ 1 ∧ (1 : Int) ≤ 5 ∧ 5 ≤ (s.length : Int)) then zRe (F 89 [AV.str (List.drop (Int.toNat 1) (List.take (Int.toNat 5) s))] []) fun v bs => zTu v fun cs => zCo cs fun v r => zIn .i64 v fun n_1 => zCo r fun v r => zIn .i64 v fun n_2 => zNi r (zNi bs (zOp (Option.map (fun b => AV.int .u8 ((UInt8.toNat b : Nat) : Int)) s[Int.toNat 0]?) fun x => zIn .u8 x fun n_3 => bif decide ((0 : Int) ≤ 5 ∧ 5 ≤ (s.length : Int) ∧ (s.length : Int) ≤ (s.length : Int)) then KN { nt := 52, t := [(0, AV.str s0), (2, AV.sl 0 true []), (3, AV.str []), (4, AV.int .i64 0), (5, AV.int .i64 n), (6, AV.str (List.drop (Int.toNat 5) (List.take (Int.toNat (s.length : Int)) s))), (7, AV.int .i64 e), (8, AV.tip 43 0 2 [AV.agg [AV.int .i64 (IntKind.wrap .i64 n_3), AV.int .u64 (IntKind.wrap .u64 n_1)]]), (9, AV.int .i64 n_1), (25, AV.bool d), (26, AV.int .i64 m), (27, AV.int .i64 (IntKind.wrap .i64 (i + 1))), (28, AV.bool (decide (i < m)))], b := [], r := [], g := [], rd := [], wr := [] } else none)) else none else zRe (F 62 [AV.sl 0 true []] []) fun v bs => zBo v fun b => zNi bs (bif !b then some (AV.tup [AV.sl 0 true [], AV.str [], AV.int .i64 3], []) else some (AV.tup [AV.sl 0 true [], AV.str s, AV.int .i64 0], [])) := by kernel_rfl
theorem dparse_body1 (F : Fns) (N : Nat) (s0 s : List UInt8) (ys : List AV) (n e m i : Int) (d : Bool) (KN : St → Res) : zBy F 50 0 N (dparseS s0 s (.tip 43 0 2 ys) n e m i d) (brk (zCt F 50 0 N 0) KN) =
 bif decide (i < m) then bif decide ((0 : Int) ≤ 1 ∧ (1 : Int) ≤ 5 ∧ 5 ≤ (s.length : Int)) then zRe (F 89 [AV.str (List.drop (Int.toNat 1) (List.take (Int.toNat 5) s))] []) fun v bs => zTu v fun cs => zCo cs fun v r => zIn .i64 v fun n_1 => zCo r fun v r => zIn .i64 v fun n_2 => zNi r (zNi bs (zOp (Option.map (fun b => AV.int .u8 ((UInt8.toNat b : Nat) : Int)) s[Int.toNat 0]?) fun x => zIn .u8 x fun n_3 => bif decide (2 = 2 ∧ fitsB (List.length ys + List.length [AV.agg [AV.int .i64 (IntKind.wrap .i64 n_3), AV.int .u64 (IntKind.wrap .u64 n_1)]]) 16 = true ∧ List.length ys + List.length [AV.agg [AV.int .i64 (IntKind.wrap .i64 n_3), AV.int .u64 (IntKind.wrap .u64 n_1)]] ≤ 4611686018427387904) then bif decide ((0 : Int) ≤ 5 ∧ 5 ≤ (s.length : Int) ∧ (s.length : Int) ≤ (s.length : Int)) then KN { nt := 52, t := [(0, AV.str s0), (2, AV.sl 0 true []), (3, AV.str []), (4, AV.int .i64 0), (5, AV.int .i64 n), (6, AV.str (List.drop (Int.toNat 5) (List.take (Int.toNat (s.length : Int)) s))), (7, AV.int .i64 e), (8, AV.tip 43 0 2 (ys ++ [AV.agg [AV.int .i64 (IntKind.wrap .i64 n_3), AV.int .u64 (IntKind.wrap .u64 n_1)]])), (9, AV.int .i64 n_1), (25, AV.bool d), (26, AV.int .i64 m), (27, AV.int .i64 (IntKind.wrap .i64 (i + 1))), (28, AV.bool (decide (i < m)))], b := [], r := [], g := [], rd := [], wr := [] } else none else none)) else none else zRe (F 62 [AV.sl 2 false ys] []) fun v bs => zBo v fun b => zNi bs (bif !b then some (AV.tup [AV.sl 0 true [], AV.str [], AV.int .i64 3], []) else some (AV.tup [AV.sl 2 false ys, AV.str s, AV.int .i64 0], [])) := by kernel_rfl
theorem get4 (k : Nat) (hk : 10 ≤ k) (s : List UInt8) (h : 5 ≤ s.length) : evF pr k 89 [.str (List.drop (Int.toNat 1) (List.take (Int.toNat 5) s))] [] = some (.tup [.int .i64 (bt1 s).2, .int .i64 0], []) := by
 have e : List.drop (Int.toNat 1) (List.take (Int.toNat 5) s) = (s.drop 1).take 4 := by
  rw [List.drop_take]
  rfl
 have hl : ((s.drop 1).take 4).length = 4 := by rw [List.length_take, List.length_drop]; omega
 have hb := bt1_bound s
 unfold bt1 at hb
 rw [e, e89 k hk, AM.getV, if_neg (by omega), if_neg (by simp only at hb; omega)]
 rfl
theorem head_map (s : List UInt8) (h : 1 ≤ s.length) : Option.map (fun b => AV.int .u8 ((UInt8.toNat b : Nat) : Int)) s[Int.toNat 0]? = some (AV.int .u8 (bt1 s).1) := by
 have := getD_map s 0 (by omega)
 exact this
theorem bt1_wraps (s : List UInt8) : IntKind.wrap .i64 (bt1 s).1 = (bt1 s).1 ∧ IntKind.wrap .u64 (bt1 s).2 = (bt1 s).2 := by
 refine ⟨?_, ?_⟩
 ·unfold bt1
  exact byte_i64 _
 ·have := bt1_bound s
  obtain ⟨n, hn⟩ : ∃ n : Nat, (bt1 s).2 = n := ⟨(bt1 s).2.toNat, by omega⟩
  rw [hn] at this ⊢
  exact wrap_u64 (by omega)
theorem dparse_loop (k : Nat) (hk : 10 ≤ k) (n : Nat) (hn : n ≤ 1000) (hkn : n + 4 ≤ k) (s0 : List UInt8) (n0 e0 : Int) (d : Bool) : ∀ (dd i m : Nat) (acc : List (Int × Int)) (s : List UInt8) (st : St), i + dd = n → dd < m → acc ≠ [] → acc.length = i → 5 * dd ≤ s.length → st.clean (zDe 50 0) = dparseS s0 s (.tip 43 0 2 (acc.map btV)) n0 e0 n i d →
  loopA (zBy (evF pr k) 50 0 k) (zDe 50 0) (zCt (evF pr k) 50 0 k 0) m st = some (if bOk (acc ++ bts dd s) then .tup [.sl 2 false ((acc ++ bts dd s).map btV), .str (s.drop (5 * dd)), .int .i64 0] else .tup [.sl 0 true [], .str [], .int .i64 3], []) := by
 intro dd
 induction dd with
 | zero =>
  intro i m acc s st hi hm ha hl hs hst
  obtain ⟨m, rfl⟩ : ∃ m', m = m' + 1 := ⟨m - 1, by omega⟩
  rw [loopA_succ, hst, dparse_body1, decide_eq_false (by omega), e62 k false acc (by omega) (by omega)]
  simp only [cond_false, zRe, zBo, zNi, bts, List.append_nil]
  cases bOk acc with
  | false => rfl
  | true => rfl
 | succ dd ih =>
  intro i m acc s st hi hm ha hl hs hst
  obtain ⟨m, rfl⟩ : ∃ m', m = m' + 1 := ⟨m - 1, by omega⟩
  rw [loopA_succ, hst, dparse_body1, decide_eq_true (show (i : Int) < n by omega), decide_eq_true (show (0 : Int) ≤ 1 ∧ (1 : Int) ≤ 5 ∧ (5 : Int) ≤ s.length by omega), get4 k hk s (by omega), head_map s (by omega), decide_eq_true (show (0 : Int) ≤ 5 ∧ (5 : Int) ≤ s.length ∧ (s.length : Int) ≤ s.length by omega)]
  simp only [cond_true, zRe, zTu, zCo, zIn, if_true, zNi, zOp]
  rw [decide_eq_true (by
   refine ⟨trivial, fitsB_small ?_, ?_⟩ <;> simp only [List.length_map, List.length_cons, List.length_nil] <;> omega)]
  simp only [cond_true]
  rw [(bt1_wraps s).1, (bt1_wraps s).2, wrap_small (n := (i : Int) + 1) (by omega) (by omega), Int.toNat_natCast, List.take_length, show Int.toNat 5 = 5 from rfl]
  refine (ih (i + 1) m (acc ++ [bt1 s]) (s.drop 5) _ (by omega) (by omega) (by simp) (by simp [hl]) (by rw [List.length_drop]; omega) (by rw [List.map_append]; kernel_rfl)).trans ?_
  rw [bts, List.append_assoc, List.singleton_append, List.drop_drop, show 5 + 5 * dd = 5 * (dd + 1) by omega]
theorem e50 (k : Nat) (hk : 400 ≤ k) (s : List UInt8) : ParseBR (parseB s) (evF pr k 50 [.str s] []) := by
 obtain ⟨k, rfl⟩ : ∃ m, k = m + 1 := ⟨k - 1, by omega⟩
 rw [ev_step _ _ _ _ (by kernel_rfl), dparse_tree, show (1 : Int) = ((1 : Nat) : Int) from rfl, e88 k (by omega) s 1 (by omega) (by omega)]
 simp only [zRe, zTu, zCo, zIn, zSt, if_true, zNi]
 unfold parseB
 cases h1 : num 1 s with
 | none =>
  rw [show (numE 1 s != 0) = true by simp [num_no h1]]
  exact ⟨2, by omega, rfl⟩
 | some q =>
  obtain ⟨n, t⟩ := q
  obtain ⟨r1, r2, r3⟩ := num_at h1
  have r4 : numR 1 s = t := by rw [numR, if_pos r1, r3]
  have hn := (num_lt h1).1
  rw [r1, r2, r4]
  simp only [show ((0 : Int) != 0) = false from rfl, cond_false]
  rw [wrap_small (n := 5 * (n : Int)) (by omega) (by omega)]
  by_cases hl : t.length < 5 * n
  ·rw [decide_eq_true (show ((t.length : Nat) : Int) < 5 * (n : Int) by omega), if_pos hl]
   exact ⟨2, by omega, rfl⟩
  ·rw [decide_eq_false (show ¬ ((t.length : Nat) : Int) < 5 * (n : Int) by omega), if_neg hl]
   simp only [cond_false]
   obtain ⟨k', hk'⟩ : ∃ m, k = m + 1 := ⟨k - 1, by omega⟩
   conv => arg 2; arg 4; rw [hk']
   rw [loopA_succ]
   have hb : zBy (evF pr k) 50 0 k (dparseS s t (.sl 0 true []) n 0 n 0 false) (brk (zCt (evF pr k) 50 0 k 0) fun st' => loopA (zBy (evF pr k) 50 0 k) (zDe 50 0) (zCt (evF pr k) 50 0 k 0) k' st') = some (if bOk (bts n t) then .tup [slT (bts n t), .str (t.drop (5 * n)), .int .i64 0] else .tup [.sl 0 true [], .str [], .int .i64 3], []) := by
    rw [dparse_body0]
    cases n with
    | zero =>
     obtain ⟨k2, hk2⟩ : ∃ m, k = m + 6 := ⟨k - 6, by omega⟩
     have h62 : evF pr k 62 [.sl 0 true []] [] = some (.bool true, []) := by rw [hk2]; exact e62nil k2 0 true
     rw [h62]
     rfl
    | succ n =>
     rw [decide_eq_true (show (0 : Int) < ((n + 1 : Nat) : Int) by omega), decide_eq_true (show (0 : Int) ≤ 1 ∧ (1 : Int) ≤ 5 ∧ (5 : Int) ≤ t.length by omega), get4 k (by omega) t (by omega), head_map t (by omega), decide_eq_true (show (0 : Int) ≤ 5 ∧ (5 : Int) ≤ t.length ∧ (t.length : Int) ≤ t.length by omega)]
     simp only [cond_true, zRe, zTu, zCo, zIn, if_true, zNi, zOp]
     rw [(bt1_wraps t).1, (bt1_wraps t).2, Int.toNat_natCast, List.take_length, show Int.toNat 5 = 5 from rfl]
     refine (dparse_loop k (by omega) (n + 1) (by omega) (by omega) s ((n + 1 : Nat) : Int) 0 false n 1 k' [bt1 t] (t.drop 5) _ (by omega) (by omega) (by simp) rfl (by rw [List.length_drop]; omega) (by kernel_rfl)).trans ?_
     rw [bts, List.drop_drop, show 5 + 5 * n = 5 * (n + 1) by omega, show slT (bt1 t :: bts n (t.drop 5)) = .sl 2 false ((bt1 t :: bts n (t.drop 5)).map btV) from if_neg (by simp)]
     rfl
   have hfin : ParseBR (if bOk (bts n t) = true then some (bts n t, List.drop (5 * n) t) else none) (some (if bOk (bts n t) then .tup [slT (bts n t), .str (t.drop (5 * n)), .int .i64 0] else .tup [.sl 0 true [], .str [], .int .i64 3], [])) := by
    cases bOk (bts n t) with
    | false => exact ⟨3, by omega, rfl⟩
    | true => rfl
   rw [← hb] at hfin
   exact hfin
open Go.AM Go.Proofs Go
def teqS (fl fl' c : Bool) (xs ys : List AV) (i : Int) : St := ⟨26, [(0, AV.sl 2 fl xs), (1, AV.sl 2 fl' ys), (4, AV.bool false), (5, AV.int .i64 i), (10, AV.bool c)], [], [], [], [], []⟩
def teqS0 (a b : Nat) (fl fl' c : Bool) : St := ⟨26, [(0, AV.sl a fl []), (1, AV.sl b fl' []), (4, AV.bool false), (5, AV.int .i64 0), (10, AV.bool c)], [], [], [], [], []⟩
theorem teq_tree (F : Fns) (N : Nat) (a b : Nat) (fl fl' : Bool) (xs ys : List AV) : runOf F 52 N [.sl a fl xs, .sl b fl' ys] [] =
 bif (xs.length : Int) != (ys.length : Int) then some (AV.bool false, []) else loopA (zBy F 52 0 N) (zDe 52 0) (zCt F 52 0 N 0) N { nt := 26, t := [(0, AV.sl a fl xs), (1, AV.sl b fl' ys), (4, AV.bool false), (5, AV.int .i64 0), (10, AV.bool ((xs.length : Int) != (ys.length : Int)))], b := [], r := [], g := [], rd := [], wr := [] } := by kernel_rfl
theorem teq_body (F : Fns) (N : Nat) (fl fl' c : Bool) (xs ys : List AV) (i : Int) (KN : St → Res) : zBy F 52 0 N (teqS fl fl' c xs ys i) (brk (zCt F 52 0 N 0) KN) =
 bif decide (i < (xs.length : Int)) then bif decide (0 ≤ i) then zOp xs[Int.toNat i]? fun x => zAg x fun cs => zCo cs fun v r => zIn .i64 v fun n => zCo r fun v r => zIn .u64 v fun n_1 => zNi r (bif decide (0 ≤ i) then zOp ys[Int.toNat i]? fun x => zAg x fun cs => zCo cs fun v r => zIn .i64 v fun n_2 => zCo r fun v r => zIn .u64 v fun n_3 => zNi r (bif !(n == n_2 && (n_1 == n_3 && true)) then some (AV.bool false, []) else KN { nt := 26, t := [(0, AV.sl 2 fl xs), (1, AV.sl 2 fl' ys), (4, AV.bool false), (5, AV.int .i64 (IntKind.wrap .i64 (i + 1))), (10, AV.bool c), (14, AV.bool (decide (i < (xs.length : Int)))), (25, AV.bool !(n == n_2 && (n_1 == n_3 && true)))], b := [], r := [], g := [], rd := [], wr := [] }) else none) else none else some (AV.bool true, []) := by kernel_rfl
theorem teq_body0 (F : Fns) (N : Nat) (a b : Nat) (fl fl' c : Bool) (KN : St → Res) : zBy F 52 0 N (teqS0 a b fl fl' c) (brk (zCt F 52 0 N 0) KN) =
 some (AV.bool true, []) := by kernel_rfl
theorem teq_loop (F : Fns) (N : Nat) (fl fl' c : Bool) (l l' : List (Int × Int)) (hl : l.length = l'.length) (hb : l.length < 4611686018427387904) : ∀ (dd i m : Nat) (st : St), i + dd = l.length → dd < m → st.clean (zDe 52 0) = teqS fl fl' c (l.map btV) (l'.map btV) i →
  loopA (zBy F 52 0 N) (zDe 52 0) (zCt F 52 0 N 0) m st = some (.bool (decide (l.drop i = l'.drop i)), []) := by
 intro dd
 induction dd with
 | zero =>
  intro i m st hi hm hst
  obtain ⟨m, rfl⟩ : ∃ m', m = m' + 1 := ⟨m - 1, by omega⟩
  have h1 : l.drop i = [] := List.drop_eq_nil_of_le (by omega)
  have h2 : l'.drop i = [] := List.drop_eq_nil_of_le (by omega)
  rw [loopA_succ, hst, teq_body, List.length_map, decide_eq_false (by omega), h1, h2]
  rfl
 | succ dd ih =>
  intro i m st hi hm hst
  obtain ⟨m, rfl⟩ : ∃ m', m = m' + 1 := ⟨m - 1, by omega⟩
  have hlt : i < l.length := by omega
  have hlt' : i < l'.length := by omega
  rw [loopA_succ, hst, teq_body, List.length_map, decide_eq_true (show (i : Int) < l.length by omega), decide_eq_true (show (0 : Int) ≤ i by omega), getBt l i hlt, getBt l' i hlt', List.drop_eq_getElem_cons hlt, List.drop_eq_getElem_cons hlt']
  simp only [cond_true, zOp, zAg, zCo, zIn, if_true, zNi]
  rw [wrap_small (n := (i : Int) + 1) (by omega) (by omega)]
  by_cases hc : l[i] = l'[i]
  ·rw [hc]
   simp only [beq_self_eq_true, Bool.true_and, Bool.not_true, cond_false]
   refine (ih (i + 1) m _ (by omega) (by omega) (by kernel_rfl)).trans ?_
   have : decide (l.drop (i + 1) = l'.drop (i + 1)) = decide (l'[i] :: l.drop (i + 1) = l'[i] :: l'.drop (i + 1)) := by
    rw [decide_eq_decide]
    simp only [List.cons.injEq, true_and]
   rw [this]
  ·have : ((l[i]).1 == (l'[i]).1 && ((l[i]).2 == (l'[i]).2 && true)) = false := by
    by_cases h1 : (l[i]).1 = (l'[i]).1
    ·have h2 : (l[i]).2 ≠ (l'[i]).2 := fun h2 => hc (Prod.ext h1 h2)
     simp [h1, h2]
    ·simp [h1]
   rw [this, decide_eq_false (fun h => hc (List.cons.inj h).1)]
   rfl
theorem teq_nil (F : Fns) (N m a b : Nat) (fl fl' c : Bool) (st : St) (h : st.clean (zDe 52 0) = teqS0 a b fl fl' c) : loopA (zBy F 52 0 N) (zDe 52 0) (zCt F 52 0 N 0) (m + 1) st = some (.bool true, []) := by rw [loopA_succ, h, teq_body0]
theorem e52 (k : Nat) (fl fl' : Bool) (l l' : List (Int × Int)) (hk : l.length + 3 ≤ k) (hb : l.length < 4611686018427387904) : evF pr k 52 [.sl 2 fl (l.map btV), .sl 2 fl' (l'.map btV)] [] = some (.bool (decide (l = l')), []) := by
 obtain ⟨k, rfl⟩ : ∃ m, k = m + 1 := ⟨k - 1, by omega⟩
 rw [ev_step _ _ _ _ (by kernel_rfl), teq_tree, List.length_map, List.length_map]
 by_cases h : l.length = l'.length
 ·rw [show (((l.length : Nat) : Int) != ((l'.length : Nat) : Int)) = false by simp [h]]
  exact teq_loop (evF pr k) k fl fl' false l l' h hb l.length 0 k _ (Nat.zero_add _) (by omega) (by kernel_rfl)
 ·rw [show (((l.length : Nat) : Int) != ((l'.length : Nat) : Int)) = true by simp only [bne_iff_ne, ne_eq]; omega, decide_eq_false (fun e => h (by rw [e]))]
  rfl
theorem teq_nils (k a b : Nat) (fl fl' : Bool) : evF pr (k + 2) 52 [.sl a fl [], .sl b fl' []] [] = some (.bool true, []) := by
 rw [ev_step _ _ _ _ (by kernel_rfl), teq_tree, show ((((([] : List AV).length : Nat) : Int)) != ((([] : List AV).length : Nat) : Int)) = false from rfl, cond_false]
 exact teq_nil _ _ _ a b fl fl' false _ (by kernel_rfl)
def IsT (v : AV) (l : List (Int × Int)) : Prop := (∃ fl, v = .sl 2 fl (l.map btV)) ∨ (l = [] ∧ ∃ a fl, v = .sl a fl [])
theorem IsT.slT (l : List (Int × Int)) : IsT (slT l) l := by
 unfold AM.Ytnhfjkckgicidaa.slT
 split
 ·rename_i h; exact .inr ⟨h, _, _, rfl⟩
 ·exact .inl ⟨_, rfl⟩
theorem e52' (k : Nat) {v v' : AV} {l l' : List (Int × Int)} (hv : IsT v l) (hv' : IsT v' l') (hk : l.length + 3 ≤ k) (hb : l.length < 4611686018427387904) : evF pr k 52 [v, v'] [] = some (.bool (decide (l = l')), []) := by
 rcases hv with ⟨fl, rfl⟩ | ⟨rfl, a, fl, rfl⟩
 ·rcases hv' with ⟨fl', rfl⟩ | ⟨rfl, a', fl', rfl⟩
  ·exact e52 k fl fl' l l' hk hb
  ·cases l with
   | nil =>
    obtain ⟨k, rfl⟩ : ∃ m, k = m + 2 := ⟨k - 2, by omega⟩
    exact teq_nils k 2 a' fl fl'
   | cons b r =>
    obtain ⟨k, rfl⟩ : ∃ m, k = m + 1 := ⟨k - 1, by omega⟩
    rw [ev_step _ _ _ _ (by kernel_rfl), teq_tree, List.length_map]
    rw [show ((((b :: r).length : Nat) : Int) != ((([] : List AV).length : Nat) : Int)) = true by simp only [bne_iff_ne, ne_eq, List.length_cons, List.length_nil]; omega]
    rfl
 ·rcases hv' with ⟨fl', rfl⟩ | ⟨rfl, a', fl', rfl⟩
  ·cases l' with
   | nil =>
    obtain ⟨k, rfl⟩ : ∃ m, k = m + 2 := ⟨k - 2, by simp at hk; omega⟩
    exact teq_nils k a 2 fl fl'
   | cons b r =>
    obtain ⟨k, rfl⟩ : ∃ m, k = m + 1 := ⟨k - 1, by omega⟩
    rw [ev_step _ _ _ _ (by kernel_rfl), teq_tree, List.length_map]
    rw [show (((([] : List AV).length : Nat) : Int) != (((b :: r).length : Nat) : Int)) = true by simp only [bne_iff_ne, ne_eq, List.length_cons, List.length_nil]; omega]
    rfl
  ·obtain ⟨k, rfl⟩ : ∃ m, k = m + 2 := ⟨k - 2, by simp at hk; omega⟩
   exact teq_nils k a a' fl fl'
abbrev Vol := Int × List (List UInt8)
def volV (fl : Bool) (v : Vol) : AV := .agg [.int .i64 v.1, .sl 1 fl (v.2.map AV.str)]
def longB (s : List UInt8) : Bool := decide ((s.length : Int) > 8)
def vsOk : Int → List Vol → Bool
 | _, [] => true
 | last, v :: r => decide (last < v.1 ∧ v.1 ≤ 255 ∧ 1 ≤ v.2.length ∧ v.2.length ≤ 32) && (!(v.2.any longB) && vsOk v.1 r)
def vOk (l : List Vol) : Bool := decide (l.length ≤ 4) && vsOk 0 l
theorem getVol (fl : Bool) (l : List Vol) (i : Nat) (h : i < l.length) : (l.map (volV fl))[Int.toNat (i : Int)]? = some (.agg [.int .i64 (l[i]).1, .sl 1 fl ((l[i]).2.map AV.str)]) := by
 rw [Int.toNat_natCast, List.getElem?_map, List.getElem?_eq_getElem h]
 rfl
theorem c108_tree (F : Fns) (N : Nat) (s : List UInt8) : runOf F 108 N [.str s] [] =
 some (AV.bool (decide ((s.length : Int) > 8)), []) := by kernel_rfl
theorem e108 (k : Nat) (hk : 1 ≤ k) (s : List UInt8) : evF pr k 108 [.str s] [] = some (.bool (longB s), []) := by
 obtain ⟨k, rfl⟩ : ∃ m, k = m + 1 := ⟨k - 1, by omega⟩
 rw [ev_step _ _ _ _ (by kernel_rfl), c108_tree]
 rfl
def c123S (fl : Bool) (xs : List AV) (len i : Int) : St := ⟨19, [(0, AV.sl 1 fl xs), (1, AV.fn 108), (4, AV.int .i64 0), (7, AV.int .i64 len), (8, AV.int .i64 i)], [], [], [], [], []⟩
theorem c123_tree (F : Fns) (N : Nat) (fl : Bool) (xs : List AV) : runOf F 123 N [.sl 1 fl xs, .fn 108] [] =
 loopA (zBy F 123 0 N) (zDe 123 0) (zCt F 123 0 N 0) N { nt := 19, t := [(0, AV.sl 1 fl xs), (1, AV.fn 108), (4, AV.int .i64 0), (7, AV.int .i64 (xs.length : Int)), (8, AV.int .i64 0)], b := [], r := [], g := [], rd := [], wr := [] } := by kernel_rfl
theorem c123_body (F : Fns) (N : Nat) (fl : Bool) (xs : List AV) (len i : Int) (KN : St → Res) : zBy F 123 0 N (c123S fl xs len i) (brk (zCt F 123 0 N 0) KN) =
 bif decide (i < len) then bif decide (0 ≤ i) then zOp xs[Int.toNat i]? fun x => zSt x fun s => zRe (F 108 [AV.str s] []) fun v bs => zBo v fun b => zNi bs (bif b then some (AV.int .i64 i, []) else KN { nt := 19, t := [(0, AV.sl 1 fl xs), (1, AV.fn 108), (4, AV.int .i64 0), (5, AV.int .i64 i), (7, AV.int .i64 len), (8, AV.int .i64 (IntKind.wrap .i64 (i + 1))), (9, AV.bool (decide (i < len))), (16, AV.bool b)], b := [], r := [], g := [], rd := [], wr := [] }) else none else some (AV.int .i64 (-1), []) := by kernel_rfl
theorem c123_loop (k : Nat) (hk : 1 ≤ k) (fl : Bool) (l : List (List UInt8)) (hl : l.length ≤ 100000) : ∀ (dd i m : Nat) (st : St), i + dd = l.length → dd < m → st.clean (zDe 123 0) = c123S fl (l.map AV.str) l.length i →
  ∃ z, loopA (zBy (evF pr k) 123 0 k) (zDe 123 0) (zCt (evF pr k) 123 0 k 0) m st = some (.int .i64 z, []) ∧ decide (z ≥ 0) = (l.drop i).any longB := by
 intro dd
 induction dd with
 | zero =>
  intro i m st hi hm hst
  obtain ⟨m, rfl⟩ : ∃ m', m = m' + 1 := ⟨m - 1, by omega⟩
  have : l.drop i = [] := List.drop_eq_nil_of_le (by omega)
  rw [loopA_succ, hst, c123_body, decide_eq_false (by omega), this]
  exact ⟨-1, rfl, rfl⟩
 | succ dd ih =>
  intro i m st hi hm hst
  obtain ⟨m, rfl⟩ : ∃ m', m = m' + 1 := ⟨m - 1, by omega⟩
  have hlt : i < l.length := by omega
  rw [loopA_succ, hst, c123_body, decide_eq_true (show (i : Int) < l.length by omega), decide_eq_true (show (0 : Int) ≤ i by omega), Int.toNat_natCast, List.getElem?_map, List.getElem?_eq_getElem hlt, List.drop_eq_getElem_cons hlt, List.any_cons]
  simp only [cond_true, Option.map_some, zOp, zSt]
  rw [e108 k hk]
  simp only [zRe, zBo, zNi]
  cases longB l[i] with
  | true => exact ⟨i, rfl, by simp⟩
  | false =>
   simp only [cond_false, Bool.false_or]
   rw [wrap_small (n := (i : Int) + 1) (by omega) (by omega)]
   exact ih (i + 1) m _ (by omega) (by omega) (by kernel_rfl)
theorem c107_tree (F : Fns) (N : Nat) (fl : Bool) (xs : List AV) : runOf F 107 N [.sl 1 fl xs, .fn 108] [] =
 zRe (F 123 [AV.sl 1 fl xs, AV.fn 108] []) fun v bs => zIn .i64 v fun n => zNi bs (some (AV.bool (decide (n ≥ 0)), [])) := by kernel_rfl
theorem e107 (k : Nat) (fl : Bool) (l : List (List UInt8)) (hk : 4 + l.length ≤ k) (hl : l.length ≤ 100000) : evF pr k 107 [.sl 1 fl (l.map AV.str), .fn 108] [] = some (.bool (l.any longB), []) := by
 obtain ⟨k, rfl⟩ : ∃ m, k = m + 2 := ⟨k - 2, by omega⟩
 rw [ev_step _ _ _ _ (by kernel_rfl), c107_tree, ev_step _ _ _ _ (by kernel_rfl), c123_tree, List.length_map]
 obtain ⟨z, h1, h2⟩ := c123_loop k (by omega) fl l hl l.length 0 k ⟨19, [(0, AV.sl 1 fl (l.map AV.str)), (1, AV.fn 108), (4, AV.int .i64 0), (7, AV.int .i64 l.length), (8, AV.int .i64 0)], [], [], [], [], []⟩ (Nat.zero_add _) (by omega) (by kernel_rfl)
 rw [List.drop_zero] at h2
 rw [← h2]
 refine (congrArg (fun x => zRe x _) h1).trans ?_
 rfl
theorem vsize_tree (F : Fns) (N : Nat) (z : Int) : runOf F 92 N [.int .i64 z] [] =
 bif decide (z ≥ 1) then some (AV.bool (decide (z ≤ 32)), []) else some (AV.bool false, []) := by kernel_rfl
def sizeOk (z : Int) : Bool := decide (1 ≤ z ∧ z ≤ 32)
theorem e92 (k : Nat) (hk : 1 ≤ k) (z : Int) : evF pr k 92 [.int .i64 z] [] = some (.bool (sizeOk z), []) := by
 obtain ⟨k, rfl⟩ : ∃ m, k = m + 1 := ⟨k - 1, by omega⟩
 rw [ev_step _ _ _ _ (by kernel_rfl), vsize_tree]
 by_cases h : z ≥ 1
 ·rw [decide_eq_true h, show sizeOk z = decide (z ≤ 32) by unfold sizeOk; rw [decide_eq_decide]; omega]; rfl
 ·rw [decide_eq_false h, show sizeOk z = false by unfold sizeOk; rw [decide_eq_false_iff_not]; omega]; rfl
def vrightS (fl : Bool) (xs : List AV) (last len i : Int) : St := ⟨37, [(0, AV.sl 2 fl xs), (2, AV.bool false), (3, AV.int .i64 last), (6, AV.sl 2 fl xs), (7, AV.int .i64 len), (8, AV.int .i64 i)], [], [], [], [], []⟩
theorem vright_tree (F : Fns) (N : Nat) (fl : Bool) (xs : List AV) : runOf F 93 N [.sl 2 fl xs] [] =
 loopA (zBy F 93 0 N) (zDe 93 0) (zCt F 93 0 N 0) N { nt := 37, t := [(0, AV.sl 2 fl xs), (2, AV.bool false), (3, AV.int .i64 0), (6, AV.sl 2 fl xs), (7, AV.int .i64 (xs.length : Int)), (8, AV.int .i64 0)], b := [], r := [], g := [], rd := [], wr := [] } := by kernel_rfl
theorem vright_body (F : Fns) (N : Nat) (fl : Bool) (xs : List AV) (last len i : Int) (KN : St → Res) : zBy F 93 0 N (vrightS fl xs last len i) (brk (zCt F 93 0 N 0) KN) =
 bif decide (i < len) then bif decide (0 ≤ i) then zOp xs[Int.toNat i]? fun x => zAg x fun cs => zCo cs fun v r => zIn .i64 v fun n => zCo r fun v r => asSl v fun m fl_1 xs_1 => zNi r (bif decide (n ≤ last) then some (AV.bool false, []) else bif decide (n > 255) then some (AV.bool false, []) else zRe (F 92 [AV.int .i64 (xs_1.length : Int)] []) fun v bs => zBo v fun b => zNi bs (bif !b then some (AV.bool false, []) else zRe (F 107 [AV.sl m fl_1 xs_1, AV.fn 108] []) fun v bs => zBo v fun b_1 => zNi bs (bif b_1 then some (AV.bool false, []) else KN { nt := 37, t := [(0, AV.sl 2 fl xs), (2, AV.bool false), (3, AV.int .i64 n), (5, AV.ptr 5 0 0), (6, AV.sl 2 fl xs), (7, AV.int .i64 len), (8, AV.int .i64 (IntKind.wrap .i64 (i + 1))), (9, AV.bool (decide (i < len))), (27, AV.bool !b), (30, AV.bool b_1)], b := [(5, [AV.int .i64 n, AV.sl m fl_1 xs_1])], r := [], g := [], rd := [], wr := [] }))) else none else some (AV.bool (decide ((xs.length : Int) ≤ 4)), []) := by kernel_rfl
theorem vright_loop (k : Nat) (hk : 40 ≤ k) (fl f2 : Bool) (l : List Vol) (hl : l.length ≤ 1000000000) : ∀ (dd i m : Nat) (last : Int) (st : St), i + dd = l.length → dd < m → st.clean (zDe 93 0) = vrightS fl (l.map (volV f2)) last l.length i →
  loopA (zBy (evF pr k) 93 0 k) (zDe 93 0) (zCt (evF pr k) 93 0 k 0) m st = some (.bool (vsOk last (l.drop i) && decide (l.length ≤ 4)), []) := by
 intro dd
 induction dd with
 | zero =>
  intro i m last st hi hm hst
  obtain ⟨m, rfl⟩ : ∃ m', m = m' + 1 := ⟨m - 1, by omega⟩
  have h1 : l.drop i = [] := List.drop_eq_nil_of_le (by omega)
  rw [loopA_succ, hst, vright_body, decide_eq_false (by omega), h1, List.length_map, vsOk, Bool.true_and, show decide (l.length ≤ 4) = decide (((l.length : Nat) : Int) ≤ 4) by rw [decide_eq_decide]; omega]
  rfl
 | succ dd ih =>
  intro i m last st hi hm hst
  obtain ⟨m, rfl⟩ : ∃ m', m = m' + 1 := ⟨m - 1, by omega⟩
  have hlt : i < l.length := by omega
  rw [loopA_succ, hst, vright_body, decide_eq_true (show (i : Int) < l.length by omega), decide_eq_true (show (0 : Int) ≤ i by omega), getVol f2 l i hlt, List.drop_eq_getElem_cons hlt, vsOk]
  simp only [cond_true, zOp, zAg, zCo, zIn, asSl, if_true, zNi]
  rw [wrap_small (n := (i : Int) + 1) (by omega) (by omega), List.length_map, e92 k (by omega)]
  simp only [zRe, zBo, zNi]
  generalize l[i] = v
  by_cases hc : last < v.1 ∧ v.1 ≤ 255 ∧ 1 ≤ v.2.length ∧ v.2.length ≤ 32
  ·rw [decide_eq_true hc, decide_eq_false (show ¬ v.1 ≤ last by omega), decide_eq_false (show ¬ v.1 > 255 by omega), show sizeOk ((v.2.length : Nat) : Int) = true from decide_eq_true (by omega), e107 k f2 v.2 (by omega) (by omega)]
   simp only [cond_false, Bool.not_true, Bool.true_and]
   cases hb : v.2.any longB with
   | true => rfl
   | false =>
    simp only [cond_false, Bool.not_false, Bool.true_and]
    exact ih (i + 1) m _ _ (by omega) (by omega) (by kernel_rfl)
  ·rw [decide_eq_false hc, Bool.false_and, Bool.false_and]
   by_cases h1 : v.1 ≤ last
   ·rw [decide_eq_true h1]; rfl
   by_cases h2 : v.1 > 255
   ·rw [decide_eq_false h1, decide_eq_true h2]; rfl
   rw [decide_eq_false h1, decide_eq_false h2, show sizeOk ((v.2.length : Nat) : Int) = false by unfold sizeOk; rw [decide_eq_false_iff_not]; omega]
   rfl
theorem e93 (k : Nat) (fl f2 : Bool) (l : List Vol) (hk : l.length + 50 ≤ k) (hl : l.length ≤ 1000000000) : evF pr k 93 [.sl 2 fl (l.map (volV f2))] [] = some (.bool (vOk l), []) := by
 obtain ⟨k, rfl⟩ : ∃ m, k = m + 1 := ⟨k - 1, by omega⟩
 rw [ev_step _ _ _ _ (by kernel_rfl), vright_tree, List.length_map, vOk, Bool.and_comm]
 exact vright_loop k (by omega) fl f2 l hl l.length 0 k 0 _ (Nat.zero_add _) (by omega) (by kernel_rfl)
theorem e17nil (k a : Nat) (fl : Bool) : evF pr (k + 6) 17 [.sl a fl []] [] = some (.tup [.str [0], .int .i64 0], []) := by kernel_rfl
theorem e53nil (k a : Nat) (fl : Bool) : evF pr (k + 6) 53 [.sl a fl []] [] = some (.tup [.str [0], .int .i64 0], []) := by kernel_rfl
theorem e17' (k : Nat) {v : AV} {l : List (Int × Int)} (h : IsL v l) (hk : 100 + l.length ≤ k) (hs : Sm l) (hl : l.length ≤ 1000) : evF pr k 17 [v] [] = some (if lined l then .tup [.str (putL l), .int .i64 0] else .tup [.str [], .int .i64 1], []) := by
 rcases h with ⟨fl, rfl⟩ | ⟨rfl, a, fl, rfl⟩
 ·exact e17 k fl l (by omega) hs hl
 ·obtain ⟨k, rfl⟩ : ∃ m, k = m + 6 := ⟨k - 6, by omega⟩
  exact e17nil k a fl
theorem e62' (k : Nat) {v : AV} {l : List (Int × Int)} (h : IsT v l) (hk : 100 + l.length ≤ k) (hl : l.length ≤ 1000) : evF pr k 62 [v] [] = some (.bool (bOk l), []) := by
 rcases h with ⟨fl, rfl⟩ | ⟨rfl, a, fl, rfl⟩
 ·exact e62 k fl l (by omega) (by omega)
 ·obtain ⟨k, rfl⟩ : ∃ m, k = m + 6 := ⟨k - 6, by omega⟩
  exact e62nil k a fl
theorem e53' (k : Nat) {v : AV} {l : List (Int × Int)} (h : IsT v l) (hu : UM l) (hk : 100 + l.length ≤ k) (hl : l.length ≤ 1000) : evF pr k 53 [v] [] = some (if bOk l then .tup [.str (putB l), .int .i64 0] else .tup [.str [], .int .i64 1], []) := by
 rcases h with ⟨fl, rfl⟩ | ⟨rfl, a, fl, rfl⟩
 ·exact e53 k fl l hu (by omega) hl
 ·obtain ⟨k, rfl⟩ : ∃ m, k = m + 6 := ⟨k - 6, by omega⟩
  exact e53nil k a fl
def IsZ (v : AV) (l : List Int) : Prop := (∃ fl, v = .sl 1 fl (l.map (AV.int .i64))) ∨ (l = [] ∧ ∃ a fl, v = .sl a fl [])
theorem IsL.sl {v : AV} {l : List (Int × Int)} (h : IsL v l) : ∃ a f xs, v = .sl a f xs ∧ xs.length = l.length := by
 rcases h with ⟨fl, rfl⟩ | ⟨rfl, a, fl, rfl⟩
 ·exact ⟨_, _, _, rfl, by simp⟩
 ·exact ⟨_, _, _, rfl, rfl⟩
theorem IsT.sl {v : AV} {l : List (Int × Int)} (h : IsT v l) : ∃ a f xs, v = .sl a f xs ∧ xs.length = l.length := by
 rcases h with ⟨fl, rfl⟩ | ⟨rfl, a, fl, rfl⟩
 ·exact ⟨_, _, _, rfl, by simp⟩
 ·exact ⟨_, _, _, rfl, rfl⟩
theorem IsW.sl {v : AV} {l : List Wr} (h : IsW v l) : ∃ a f xs, v = .sl a f xs ∧ xs.length = l.length := by
 rcases h with ⟨fl, rfl⟩ | ⟨rfl, a, fl, rfl⟩
 ·exact ⟨_, _, _, rfl, by simp⟩
 ·exact ⟨_, _, _, rfl, rfl⟩
theorem IsZ.sl {v : AV} {l : List Int} (h : IsZ v l) : ∃ a f xs, v = .sl a f xs ∧ xs.length = l.length := by
 rcases h with ⟨fl, rfl⟩ | ⟨rfl, a, fl, rfl⟩
 ·exact ⟨_, _, _, rfl, by simp⟩
 ·exact ⟨_, _, _, rfl, rfl⟩
def fitsI (z : Int) : Bool := decide (0 ≤ z ∧ z ≤ 1099511627776)
def lastAt (l : List (Int × Int)) : Int := (l.getD (l.length - 1) (0, 0)).2
def placedOk (l : List (Int × Int)) (z : Int) : Bool := lineOk l && decide (lastAt l ≤ z ∧ z ≤ 1099511627776)
def noneOk (l : List (Int × Int)) (z : Int) : Bool := decide (l.length = 0) && decide (z = 0)
theorem lplaced_tree (F : Fns) (N : Nat) (fl : Bool) (xs : List AV) (z : Int) : runOf F 94 N [.agg [.sl 2 fl xs, .int .i64 z]] [] =
 zRe (F 44 [AV.sl 2 fl xs] []) fun v bs => zBo v fun b => zNi bs (bif b then bif decide (0 ≤ IntKind.wrap .i64 ((xs.length : Int) - 1)) then zOp xs[Int.toNat (IntKind.wrap .i64 ((xs.length : Int) - 1))]? fun x => zAg x fun cs => zCo cs fun v r => zIn .i64 v fun n => zCo r fun v r => zIn .i64 v fun n => zNi r (bif decide (z ≥ n) then some (AV.bool (decide (z ≤ 1099511627776)), []) else some (AV.bool false, [])) else none else some (AV.bool false, [])) := by kernel_rfl
theorem e94nil (k a : Nat) (fl : Bool) (z : Int) : evF pr (k + 6) 94 [.agg [.sl a fl [], .int .i64 z]] [] = some (.bool false, []) := by kernel_rfl
theorem getLast (l : List (Int × Int)) (h : lineOk l = true) : 0 ≤ IntKind.wrap .i64 ((((l.map brV).length : Nat) : Int) - 1) ∧ ∃ e, (l.map brV)[Int.toNat (IntKind.wrap .i64 ((((l.map brV).length : Nat) : Int) - 1))]? = some (.agg [.int .i64 e, .int .i64 (lastAt l)]) := by
 have hl : l.length ≤ 64 ∧ 0 < l.length := by
  cases l with
  | nil => simp [lineOk] at h
  | cons b r =>
   rw [lineOk, Bool.and_eq_true, decide_eq_true_eq] at h
   exact ⟨h.1, by simp⟩
 have hw : IntKind.wrap .i64 ((((l.map brV).length : Nat) : Int) - 1) = ((l.length - 1 : Nat) : Int) := by
  rw [List.length_map, wrap_small (by omega) (by omega)]
  omega
 rw [hw, getBr l (l.length - 1) (by omega)]
 refine ⟨by omega, (l[l.length - 1]).1, ?_⟩
 have : lastAt l = (l[l.length - 1]).2 := by
  unfold lastAt
  rw [List.getD_eq_getElem?_getD, List.getElem?_eq_getElem (by omega)]
  rfl
 rw [this]
theorem e94 (k : Nat) (hk : 110 ≤ k) {v : AV} {l : List (Int × Int)} (h : IsL v l) (z : Int) : evF pr k 94 [.agg [v, .int .i64 z]] [] = some (.bool (placedOk l z), []) := by
 rcases h with ⟨fl, rfl⟩ | ⟨rfl, a, fl, rfl⟩
 ·obtain ⟨k, rfl⟩ : ∃ m, k = m + 1 := ⟨k - 1, by omega⟩
  rw [ev_step _ _ _ _ (by kernel_rfl), lplaced_tree, e44 k (by omega), placedOk]
  simp only [zRe, zBo, zNi]
  cases hok : lineOk l with
  | false => rfl
  | true =>
   obtain ⟨g1, e, g2⟩ := getLast l hok
   rw [decide_eq_true g1, g2]
   simp only [cond_true, zOp, zAg, zCo, zIn, if_true, zNi, Bool.true_and]
   by_cases h1 : z ≥ lastAt l
   ·rw [decide_eq_true h1, show decide (lastAt l ≤ z ∧ z ≤ 1099511627776) = decide (z ≤ 1099511627776) by rw [decide_eq_decide]; omega]
    rfl
   ·rw [decide_eq_false h1, decide_eq_false (show ¬ (lastAt l ≤ z ∧ z ≤ 1099511627776) by omega)]
    rfl
 ·obtain ⟨k, rfl⟩ : ∃ m, k = m + 6 := ⟨k - 6, by omega⟩
  exact e94nil k a fl z
end Go.AM.Ytnhfjkckgicidaa

namespace Go.AM
open Go.RowKit Go.Lib Go.ChangeShapes Go.WideShapes
inductive Cn where
 | id
 | sl (z : Nat)
 | cells (l : List Cn)
 | tup (l : List Cn)
def can1 : Cn → AV → AV
 | .sl z, .sl s f xs => bif s == z then .sl z false xs else bif xs.isEmpty then .sl z false [] else .sl s f xs
 | _, v => v
def canL : List Cn → List AV → List AV
 | c :: r, v :: l => can1 c v :: canL r l
 | _, l => l
def canV : Cn → AV → AV
 | .cells l, .agg cs => .agg (canL l cs)
 | c, v => can1 c v
def canVs : List Cn → List AV → List AV
 | c :: r, v :: l => canV c v :: canVs r l
 | _, l => l
def canR : Cn → AV → AV
 | .tup l, .tup cs => .tup (canVs l cs)
 | c, v => canV c v
def cRes (c : Cn) : Res → Res
 | some (v, bs) => some (canR c v, bs)
 | none => none
abbrev Ct := List (Nat × (List Cn × Cn))
def ctA (ct : Ct) (f : Nat) : List Cn := match find f ct with | some p => p.1 | none => []
def ctR (ct : Ct) (f : Nat) : Cn := match find f ct with | some p => p.2 | none => .id
noncomputable def evW (pr : Prg) (old : List Nat) (ct : Ct) : Nat → Fns
 | 0, _, _, _ => none
 | k + 1, f, vs, bs => cRes (ctR ct f) (bif old.contains f then evF pr (k + 1) f (canVs (ctA ct f) vs) bs else match pr.f f with
  | some (.inl fx) => evFn (evW pr old ct k) pr.tb pr.sh fx k (canVs (ctA ct f) vs) bs
  | some (.inr g) => g (canVs (ctA ct f) vs) bs
  | none => none)
theorem cRes_id (r : Res) : cRes .id r = r := by
 cases r with
 | none => rfl
 | some p => obtain ⟨v, bs⟩ := p; cases v <;> rfl
section
variable {P : Program} {w : World} {D : Dead}
theorem can1_rep {c : Cn} {a : AV} {v : Value} (h : RepD w D a v) : RepD w D (can1 c a) v := by
 unfold can1
 split
 ·rename_i z s f xs
  cases hs : s == z with
  | true =>
   have : s = z := by simpa using hs
   subst this
   exact h.unfull
  | false =>
   cases hx : xs.isEmpty with
   | false => exact h
   | true =>
    have : xs = [] := by simpa using hx
    subst this
    cases h with
    | slN _ _ A cap hf => exact .slN z false A cap (by simp)
    | sl _ _ _ b o cap f hlc hf hs hc hr => exact .slN z false _ cap (by simp)
 ·exact h
theorem can1_cell {c : Cn} {a : AV} (h : a.cell1 = true) : (can1 c a).cell1 = true := by
 unfold can1
 split
 ·rename_i z s f xs
  cases s == z <;> cases xs.isEmpty <;> rfl
 ·exact h
theorem canL_length : ∀ (l : List Cn) (cs : List AV), (canL l cs).length = cs.length
 | [], cs => by cases cs <;> rfl
 | _ :: _, [] => rfl
 | _ :: r, _ :: l => by simp [canL, canL_length r l]
theorem canL_get : ∀ (l : List Cn) (cs : List AV) (i : Nat) (c : AV), (canL l cs)[i]? = some c → ∃ c0 n, cs[i]? = some c0 ∧ c = can1 n c0
 | [], cs, i, c, h => ⟨c, .id, by cases cs <;> exact h, by cases c <;> rfl⟩
 | n :: r, [], i, c, h => by simp [canL] at h
 | n :: r, v :: l, i, c, h => by
  cases i with
  | zero => simp [canL] at h; exact ⟨v, n, rfl, h.symm⟩
  | succ i => simp only [canL, List.getElem?_cons_succ] at h ⊢; exact canL_get r l i c h
theorem canV_rep {c : Cn} {a : AV} {v : Value} (h : RepD w D a v) : RepD w D (canV c a) v := by
 unfold canV
 split
 ·rename_i l cs
  cases h with
  | agg _ vs hn h1 h2 =>
   refine .agg _ vs (by rw [canL_length]; exact hn) (fun c hc => ?_) (fun i c v hi hj => ?_)
   ·obtain ⟨i, hi⟩ := List.getElem?_of_mem hc
    obtain ⟨c0, n, e1, rfl⟩ := canL_get _ _ _ _ hi
    exact can1_cell (h1 c0 (List.mem_of_getElem? e1))
   ·obtain ⟨c0, n, e1, rfl⟩ := canL_get _ _ _ _ hi
    exact can1_rep (h2 i c0 v e1 hj)
 ·exact can1_rep h
theorem canVs_length : ∀ (l : List Cn) (cs : List AV), (canVs l cs).length = cs.length
 | [], cs => by cases cs <;> rfl
 | _ :: _, [] => rfl
 | _ :: r, _ :: l => by simp [canVs, canVs_length r l]
theorem canV_id (c : AV) : canV .id c = c := by cases c <;> rfl
theorem canVs_get : ∀ (l : List Cn) (cs : List AV) (i : Nat) (c : AV), (canVs l cs)[i]? = some c → ∃ c0 n, cs[i]? = some c0 ∧ c = canV n c0
 | [], cs, i, c, h => ⟨c, .id, by cases cs <;> exact h, (canV_id c).symm⟩
 | n :: r, [], i, c, h => by simp [canVs] at h
 | n :: r, v :: l, i, c, h => by
  cases i with
  | zero => simp [canVs] at h; exact ⟨v, n, rfl, h.symm⟩
  | succ i => simp only [canVs, List.getElem?_cons_succ] at h ⊢; exact canVs_get r l i c h
theorem canV_ptr {c : Cn} {v : AV} : (∃ k g o, v = .ptr k g o ∧ canV c v = .ptr k g o) ∨ ((∀ k g o, v ≠ .ptr k g o) ∧ ∀ k g o, canV c v ≠ .ptr k g o) := by
 cases v with
 | ptr k g o => left; exact ⟨k, g, o, rfl, by cases c <;> rfl⟩
 | sl s f xs =>
  right
  refine ⟨by simp, fun k g o => ?_⟩
  cases c with
  | sl z => simp only [canV, can1]; cases s == z <;> cases xs.isEmpty <;> simp
  | _ => simp [canV, can1]
 | _ => right; refine ⟨by simp, fun k g o => ?_⟩; cases c <;> simp [canV, can1]
theorem args_can {B : Nat → Nat} {l : List Cn} {vs : List AV} {args : Array Value} (h : ArgsRep w D B vs args) : ArgsRep w D B (canVs l vs) args := by
 refine ⟨by rw [canVs_length]; exact h.1, fun i v cv hi hj => ?_⟩
 obtain ⟨c0, n, e1, rfl⟩ := canVs_get _ _ _ _ hi
 have := h.2 i c0 cv e1 hj
 rcases canV_ptr (c := n) (v := c0) with ⟨k, g, o, rfl, e⟩ | ⟨h1, h2⟩
 ·rw [e]; exact this
 ·have h0 : RepD w D c0 cv := by cases c0 <;> first | exact this | exact absurd rfl (h1 _ _ _)
  have h3 := canV_rep (c := n) h0
  generalize canV n c0 = x at h2 h3
  cases x <;> first | exact h3 | exact absurd rfl (h2 _ _ _)
theorem res_can {c : Cn} {r : AV} {cv : Value} (h : RepR w D r cv) : RepR w D (canR c r) cv := by
 unfold canR
 split
 ·rename_i l cs
  obtain ⟨arr, e, hn, hh⟩ := h
  refine ⟨arr, e, by rw [canVs_length]; exact hn, fun i c cv hi hj => ?_⟩
  obtain ⟨c0, n, e1, rfl⟩ := canVs_get _ _ _ _ hi
  exact canV_rep (hh i c0 cv e1 hj)
 ·cases r with
  | tup l => cases c <;> exact h
  | _ =>
   have h3 := canV_rep (c := c) (show RepD w D _ cv from h)
   generalize hx : canV c _ = x at h3
   cases x <;> first | exact h3 | (cases h3; done)
theorem OverOk.can {f : Nat} {g : Over} (h : OverOk P f g) (l : List Cn) (c : Cn) : OverOk P f (fun vs bs => cRes c (g (canVs l vs) bs)) := by
 intro vs bs r bs' hg
 simp only [cRes] at hg
 split at hg
 ·rename_i v bs1 hg1
  simp only [Option.some.injEq, Prod.mk.injEq] at hg
  obtain ⟨rfl, rfl⟩ := hg
  obtain ⟨h1, h2⟩ := h _ _ _ _ hg1
  refine ⟨h1, fun w D B args hD ha hb hi hl => (h2 w D B args hD (args_can ha) hb hi hl).mono fun e w' hp => ?_⟩
  obtain ⟨cv, D', q1, q2, q3⟩ := hp
  exact ⟨cv, D', q1, res_can q2, q3⟩
 ·simp at hg
theorem evW_sound {pr : Prg} (hP : PrgOk P pr) (hls : ∀ f fx, pr.f f = some (.inl fx) → fx.ls = []) (old : List Nat) (ct : Ct) : ∀ k, SoundF P (evW pr old ct k)
 | 0 => fun f vs bs r bs' h => by simp [evW] at h
 | k + 1 => fun f vs bs r bs' h => by
  have key : ∀ {g : Over}, OverOk P f g → cRes (ctR ct f) (g (canVs (ctA ct f) vs) bs) = some (r, bs') → _ := fun hg hh => hg.can (ctA ct f) (ctR ct f) vs bs r bs' hh
  unfold evW at h
  cases ho : old.contains f with
  | true =>
   rw [ho] at h
   exact key (fun vs bs r bs' hh => evF_sound hP (k + 1) f vs bs r bs' hh) h
  | false =>
   rw [ho] at h
   simp only [cond_false] at h
   split at h
   ·rename_i fx hf
    exact key (evFn_sound (evW_sound hP hls old ct k) hP.tb (hP.fn f fx hf) (fun c hc c' hc' LS hLS => by rw [hls f fx hf] at hLS; simp [find] at hLS) k) h
   ·rename_i g hg
    exact key (hP.over f g hg) h
   ·simp [cRes] at h
variable {H : Type} {enc : TypeId × Value → H} {W : World} {spare : Nat → Bool} {held : Bool} {base : Nat}
theorem law_callsW {F : Nat → Fns} (hF : ∀ k, SoundF P (F k)) {f n : Nat} {ts : List TypeId} (hts : ts.all (plainT P n) = true) {args : Array Value} {ds : List (DataW H)} {ps : List MemPlace} (hv : ∀ (j : Nat) t v, ts[j]? = some t → args[j]? = some v → Value.okWide P W .any base t v)
  (hA : DataW.TrodAll enc P W 0 spare held ts args.toList ds ps) (hw : (DataW.weightsEach P ts ds).all (· ≤ reachBytes) = true) (law : ∀ avs, WtArgs P n ts avs → ∃ k, F k f avs [] = some (.bool true, [])) :
  Calls P f args W fun e W' => e = .returned (.bool true) ∧ Below W.heap.size W W' := by
 obtain ⟨avs, h1, h2, h3⟩ := args_rep hts (fun j t v ht hj => hv j t v ht (by simpa using hj)) hA (fun m hm => by simpa using List.all_eq_true.1 hw m hm)
 obtain ⟨k, hk⟩ := law avs h1
 obtain ⟨_, hc⟩ := hF k f avs [] _ _ hk
 refine (hc W (oldD W) (fun _ => 0) args (fun b o h => h) ⟨by simpa using h2.symm, fun i v cv hi hj => ?_⟩ (by intro n cs h; simp at h) (by intro m n hm; simp at hm) (by intro n hn; simp at hn)).mono fun e W' hp => ?_
 ·obtain ⟨q1, q2⟩ := h3 i v cv hi (by simpa using hj)
  cases v <;> first | exact q1 | exact absurd rfl (q2 _ _ _)
 ·obtain ⟨cv, D', rfl, hR, _, _, hA⟩ := hp
  have : cv = .bool true := by cases (show RepD W' D' (.bool true) cv from hR); rfl
  subst this
  exact ⟨rfl, hA.os, hA.tape, hA.output, hA.size, fun b hb => hA.block b hb (by intro n hn; simp at hn)⟩
end
end Go.AM

namespace Go.AM.Ytnhfjkckgicidaa
open Go.AM Go.Proofs Go
noncomputable def ct : Ct := [
 (31, ([.cells [.id, .id, .id, .id, .sl 2, .id, .sl 2, .id, .sl 3, .sl 2, .id, .sl 2, .sl 3, .id, .id, .id, .id, .sl 3, .id, .sl 3, .sl 3]], .id)),
 (33, ([.cells [.id, .id, .id, .id, .sl 2, .id, .sl 2, .id, .sl 3, .sl 2, .id, .sl 2, .sl 3, .id, .id, .id, .id, .sl 3, .id, .sl 3, .sl 3]], .id)),
 (34, ([], .tup [.cells [.id, .id, .id, .id, .sl 2, .id, .sl 2, .id, .sl 3, .sl 2, .id, .sl 2, .sl 3, .id, .id, .id, .id, .sl 3, .id, .sl 3, .sl 3], .id])),
 (35, ([.cells [.id, .id, .id, .id, .sl 2, .id, .sl 2, .id, .sl 3, .sl 2, .id, .sl 2, .sl 3, .id, .id, .id, .id, .sl 3, .id, .sl 3, .sl 3], .cells [.id, .id, .id, .id, .sl 2, .id, .sl 2, .id, .sl 3, .sl 2, .id, .sl 2, .sl 3, .id, .id, .id, .id, .sl 3, .id, .sl 3, .sl 3]], .id)),
 (64, ([.sl 2, .sl 3], .id)),
 (65, ([.cells [.sl 3, .sl 3]], .id)),
 (66, ([], .cells [.id, .id, .id, .id, .sl 2, .id, .sl 2, .id, .sl 3, .sl 2, .id, .sl 2, .sl 3, .id, .id, .id, .id, .sl 3, .id, .sl 3, .sl 3])),
 (67, ([.cells [.id, .id, .id, .id, .sl 2, .id, .sl 2, .id, .sl 3, .sl 2, .id, .sl 2, .sl 3, .id, .id, .id, .id, .sl 3, .id, .sl 3, .sl 3]], .id)),
 (53, ([.sl 2], .id)),
 (69, ([.sl 1], .id)),
 (70, ([.sl 2], .id)),
 (71, ([.sl 2], .id)),
 (72, ([.sl 3], .id)),
 (75, ([], .sl 2)),
 (50, ([], .tup [.sl 2, .id, .id])),
 (76, ([.id, .sl 2], .sl 2)),
 (77, ([], .sl 2)),
 (78, ([], .sl 3)),
 (16, ([.sl 3, .sl 3], .id)),
 (22, ([.sl 2, .sl 2], .id)),
 (79, ([.sl 2, .sl 2], .id)),
 (52, ([.sl 2, .sl 2], .id)),
 (80, ([.cells [.sl 3, .sl 3], .cells [.sl 3, .sl 3]], .id)),
 (102, ([], .tup [.sl 1, .id, .id])),
 (99, ([.sl 1], .id)),
 (95, ([.cells [.id, .id, .id, .id, .sl 2, .id, .sl 2, .id, .sl 3, .sl 2, .id, .sl 2, .sl 3, .id, .id, .id, .id, .sl 3, .id, .sl 3, .sl 3]], .id)),
 (96, ([.cells [.id, .id, .id, .id, .sl 2, .id, .sl 2, .id, .sl 3, .sl 2, .id, .sl 2, .sl 3, .id, .id, .id, .id, .sl 3, .id, .sl 3, .sl 3]], .id)),
 (97, ([.cells [.id, .id, .id, .id, .sl 2, .id, .sl 2, .id, .sl 3, .sl 2, .id, .sl 2, .sl 3, .id, .id, .id, .id, .sl 3, .id, .sl 3, .sl 3]], .id)),
 (98, ([.cells [.id, .id, .id, .id, .sl 2, .id, .sl 2, .id, .sl 3, .sl 2, .id, .sl 2, .sl 3, .id, .id, .id, .id, .sl 3, .id, .sl 3, .sl 3]], .id)),
 (62, ([.sl 2], .id)),
 (17, ([.sl 2], .id)),
 (11, ([.sl 3], .id)),
 (20, ([], .tup [.sl 2, .id, .id])),
 (101, ([.id, .sl 2], .sl 2)),
 (103, ([.id, .sl 1], .sl 1)),
 (14, ([], .tup [.sl 3, .id, .id])),
 (104, ([.id, .sl 3], .sl 3)),
 (109, ([.sl 1], .id)),
 (110, ([.cells [.sl 2]], .id)),
 (111, ([.cells [.id, .id, .id, .id, .sl 2, .id, .sl 2, .id, .sl 3, .sl 2, .id, .sl 2, .sl 3, .id, .id, .id, .id, .sl 3, .id, .sl 3, .sl 3]], .cells [.sl 2])),
 (94, ([.cells [.sl 2]], .id)),
 (112, ([.sl 2], .id)),
 (93, ([.sl 2], .id)),
 (113, ([.sl 3, .sl 2], .id)),
 (114, ([.cells [.sl 2], .cells [.sl 2]], .id)),
 (115, ([.sl 2, .sl 2], .id)),
 (116, ([.sl 2, .sl 3], .id)),
 (117, ([.cells [.id, .id, .id, .id, .sl 2, .id, .sl 2, .id, .sl 3, .sl 2, .id, .sl 2, .sl 3, .id, .id, .id, .id, .sl 3, .id, .sl 3, .sl 3]], .id)),
 (118, ([.cells [.sl 3, .sl 3]], .id)),
 (119, ([.cells [.sl 3, .sl 3]], .id)),
 (120, ([.cells [.id, .id, .id, .id, .sl 2, .id, .sl 2, .id, .sl 3, .sl 2, .id, .sl 2, .sl 3, .id, .id, .id, .id, .sl 3, .id, .sl 3, .sl 3]], .id)),
 (44, ([.sl 2], .id)),
 (45, ([.sl 1], .id)),
 (36, ([.sl 3], .id)),
 (48, ([], .sl 2)),
 (42, ([], .sl 3)),
 (124, ([.sl 1], .id)),
 (107, ([.sl 1], .id)),
 (81, ([.sl 3], .id)),
 (126, ([.cells [.sl 2], .cells [.sl 2]], .id)),
 (127, ([.sl 1], .id)),
 (128, ([.sl 2], .sl 2)),
 (129, ([.sl 2], .id)),
 (130, ([.cells [.sl 3, .sl 3]], .id)),
 (82, ([.sl 3], .id)),
 (133, ([.sl 1], .id)),
 (123, ([.sl 1], .id)),
 (106, ([.sl 3], .id)),
 (121, ([.sl 1], .id))]
def old : List Nat := [69,44,94,92,107,108,93,132,122,105,81,62,37,38,82,83,36,11,53,45,17,89,88,49,48,20,50,85,42,14,16,22,52]
noncomputable def W (k : Nat) : Fns := evW pr old ct k
theorem W_tree {k f : Nat} {vs vs' : List AV} {bs : Boxes} {r : Res} (hr : runOf (W k) f k vs' bs = r) (h : (bif old.contains f then false else (find f fnl).isSome, canVs (ctA ct f) vs) = (true, vs')) : W (k + 1) f vs bs = cRes (ctR ct f) r := by
 simp only [Prod.mk.injEq] at h
 obtain ⟨h1, rfl⟩ := h
 subst hr
 cases ho : old.contains f with
 | true => rw [ho] at h1; simp at h1
 | false =>
  rw [ho] at h1
  simp only [cond_false] at h1
  obtain ⟨fx, hfx⟩ := Option.isSome_iff_exists.1 h1
  have e : pr.f f = some (.inl fx) := by
   show mkF fnl [] f = _
   simp [mkF, find, hfx]
  unfold W
  simp only [evW, ho, cond_false, e]
  unfold runOf fxOf
  rw [hfx]
  rfl
theorem W_tree0 {k f : Nat} {vs vs' : List AV} {bs : Boxes} {r : Res} (hr : runOf (W k) f k vs' bs = r) (h : (bif old.contains f then false else (find f fnl).isSome, canVs (ctA ct f) vs, ctR ct f) = (true, vs', Cn.id)) : W (k + 1) f vs bs = r := by
 simp only [Prod.mk.injEq] at h
 rw [W_tree hr (by rw [h.1, h.2.1]), h.2.2, cRes_id]
theorem W_old {k f : Nat} {vs vs' : List AV} {bs : Boxes} {r : Res} (hr : evF pr k f vs' bs = r) (hk : 1 ≤ k) (h : (old.contains f, canVs (ctA ct f) vs) = (true, vs')) : W k f vs bs = cRes (ctR ct f) r := by
 obtain ⟨k, rfl⟩ : ∃ m, k = m + 1 := ⟨k - 1, by omega⟩
 simp only [Prod.mk.injEq] at h
 obtain ⟨h1, rfl⟩ := h
 subst hr
 unfold W
 simp only [evW, h1, cond_true]
theorem W_old0 {k f : Nat} {vs vs' : List AV} {bs : Boxes} {r : Res} (hr : evF pr k f vs' bs = r) (hk : 1 ≤ k) (h : (old.contains f, canVs (ctA ct f) vs, ctR ct f) = (true, vs', Cn.id)) : W k f vs bs = r := by
 simp only [Prod.mk.injEq] at h
 rw [W_old hr hk (by rw [h.1, h.2.1]), h.2.2, cRes_id]
theorem W_arg {k f : Nat} {vs vs' : List AV} {bs : Boxes} {r : Res} (hr : W k f vs' bs = r) (h : canVs (ctA ct f) vs = canVs (ctA ct f) vs') : W k f vs bs = r := by
 rw [← hr]
 cases k with
 | zero => rfl
 | succ k => unfold W; simp only [evW, h]
theorem succ1 {k : Nat} (h : 1 ≤ k) : ∃ m, k = m + 1 := ⟨k - 1, by omega⟩
theorem loopA_ind {α : Type} {body : St → (Ex → St → Res) → Res} {dead : List Nat} {K : Ex → St → Res} (S : α → St) (μ : α → Nat) (Q : α → Res → Prop)
  (h : ∀ (a : α) (m : Nat), (∀ (a' : α) (st : St), μ a' < μ a → st.clean dead = S a' → Q a' (loopA body dead K m st)) → Q a (body (S a) (brk K fun st' => loopA body dead K m st'))) :
  ∀ (m : Nat) (a : α) (st : St), μ a < m → st.clean dead = S a → Q a (loopA body dead K m st)
 | 0, a, st, hm, hs => by omega
 | m + 1, a, st, hm, hs => by
  rw [loopA_succ, hs]
  exact h a m fun a' st' ha hs' => loopA_ind S μ Q h m a' st' (by omega) hs'
abbrev Shot := Int × Int × List Wr
def shV (s : Shot) : AV := .agg [.int .i64 s.1, .int .i64 s.2.1, .sl 3 false (s.2.2.map wrV)]
structure Nd where (ro : Int) (st va : Bool) (kn : Int) (ln : List (Int × Int)) (sq : Int) (vs : List Vol) (sh : Bool) (kp : List Wr) (al : List (Int × Int)) (aq : Int) (ch : List (Int × Int)) (ss : List Shot) (sn md sy : Int) (fu : Bool) (cp : List Wr) (go : Int) (qs : List Shot) (qo : List Wr) (qf qt fr fn nx : Int)
abbrev lnV (l : List (Int × Int)) : AV := .sl 2 false (l.map brV)
abbrev wsV (l : List Wr) : AV := .sl 3 false (l.map wrV)
abbrev vsV (l : List Vol) : AV := .sl 2 false (l.map (volV false))
abbrev btsV (l : List (Int × Int)) : AV := .sl 2 false (l.map btV)
abbrev shsV (l : List Shot) : AV := .sl 3 false (l.map shV)
abbrev ndL (n : Nd) : List AV := [.int .i64 n.ro, .bool n.st, .bool n.va, .int .i64 n.kn, lnV n.ln, .int .i64 n.sq, vsV n.vs, .bool n.sh, wsV n.kp, lnV n.al, .int .i64 n.aq, btsV n.ch, shsV n.ss, .int .i64 n.sn, .int .i64 n.md, .int .i64 n.sy, .bool n.fu, wsV n.cp, .int .i64 n.go, shsV n.qs, wsV n.qo, .int .i64 n.qf, .int .i64 n.qt, .int .i64 n.fr, .int .i64 n.fn, .int .i64 n.nx]
abbrev isV (l : List Int) : AV := .sl 1 false (l.map (AV.int .i64))
def idxS (xs : List AV) (len i : Int) : St := ⟨19, [(0, AV.sl 1 false xs), (1, AV.fn 125), (4, AV.int .i64 0), (7, AV.int .i64 len), (8, AV.int .i64 i)], [], [], [], [], []⟩
theorem idx_tree (F : Fns) (N : Nat) (l : List Int) : runOf F 133 N [isV l, .fn 125] [] =
 loopA (zBy F 133 0 N) (zDe 133 0) (zCt F 133 0 N 0) N { nt := 19, t := [(0, isV l), (1, AV.fn 125), (4, AV.int .i64 0), (7, AV.int .i64 ((List.length (List.map (AV.int .i64) l) : Nat) : Int)), (8, AV.int .i64 0)], b := [], r := [], g := [], rd := [], wr := [] } := by kernel_rfl
theorem idx_body (F : Fns) (N : Nat) (l : List Int) (len i : Int) (KN : St → Res) : zBy F 133 0 N (idxS (l.map (AV.int .i64)) len i) (brk (zCt F 133 0 N 0) KN) =
 bif decide (i < len) then bif decide (0 ≤ i) then zOp (List.map (AV.int .i64) l)[Int.toNat i]? fun x => zIn .i64 x fun n => zRe (F 125 [AV.int .i64 n] []) fun v bs => zBo v fun b => zNi bs (bif b then some (AV.int .i64 i, []) else KN { nt := 19, t := [(0, isV l), (1, AV.fn 125), (4, AV.int .i64 0), (5, AV.int .i64 i), (7, AV.int .i64 len), (8, AV.int .i64 (IntKind.wrap .i64 (i + 1))), (9, AV.bool (decide (i < len))), (16, AV.bool b)], b := [], r := [], g := [], rd := [], wr := [] }) else none else some (AV.int .i64 (-1), []) := by kernel_rfl
theorem nums1_tree (F : Fns) (N : Nat) (z : Int) : runOf F 125 N [.int .i64 z] [] =
 bif decide (z < 0) then some (AV.bool true, []) else some (AV.bool (decide (z > 1099511627776)), []) := by kernel_rfl
theorem cont_tree (F : Fns) (N : Nat) (l : List Int) : runOf F 124 N [isV l, .fn 125] [] =
 zRe (F 133 [isV l, AV.fn 125] []) fun v bs => zIn .i64 v fun n => zNi bs (some (AV.bool (decide (n ≥ 0)), [])) := by kernel_rfl
theorem nums_tree (F : Fns) (N : Nat) (l : List Int) : runOf F 109 N [isV l] [] =
 zRe (F 124 [isV l, AV.fn 125] []) fun v bs => zBo v fun b => zNi bs (some (AV.bool !b, [])) := by kernel_rfl
theorem none_tree (F : Fns) (N : Nat) (l : List (Int × Int)) (z : Int) : runOf F 110 N [.agg [lnV l, .int .i64 z]] [] =
 bif ((List.length (List.map brV l) : Nat) : Int) == 0 then some (AV.bool (z == 0), []) else some (AV.bool false, []) := by kernel_rfl
theorem place_tree (F : Fns) (N : Nat) (n : Nd) : runOf F 111 N [.agg (ndL n)] [] =
 some (AV.agg [lnV (Nd.ln n), AV.int .i64 (Nd.sq n)], []) := by kernel_rfl
theorem last_tree (F : Fns) (N : Nat) (l : List (Int × Int)) : runOf F 112 N [lnV l] [] =
 zRe (F 44 [lnV l] []) fun v bs => zBo v fun b => zNi bs (bif !b then some (AV.int .i64 0, []) else bif decide (0 ≤ IntKind.wrap .i64 (((List.length (List.map brV l) : Nat) : Int) - 1)) then zOp (List.map brV l)[Int.toNat (IntKind.wrap .i64 (((List.length (List.map brV l) : Nat) : Int) - 1))]? fun x => zAg x fun cs => zCo cs fun v r => zIn .i64 v fun n => zCo r fun v r => zIn .i64 v fun n_1 => zNi r (some (AV.int .i64 n, [])) else none) := by kernel_rfl
theorem stands_tree (F : Fns) (N : Nat) (n : Nd) : runOf F 95 N [.agg (ndL n)] [] =
 bif Nd.ro n != 1 then bif Nd.ro n != 2 then some (AV.bool false, []) else bif decide (Nd.md n < 0) then some (AV.bool false, []) else bif decide (Nd.md n > 4) then some (AV.bool false, []) else zRe (F 109 [AV.sl 1 true [AV.int .i64 (Nd.kn n), AV.int .i64 (Nd.sy n), AV.int .i64 (Nd.sn n), AV.int .i64 (Nd.fr n), AV.int .i64 (Nd.fn n), AV.int .i64 (Nd.nx n)]] []) fun v bs => zBo v fun b => zNi bs (bif !b then some (AV.bool false, []) else zRe (F 111 [AV.agg (ndL n)] []) fun v bs => zAg v fun cs => zCo cs fun v r => asSl v fun m fl xs => zCo r fun v r => zIn .i64 v fun n_1 => zNi r (zNi bs (zRe (F 110 [AV.agg [AV.sl m fl xs, AV.int .i64 n_1]] []) fun v bs => zBo v fun b => zNi bs (bif b then bif Nd.ro n == 2 then some (AV.bool !Nd.va n, []) else some (AV.bool false, []) else zRe (F 111 [AV.agg (ndL n)] []) fun v bs => zAg v fun cs => zCo cs fun v r => asSl v fun m fl xs => zCo r fun v r => zIn .i64 v fun n_2 => zNi r (zNi bs (zRe (F 94 [AV.agg [AV.sl m fl xs, AV.int .i64 n_2]] []) fun v bs => zBo v fun b => zNi bs (bif !b then some (AV.bool false, []) else zRe (F 112 [lnV (Nd.ln n)] []) fun v bs => zIn .i64 v fun n_3 => zNi bs (bif decide (n_3 > Nd.kn n) then some (AV.bool false, []) else bif Nd.ro n == 2 then some (AV.bool true, []) else bif Nd.va n then bif !Nd.st n then zRe (F 112 [lnV (Nd.ln n)] []) fun v bs => zIn .i64 v fun n_4 => zNi bs (some (AV.bool (Nd.kn n == n_4), [])) else some (AV.bool false, []) else some (AV.bool false, []))))))))) else bif decide (Nd.md n < 0) then some (AV.bool false, []) else bif decide (Nd.md n > 4) then some (AV.bool false, []) else zRe (F 109 [AV.sl 1 true [AV.int .i64 (Nd.kn n), AV.int .i64 (Nd.sy n), AV.int .i64 (Nd.sn n), AV.int .i64 (Nd.fr n), AV.int .i64 (Nd.fn n), AV.int .i64 (Nd.nx n)]] []) fun v bs => zBo v fun b => zNi bs (bif !b then some (AV.bool false, []) else zRe (F 111 [AV.agg (ndL n)] []) fun v bs => zAg v fun cs => zCo cs fun v r => asSl v fun m fl xs => zCo r fun v r => zIn .i64 v fun n_1 => zNi r (zNi bs (zRe (F 110 [AV.agg [AV.sl m fl xs, AV.int .i64 n_1]] []) fun v bs => zBo v fun b => zNi bs (bif b then bif Nd.ro n == 2 then some (AV.bool !Nd.va n, []) else some (AV.bool false, []) else zRe (F 111 [AV.agg (ndL n)] []) fun v bs => zAg v fun cs => zCo cs fun v r => asSl v fun m fl xs => zCo r fun v r => zIn .i64 v fun n_2 => zNi r (zNi bs (zRe (F 94 [AV.agg [AV.sl m fl xs, AV.int .i64 n_2]] []) fun v bs => zBo v fun b => zNi bs (bif !b then some (AV.bool false, []) else zRe (F 112 [lnV (Nd.ln n)] []) fun v bs => zIn .i64 v fun n_3 => zNi bs (bif decide (n_3 > Nd.kn n) then some (AV.bool false, []) else bif Nd.ro n == 2 then some (AV.bool true, []) else bif Nd.va n then bif !Nd.st n then zRe (F 112 [lnV (Nd.ln n)] []) fun v bs => zIn .i64 v fun n_4 => zNi bs (some (AV.bool (Nd.kn n == n_4), [])) else some (AV.bool false, []) else some (AV.bool false, []))))))))) := by kernel_rfl
theorem x133 (k : Nat) (hk : 1 ≤ k) (z : Int) : W k 125 [.int .i64 z] [] = some (.bool (!fitsI z), []) := by
 obtain ⟨k, rfl⟩ := succ1 hk
 refine (W_tree0 (nums1_tree (W k) k z) (by kernel_rfl)).trans ?_
 grind [fitsI]
theorem x147 (k : Nat) (l : List Int) (hk : l.length + 2 ≤ k) (hl : l.length ≤ 100000) : ∃ z, W k 133 [isV l, .fn 125] [] = some (.int .i64 z, []) ∧ decide (z ≥ 0) = !(l.all fitsI) := by
 obtain ⟨k, rfl⟩ := succ1 (show 1 ≤ k by omega)
 rw [W_tree0 (idx_tree (W k) k l) (by kernel_rfl), List.length_map]
 refine loopA_ind (fun i : Nat => idxS (l.map (AV.int .i64)) l.length i) (fun i => l.length - i) (fun i r => ∃ z, r = some (.int .i64 z, []) ∧ decide (z ≥ 0) = !((l.drop i).all fitsI)) (fun i m ih => ?_) k 0 _ (by omega) (by kernel_rfl)
 rw [idx_body]
 by_cases hi : i < l.length
 ·rw [decide_eq_true (show (i : Int) < l.length by omega), decide_eq_true (show (0 : Int) ≤ i by omega), Int.toNat_natCast, List.getElem?_map, List.getElem?_eq_getElem hi, List.drop_eq_getElem_cons hi, List.all_cons, wrap_small (n := (i : Int) + 1) (by omega) (by omega)]
  simp only [cond_true, Option.map_some, zOp, zIn, if_true, x133 k (by omega), zRe, zBo, zNi]
  cases fitsI l[i] with
  | false => exact ⟨i, rfl, by simp⟩
  | true => exact ih (i + 1) _ (by omega) (by kernel_rfl)
 ·rw [decide_eq_false (by omega), List.drop_eq_nil_of_le (by omega)]
  exact ⟨-1, rfl, rfl⟩
theorem x105 (k : Nat) (l : List Int) (hk : l.length + 5 ≤ k) (hl : l.length ≤ 100000) : W k 109 [isV l] [] = some (.bool (l.all fitsI), []) := by
 obtain ⟨k, rfl⟩ := succ1 (show 1 ≤ k by omega)
 obtain ⟨k, rfl⟩ := succ1 (show 1 ≤ k by omega)
 rw [W_tree0 (nums_tree (W (k + 1)) (k + 1) l) (by kernel_rfl), W_tree0 (cont_tree (W k) k l) (by kernel_rfl)]
 obtain ⟨z, h1, h2⟩ := x147 k l (by omega) hl
 rw [show W k 133 [AV.sl 1 false (List.map (AV.int .i64) l), AV.fn 125] [] = _ from h1]
 simp only [zRe, zIn, if_true, zNi, zBo, h2, Bool.not_not]
theorem x106 (k : Nat) (hk : 1 ≤ k) (l : List (Int × Int)) (z : Int) : W k 110 [.agg [lnV l, .int .i64 z]] [] = some (.bool (noneOk l z), []) := by
 obtain ⟨k, rfl⟩ := succ1 hk
 rw [W_tree0 (none_tree (W k) k l z) (by kernel_rfl), List.length_map, noneOk]
 by_cases h : l.length = 0
 ·simp [h]; rfl
 ·rw [beq_eq_false_iff_ne.2 (show ((l.length : Nat) : Int) ≠ 0 by omega), decide_eq_false h]; rfl
theorem x107 (k : Nat) (hk : 1 ≤ k) (n : Nd) : W k 111 [.agg (ndL n)] [] = some (.agg [lnV n.ln, .int .i64 n.sq], []) := by
 obtain ⟨k, rfl⟩ := succ1 hk
 exact (W_tree (place_tree (W k) k n) (by kernel_rfl)).trans (by kernel_rfl)
theorem x119 (k : Nat) (hk : 100 ≤ k) (l : List (Int × Int)) : W k 44 [lnV l] [] = some (.bool (lineOk l), []) := W_old0 (e44 k (by omega) false l) (by omega) (by kernel_rfl)
def lastE (l : List (Int × Int)) : Int := if lineOk l then (l.getD (l.length - 1) (0, 0)).1 else 0
theorem line_len {l : List (Int × Int)} (h : lineOk l = true) : 0 < l.length ∧ l.length ≤ 64 := by
 cases l with
 | nil => simp [lineOk] at h
 | cons b r => rw [lineOk, Bool.and_eq_true, decide_eq_true_eq] at h; exact ⟨by simp, h.1⟩
theorem last_br {l : List (Int × Int)} (h : 0 < l.length) (h2 : l.length ≤ 100000) : 0 ≤ IntKind.wrap .i64 (((l.length : Nat) : Int) - 1) ∧ (l.map brV)[Int.toNat (IntKind.wrap .i64 (((l.length : Nat) : Int) - 1))]? = some (brV (l.getD (l.length - 1) (0, 0))) := by
 rw [wrap_small (by omega) (by omega)]
 refine ⟨by omega, ?_⟩
 rw [show Int.toNat (((l.length : Nat) : Int) - 1) = l.length - 1 by omega, List.getElem?_map, List.getElem?_eq_getElem (by omega), List.getD_eq_getElem?_getD, List.getElem?_eq_getElem (by omega)]
 rfl
theorem x109 (k : Nat) (hk : 101 ≤ k) (l : List (Int × Int)) : W k 112 [lnV l] [] = some (.int .i64 (lastE l), []) := by
 obtain ⟨k, rfl⟩ := succ1 (show 1 ≤ k by omega)
 rw [W_tree0 (last_tree (W k) k l) (by kernel_rfl), show W k 44 [AV.sl 2 false (List.map brV l)] [] = _ from x119 k (by omega) l, lastE, List.length_map]
 simp only [zRe, zBo, zNi]
 cases h : lineOk l with
 | false => rfl
 | true =>
  obtain ⟨h1, h2⟩ := line_len h
  obtain ⟨h3, h4⟩ := last_br h1 (by omega)
  rw [decide_eq_true h3, h4]
  rfl
def standsOk (n : Nd) : Bool := decide ((n.ro = 1 ∨ n.ro = 2) ∧ 0 ≤ n.md ∧ n.md ≤ 4) && [n.kn, n.sy, n.sn, n.fr, n.fn, n.nx].all fitsI && (if noneOk n.ln n.sq then decide (n.ro = 2) && !n.va else placedOk n.ln n.sq && decide (lastE n.ln ≤ n.kn) && (decide (n.ro = 2) || n.va && !n.st && decide (n.kn = lastE n.ln)))
theorem x108 (k : Nat) (hk : 120 ≤ k) (l : List (Int × Int)) (z : Int) : W k 94 [.agg [lnV l, .int .i64 z]] [] = some (.bool (placedOk l z), []) := W_old0 (e94 k (by omega) (.inl ⟨false, rfl⟩) z) (by omega) (by kernel_rfl)
theorem x68 (k : Nat) (hk : 150 ≤ k) (n : Nd) : W k 95 [.agg (ndL n)] [] = some (.bool (standsOk n), []) := by
 obtain ⟨k, rfl⟩ := succ1 (show 1 ≤ k by omega)
 rw [W_tree0 (stands_tree (W k) k n) (by kernel_rfl)]
 have h1 := W_arg (x105 k [n.kn, n.sy, n.sn, n.fr, n.fn, n.nx] (by simp; omega) (by simp)) (vs := [AV.sl 1 true [AV.int .i64 (Nd.kn n), AV.int .i64 (Nd.sy n), AV.int .i64 (Nd.sn n), AV.int .i64 (Nd.fr n), AV.int .i64 (Nd.fn n), AV.int .i64 (Nd.nx n)]]) (by kernel_rfl)
 rw [h1, x107 k (by omega) n]
 simp only [zRe, zBo, zNi, zAg, zCo, lnV, asSl, zIn, if_true]
 have h2 := x106 k (by omega) n.ln n.sq
 have h3 := x108 k (by omega) n.ln n.sq
 have h4 := x109 k (by omega) n.ln
 simp only [lnV] at h2 h3 h4
 rw [h2, h3, h4]
 simp only [zRe, zBo, zNi, zIn, if_true]
 unfold standsOk
 grind
abbrev ndG (n : Nd) (a b c d e f g h : AV) : List AV := [.int .i64 n.ro, .bool n.st, .bool n.va, .int .i64 n.kn, lnV n.ln, .int .i64 n.sq, a, .bool n.sh, b, lnV n.al, .int .i64 n.aq, btsV n.ch, c, .int .i64 n.sn, .int .i64 n.md, .int .i64 n.sy, .bool n.fu, d, .int .i64 n.go, e, f, g, h, .int .i64 n.fr, .int .i64 n.fn, .int .i64 n.nx]
abbrev zNd (v : AV) (K : Int → Bool → Bool → Int → Nat → Bool → List AV → Int → Nat → Bool → List AV → Bool → Nat → Bool → List AV → Nat → Bool → List AV → Int → Nat → Bool → List AV → Nat → Bool → List AV → Int → Int → Int → Bool → Nat → Bool → List AV → Int → Nat → Bool → List AV → Nat → Bool → List AV → Int → Int → Int → Int → Int → Res) : Res := zAg v fun cs => zCo cs fun v r => zIn .i64 v fun x0 => zCo r fun v r => zBo v fun x1 => zCo r fun v r => zBo v fun x2 => zCo r fun v r => zIn .i64 v fun x3 => zCo r fun v r => asSl v fun x4 y4 z4 => zCo r fun v r => zIn .i64 v fun x5 => zCo r fun v r => asSl v fun x6 y6 z6 => zCo r fun v r => zBo v fun x7 => zCo r fun v r => asSl v fun x8 y8 z8 => zCo r fun v r => asSl v fun x9 y9 z9 => zCo r fun v r => zIn .i64 v fun x10 => zCo r fun v r => asSl v fun x11 y11 z11 => zCo r fun v r => asSl v fun x12 y12 z12 => zCo r fun v r => zIn .i64 v fun x13 => zCo r fun v r => zIn .i64 v fun x14 => zCo r fun v r => zIn .i64 v fun x15 => zCo r fun v r => zBo v fun x16 => zCo r fun v r => asSl v fun x17 y17 z17 => zCo r fun v r => zIn .i64 v fun x18 => zCo r fun v r => asSl v fun x19 y19 z19 => zCo r fun v r => asSl v fun x20 y20 z20 => zCo r fun v r => zIn .i64 v fun x21 => zCo r fun v r => zIn .i64 v fun x22 => zCo r fun v r => zIn .i64 v fun x23 => zCo r fun v r => zIn .i64 v fun x24 => zCo r fun v r => zIn .i64 v fun x25 => zNi r (K x0 x1 x2 x3 x4 y4 z4 x5 x6 y6 z6 x7 x8 y8 z8 x9 y9 z9 x10 x11 y11 z11 x12 y12 z12 x13 x14 x15 x16 x17 y17 z17 x18 x19 y19 z19 x20 y20 z20 x21 x22 x23 x24 x25)
abbrev zB2 (bs : Boxes) (K : List UInt8 → Bool → Res) : Res := zCo bs fun v r => zCo v fun v r1 => zSt v fun s => zCo r1 fun v r2 => zBo v fun b => zNi r2 (zNi r (K s b))
abbrev zB3 (bs : Boxes) (K : List UInt8 → Int → Bool → Res) : Res := zCo bs fun v r => zCo v fun v r1 => zSt v fun s => zCo r1 fun v r2 => zIn .i64 v fun n => zCo r2 fun v r3 => zBo v fun b => zNi r3 (zNi r (K s n b))
abbrev zTC (v : AV) (K : AV → List AV → Res) : Res := zTu v fun cs => zCo cs K
theorem getM {α : Type} (f : α → AV) (l : List α) (i : Nat) (h : i < l.length) : (l.map f)[Int.toNat (i : Int)]? = some (f l[i]) := by
 rw [Int.toNat_natCast, List.getElem?_map, List.getElem?_eq_getElem h]; rfl
theorem len0 (n : Nat) : (((n : Nat) : Int) == 0) = decide (n = 0) := by
 by_cases h : n = 0
 ·simp [h]
 ·rw [decide_eq_false h]; exact beq_eq_false_iff_ne.2 (by omega)
theorem wi {n : Nat} (h : n < 1000000000) : IntKind.wrap .i64 ((n : Int) + 1) = ((n + 1 : Nat) : Int) := by rw [wrap_small (by omega) (by omega)]; omega
def smaS (vs : List Vol) (ws : List Wr) (i : Int) (b : Bool) : St := ⟨27, [(0, vsV vs), (1, wsV ws), (4, .bool false), (5, .int .i64 i), (13, .bool b)], [], [], [], [], []⟩
theorem b19 (F : Fns) (N : Nat) (vs : List Vol) (ws : List Wr) (i : Int) (b : Bool) (KN : St → Res) : zBy F 64 0 N (smaS vs ws i b) (brk (zCt F 64 0 N 0) KN) =
 bif decide (i < ((List.length (List.map (volV false) vs) : Nat) : Int)) then bif decide (0 ≤ i) then zOp (List.map (volV false) vs)[Int.toNat i]? fun x => zAg x fun cs => zCo cs fun v r => zIn .i64 v fun n => zCo r fun v r => asSl v fun m fl xs => zNi r (bif decide ((xs.length : Int) > 100) then some (AV.bool false, []) else KN { nt := 27, t := [(0, vsV vs), (1, wsV ws), (4, AV.bool false), (5, AV.int .i64 (IntKind.wrap .i64 (i + 1))), (13, AV.bool b), (17, AV.bool (decide (i < ((List.length (List.map (volV false) vs) : Nat) : Int)))), (26, AV.bool (decide ((xs.length : Int) > 100)))], b := [], r := [], g := [], rd := [], wr := [] }) else none else some (AV.bool true, []) := by kernel_rfl
theorem t19 (F : Fns) (N : Nat) (vs : List Vol) (ws : List Wr) : runOf F 64 N [vsV vs, wsV ws] [] =
 bif decide (((List.length (List.map (volV false) vs) : Nat) : Int) > 10) then some (AV.bool false, []) else bif decide (((List.length (List.map wrV ws) : Nat) : Int) > 200) then some (AV.bool false, []) else loopA (zBy F 64 0 N) (zDe 64 0) (zCt F 64 0 N 0) N { nt := 27, t := [(0, vsV vs), (1, wsV ws), (4, AV.bool false), (5, AV.int .i64 0), (13, AV.bool (decide (((List.length (List.map wrV ws) : Nat) : Int) > 200)))], b := [], r := [], g := [], rd := [], wr := [] } := by kernel_rfl
def smallV (vs : List Vol) : Bool := decide (vs.length ≤ 10) && vs.all fun v => decide (v.2.length ≤ 100)
theorem x19 (k : Nat) (hk : 20 ≤ k) (vs : List Vol) (ws : List Wr) : W k 64 [vsV vs, wsV ws] [] = some (.bool (smallV vs && decide (ws.length ≤ 200)), []) := by
 obtain ⟨k, rfl⟩ := succ1 (show 1 ≤ k by omega)
 rw [W_tree0 (t19 (W k) k vs ws) (by kernel_rfl), List.length_map, List.length_map, smallV]
 by_cases h1 : vs.length ≤ 10
 ·by_cases h2 : ws.length ≤ 200
  ·rw [decide_eq_false (by omega), decide_eq_false (by omega), decide_eq_true h1, decide_eq_true h2]
   simp only [cond_false, Bool.true_and, Bool.and_true]
   refine loopA_ind (fun i : Nat => smaS vs ws i false) (fun i => vs.length - i) (fun i r => r = some (.bool ((vs.drop i).all fun v => decide (v.2.length ≤ 100)), [])) (fun i m ih => ?_) k 0 _ (by omega) (by kernel_rfl)
   rw [b19, List.length_map]
   by_cases hi : i < vs.length
   ·rw [decide_eq_true (by omega), decide_eq_true (by omega), getM _ _ _ hi, List.drop_eq_getElem_cons hi, List.all_cons, wi (by omega)]
    simp only [volV, List.length_map, zRe, zOp, asRp, fixO, AV.fixed, zAg, zTu, zCo, zIn, zBo, zSt, asSl, zNi, if_true, cond_true, cond_false]
    by_cases h3 : vs[i].2.length ≤ 100
    ·rw [decide_eq_false (by omega), decide_eq_true h3, Bool.true_and]
     exact ih (i + 1) _ (by omega) (by kernel_rfl)
    ·rw [decide_eq_true (by omega), decide_eq_false h3]; rfl
   ·rw [decide_eq_false (by omega), List.drop_eq_nil_of_le (by omega)]; rfl
  ·rw [decide_eq_false (by omega), decide_eq_true (by omega), decide_eq_false h2]; simp
 ·rw [decide_eq_true (by omega), decide_eq_false h1]; rfl
def smqS (qs : List Shot) (qo : List Wr) (x y i : Int) (b : Bool) : St := ⟨29, [(0, .agg [shsV qs, wsV qo, .int .i64 x, .int .i64 y]), (1, .ptr 1 0 0), (2, .bool false), (3, .int .i64 i), (13, .bool b)], [(1, [shsV qs, wsV qo, .int .i64 x, .int .i64 y])], [], [], [], []⟩
theorem b20 (F : Fns) (N : Nat) (qs : List Shot) (qo : List Wr) (x y i : Int) (b : Bool) (KN : St → Res) : zBy F 65 0 N (smqS qs qo x y i b) (brk (zCt F 65 0 N 0) KN) =
 bif decide (i < ((List.length (List.map shV qs) : Nat) : Int)) then bif decide (0 ≤ i) then zOp (List.map shV qs)[Int.toNat i]? fun x_1 => zAg x_1 fun cs => zCo cs fun v r => zIn .i64 v fun n => zCo r fun v r => zIn .i64 v fun n => zCo r fun v r => asSl v fun m fl xs => zNi r (bif decide ((xs.length : Int) > 60) then some (AV.bool false, []) else KN { nt := 29, t := [(0, AV.agg [shsV qs, wsV qo, AV.int .i64 x, AV.int .i64 y]), (1, AV.ptr 1 0 0), (2, AV.bool false), (3, AV.int .i64 (IntKind.wrap .i64 (i + 1))), (13, AV.bool b), (18, AV.bool (decide (i < ((List.length (List.map shV qs) : Nat) : Int)))), (28, AV.bool (decide ((xs.length : Int) > 60)))], b := [(1, [shsV qs, wsV qo, AV.int .i64 x, AV.int .i64 y])], r := [], g := [], rd := [], wr := [] }) else none else some (AV.bool true, []) := by kernel_rfl
theorem t20 (F : Fns) (N : Nat) (qs : List Shot) (qo : List Wr) (x y : Int) : runOf F 65 N [.agg [shsV qs, wsV qo, .int .i64 x, .int .i64 y]] [] =
 bif decide (((List.length (List.map shV qs) : Nat) : Int) > 20) then some (AV.bool false, []) else bif decide (((List.length (List.map wrV qo) : Nat) : Int) > 60) then some (AV.bool false, []) else loopA (zBy F 65 0 N) (zDe 65 0) (zCt F 65 0 N 0) N { nt := 29, t := [(0, AV.agg [shsV qs, wsV qo, AV.int .i64 x, AV.int .i64 y]), (1, AV.ptr 1 0 0), (2, AV.bool false), (3, AV.int .i64 0), (13, AV.bool (decide (((List.length (List.map wrV qo) : Nat) : Int) > 60)))], b := [(1, [shsV qs, wsV qo, AV.int .i64 x, AV.int .i64 y])], r := [], g := [], rd := [], wr := [] } := by kernel_rfl
def smallQ (qs : List Shot) (qo : List Wr) : Bool := decide (qs.length ≤ 20) && decide (qo.length ≤ 60) && qs.all fun s => decide (s.2.2.length ≤ 60)
theorem x20 (k : Nat) (hk : 30 ≤ k) (qs : List Shot) (qo : List Wr) (x y : Int) : W k 65 [.agg [shsV qs, wsV qo, .int .i64 x, .int .i64 y]] [] = some (.bool (smallQ qs qo), []) := by
 obtain ⟨k, rfl⟩ := succ1 (show 1 ≤ k by omega)
 rw [W_tree0 (t20 (W k) k qs qo x y) (by kernel_rfl), List.length_map, List.length_map, smallQ]
 by_cases h1 : qs.length ≤ 20
 ·by_cases h2 : qo.length ≤ 60
  ·rw [decide_eq_false (by omega), decide_eq_false (by omega), decide_eq_true h1, decide_eq_true h2]
   simp only [cond_false, Bool.true_and, Bool.and_true]
   refine loopA_ind (fun i : Nat => smqS qs qo x y i false) (fun i => qs.length - i) (fun i r => r = some (.bool ((qs.drop i).all fun s => decide (s.2.2.length ≤ 60)), [])) (fun i m ih => ?_) k 0 _ (by omega) (by kernel_rfl)
   rw [b20, List.length_map]
   by_cases hi : i < qs.length
   ·rw [decide_eq_true (by omega), decide_eq_true (by omega), getM _ _ _ hi, List.drop_eq_getElem_cons hi, List.all_cons, wi (by omega)]
    simp only [shV, List.length_map, zRe, zOp, asRp, fixO, AV.fixed, zAg, zTu, zCo, zIn, zBo, zSt, asSl, zNi, if_true, cond_true, cond_false]
    by_cases h3 : qs[i].2.2.length ≤ 60
    ·rw [decide_eq_false (by omega), decide_eq_true h3, Bool.true_and]
     exact ih (i + 1) _ (by omega) (by kernel_rfl)
    ·rw [decide_eq_true (by omega), decide_eq_false h3]; rfl
   ·rw [decide_eq_false (by omega), List.drop_eq_nil_of_le (by omega)]; rfl
  ·rw [decide_eq_false (by omega), decide_eq_true (by omega), decide_eq_false h2]; simp
 ·rw [decide_eq_true (by omega), decide_eq_false h1]; rfl
def smnS (n : Nd) (i : Int) (b : Bool) : St := ⟨62, [(0, .agg (ndL n)), (1, .ptr 1 0 0), (2, .bool false), (3, .int .i64 i), (46, .bool b)], [(1, ndL n)], [], [], [], []⟩
theorem b7 (F : Fns) (N : Nat) (n : Nd) (i : Int) (b : Bool) (KN : St → Res) : zBy F 31 0 N (smnS n i b) (brk (zCt F 31 0 N 0) KN) =
 bif decide (i < ((List.length (List.map shV (Nd.ss n)) : Nat) : Int)) then bif decide (0 ≤ i) then zOp (List.map shV (Nd.ss n))[Int.toNat i]? fun x => zAg x fun cs => zCo cs fun v r => zIn .i64 v fun n_1 => zCo r fun v r => zIn .i64 v fun n_2 => zCo r fun v r => asSl v fun m fl xs => zNi r (bif decide ((xs.length : Int) > 200) then some (AV.bool false, []) else KN { nt := 62, t := [(0, AV.agg (ndL n)), (1, AV.ptr 1 0 0), (2, AV.bool false), (3, AV.int .i64 (IntKind.wrap .i64 (i + 1))), (46, AV.bool b), (51, AV.bool (decide (i < ((List.length (List.map shV (Nd.ss n)) : Nat) : Int)))), (61, AV.bool (decide ((xs.length : Int) > 200)))], b := [(1, (ndL n))], r := [], g := [], rd := [], wr := [] }) else none else some (AV.bool true, []) := by kernel_rfl
theorem t7 (F : Fns) (N : Nat) (n : Nd) : runOf F 31 N [.agg (ndL n)] [] =
 bif decide (((List.length (List.map brV (Nd.ln n)) : Nat) : Int) > 100) then some (AV.bool false, []) else bif decide (((List.length (List.map brV (Nd.al n)) : Nat) : Int) > 100) then some (AV.bool false, []) else bif decide (((List.length (List.map btV (Nd.ch n)) : Nat) : Int) > 300) then some (AV.bool false, []) else bif decide (((List.length (List.map shV (Nd.ss n)) : Nat) : Int) > 5) then some (AV.bool false, []) else bif decide (((List.length (List.map wrV (Nd.cp n)) : Nat) : Int) > 200) then some (AV.bool false, []) else zRe (F 64 [vsV (Nd.vs n), wsV (Nd.kp n)] []) fun v bs => zBo v fun b => zNi bs (bif !b then some (AV.bool false, []) else zRe (F 65 [AV.agg [shsV (Nd.qs n), wsV (Nd.qo n), AV.int .i64 (Nd.qf n), AV.int .i64 (Nd.qt n)]] []) fun v bs => zBo v fun b => zNi bs (bif !b then some (AV.bool false, []) else loopA (zBy F 31 0 N) (zDe 31 0) (zCt F 31 0 N 0) N { nt := 62, t := [(0, AV.agg (ndL n)), (1, AV.ptr 1 0 0), (2, AV.bool false), (3, AV.int .i64 0), (46, AV.bool !b)], b := [(1, (ndL n))], r := [], g := [], rd := [], wr := [] })) := by kernel_rfl
def smallN (n : Nd) : Bool := decide (n.ln.length ≤ 100 ∧ n.al.length ≤ 100 ∧ n.ch.length ≤ 300 ∧ n.ss.length ≤ 5 ∧ n.cp.length ≤ 200) && (smallV n.vs && decide (n.kp.length ≤ 200)) && smallQ n.qs n.qo && n.ss.all fun s => decide (s.2.2.length ≤ 200)
theorem x7 (k : Nat) (hk : 40 ≤ k) (n : Nd) : W k 31 [.agg (ndL n)] [] = some (.bool (smallN n), []) := by
 obtain ⟨k, rfl⟩ := succ1 (show 1 ≤ k by omega)
 rw [W_tree0 (t7 (W k) k n) (by kernel_rfl), x19 k (by omega), x20 k (by omega)]
 simp only [List.length_map, zRe, zBo, zNi]
 unfold smallN
 by_cases h1 : n.ln.length ≤ 100
 ·by_cases h2 : n.al.length ≤ 100
  ·by_cases h3 : n.ch.length ≤ 300
   ·by_cases h4 : n.ss.length ≤ 5
    ·by_cases h5 : n.cp.length ≤ 200
     ·rw [decide_eq_false (by omega), decide_eq_false (by omega), decide_eq_false (by omega), decide_eq_false (by omega), decide_eq_false (by omega), decide_eq_true (show n.ln.length ≤ 100 ∧ n.al.length ≤ 100 ∧ n.ch.length ≤ 300 ∧ n.ss.length ≤ 5 ∧ n.cp.length ≤ 200 from ⟨h1, h2, h3, h4, h5⟩)]
      cases (smallV n.vs && decide (n.kp.length ≤ 200)) with
      | false => rfl
      | true =>
       cases smallQ n.qs n.qo with
       | false => rfl
       | true =>
        simp only [cond_false, Bool.not_true, Bool.true_and]
        refine loopA_ind (fun i : Nat => smnS n i false) (fun i => n.ss.length - i) (fun i r => r = some (.bool ((n.ss.drop i).all fun s => decide (s.2.2.length ≤ 200)), [])) (fun i m ih => ?_) k 0 _ (by omega) (by kernel_rfl)
        rw [b7, List.length_map]
        by_cases hi : i < n.ss.length
        ·rw [decide_eq_true (by omega), decide_eq_true (by omega), getM _ _ _ hi, List.drop_eq_getElem_cons hi, List.all_cons, wi (by omega)]
         simp only [shV, List.length_map, zRe, zOp, asRp, fixO, AV.fixed, zAg, zTu, zCo, zIn, zBo, zSt, asSl, zNi, if_true, cond_true, cond_false]
         by_cases h3 : n.ss[i].2.2.length ≤ 200
         ·rw [decide_eq_false (by omega), decide_eq_true h3, Bool.true_and]
          exact ih (i + 1) _ (by omega) (by kernel_rfl)
         ·rw [decide_eq_true (by omega), decide_eq_false h3]; rfl
        ·rw [decide_eq_false (by omega), List.drop_eq_nil_of_le (by omega)]; rfl
     ·rw [decide_eq_false (by omega), decide_eq_false (by omega), decide_eq_false (by omega), decide_eq_false (by omega), decide_eq_true (by omega), decide_eq_false (show ¬ (n.ln.length ≤ 100 ∧ n.al.length ≤ 100 ∧ n.ch.length ≤ 300 ∧ n.ss.length ≤ 5 ∧ n.cp.length ≤ 200) by omega)]; rfl
    ·rw [decide_eq_false (by omega), decide_eq_false (by omega), decide_eq_false (by omega), decide_eq_true (by omega), decide_eq_false (show ¬ (n.ln.length ≤ 100 ∧ n.al.length ≤ 100 ∧ n.ch.length ≤ 300 ∧ n.ss.length ≤ 5 ∧ n.cp.length ≤ 200) by omega)]; rfl
   ·rw [decide_eq_false (by omega), decide_eq_false (by omega), decide_eq_true (by omega), decide_eq_false (show ¬ (n.ln.length ≤ 100 ∧ n.al.length ≤ 100 ∧ n.ch.length ≤ 300 ∧ n.ss.length ≤ 5 ∧ n.cp.length ≤ 200) by omega)]; rfl
  ·rw [decide_eq_false (by omega), decide_eq_true (by omega), decide_eq_false (show ¬ (n.ln.length ≤ 100 ∧ n.al.length ≤ 100 ∧ n.ch.length ≤ 300 ∧ n.ss.length ≤ 5 ∧ n.cp.length ≤ 200) by omega)]; rfl
 ·rw [decide_eq_true (by omega), decide_eq_false (show ¬ (n.ln.length ≤ 100 ∧ n.al.length ≤ 100 ∧ n.ch.length ≤ 300 ∧ n.ss.length ≤ 5 ∧ n.cp.length ≤ 200) by omega)]; rfl
def getB : List Vol → Int → Int → List UInt8 × Int
 | [], _, _ => ([], 8)
 | v :: r, a, b => if v.1 = a then (if 0 ≤ b ∧ b < v.2.length then (v.2.getD b.toNat [], 0) else ([], 10)) else getB r a b
def atS (vs : List Vol) (x y len i : Int) : St := ⟨41, [(0, vsV vs), (1, .int .i64 x), (2, .int .i64 y), (6, .nilp), (7, .int .i64 0), (10, .int .i64 len), (11, .int .i64 i)], [], [], [], [], []⟩
theorem b141 (F : Fns) (N : Nat) (vs : List Vol) (x y len i : Int) (KN : St → Res) : zBy F 129 0 N (atS vs x y len i) (brk (zCt F 129 0 N 0) KN) =
 bif decide (i < len) then bif decide (0 ≤ i) then zOp (List.map (volV false) vs)[Int.toNat i]? fun x_1 => zAg x_1 fun cs => zCo cs fun v r => zIn .i64 v fun n => zCo r fun v r => asSl v fun m fl xs => zNi r (bif n != x then KN { nt := 41, t := [(0, vsV vs), (1, AV.int .i64 x), (2, AV.int .i64 y), (6, AV.nilp), (7, AV.int .i64 0), (8, AV.int .i64 i), (10, AV.int .i64 len), (11, AV.int .i64 (IntKind.wrap .i64 (i + 1))), (12, AV.bool (decide (i < len))), (20, AV.bool (n != x))], b := [], r := [], g := [], rd := [], wr := [] } else bif decide (y < 0) then some (AV.tup [AV.nilp, AV.int .i64 10], []) else bif decide (0 ≤ i) then zOp (List.map (volV false) vs)[Int.toNat i]? fun x => zAg x fun cs => zCo cs fun v r => zIn .i64 v fun n => zCo r fun v r => asSl v fun m fl xs => zNi r (bif decide (y ≥ (xs.length : Int)) then some (AV.tup [AV.nilp, AV.int .i64 10], []) else bif decide (0 ≤ i) then zOp (List.map (volV false) vs)[Int.toNat i]? fun x => zAg x fun cs => zCo cs fun v r => zIn .i64 v fun n => zCo r fun v r => asSl v fun m fl xs => zNi r (bif decide (m = 1) && decide (0 ≤ y) then zOp xs[Int.toNat y]? fun x => zSt x fun s => some (AV.tup [AV.rp m (AV.str s) 0, AV.int .i64 0], []) else none) else none) else none) else none else some (AV.tup [AV.nilp, AV.int .i64 8], []) := by kernel_rfl
theorem t141 (F : Fns) (N : Nat) (vs : List Vol) (x y : Int) : runOf F 129 N [vsV vs, .int .i64 x, .int .i64 y] [] =
 loopA (zBy F 129 0 N) (zDe 129 0) (zCt F 129 0 N 0) N { nt := 41, t := [(0, vsV vs), (1, AV.int .i64 x), (2, AV.int .i64 y), (6, AV.nilp), (7, AV.int .i64 0), (10, AV.int .i64 ((List.length (List.map (volV false) vs) : Nat) : Int)), (11, AV.int .i64 0)], b := [], r := [], g := [], rd := [], wr := [] } := by kernel_rfl
def atR (p : List UInt8 × Int) : Res := if p.2 = 0 then some (.tup [.rp 1 (.str p.1) 0, .int .i64 0], []) else some (.tup [.nilp, .int .i64 p.2], [])
theorem x141 (k : Nat) (vs : List Vol) (hv : vs.length ≤ 300) (hk : 310 ≤ k) (x y : Int) : W k 129 [vsV vs, .int .i64 x, .int .i64 y] [] = atR (getB vs x y) := by
 obtain ⟨k, rfl⟩ := succ1 (show 1 ≤ k by omega)
 rw [W_tree0 (t141 (W k) k vs x y) (by kernel_rfl), List.length_map]
 refine loopA_ind (fun i : Nat => atS vs x y vs.length i) (fun i => vs.length - i) (fun i r => r = atR (getB (vs.drop i) x y)) (fun i m ih => ?_) k 0 _ (by omega) (by kernel_rfl)
 rw [b141]
 by_cases hi : i < vs.length
 ·rw [decide_eq_true (by omega), decide_eq_true (by omega), getM _ _ _ hi, List.drop_eq_getElem_cons hi, wi (by omega), getB]
  simp only [volV, List.length_map, zRe, zOp, asRp, fixO, AV.fixed, zAg, zTu, zCo, zIn, zBo, zSt, asSl, zNi, if_true, cond_true, cond_false]
  by_cases h1 : vs[i].1 = x
  ·rw [if_pos h1, show (vs[i].1 != x) = false by simp [h1]]
   by_cases h2 : 0 ≤ y ∧ y < vs[i].2.length
   ·rw [if_pos h2, List.getElem?_map, List.getElem?_eq_getElem (show y.toNat < vs[i].2.length by omega), List.getD_eq_getElem?_getD, List.getElem?_eq_getElem (show y.toNat < vs[i].2.length by omega)]
    simp (disch := omega) only [decide_eq_true, decide_eq_false, zRe, zOp, asRp, fixO, AV.fixed, zAg, zTu, zCo, zIn, zBo, zSt, asSl, zNi, if_true, cond_true, cond_false]
    rfl
   ·rw [if_neg h2]
    by_cases h3 : y < 0
    ·rw [decide_eq_true h3]; rfl
    ·rw [decide_eq_false h3, decide_eq_true (by omega)]; rfl
  ·rw [if_neg h1, show (vs[i].1 != x) = true by simp [h1]]
   exact ih (i + 1) _ (by omega) (by kernel_rfl)
 ·rw [decide_eq_false (by omega), List.drop_eq_nil_of_le (by omega)]; rfl
theorem vOk_len {vs : List Vol} (h : vOk vs = true) : vs.length ≤ 4 := by
 unfold vOk at h
 rw [Bool.and_eq_true, decide_eq_true_eq] at h
 exact h.1
def chkW (vs : List Vol) : List Wr → Int
 | [] => 0
 | w :: r => if (getB vs w.1 w.2.1).2 ≠ 0 then (getB vs w.1 w.2.1).2 else if w.2.2.length > 8 then 5 else chkW vs r
def chkE (vs : List Vol) (ws : List Wr) : Int := if vOk vs then chkW vs ws else 1
def chkS (vs : List Vol) (ws : List Wr) (b : Bool) (len i : Int) : St := ⟨35, [(0, vsV vs), (1, wsV ws), (4, .int .i64 0), (11, .bool b), (12, wsV ws), (13, .int .i64 len), (14, .int .i64 i)], [], [], [], [], []⟩
theorem b114 (F : Fns) (N : Nat) (vs : List Vol) (ws : List Wr) (b : Bool) (len i : Int) (KN : St → Res) : zBy F 116 0 N (chkS vs ws b len i) (brk (zCt F 116 0 N 0) KN) =
 bif decide (i < len) then bif decide (0 ≤ i) then zOp (List.map wrV ws)[Int.toNat i]? fun x => zAg x fun cs => zCo cs fun v r => zIn .i64 v fun n => zCo r fun v r => zIn .i64 v fun n_1 => zCo r fun v r => zSt v fun s => zNi r (zRe (F 129 [vsV vs, AV.int .i64 n, AV.int .i64 n_1] []) fun v bs => zTC v fun v r => zCo r fun v r => zIn .i64 v fun n_2 => zNi r (zNi bs (bif n_2 != 0 then some (AV.int .i64 n_2, []) else bif decide ((s.length : Int) > 8) then some (AV.int .i64 5, []) else KN { nt := 35, t := [(0, vsV vs), (1, wsV ws), (4, AV.int .i64 0), (6, AV.ptr 6 0 0), (8, AV.int .i64 n_2), (11, AV.bool b), (12, wsV ws), (13, AV.int .i64 len), (14, AV.int .i64 (IntKind.wrap .i64 (i + 1))), (15, AV.bool (decide (i < len))), (28, AV.bool (n_2 != 0)), (33, AV.bool (decide ((s.length : Int) > 8)))], b := [(6, [AV.int .i64 n, AV.int .i64 n_1, AV.str s])], r := [], g := [], rd := [], wr := [] }))) else none else some (AV.int .i64 0, []) := by kernel_rfl
theorem t114 (F : Fns) (N : Nat) (vs : List Vol) (ws : List Wr) : runOf F 116 N [vsV vs, wsV ws] [] =
 zRe (F 93 [vsV vs] []) fun v bs => zBo v fun b => zNi bs (bif !b then some (AV.int .i64 1, []) else loopA (zBy F 116 0 N) (zDe 116 0) (zCt F 116 0 N 0) N { nt := 35, t := [(0, vsV vs), (1, wsV ws), (4, AV.int .i64 0), (11, AV.bool !b), (12, wsV ws), (13, AV.int .i64 ((List.length (List.map wrV ws) : Nat) : Int)), (14, AV.int .i64 0)], b := [], r := [], g := [], rd := [], wr := [] }) := by kernel_rfl
theorem x110 (k : Nat) (vs : List Vol) (hk : vs.length + 50 ≤ k) (hl : vs.length ≤ 70000) : W k 93 [vsV vs] [] = some (.bool (vOk vs), []) := W_old0 (e93 k false false vs (by omega) (by omega)) (by omega) (by kernel_rfl)
theorem atR_err (p : List UInt8 × Int) (K : Int → Res) : (zRe (atR p) fun v bs => zTC v fun v r => zCo r fun v r => zIn .i64 v fun n => zNi r (zNi bs (K n))) = K p.2 := by
 unfold atR
 by_cases h : p.2 = 0
 ·rw [if_pos h, h]; rfl
 ·rw [if_neg h]; rfl
theorem x114 (k : Nat) (vs : List Vol) (ws : List Wr) (hv : vs.length ≤ 70000) (hl : ws.length ≤ 70000) (hk : 70100 ≤ k) : W k 116 [vsV vs, wsV ws] [] = some (.int .i64 (chkE vs ws), []) := by
 obtain ⟨k, rfl⟩ := succ1 (show 1 ≤ k by omega)
 rw [W_tree0 (t114 (W k) k vs ws) (by kernel_rfl), x110 k vs (by omega) hv, chkE, List.length_map]
 simp only [zRe, zBo, zNi]
 cases hok : vOk vs with
 | false => rfl
 | true =>
  simp only [Bool.not_true, cond_false, if_true]
  have hv4 := vOk_len hok
  refine loopA_ind (fun i : Nat => chkS vs ws false ws.length i) (fun i => ws.length - i) (fun i r => r = some (.int .i64 (chkW vs (ws.drop i)), [])) (fun i m ih => ?_) k 0 _ (by omega) (by kernel_rfl)
  rw [b114]
  by_cases hi : i < ws.length
  ·rw [decide_eq_true (by omega), decide_eq_true (by omega), getM _ _ _ hi, List.drop_eq_getElem_cons hi, wi (by omega), chkW]
   simp only [zOp, wrV, zAg, zCo, zIn, zSt, if_true, zNi, cond_true]
   rw [x141 k vs (by omega) (by omega)]
   refine (atR_err _ _).trans ?_
   by_cases h1 : (getB vs ws[i].1 ws[i].2.1).2 = 0
   ·rw [if_neg (by simp [h1]), h1]
    by_cases h2 : ws[i].2.2.length > 8
    ·rw [if_pos h2, decide_eq_true (by omega)]; rfl
    ·rw [if_neg h2, decide_eq_false (by omega)]
     exact ih (i + 1) _ (by omega) (by kernel_rfl)
   ·rw [if_pos h1, show ((getB vs ws[i].1 ws[i].2.1).2 != 0) = true by simp [h1]]; rfl
  ·rw [decide_eq_false (by omega), List.drop_eq_nil_of_le (by omega)]; rfl
def prt : List (Int × Int) → List (Int × Int) → Int
 | [], _ => -1
 | x :: _, [] => x.2
 | x :: r, y :: s => if x = y then prt r s else x.2
def minp (p n : Int) : Int := if 0 ≤ p ∧ p < n then p else n
def comE (a : List (Int × Int)) (x : Int) (b : List (Int × Int)) (y : Int) : Int := if placedOk a x && placedOk b y && decide (a.head? = b.head?) then minp (prt b a) (minp (prt a b) (if y < x then y else x)) else -1
theorem br_beq (p q : Int × Int) : (p.1 == q.1 && (p.2 == q.2 && true)) = decide (p = q) := by
 by_cases h : p = q
 ·subst h; simp
 ·rw [decide_eq_false h]
  by_cases h1 : p.1 = q.1
  ·have h2 : p.2 ≠ q.2 := fun e => h (Prod.ext h1 e)
   rw [beq_eq_false_iff_ne.2 h2]; simp
  ·rw [beq_eq_false_iff_ne.2 h1]; rfl
theorem chain_at : ∀ (l : List (Int × Int)) (e a : Int), 0 ≤ a → chain e a l = true → ∀ b ∈ l, 0 ≤ b.2
 | [], _, _, _, _ => by simp
 | c :: r, e, a, ha, h => by
  rw [chain, Bool.and_eq_true, decide_eq_true_eq] at h
  intro b hb
  rcases List.mem_cons.1 hb with rfl | hb
  ·omega
  ·exact chain_at r c.1 c.2 (by omega) h.2 b hb
theorem line_at {l : List (Int × Int)} (h : lineOk l = true) : ∀ b ∈ l, 0 ≤ b.2 := by
 cases l with
 | nil => simp
 | cons c r =>
  rw [lineOk, Bool.and_eq_true, Bool.and_eq_true] at h
  exact chain_at _ 0 0 (by omega) h.2.2
theorem placed_line {l : List (Int × Int)} {z : Int} (h : placedOk l z = true) : lineOk l = true := by
 rw [placedOk, Bool.and_eq_true] at h; exact h.1
def comS (a : List (Int × Int)) (x : Int) (b : List (Int × Int)) (y i : Int) (c : Bool) : St := ⟨83, [(0, .agg [lnV a, .int .i64 x]), (1, .agg [lnV b, .int .i64 y]), (2, .ptr 2 0 0), (3, .ptr 3 0 0), (4, .int .i64 0), (5, .int .i64 i), (27, .bool c)], [(2, [lnV a, .int .i64 x]), (3, [lnV b, .int .i64 y])], [], [], [], []⟩
def comT (a : List (Int × Int)) (x : Int) (b : List (Int × Int)) (y i z : Int) (c d : Bool) (j : Int) : St := ⟨83, [(0, .agg [lnV a, .int .i64 x]), (1, .agg [lnV b, .int .i64 y]), (2, .ptr 2 0 0), (3, .ptr 3 0 0), (4, .int .i64 0), (5, .int .i64 i), (6, .int .i64 z), (27, .bool c), (52, .bool d), (64, .sl 1 true [lnV a, lnV b]), (65, .int .i64 2), (66, .int .i64 j)], [(2, [lnV a, .int .i64 x]), (3, [lnV b, .int .i64 y])], [], [], [], []⟩
theorem b138 (F : Fns) (N : Nat) (a : List (Int × Int)) (x : Int) (b : List (Int × Int)) (y i : Int) (c : Bool) (KN : St → Res) : zBy F 126 0 N (comS a x b y i c) (brk (zCt F 126 0 N 0) KN) =
 bif decide (i < ((List.length (List.map brV a) : Nat) : Int)) then bif decide (i < ((List.length (List.map brV b) : Nat) : Int)) then bif decide (0 ≤ i) then zOp (List.map brV a)[Int.toNat i]? fun x_1 => zAg x_1 fun cs => zCo cs fun v r => zIn .i64 v fun n => zCo r fun v r => zIn .i64 v fun n_1 => zNi r (bif decide (0 ≤ i) then zOp (List.map brV b)[Int.toNat i]? fun x_2 => zAg x_2 fun cs => zCo cs fun v r => zIn .i64 v fun n_2 => zCo r fun v r => zIn .i64 v fun n_3 => zNi r (bif n == n_2 && (n_1 == n_3 && true) then KN { nt := 83, t := [(0, AV.agg [lnV a, AV.int .i64 x]), (1, AV.agg [lnV b, AV.int .i64 y]), (2, AV.ptr 2 0 0), (3, AV.ptr 3 0 0), (4, AV.int .i64 0), (5, AV.int .i64 (IntKind.wrap .i64 (i + 1))), (27, AV.bool c), (52, AV.bool (n == n_2 && (n_1 == n_3 && true)))], b := [(2, [lnV a, AV.int .i64 x]), (3, [lnV b, AV.int .i64 y])], r := [], g := [], rd := [], wr := [] } else loopA (zBy F 126 1 N) (zDe 126 1) (zCt F 126 1 N 0) N (comT a x b y i (if y < x then y else x) c (n == n_2 && (n_1 == n_3 && true)) 0)) else none) else none else loopA (zBy F 126 1 N) (zDe 126 1) (zCt F 126 1 N 0) N (comT a x b y i (if y < x then y else x) c false 0) else loopA (zBy F 126 1 N) (zDe 126 1) (zCt F 126 1 N 0) N (comT a x b y i (if y < x then y else x) c false 0) := by kernel_rfl
theorem t138 (F : Fns) (N : Nat) (a : List (Int × Int)) (x : Int) (b : List (Int × Int)) (y : Int) : runOf F 126 N [.agg [lnV a, .int .i64 x], .agg [lnV b, .int .i64 y]] [] =
 zRe (F 94 [AV.agg [lnV a, AV.int .i64 x]] []) fun v bs => zBo v fun b_1 => zNi bs (bif !b_1 then some (AV.int .i64 (-1), []) else zRe (F 94 [AV.agg [lnV b, AV.int .i64 y]] []) fun v bs => zBo v fun b_2 => zNi bs (bif !b_2 then some (AV.int .i64 (-1), []) else zOp (List.map brV a)[Int.toNat 0]? fun x_1 => zAg x_1 fun cs => zCo cs fun v r => zIn .i64 v fun n => zCo r fun v r => zIn .i64 v fun n_1 => zNi r (zOp (List.map brV b)[Int.toNat 0]? fun x_2 => zAg x_2 fun cs => zCo cs fun v r => zIn .i64 v fun n_2 => zCo r fun v r => zIn .i64 v fun n_3 => zNi r (bif !(n == n_2 && (n_1 == n_3 && true)) then some (AV.int .i64 (-1), []) else loopA (zBy F 126 0 N) (zDe 126 0) (zCt F 126 0 N 0) N { nt := 83, t := [(0, AV.agg [lnV a, AV.int .i64 x]), (1, AV.agg [lnV b, AV.int .i64 y]), (2, AV.ptr 2 0 0), (3, AV.ptr 3 0 0), (4, AV.int .i64 0), (5, AV.int .i64 0), (27, AV.bool !(n == n_2 && (n_1 == n_3 && true)))], b := [(2, [lnV a, AV.int .i64 x]), (3, [lnV b, AV.int .i64 y])], r := [], g := [], rd := [], wr := [] })))) := by kernel_rfl
theorem c0 (F : Fns) (N : Nat) (a : List (Int × Int)) (x : Int) (b : List (Int × Int)) (y i z : Int) (c d : Bool) (KN : St → Res) : zBy F 126 1 N (comT a x b y i z c d 0) (brk (zCt F 126 1 N 0) KN) =
 bif decide (i < ((List.length (List.map brV a) : Nat) : Int)) then bif decide (0 ≤ i) then zOp (List.map brV a)[Int.toNat i]? fun x_1 => zAg x_1 fun cs => zCo cs fun v r => zIn .i64 v fun n => zCo r fun v r => zIn .i64 v fun n => zNi r (KN { nt := 83, t := [(0, AV.agg [lnV a, AV.int .i64 x]), (1, AV.agg [lnV b, AV.int .i64 y]), (2, AV.ptr 2 0 0), (3, AV.ptr 3 0 0), (4, AV.int .i64 0), (5, AV.int .i64 i), (6, AV.int .i64 (if n < z then n else z)), (8, lnV a), (27, AV.bool c), (52, AV.bool d), (64, AV.sl 1 true [lnV a, lnV b]), (65, AV.int .i64 2), (66, AV.int .i64 (IntKind.wrap .i64 (0 + 1))), (67, AV.bool (decide (0 < 2))), (73, AV.bool (decide (i < ((List.length (List.map brV a) : Nat) : Int))))], b := [(2, [lnV a, AV.int .i64 x]), (3, [lnV b, AV.int .i64 y])], r := [], g := [], rd := [], wr := [] }) else none else KN { nt := 83, t := [(0, AV.agg [lnV a, AV.int .i64 x]), (1, AV.agg [lnV b, AV.int .i64 y]), (2, AV.ptr 2 0 0), (3, AV.ptr 3 0 0), (4, AV.int .i64 0), (5, AV.int .i64 i), (6, AV.int .i64 z), (8, lnV a), (27, AV.bool c), (52, AV.bool d), (64, AV.sl 1 true [lnV a, lnV b]), (65, AV.int .i64 2), (66, AV.int .i64 (IntKind.wrap .i64 (0 + 1))), (67, AV.bool (decide (0 < 2))), (73, AV.bool (decide (i < ((List.length (List.map brV a) : Nat) : Int))))], b := [(2, [lnV a, AV.int .i64 x]), (3, [lnV b, AV.int .i64 y])], r := [], g := [], rd := [], wr := [] } := by kernel_rfl
theorem c1 (F : Fns) (N : Nat) (a : List (Int × Int)) (x : Int) (b : List (Int × Int)) (y i z : Int) (c d : Bool) (KN : St → Res) : zBy F 126 1 N (comT a x b y i z c d 1) (brk (zCt F 126 1 N 0) KN) =
 bif decide (i < ((List.length (List.map brV b) : Nat) : Int)) then bif decide (0 ≤ i) then zOp (List.map brV b)[Int.toNat i]? fun x_1 => zAg x_1 fun cs => zCo cs fun v r => zIn .i64 v fun n => zCo r fun v r => zIn .i64 v fun n => zNi r (KN { nt := 83, t := [(0, AV.agg [lnV a, AV.int .i64 x]), (1, AV.agg [lnV b, AV.int .i64 y]), (2, AV.ptr 2 0 0), (3, AV.ptr 3 0 0), (4, AV.int .i64 0), (5, AV.int .i64 i), (6, AV.int .i64 (if n < z then n else z)), (8, lnV b), (27, AV.bool c), (52, AV.bool d), (64, AV.sl 1 true [lnV a, lnV b]), (65, AV.int .i64 2), (66, AV.int .i64 (IntKind.wrap .i64 (1 + 1))), (67, AV.bool (decide (1 < 2))), (73, AV.bool (decide (i < ((List.length (List.map brV b) : Nat) : Int))))], b := [(2, [lnV a, AV.int .i64 x]), (3, [lnV b, AV.int .i64 y])], r := [], g := [], rd := [], wr := [] }) else none else KN { nt := 83, t := [(0, AV.agg [lnV a, AV.int .i64 x]), (1, AV.agg [lnV b, AV.int .i64 y]), (2, AV.ptr 2 0 0), (3, AV.ptr 3 0 0), (4, AV.int .i64 0), (5, AV.int .i64 i), (6, AV.int .i64 z), (8, lnV b), (27, AV.bool c), (52, AV.bool d), (64, AV.sl 1 true [lnV a, lnV b]), (65, AV.int .i64 2), (66, AV.int .i64 (IntKind.wrap .i64 (1 + 1))), (67, AV.bool (decide (1 < 2))), (73, AV.bool (decide (i < ((List.length (List.map brV b) : Nat) : Int))))], b := [(2, [lnV a, AV.int .i64 x]), (3, [lnV b, AV.int .i64 y])], r := [], g := [], rd := [], wr := [] } := by kernel_rfl
theorem c2 (F : Fns) (N : Nat) (a : List (Int × Int)) (x : Int) (b : List (Int × Int)) (y i z : Int) (c d : Bool) (KN : St → Res) : zBy F 126 1 N (comT a x b y i z c d 2) (brk (zCt F 126 1 N 0) KN) =
 some (AV.int .i64 z, []) := by kernel_rfl
def minAt (l : List (Int × Int)) (i : Nat) (z : Int) : Int := match l[i]? with
 | some b => if b.2 < z then b.2 else z
 | none => z
theorem minAt_some {l : List (Int × Int)} {i : Nat} {z : Int} (h : i < l.length) : minAt l i z = if l[i].2 < z then l[i].2 else z := by
 unfold minAt
 rw [List.getElem?_eq_getElem h]
theorem minAt_none {l : List (Int × Int)} {i : Nat} {z : Int} (h : ¬ i < l.length) : minAt l i z = z := by
 unfold minAt
 rw [List.getElem?_eq_none (by omega)]
theorem com_s1 (k m : Nat) (a : List (Int × Int)) (x : Int) (b : List (Int × Int)) (y : Int) (i : Nat) (c d : Bool) (ih : ∀ (z : Int) (st : St), st.clean (zDe 126 1) = comT a x b y i z c d 2 → loopA (zBy (W k) 126 1 k) (zDe 126 1) (zCt (W k) 126 1 k 0) m st = some (.int .i64 z, [])) (z : Int) (st : St) (h : st.clean (zDe 126 1) = comT a x b y i z c d 1) : loopA (zBy (W k) 126 1 k) (zDe 126 1) (zCt (W k) 126 1 k 0) (m + 1) st = some (.int .i64 (minAt b i z), []) := by
 rw [loopA_succ, h, c1, List.length_map]
 by_cases hi : i < b.length
 ·rw [getM _ _ _ hi, minAt_some hi]
  simp (disch := omega) only [decide_eq_true, decide_eq_false, brV, zRe, zOp, asRp, fixO, AV.fixed, zAg, zTu, zCo, zIn, zBo, zSt, asSl, zNi, if_true, cond_true, cond_false]
  exact ih _ _ (by kernel_rfl)
 ·rw [minAt_none hi]
  simp (disch := omega) only [decide_eq_true, decide_eq_false, zRe, zOp, asRp, fixO, AV.fixed, zAg, zTu, zCo, zIn, zBo, zSt, asSl, zNi, if_true, cond_true, cond_false]
  exact ih _ _ (by kernel_rfl)
theorem com_s0 (k m : Nat) (a : List (Int × Int)) (x : Int) (b : List (Int × Int)) (y : Int) (i : Nat) (c d : Bool) (ih : ∀ (z : Int) (st : St), st.clean (zDe 126 1) = comT a x b y i z c d 1 → loopA (zBy (W k) 126 1 k) (zDe 126 1) (zCt (W k) 126 1 k 0) m st = some (.int .i64 (minAt b i z), [])) (z : Int) (st : St) (h : st.clean (zDe 126 1) = comT a x b y i z c d 0) : loopA (zBy (W k) 126 1 k) (zDe 126 1) (zCt (W k) 126 1 k 0) (m + 1) st = some (.int .i64 (minAt b i (minAt a i z)), []) := by
 rw [loopA_succ, h, c0, List.length_map]
 by_cases hi : i < a.length
 ·rw [getM _ _ _ hi, minAt_some hi]
  simp (disch := omega) only [decide_eq_true, decide_eq_false, brV, zRe, zOp, asRp, fixO, AV.fixed, zAg, zTu, zCo, zIn, zBo, zSt, asSl, zNi, if_true, cond_true, cond_false]
  exact ih _ _ (by kernel_rfl)
 ·rw [minAt_none hi]
  simp (disch := omega) only [decide_eq_true, decide_eq_false, zRe, zOp, asRp, fixO, AV.fixed, zAg, zTu, zCo, zIn, zBo, zSt, asSl, zNi, if_true, cond_true, cond_false]
  exact ih _ _ (by kernel_rfl)
theorem com_tail (k m : Nat) (hm : 3 ≤ m) (a : List (Int × Int)) (x : Int) (b : List (Int × Int)) (y : Int) (i : Nat) (z : Int) (c d : Bool) (st : St) (hst : st.clean (zDe 126 1) = comT a x b y i z c d 0) :
  loopA (zBy (W k) 126 1 k) (zDe 126 1) (zCt (W k) 126 1 k 0) m st = some (.int .i64 (minAt b i (minAt a i z)), []) := by
 obtain ⟨m2, rfl⟩ := succ1 (show 1 ≤ m by omega)
 refine com_s0 k m2 a x b y i c d (fun z st h => ?_) z st hst
 obtain ⟨m1, rfl⟩ := succ1 (show 1 ≤ m2 by omega)
 refine com_s1 k m1 a x b y i c d (fun z st h => ?_) z st h
 obtain ⟨m0, rfl⟩ := succ1 (show 1 ≤ m1 by omega)
 rw [loopA_succ, h, c2]
theorem minAt_prt (a b : List (Int × Int)) (i : Nat) (z : Int) (ha : ∀ p ∈ a, 0 ≤ p.2) (h : prt (a.drop i) (b.drop i) = match a[i]? with | some p => p.2 | none => -1) : minp (prt (a.drop i) (b.drop i)) z = minAt a i z := by
 rw [h]
 unfold minAt minp
 cases hi : a[i]? with
 | none => simp
 | some p =>
  have := ha p (List.mem_of_getElem? hi)
  simp only
  grind
theorem prt_stop (a b : List (Int × Int)) (i : Nat) (h : b.length ≤ i ∨ a.length ≤ i ∨ a[i]? ≠ b[i]?) : prt (a.drop i) (b.drop i) = match a[i]? with | some p => p.2 | none => -1 := by
 by_cases hi : i < a.length
 ·rw [List.drop_eq_getElem_cons hi, List.getElem?_eq_getElem hi]
  by_cases hj : i < b.length
  ·rw [List.drop_eq_getElem_cons hj, prt, if_neg]
   intro e
   rcases h with h | h | h
   ·omega
   ·omega
   ·exact h (by rw [List.getElem?_eq_getElem hi, List.getElem?_eq_getElem hj, e])
  ·rw [List.drop_eq_nil_of_le (show b.length ≤ i by omega)]; rfl
 ·rw [List.drop_eq_nil_of_le (show a.length ≤ i by omega), List.getElem?_eq_none (by omega)]; rfl
theorem x138 (k : Nat) (hk : 70020 ≤ k) (a : List (Int × Int)) (x : Int) (b : List (Int × Int)) (y : Int) : W k 126 [.agg [lnV a, .int .i64 x], .agg [lnV b, .int .i64 y]] [] = some (.int .i64 (comE a x b y), []) := by
 obtain ⟨k, rfl⟩ := succ1 (show 1 ≤ k by omega)
 rw [W_tree0 (t138 (W k) k a x b y) (by kernel_rfl), x108 k (by omega), x108 k (by omega), comE]
 simp only [zRe, zBo, zNi]
 cases h1 : placedOk a x with
 | false => rfl
 | true =>
  cases h2 : placedOk b y with
  | false => rfl
  | true =>
   have o1 := line_at (placed_line h1)
   have o2 := line_at (placed_line h2)
   obtain ⟨l1, l2⟩ := line_len (placed_line h1)
   obtain ⟨l3, l4⟩ := line_len (placed_line h2)
   have key : ∀ (c : Bool) (st : St), st.clean (zDe 126 0) = comS a x b y (0 : Nat) c → loopA (zBy (W k) 126 0 k) (zDe 126 0) (zCt (W k) 126 0 k 0) k st = some (.int .i64 (minp (prt b a) (minp (prt a b) (if y < x then y else x))), []) := by
    intro c st hst
    refine loopA_ind (fun i : Nat => comS a x b y i c) (fun i => a.length - i) (fun i r => prt a b = prt (a.drop i) (b.drop i) → prt b a = prt (b.drop i) (a.drop i) → r = some (.int .i64 (minp (prt b a) (minp (prt a b) (if y < x then y else x))), [])) (fun i m ih p1 p2 => ?_) k 0 st (by omega) hst (by simp) (by simp)
    have tl : ∀ (d : Bool), (b.length ≤ i ∨ a.length ≤ i ∨ a[i]? ≠ b[i]?) → loopA (zBy (W k) 126 1 k) (zDe 126 1) (zCt (W k) 126 1 k 0) k (comT a x b y i (if y < x then y else x) c d 0) = some (.int .i64 (minp (prt b a) (minp (prt a b) (if y < x then y else x))), []) := by
     intro d hd
     rw [com_tail k k (by omega) a x b y i (if y < x then y else x) c d (comT a x b y i (if y < x then y else x) c d 0) (by kernel_rfl), p1, p2, minAt_prt a b i _ o1 (prt_stop a b i hd), minAt_prt b a i _ o2 (prt_stop b a i (by rcases hd with h | h | h; exact .inr (.inl h); exact .inl h; exact .inr (.inr (Ne.symm h))))]
    rw [b138, List.length_map, List.length_map]
    by_cases hi : i < a.length
    ·by_cases hj : i < b.length
     ·rw [getM _ _ _ hi, getM _ _ _ hj, wi (by omega)]
      simp (disch := omega) only [decide_eq_true, cond_true, zOp, brV, zAg, zCo, zIn, if_true, zNi, br_beq]
      by_cases h : a[i] = b[i]
      ·rw [decide_eq_true h]
       rw [List.drop_eq_getElem_cons hi, List.drop_eq_getElem_cons hj, prt, if_pos h] at p1
       rw [List.drop_eq_getElem_cons hi, List.drop_eq_getElem_cons hj, prt, if_pos h.symm] at p2
       exact ih (i + 1) _ (by omega) (by kernel_rfl) p1 p2
      ·rw [decide_eq_false h]
       exact tl _ (.inr (.inr (by rw [List.getElem?_eq_getElem hi, List.getElem?_eq_getElem hj]; simpa using h)))
     ·rw [decide_eq_true (by omega), decide_eq_false (by omega)]
      exact tl _ (.inl (by omega))
    ·rw [decide_eq_false (by omega)]
     exact tl _ (.inr (.inl (by omega)))
   obtain ⟨u, a', e1⟩ := List.exists_cons_of_length_pos l1
   obtain ⟨v, b', e2⟩ := List.exists_cons_of_length_pos l3
   rw [show (List.map brV a)[Int.toNat 0]? = some (brV u) by rw [e1]; rfl, show (List.map brV b)[Int.toNat 0]? = some (brV v) by rw [e2]; rfl, show a.head? = some u by rw [e1]; rfl, show b.head? = some v by rw [e2]; rfl]
   simp only [brV, zOp, zAg, zCo, zIn, if_true, zNi, br_beq, Bool.true_and, Bool.not_true, cond_false, Option.some.injEq]
   by_cases h : u = v
   ·rw [decide_eq_true h]
    exact key (!true) _ (by kernel_rfl)
   ·rw [decide_eq_false h]; rfl
theorem t112 (F : Fns) (N : Nat) (a : List (Int × Int)) (x : Int) (b : List (Int × Int)) (y : Int) : runOf F 114 N [.agg [lnV a, .int .i64 x], .agg [lnV b, .int .i64 y]] [] =
 zRe (F 94 [AV.agg [lnV a, AV.int .i64 x]] []) fun v bs => zBo v fun b_1 => zNi bs (bif b_1 then zRe (F 126 [AV.agg [lnV a, AV.int .i64 x], AV.agg [lnV b, AV.int .i64 y]] []) fun v bs => zIn .i64 v fun n => zNi bs (some (AV.bool (n == x), [])) else some (AV.bool false, [])) := by kernel_rfl
theorem x112 (k : Nat) (hk : 70030 ≤ k) (a : List (Int × Int)) (x : Int) (b : List (Int × Int)) (y : Int) : W k 114 [.agg [lnV a, .int .i64 x], .agg [lnV b, .int .i64 y]] [] = some (.bool (placedOk a x && decide (comE a x b y = x)), []) := by
 obtain ⟨k, rfl⟩ := succ1 (show 1 ≤ k by omega)
 rw [W_tree0 (t112 (W k) k a x b y) (by kernel_rfl), x108 k (by omega), x138 k (by omega)]
 simp only [zRe, zBo, zIn, if_true, zNi]
 cases placedOk a x <;> rfl
theorem x55 (k : Nat) (l l' : List Wr) (hk : l.length + 3 ≤ k) (hb : l.length ≤ 70000) : W k 16 [wsV l, wsV l'] [] = some (.bool (decide (l = l')), []) := W_old0 (e16 k false false l l' hk (by omega)) (by omega) (by kernel_rfl)
theorem x137 (k : Nat) (l : List Wr) (hk : 8 + l.length ≤ k) (hb : l.length ≤ 70000) : W k 81 [wsV l] [] = some (.bool (sortedW l), []) := W_old0 (e81 k false l hk (by omega)) (by omega) (by kernel_rfl)
def keptOk (kp : List Wr) (vs : List Vol) : Bool := decide (chkE vs kp = 0) && sortedW kp
theorem t111 (F : Fns) (N : Nat) (vs : List Vol) (ws : List Wr) : runOf F 113 N [wsV ws, vsV vs] [] =
 zRe (F 116 [vsV vs, wsV ws] []) fun v bs => zIn .i64 v fun n => zNi bs (bif n == 0 then zRe (F 81 [wsV ws] []) fun v bs => zBo v fun b => zNi bs (some (AV.bool b, [])) else some (AV.bool false, [])) := by kernel_rfl
theorem x111 (k : Nat) (vs : List Vol) (ws : List Wr) (hv : vs.length ≤ 70000) (hl : ws.length ≤ 70000) (hk : 70110 ≤ k) : W k 113 [wsV ws, vsV vs] [] = some (.bool (keptOk ws vs), []) := by
 obtain ⟨k, rfl⟩ := succ1 (show 1 ≤ k by omega)
 rw [W_tree0 (t111 (W k) k vs ws) (by kernel_rfl), x114 k vs ws hv hl (by omega), x137 k ws (by omega) hl, keptOk]
 simp only [zRe, zIn, zBo, if_true, zNi]
 rw [show (chkE vs ws == 0) = decide (chkE vs ws = 0) from rfl]
 cases decide (chkE vs ws = 0) <;> rfl
def ouV (z key : Nat) (l : List AV) : AV := match l with | [] => .sl 0 true [] | _ => .tip key 0 z l
def enV (z : Nat) (l : List AV) : AV := match l with | [] => .sl 0 true [] | _ => .sl z false l
theorem can_en (z : Nat) (l : List AV) : canR (.sl z) (enV z l) = .sl z false l := by
 cases l with
 | nil =>
  simp only [enV, canR, canV, can1]
  cases h : (0 == z) with
  | true => rfl
  | false => rfl
 | cons a r => simp [enV, canR, canV, can1]
theorem orM (a b : Nat) (ha : a < 18446744073709551616) (hb : b < 18446744073709551616) : IntKind.wrap .u64 ((BitVec.toNat (BitVec.ofInt (IntKind.bits IntKind.u64) (a : Int) ||| BitVec.ofInt (IntKind.bits IntKind.u64) (b : Int)) : Nat) : Int) = ((a ||| b : Nat) : Int) := by
 have h : a ||| b < 2 ^ 64 := Nat.or_lt_two_pow (by omega) (by omega)
 change IntKind.wrap .u64 ((BitVec.toNat (BitVec.ofInt 64 (a : Int) ||| BitVec.ofInt 64 (b : Int)) : Nat) : Int) = _
 rw [BitVec.ofInt_natCast, BitVec.ofInt_natCast, BitVec.toNat_or, BitVec.toNat_ofNat, BitVec.toNat_ofNat, Nat.mod_eq_of_lt (show a < 2 ^ 64 by omega), Nat.mod_eq_of_lt (show b < 2 ^ 64 by omega)]
 exact wrap_u64 (by omega)
theorem anM (a b : Nat) (ha : a < 18446744073709551616) (hb : b < 18446744073709551616) : (IntKind.wrap .u64 ((BitVec.toNat (BitVec.ofInt (IntKind.bits IntKind.u64) (a : Int) &&& ~~~ BitVec.ofInt (IntKind.bits IntKind.u64) (b : Int)) : Nat) : Int) != 0) = false ↔ ∀ i, a.testBit i = true → b.testBit i = true := by
 change (IntKind.wrap .u64 ((BitVec.toNat (BitVec.ofInt 64 (a : Int) &&& ~~~ BitVec.ofInt 64 (b : Int)) : Nat) : Int) != 0) = false ↔ _
 rw [BitVec.ofInt_natCast, BitVec.ofInt_natCast]
 generalize hx : BitVec.toNat (BitVec.ofNat 64 a &&& ~~~ BitVec.ofNat 64 b) = x
 have hlt : x < 18446744073709551616 := by rw [← hx]; exact (BitVec.ofNat 64 a &&& ~~~ BitVec.ofNat 64 b).isLt
 rw [wrap_u64 hlt]
 have key : x = 0 ↔ ∀ i, a.testBit i = true → b.testBit i = true := by
  have e : x = 0 ↔ (BitVec.ofNat 64 a &&& ~~~ BitVec.ofNat 64 b) = 0#64 := by
   rw [← hx]
   constructor
   ·intro h; exact BitVec.eq_of_toNat_eq (by simpa using h)
   ·intro h; rw [h]; rfl
  rw [e]
  constructor
  ·intro h i hi
   have hi64 : i < 64 := by
    apply Classical.byContradiction
    intro hn
    rw [Nat.testBit_lt_two_pow (Nat.lt_of_lt_of_le ha (by rw [show 18446744073709551616 = 2 ^ 64 from rfl]; exact Nat.pow_le_pow_right (by omega) (by omega)))] at hi
    simp at hi
   have h2 := congrArg (fun v => v.getLsbD i) h
   simp only [BitVec.getLsbD_and, BitVec.getLsbD_not, BitVec.getLsbD_ofNat, hi64, hi, BitVec.getLsbD_zero] at h2
   cases hb : b.testBit i with
   | true => rfl
   | false => rw [hb] at h2; simp at h2
  ·intro h
   refine BitVec.eq_of_getLsbD_eq fun i hi => ?_
   rw [BitVec.getLsbD_and, BitVec.getLsbD_not, BitVec.getLsbD_ofNat, BitVec.getLsbD_ofNat]
   cases ha : a.testBit i with
   | false => simp
   | true => simp [h i ha]
 rw [← key]
 constructor
 ·intro h; have := bne_eq_false_iff_eq.1 h; omega
 ·intro h; subst h; rfl
theorem x72 (k : Nat) (l : List (Int × Int)) (hk : 1200 ≤ k) (hl : l.length ≤ 1000) : W k 62 [btsV l] [] = some (.bool (bOk l), []) := W_old0 (e62' k (.inl ⟨false, rfl⟩) (by omega) hl) (by omega) (by kernel_rfl)
def lenOf : List Vol → Int → Nat
 | [], _ => 0
 | v :: r, a => if v.1 = a then v.2.length else lenOf r a
theorem getB_err : ∀ (vs : List Vol) (a i : Int), (getB vs a i).2 = 0 ↔ 0 ≤ i ∧ i < lenOf vs a
 | [], a, i => by simp [getB, lenOf]
 | v :: r, a, i => by
  simp only [getB, lenOf]
  by_cases h : v.1 = a
  ·rw [if_pos h, if_pos h]
   by_cases h2 : 0 ≤ i ∧ i < v.2.length
   ·rw [if_pos h2]; simp [h2]
   ·rw [if_neg h2]; simp [h2]
  ·rw [if_neg h, if_neg h]; exact getB_err r a i
def ownB (vs : List Vol) (b : Int × Int) : Bool := (List.range 32).all fun i => !(b.2.toNat.testBit i) || decide (i < lenOf vs b.1)
def withinOk (m : List (Int × Int)) (vs : List Vol) : Bool := bOk m && m.all (ownB vs)
def masN (arr : List Nat) : List AV := arr.map fun n : Nat => AV.int .u64 (n : Int)
def sprd : List (Int × Int) → List Nat → List Nat
 | [], a => a
 | b :: r, a => sprd r (a.set b.1.toNat (a.getD b.1.toNat 0 ||| b.2.toNat))
def sprS (l : List (Int × Int)) (arr : List AV) (i : Int) : St := ⟨30, [(0, .sl 1 false [btsV l]), (2, .nilp), (3, .rowp 3 0 0), (8, .sl 1 false [btsV l]), (9, .int .i64 1), (10, .int .i64 i)], [], [(3, arr)], [], [], []⟩
def sprT (l : List (Int × Int)) (arr : List AV) (len j : Int) : St := ⟨30, [(0, .sl 1 false [btsV l]), (2, .nilp), (3, .rowp 3 0 0), (5, btsV l), (8, .sl 1 false [btsV l]), (9, .int .i64 1), (10, .int .i64 0), (11, .bool true), (14, btsV l), (15, .int .i64 len), (16, .int .i64 j)], [], [(3, arr)], [], [], []⟩
theorem t139 (F : Fns) (N : Nat) (l : List (Int × Int)) : runOf F 127 N [.sl 1 false [btsV l]] [] =
 loopA (zBy F 127 0 N) (zDe 127 0) (zCt F 127 0 N 0) N { nt := 30, t := [(0, AV.sl 1 false [btsV l]), (2, AV.nilp), (3, AV.rowp 3 0 0), (8, AV.sl 1 false [btsV l]), (9, AV.int .i64 ((List.length [btsV l] : Nat) : Int)), (10, AV.int .i64 0)], b := [], r := [(3, List.replicate 256 (AV.int .u64 0))], g := [], rd := [], wr := [] } := by kernel_rfl
def sprI (l : List (Int × Int)) (arr : List AV) : St := ⟨30, [(0, .sl 1 false [btsV l]), (2, .nilp), (3, .rowp 3 0 0), (5, btsV l), (8, .sl 1 false [btsV l]), (9, .int .i64 1), (10, .int .i64 0), (11, .bool true), (14, btsV l), (15, .int .i64 ((List.length (List.map btV l) : Nat) : Int)), (16, .int .i64 0)], [], [(3, arr)], [], [], []⟩
theorem b139 (F : Fns) (N : Nat) (l : List (Int × Int)) (arr : List AV) (KN : St → Res) : zBy F 127 0 N (sprS l arr 0) (brk (zCt F 127 0 N 0) KN) =
 loopA (zBy F 127 1 N) (zDe 127 1) (zCb F 127 0 0 N (brk (zCt F 127 0 N 0) KN)) N (sprI l arr) := by kernel_rfl
theorem b139b (F : Fns) (N : Nat) (l : List (Int × Int)) (arr : List AV) (KN : St → Res) : zBy F 127 0 N (sprS l arr 1) (brk (zCt F 127 0 N 0) KN) =
 some (AV.rp (List.length arr) (AV.agg arr) 0, []) := by kernel_rfl
theorem c139 (F : Fns) (N : Nat) (l : List (Int × Int)) (arr : List Nat) (len j : Int) (KO KN : St → Res) : zBy F 127 1 N (sprT l (masN arr) len j) (brk (zCb F 127 0 0 N (brk (zCt F 127 0 N 0) KO)) KN) =
 bif decide (j < len) then bif decide (0 ≤ j) then zOp (List.map btV l)[Int.toNat j]? fun x => zAg x fun cs => zCo cs fun v r => zIn .i64 v fun n => zCo r fun v r => zIn .u64 v fun n_1 => zNi r (bif decide (0 ≤ n ∧ n < ((256 : Nat) : Int)) then zOp (fixO (masN arr)[0 + Int.toNat n * 1]?) fun x => zIn .u64 x fun n_2 => bif decide (0 ≤ n ∧ n < ((256 : Nat) : Int)) then bif decide (0 + Int.toNat n * 1 < List.length (masN arr)) then KN { nt := 30, t := [(0, AV.sl 1 false [btsV l]), (2, AV.nilp), (3, AV.rowp 3 0 0), (5, btsV l), (7, AV.ptr 7 0 0), (8, AV.sl 1 false [btsV l]), (9, AV.int .i64 1), (10, AV.int .i64 0), (11, AV.bool true), (14, btsV l), (15, AV.int .i64 len), (16, AV.int .i64 (IntKind.wrap .i64 (j + 1))), (17, AV.bool (decide (j < len)))], b := [(7, [AV.int .i64 n, AV.int .u64 n_1])], r := [(3, List.set (masN arr) (0 + Int.toNat n * 1) (AV.int .u64 (IntKind.wrap .u64 ((BitVec.toNat (BitVec.ofInt (IntKind.bits IntKind.u64) n_2 ||| BitVec.ofInt (IntKind.bits IntKind.u64) n_1) : Nat) : Int))))], g := [], rd := [], wr := [] } else none else none else none) else none else KO { nt := 30, t := [(0, AV.sl 1 false [btsV l]), (2, AV.nilp), (3, AV.rowp 3 0 0), (5, btsV l), (8, AV.sl 1 false [btsV l]), (9, AV.int .i64 1), (10, AV.int .i64 (IntKind.wrap .i64 (0 + 1))), (11, AV.bool true), (14, btsV l), (15, AV.int .i64 len), (16, AV.int .i64 j), (17, AV.bool (decide (j < len)))], b := [], r := [(3, masN arr)], g := [], rd := [], wr := [] } := by kernel_rfl
theorem masN_get (arr : List Nat) (n : Int) (h0 : 0 ≤ n) (h : n < arr.length) : (masN arr)[0 + Int.toNat n * 1]? = some (.int .u64 ((arr.getD n.toNat 0 : Nat) : Int)) := by
 rw [Nat.zero_add, Nat.mul_one, masN, List.getElem?_map, List.getElem?_eq_getElem (by omega), List.getD_eq_getElem?_getD, List.getElem?_eq_getElem (by omega)]; rfl
theorem getD_lt {arr : List Nat} (h : ∀ x ∈ arr, x < 18446744073709551616) (n : Nat) : arr.getD n 0 < 18446744073709551616 := by
 rw [List.getD_eq_getElem?_getD]
 cases hx : arr[n]? with
 | none => simp
 | some x => exact h x (List.mem_of_getElem? hx)
def Vo (l : List (Int × Int)) : Prop := ∀ b ∈ l, 0 ≤ b.1 ∧ b.1 < 256
theorem spread_in (k : Nat) (l : List (Int × Int)) (hl : l.length ≤ 70000) (hv : Vo l) (hu : UM l) (hk : 70010 ≤ k) (KO : St → Res) (arr : List Nat) (ha : arr.length = 256) (hb : ∀ x ∈ arr, x < 18446744073709551616) (st : St) (hst : st.clean (zDe 127 1) = sprT l (masN arr) l.length (0 : Nat)) :
  ∃ st', St.clean (zDe 127 0) st' = sprS l (masN (sprd l arr)) 1 ∧ loopA (zBy (W k) 127 1 k) (zDe 127 1) (zCb (W k) 127 0 0 k (brk (zCt (W k) 127 0 k 0) KO)) k st = KO st' := by
 refine loopA_ind (fun a : Nat × List Nat => sprT l (masN a.2) l.length a.1) (fun a => l.length - a.1) (fun a r => a.2.length = 256 → (∀ x ∈ a.2, x < 18446744073709551616) → sprd (l.drop a.1) a.2 = sprd l arr → ∃ st', St.clean (zDe 127 0) st' = sprS l (masN (sprd l arr)) 1 ∧ r = KO st') (fun a m ih h1 h2 h3 => ?_) k (0, arr) st (by simp; omega) hst ha hb rfl
 obtain ⟨j, xs⟩ := a
 simp only at h1 h2 h3 ih ⊢
 rw [c139]
 by_cases hj : j < l.length
 ·obtain ⟨v1, v2⟩ := hv l[j] (List.getElem_mem hj)
  obtain ⟨u1, u2⟩ := hu l[j] (List.getElem_mem hj)
  rw [getM _ _ _ hj, wi (by omega)]
  simp (disch := omega) only [decide_eq_true, zOp, btV, zAg, zCo, zIn, if_true, zNi, cond_true]
  have hml : (masN xs).length = 256 := by simp [masN, h1]
  rw [masN_get xs _ v1 (by omega)]
  simp (disch := omega) only [hml, decide_eq_true, fixO, AV.fixed, zIn, if_true, cond_true]
  have e : IntKind.wrap .u64 ((BitVec.toNat (BitVec.ofInt (IntKind.bits IntKind.u64) ((xs.getD l[j].1.toNat 0 : Nat) : Int) ||| BitVec.ofInt (IntKind.bits IntKind.u64) l[j].2) : Nat) : Int) = ((xs.getD l[j].1.toNat 0 ||| l[j].2.toNat : Nat) : Int) := by
   have := orM (xs.getD l[j].1.toNat 0) l[j].2.toNat (getD_lt h2 _) (by omega)
   rw [show ((l[j].2.toNat : Nat) : Int) = l[j].2 by omega] at this
   exact this
  rw [e]
  refine ih (j + 1, xs.set l[j].1.toNat (xs.getD l[j].1.toNat 0 ||| l[j].2.toNat)) _ (by simp; omega) ?_ (by simp [h1]) (fun x hx => ?_) ?_
  ·have : List.set (masN xs) (0 + Int.toNat l[j].1 * 1) (AV.int .u64 ((xs.getD l[j].1.toNat 0 ||| l[j].2.toNat : Nat) : Int)) = masN (xs.set l[j].1.toNat (xs.getD l[j].1.toNat 0 ||| l[j].2.toNat)) := by
    rw [Nat.zero_add, Nat.mul_one, masN, masN, List.map_set]
   rw [this]

   show St.clean (zDe 127 1) _ = _
   kernel_rfl
  ·rcases List.mem_or_eq_of_mem_set hx with hx | rfl
   ·exact h2 x hx
   ·have h3 := getD_lt h2 l[j].1.toNat
    have : (xs.getD l[j].1.toNat 0 ||| l[j].2.toNat) < 2 ^ 64 := Nat.or_lt_two_pow (by omega) (by omega)
    omega
  ·rw [← h3, List.drop_eq_getElem_cons hj, sprd]
 ·rw [decide_eq_false (by omega)]
  rw [List.drop_eq_nil_of_le (by omega), sprd] at h3
  rw [← h3]
  exact ⟨_, (by kernel_rfl), rfl⟩
def zeros : List Nat := List.replicate 256 0
theorem zeros_len : zeros.length = 256 := List.length_replicate
theorem zeros_lt : ∀ x ∈ zeros, x < 18446744073709551616 := fun x hx => by rw [List.eq_of_mem_replicate hx]; omega
theorem sprd_len : ∀ (l : List (Int × Int)) (a : List Nat), (sprd l a).length = a.length
 | [], a => rfl
 | b :: r, a => by rw [sprd, sprd_len]; simp
theorem x139 (k : Nat) (l : List (Int × Int)) (hl : l.length ≤ 70000) (hv : Vo l) (hu : UM l) (hk : 70020 ≤ k) : W k 127 [.sl 1 false [btsV l]] [] = some (.rp 256 (.agg (masN (sprd l zeros))) 0, []) := by
 obtain ⟨k, rfl⟩ := succ1 (show 1 ≤ k by omega)
 rw [W_tree0 (t139 (W k) k l) (by kernel_rfl)]
 obtain ⟨k', hk'⟩ : ∃ k', k = k' + 2 := ⟨k - 2, by omega⟩
 have last : ∀ (m : Nat) (st : St), st.clean (zDe 127 0) = sprS l (masN (sprd l zeros)) 1 → loopA (zBy (W k) 127 0 k) (zDe 127 0) (zCt (W k) 127 0 k 0) (m + 1) st = some (.rp 256 (.agg (masN (sprd l zeros))) 0, []) := by
  intro m st h
  rw [loopA_succ, h, b139b, show (masN (sprd l zeros)).length = 256 by simp only [masN, List.length_map, sprd_len, zeros_len]]
 have first : ∀ (m : Nat) (st : St), st.clean (zDe 127 0) = sprS l (masN zeros) 0 → loopA (zBy (W k) 127 0 k) (zDe 127 0) (zCt (W k) 127 0 k 0) (m + 1 + 1) st = some (.rp 256 (.agg (masN (sprd l zeros))) 0, []) := by
  intro m st h
  have hL := last m
  generalize m + 1 = m1 at hL ⊢
  rw [loopA_succ, h, b139]
  obtain ⟨st', h1, h2⟩ := spread_in k l hl hv hu (by omega) (fun st' => loopA (zBy (W k) 127 0 k) (zDe 127 0) (zCt (W k) 127 0 k 0) m1 st') zeros zeros_len zeros_lt (sprI l (masN zeros)) (by rw [sprI, List.length_map]; kernel_rfl)
  exact h2.trans (hL st' h1)
 have := first k' { nt := 30, t := [(0, AV.sl 1 false [btsV l]), (2, AV.nilp), (3, AV.rowp 3 0 0), (8, AV.sl 1 false [btsV l]), (9, AV.int .i64 ((List.length [btsV l] : Nat) : Int)), (10, AV.int .i64 0)], b := [], r := [(3, List.replicate 256 (AV.int .u64 0))], g := [], rd := [], wr := [] } (by kernel_rfl)
 rw [show k' + 1 + 1 = k by omega] at this
 exact this
end Go.AM.Ytnhfjkckgicidaa
