/- octet.Get -/
import Derived.Test.YtnhfjkckgicidaaAmP02
import Derived.Calls
set_option linter.unusedVariables false
set_option linter.unusedSimpArgs false
namespace Go.AM.Ytnhfjkckgicidaa
open Go.AM Go.Proofs Go
noncomputable def fxOf (f : Nat) : Fx := match find f fnl with | some fx => fx | none => ⟨default, [], [], [], []⟩
noncomputable def zBy (F : Fns) (f i n : Nat) : St → (Ex → St → Res) → Res := bodyF F tb sh (fxOf f) n i
noncomputable def zCt (F : Fns) (f i n nb : Nat) : Ex → St → Res := contF F tb sh (fxOf f) n i nb
noncomputable def runOf (F : Fns) (f n : Nat) : Over := evFn F tb sh (fxOf f) n
noncomputable def joinOf (F : Fns) (f j n nb : Nat) : St → Res := joinF F tb sh (fxOf f) n j nb
noncomputable def zDe (f i : Nat) : List Nat := (fxOf f).deadAt (loopAt (fxOf f) i)
def brk (K : Ex → St → Res) (KN : St → Res) : Ex → St → Res := fun e st => match e with | .normal => KN st | .exit id => K (.exit id) st | .ret => K .ret st
theorem loopA_succ (body : St → (Ex → St → Res) → Res) (dead : List Nat) (K : Ex → St → Res) (n : Nat) (st : St) : loopA body dead K (n + 1) st = body (st.clean dead) (brk K fun st' => loopA body dead K n st') := rfl
def getOne (acc n : Int) : Int := (IntKind.wrap .u64
                      ↑(BitVec.toNat
                          (BitVec.ofInt (IntKind.bits IntKind.u64)
                              (IntKind.wrap .u64 (acc * 2 ^ min (Int.toNat 8) (IntKind.bits IntKind.u64))) |||
                            BitVec.ofInt (IntKind.bits IntKind.u64) (IntKind.wrap .u64 n))))
def getAcc (acc : Int) : List UInt8 → Int
  | [] => acc
  | b :: r => getAcc (getOne acc b.toNat) r
def getS (s : List UInt8) (acc i : Int) (len : Int) (b : Bool) : St := ⟨31, [(0, AV.str s), (2, AV.int .i64 0), (3, AV.int .i64 0), (4, AV.int .u64 acc), (13, AV.bool b), (15, AV.int .i64 len), (16, AV.int .i64 i)], [], [], [], [], []⟩
theorem get_body (F : Fns) (n : Nat) (s : List UInt8) (acc i len : Int) (b : Bool) (K : Ex → St → Res) : zBy F 89 0 n (getS s acc i len b) K =
  bif decide (i < len) then
  bif decide (0 ≤ i) then
    zOp (Option.map (fun b => AV.int .u8 ↑(UInt8.toNat b)) s[Int.toNat i]?) fun x =>
      zIn .u8 x fun n =>
        K Ex.normal
          { nt := 31,
            t :=
              [(0, AV.str s), (2, AV.int .i64 0), (3, AV.int .i64 0),
                (4, AV.int .u64 (getOne acc n)),
                (5, AV.int .i64 i), (13, AV.bool b), (15, AV.int .i64 len),
                (16, AV.int .i64 (IntKind.wrap .i64 (i + 1))), (17, AV.bool (decide (i < len)))],
            b := [], r := [], g := [], rd := [], wr := [] }
  else none
  else
  K (Ex.exit 0)
    { nt := 31,
      t :=
        [(0, AV.str s), (2, AV.int .i64 0), (3, AV.int .i64 0), (4, AV.int .u64 acc),
          (13, AV.bool b), (15, AV.int .i64 len), (16, AV.int .i64 i), (17, AV.bool (decide (i < len)))],
      b := [], r := [], g := [], rd := [], wr := [] } := by kernel_rfl
theorem wrap_i64 {n : Int} (h : 0 ≤ n) (h2 : n < 9223372036854775808) : IntKind.wrap .i64 n = n := by
  simp [IntKind.wrap, IntKind.bits, IntKind.signed]
  omega
theorem get_loop (F : Fns) (n : Nat) (s : List UInt8) (b : Bool) (K : Ex → St → Res) (hs : s.length ≤ 8) : ∀ (d i m : Nat) (acc : Int) (st : St), i + d = s.length → d < m → st.clean (zDe 89 0) = getS s acc i s.length b →
    loopA (zBy F 89 0 n) (zDe 89 0) K m st = K (.exit 0) ⟨31, [(0, AV.str s), (2, AV.int .i64 0), (3, AV.int .i64 0), (4, AV.int .u64 (getAcc acc (s.drop i))), (13, AV.bool b), (15, AV.int .i64 s.length), (16, AV.int .i64 s.length), (17, AV.bool false)], [], [], [], [], []⟩ := by
  intro d
  induction d with
  | zero =>
    intro i m acc st hi hm hst
    obtain ⟨m, rfl⟩ : ∃ m', m = m' + 1 := ⟨m - 1, by omega⟩
    have : i = s.length := by omega
    subst this
    rw [loopA, hst, get_body]
    simp [getAcc]
  | succ d ih =>
    intro i m acc st hi hm hst
    obtain ⟨m, rfl⟩ : ∃ m', m = m' + 1 := ⟨m - 1, by omega⟩
    rw [loopA, hst, get_body]
    have h1 : decide ((i : Int) < s.length) = true := decide_eq_true (by omega)
    have h2 : decide ((0 : Int) ≤ i) = true := decide_eq_true (by omega)
    have hlt : i < s.length := by omega
    rw [h1, h2]
    simp only [cond_true, Int.toNat_natCast, List.getElem?_eq_getElem hlt, Option.map_some, zOp, zIn, if_true]
    rw [wrap_i64 (by omega) (by omega)]
    rw [ih (i + 1) m (getOne acc (s[i]).toNat) _ (by omega) (by omega) (by kernel_rfl)]
    rw [List.drop_eq_getElem_cons hlt, getAcc]
theorem get_head (F : Fns) (n : Nat) (s : List UInt8) : runOf F 89 n [.str s] [] =
  bif decide (↑(List.length s) < (1 : Int)) then some (AV.tup [AV.int .i64 0, AV.int .i64 1], [])
  else
  bif decide (↑(List.length s) > (8 : Int)) then some (AV.tup [AV.int .i64 0, AV.int .i64 1], [])
  else loopA (zBy F 89 0 n) (zDe 89 0) (zCt F 89 0 n 0) n (getS s 0 0 ↑(List.length s) (decide (↑(List.length s) > (8 : Int)))) := by kernel_rfl
theorem get_tail (F : Fns) (n : Nat) (s : List UInt8) (acc len : Int) (b : Bool) : zCt F 89 0 n 0 (.exit 0) ⟨31, [(0, AV.str s), (2, AV.int .i64 0), (3, AV.int .i64 0), (4, AV.int .u64 acc), (13, AV.bool b), (15, AV.int .i64 len), (16, AV.int .i64 len), (17, AV.bool false)], [], [], [], [], []⟩ =
  bif decide (acc > 9223372036854775807) then some (AV.tup [AV.int .i64 0, AV.int .i64 10], [])
  else some (AV.tup [AV.int .i64 (IntKind.wrap .i64 acc), AV.int .i64 0], []) := by kernel_rfl
def getV (s : List UInt8) : Int × Int :=
  if s.length < 1 ∨ s.length > 8 then (0, 1) else if getAcc 0 s > 9223372036854775807 then (0, 10) else (IntKind.wrap .i64 (getAcc 0 s), 0)
theorem get_spec (F : Fns) (n : Nat) (hn : 8 < n) (s : List UInt8) : runOf F 89 n [.str s] [] = some (.tup [.int .i64 (getV s).1, .int .i64 (getV s).2], []) := by
  rw [get_head]
  unfold getV
  by_cases h1 : s.length < 1
  · have e : decide (↑(List.length s) < (1 : Int)) = true := decide_eq_true (by omega)
    rw [e, if_pos (.inl h1)]
    rfl
  · have e : decide (↑(List.length s) < (1 : Int)) = false := decide_eq_false (by omega)
    rw [e]
    by_cases h2 : s.length > 8
    · have e2 : decide (↑(List.length s) > (8 : Int)) = true := decide_eq_true (by omega)
      rw [e2, if_pos (.inr h2)]
      rfl
    · have e2 : decide (↑(List.length s) > (8 : Int)) = false := decide_eq_false (by omega)
      rw [e2, if_neg (by omega)]
      simp only [cond_false]
      rw [get_loop F n s false _ (by omega) s.length 0 n 0 _ (by omega) (by omega) (by kernel_rfl), get_tail]
      simp only [List.drop_zero]
      by_cases h3 : getAcc 0 s > 9223372036854775807
      · rw [decide_eq_true h3, if_pos h3]; rfl
      · rw [decide_eq_false h3, if_neg h3]; rfl
open Go.AM Go.Proofs Go
def putS (z w : Int) (c : Bool) (b : Bool) (len i : Int) (row : List AV) : St := ⟨48, [(0, AV.int .i64 z), (1, AV.int .i64 w), (4, AV.str []), (5, AV.int .i64 0), (6, AV.row 28 0), (13, AV.bool b), (26, AV.bool c), (30, AV.int .i64 len), (31, AV.int .i64 i)], [], [(28, row)], [], [], []⟩
def putByte (z w i : Int) : Int := (IntKind.wrap .u8
                        (Int.fdiv z
                          (2 ^
                            min
                              (Int.toNat
                                (IntKind.wrap .i64
                                  (8 * IntKind.wrap .i64 (IntKind.wrap .i64 (w - 1) - i))))
                              (IntKind.bits IntKind.i64))))
theorem put_body (F : Fns) (n : Nat) (z w : Int) (c b : Bool) (len i : Int) (row : List AV) (K : Ex → St → Res) : zBy F 37 0 n (putS z w c b len i row) K =
  bif decide (i < len) then
  bif decide (0 ≤ IntKind.wrap .i64 (8 * IntKind.wrap .i64 (IntKind.wrap .i64 (w - 1) - i))) then
    bif decide (0 ≤ i ∧ i < ↑(List.length row)) then
      bif decide (Int.toNat i < List.length row) then
        K Ex.normal
          { nt := 48,
            t :=
              [(0, AV.int .i64 z), (1, AV.int .i64 w), (4, AV.str []), (5, AV.int .i64 0),
                (6, AV.row 28 0), (7, AV.int .i64 i), (13, AV.bool b), (26, AV.bool c),
                (30, AV.int .i64 len), (31, AV.int .i64 (IntKind.wrap .i64 (i + 1))),
                (32, AV.bool (decide (i < len)))],
            b := [],
            r := [(28, List.set row (Int.toNat i) (AV.int .u8 (putByte z w i)))],
            g := [], rd := [], wr := [] }
      else none
    else none
  else none
  else
  K (Ex.exit 0)
    { nt := 48,
      t :=
        [(0, AV.int .i64 z), (1, AV.int .i64 w), (4, AV.str []), (5, AV.int .i64 0),
          (6, AV.row 28 0), (13, AV.bool b), (26, AV.bool c), (30, AV.int .i64 len), (31, AV.int .i64 i),
          (32, AV.bool (decide (i < len)))],
      b := [], r := [(28, row)], g := [], rd := [], wr := [] } := by kernel_rfl
theorem wrap_small {n : Int} (h : -9223372036854775808 ≤ n) (h2 : n < 9223372036854775808) : IntKind.wrap .i64 n = n := by
  simp [IntKind.wrap, IntKind.bits, IntKind.signed]
  omega
theorem put_loop (F : Fns) (n : Nat) (z : Int) (w : Nat) (c b : Bool) (K : Ex → St → Res) (hw : w ≤ 8) : ∀ (d i m : Nat) (row : List AV) (st : St), i + d = w → row.length = w → d < m → st.clean (zDe 37 0) = putS z w c b w i row →
    loopA (zBy F 37 0 n) (zDe 37 0) K m st = K (.exit 0) ⟨48, [(0, AV.int .i64 z), (1, AV.int .i64 w), (4, AV.str []), (5, AV.int .i64 0), (6, AV.row 28 0), (13, AV.bool b), (26, AV.bool c), (30, AV.int .i64 w), (31, AV.int .i64 w), (32, AV.bool false)], [], [(28, row.take i ++ (List.range' i d).map fun j : Nat => AV.int .u8 (putByte z w (j : Int)))], [], [], []⟩ := by
  intro d
  induction d with
  | zero =>
    intro i m row st hi hr hm hst
    obtain ⟨m, rfl⟩ : ∃ m', m = m' + 1 := ⟨m - 1, by omega⟩
    have : i = w := by omega
    subst this
    rw [loopA, hst, put_body]
    have : row.take i = row := List.take_of_length_le (by omega)
    simp [this]
  | succ d ih =>
    intro i m row st hi hr hm hst
    obtain ⟨m, rfl⟩ : ∃ m', m = m' + 1 := ⟨m - 1, by omega⟩
    rw [loopA, hst, put_body]
    have h1 : decide ((i : Int) < w) = true := decide_eq_true (by omega)
    have h2 : decide (0 ≤ IntKind.wrap .i64 (8 * IntKind.wrap .i64 (IntKind.wrap .i64 ((w : Int) - 1) - i))) = true := decide_eq_true (by
      rw [wrap_small (n := (w : Int) - 1) (by omega) (by omega), wrap_small (n := (w : Int) - 1 - i) (by omega) (by omega), wrap_small (by omega) (by omega)]
      omega)
    have h3 : decide ((0 : Int) ≤ i ∧ (i : Int) < row.length) = true := decide_eq_true (by omega)
    have h4 : decide (Int.toNat i < row.length) = true := decide_eq_true (by omega)
    rw [h1, h2, h3, h4]
    simp only [cond_true, Int.toNat_natCast]
    rw [wrap_small (by omega) (by omega)]
    rw [ih (i + 1) m (row.set i (AV.int .u8 (putByte z w i))) _ (by omega) (by simpa using hr) (by omega) (by kernel_rfl)]
    have e : (row.set i (AV.int .u8 (putByte z w i))).take (i + 1) = row.take i ++ [AV.int .u8 (putByte z w i)] := by
      rw [List.take_add_one, List.take_set_of_le (Nat.le_refl _)]
      simp [show i < row.length by omega]
    rw [e, List.range'_succ, List.map_cons, List.append_assoc]
    rfl
theorem put_tail (F : Fns) (n : Nat) (z w len : Int) (c b : Bool) (row : List AV) : zCt F 37 0 n 0 (.exit 0) ⟨48, [(0, AV.int .i64 z), (1, AV.int .i64 w), (4, AV.str []), (5, AV.int .i64 0), (6, AV.row 28 0), (13, AV.bool b), (26, AV.bool c), (30, AV.int .i64 len), (31, AV.int .i64 len), (32, AV.bool false)], [], [(28, row)], [], [], []⟩ =
  zOp (Option.map AV.str (bytesOf row)) fun x => zSt x fun s => some (AV.tup [AV.str s, AV.int .i64 0], []) := by kernel_rfl
theorem put_head (F : Fns) (n : Nat) (z w : Int) : runOf F 37 n [.int .i64 z, .int .i64 w] [] =
  bif decide (w < 1) then some (AV.tup [AV.str [], AV.int .i64 1], [])
  else bif decide (w > 8) then some (AV.tup [AV.str [], AV.int .i64 1], [])
  else bif decide (z < 0) then some (AV.tup [AV.str [], AV.int .i64 10], [])
  else bif decide (w < 8) then
    bif decide (0 ≤ IntKind.wrap .i64 (8 * w)) then
      bif Int.fdiv z (2 ^ min (Int.toNat (IntKind.wrap .i64 (8 * w))) (IntKind.bits IntKind.i64)) != 0 then some (AV.tup [AV.str [], AV.int .i64 10], [])
      else bif decide (w = w ∧ 0 ≤ w ∧ w ≤ 9223372036854775807 ∧ fitsB w.toNat 1 = true) then
        loopA (zBy F 37 0 n) (zDe 37 0) (zCt F 37 0 n 0) n (putS z w (Int.fdiv z (2 ^ min (Int.toNat (IntKind.wrap .i64 (8 * w))) (IntKind.bits IntKind.i64)) != 0) (decide (w > 8)) (List.length (List.replicate w.toNat (AV.int .u8 0))) 0 (List.replicate w.toNat (AV.int .u8 0)))
      else none
    else none
  else bif decide (w = w ∧ 0 ≤ w ∧ w ≤ 9223372036854775807 ∧ fitsB w.toNat 1 = true) then
    loopA (zBy F 37 0 n) (zDe 37 0) (zCt F 37 0 n 0) n (putS z w false (decide (w > 8)) (List.length (List.replicate w.toNat (AV.int .u8 0))) 0 (List.replicate w.toNat (AV.int .u8 0)))
  else none := by kernel_rfl
theorem bytesOf_map (g : Nat → Int) : ∀ l : List Nat, bytesOf (l.map fun j => AV.int .u8 (g j)) = some (l.map fun j => UInt8.ofNat (g j).toNat)
  | [] => rfl
  | a :: r => by simp only [List.map_cons, bytesOf, bytesOf_map g r]
end Go.AM.Ytnhfjkckgicidaa

namespace Go.AM
def be : Nat → Nat → List UInt8
 | 0, _ => []
 | w + 1, n => be w (n / 256) ++ [UInt8.ofNat (n % 256)]
def unbe : List UInt8 → Nat → Nat
 | [], a => a
 | b :: r, a => unbe r (a * 256 + b.toNat)
theorem be_length : ∀ (w n : Nat), (be w n).length = w
 | 0, _ => rfl
 | w + 1, n => by simp [be, be_length w]
theorem unbe_append (s t : List UInt8) : ∀ a, unbe (s ++ t) a = unbe t (unbe s a) := by
 induction s with
 | nil => intro a; rfl
 | cons b r ih => intro a; simp [unbe, ih]
theorem unbe_be : ∀ (w n a : Nat), unbe (be w n) a = a * 256 ^ w + n % 256 ^ w
 | 0, n, a => by simp [be, unbe, Nat.mod_one]
 | w + 1, n, a => by
  rw [be, unbe_append, unbe_be w]
  simp only [unbe]
  have h : (UInt8.ofNat (n % 256)).toNat = n % 256 := by simp
  rw [h, Nat.pow_succ, Nat.mul_comm (256 ^ w) 256, Nat.mod_mul, Nat.add_mul, ← Nat.mul_assoc, Nat.mul_right_comm]
  omega
theorem unbe_lt : ∀ (s : List UInt8) (a : Nat), unbe s a < (a + 1) * 256 ^ s.length
 | [], a => by simp [unbe]
 | b :: r, a => by
  have := unbe_lt r (a * 256 + b.toNat)
  have hb := b.toNat_lt
  simp only [unbe, List.length_cons, Nat.pow_succ]
  refine Nat.lt_of_lt_of_le this ?_
  rw [Nat.mul_comm (256 ^ r.length) 256, ← Nat.mul_assoc]
  exact Nat.mul_le_mul_right _ (by omega)
theorem be_map : ∀ (w n : Nat), be w n = (List.range w).map fun j => UInt8.ofNat (n / 256 ^ (w - 1 - j) % 256)
 | 0, n => rfl
 | w + 1, n => by
  rw [be, be_map w, List.range_succ, List.map_append]
  congr 1
  ·apply List.map_congr_left
   intro j hj
   rw [List.mem_range] at hj
   rw [Nat.div_div_eq_div_mul, ← Nat.pow_succ']
   congr 4
   omega
  ·simp
def putV (z w : Int) : List UInt8 × Int :=
 if w < 1 ∨ w > 8 then ([], 1) else if z < 0 then ([], 10) else if z.toNat / 256 ^ w.toNat ≠ 0 then ([], 10) else (be w.toNat z.toNat, 0)
def getV (s : List UInt8) : Int × Int :=
 if s.length < 1 ∨ s.length > 8 then (0, 1) else if unbe s 0 ≥ 9223372036854775808 then (0, 10) else ((unbe s 0 : Nat), 0)
end Go.AM

namespace Go.AM.Ytnhfjkckgicidaa
open Go.AM Go.Proofs Go
theorem wrap_u64 {n : Nat} (h : n < 18446744073709551616) : IntKind.wrap .u64 (n : Int) = n := by
 simp [IntKind.wrap, IntKind.bits, IntKind.signed]
 omega
theorem getOne_aux (a n M : Nat) (h : a < M) (hn : n < 256) : a * 256 + n < M * 256 := by omega
theorem getOne_nat (a n : Nat) (h7 : a < 72057594037927936) (hn : n < 256) : getOne (a : Int) (n : Int) = ((a * 256 + n : Nat) : Int) := by
 have hs : a * 256 + n < 18446744073709551616 := by simpa using getOne_aux a n 72057594037927936 h7 hn
 have ha : a * 256 < 18446744073709551616 := Nat.lt_of_le_of_lt (Nat.le_add_right _ _) hs
 unfold getOne
 have e : ((a : Int) * 2 ^ min (Int.toNat 8) (IntKind.bits IntKind.u64)) = ((a * 256 : Nat) : Int) := by
  have : (2 : Int) ^ min (Int.toNat 8) (IntKind.bits IntKind.u64) = 256 := by decide
  rw [this]
  omega
 rw [e, wrap_u64 (n := a * 256) ha, wrap_u64 (n := n) (by omega)]
 have hb : IntKind.bits IntKind.u64 = 64 := rfl
 rw [hb, BitVec.ofInt_natCast, BitVec.ofInt_natCast, BitVec.toNat_or, BitVec.toNat_ofNat, BitVec.toNat_ofNat, Nat.mod_eq_of_lt ha, Nat.mod_eq_of_lt (show n < 2 ^ 64 by omega)]
 have h8 := Nat.shiftLeft_add_eq_or_of_lt (i := 8) (b := n) (by omega) a
 rw [Nat.shiftLeft_eq] at h8
 have h9 : a * 256 ||| n = a * 256 + n := h8.symm
 rw [h9]
 exact wrap_u64 hs
theorem getAcc_unbe : ∀ (s : List UInt8) (a k : Nat), a < 256 ^ k → k + s.length ≤ 8 → getAcc (a : Int) s = (unbe s a : Nat)
 | [], a, k, h, hk => rfl
 | b :: r, a, k, h, hk => by
  have hb := b.toNat_lt
  simp only [List.length_cons] at hk
  have h7 : a < 256 ^ 7 := Nat.lt_of_lt_of_le h (Nat.pow_le_pow_right (by omega) (by omega))
  rw [getAcc, unbe, getOne_nat a b.toNat (by simpa using h7) hb]
  refine getAcc_unbe r _ (k + 1) ?_ (by omega)
  rw [Nat.pow_succ]
  omega
theorem get_run (F : Fns) (n : Nat) (hn : 8 < n) (s : List UInt8) : runOf F 89 n [.str s] [] = some (.tup [.int .i64 (AM.getV s).1, .int .i64 (AM.getV s).2], []) := by
 rw [get_spec F n hn s]
 have : getV s = AM.getV s := by
  unfold getV AM.getV
  split
  ·rfl
  ·rename_i h
   have h0 : getAcc 0 s = (unbe s 0 : Nat) := getAcc_unbe s 0 0 (by simp) (by omega)
   rw [h0]
   by_cases h1 : unbe s 0 ≥ 9223372036854775808
   ·rw [if_pos (by omega), if_pos h1]
   ·rw [if_neg (by omega), if_neg h1, wrap_small (by omega) (by omega)]
 rw [this]
theorem putByte_eq (m w j : Nat) (hw : w ≤ 8) (hj : j < w) : (putByte (m : Int) (w : Int) (j : Int)).toNat = m / 256 ^ (w - 1 - j) % 256 := by
 unfold putByte
 rw [wrap_small (n := (w : Int) - 1) (by omega) (by omega), wrap_small (n := (w : Int) - 1 - j) (by omega) (by omega), wrap_small (by omega) (by omega)]
 have e1 : (8 * ((w : Int) - 1 - (j : Int))).toNat = 8 * (w - 1 - j) := by omega
 have e2 : min (8 * (w - 1 - j)) (IntKind.bits IntKind.i64) = 8 * (w - 1 - j) := Nat.min_eq_left (by have : IntKind.bits IntKind.i64 = 64 := rfl; omega)
 rw [e1, e2]
 have e3 : Int.fdiv (m : Int) ((2 : Int) ^ (8 * (w - 1 - j))) = ((m / 256 ^ (w - 1 - j) : Nat) : Int) := by
  have : ((2 : Int) ^ (8 * (w - 1 - j))) = ((256 ^ (w - 1 - j) : Nat) : Int) := by
   rw [Int.pow_mul]
   simp
  rw [this]
  exact (Int.fdiv_eq_ediv_of_nonneg _ (Int.natCast_nonneg _)).trans (by simp)
 rw [e3]
 generalize m / 256 ^ (w - 1 - j) = q
 simp [IntKind.wrap, IntKind.bits, IntKind.signed]
 omega
theorem bits_fdiv (m w : Nat) (hw : w < 8) : Int.fdiv (m : Int) (2 ^ min (Int.toNat (IntKind.wrap .i64 (8 * (w : Int)))) (IntKind.bits IntKind.i64)) = ((m / 256 ^ w : Nat) : Int) := by
 rw [wrap_small (by omega) (by omega)]
 have e2 : min (8 * (w : Int)).toNat (IntKind.bits IntKind.i64) = 8 * w := by
  have e1 : (8 * (w : Int)).toNat = 8 * w := by omega
  rw [e1]
  exact Nat.min_eq_left (by have : IntKind.bits IntKind.i64 = 64 := rfl; omega)
 rw [e2]
 have : ((2 : Int) ^ (8 * w)) = ((256 ^ w : Nat) : Int) := by
  rw [Int.pow_mul]
  simp
 rw [this]
 exact (Int.fdiv_eq_ediv_of_nonneg _ (Int.natCast_nonneg _)).trans (by simp)
theorem put_run (F : Fns) (n : Nat) (hn : 8 < n) (z : Int) (hz : z < 9223372036854775808) (w : Nat) (hw1 : 1 ≤ w) (hw : w ≤ 8) : runOf F 37 n [.int .i64 z, .int .i64 w] [] = some (.tup [.str (putV z w).1, .int .i64 (putV z w).2], []) := by
 rw [put_head]
 unfold putV
 rw [decide_eq_false (show ¬ ((w : Int) < 1) by omega), decide_eq_false (show ¬ ((w : Int) > 8) by omega), if_neg (by omega)]
 simp only [cond_false]
 by_cases h0 : z < 0
 ·rw [decide_eq_true h0, if_pos h0]; rfl
 obtain ⟨m, rfl⟩ : ∃ m : Nat, z = m := ⟨z.toNat, by omega⟩
 have fin : ∀ c b : Bool, loopA (zBy F 37 0 n) (zDe 37 0) (zCt F 37 0 n 0) n (putS m w c b (List.length (List.replicate ((w : Int).toNat) (AV.int .u8 0))) 0 (List.replicate ((w : Int).toNat) (AV.int .u8 0))) = some (.tup [.str (be w m), .int .i64 0], []) := by
  intro c b
  have hl : (List.length (List.replicate ((w : Int).toNat) (AV.int .u8 0)) : Int) = w := by simp
  rw [hl, put_loop F n m w c b _ hw w 0 n (List.replicate ((w : Int).toNat) (AV.int .u8 0)) _ (by omega) (by simp) (by omega) (by kernel_rfl)]
  rw [put_tail]
  simp only [List.take_zero, List.nil_append]
  rw [bytesOf_map, be_map, ← List.range_eq_range']
  have : (List.range w).map (fun j : Nat => UInt8.ofNat (putByte (m : Int) (w : Int) (j : Int)).toNat) = (List.range w).map fun j => UInt8.ofNat (m / 256 ^ (w - 1 - j) % 256) := by
   apply List.map_congr_left
   intro j hj
   rw [List.mem_range] at hj
   rw [putByte_eq m w j hw hj]
  rw [this]
  rfl
 have hfit : decide (True ∧ 0 ≤ (w : Int) ∧ (w : Int) ≤ 9223372036854775807 ∧ fitsB (w : Int).toNat 1 = true) = true := decide_eq_true ⟨trivial, by omega, by omega, by simp [fitsB, roomB]; omega⟩
 rw [decide_eq_false h0, if_neg h0, hfit]
 simp only [cond_false, cond_true]
 have e1 : (w : Int).toNat = w := by omega
 have e2 : (m : Int).toNat = m := by omega
 by_cases h8 : w < 8
 ·have hs : decide (0 ≤ IntKind.wrap .i64 (8 * (w : Int))) = true := decide_eq_true (by rw [wrap_small (by omega) (by omega)]; omega)
  rw [decide_eq_true (show (w : Int) < 8 by omega), hs, bits_fdiv m w h8]
  simp only [cond_true]
  rw [fin]
  simp only [e1, e2]
  by_cases hq : m / 256 ^ w = 0
  ·simp [hq]
  ·have : (((m / 256 ^ w : Nat) : Int) != 0) = true := by simp only [bne_iff_ne, ne_eq]; omega
   rw [this, if_pos hq]; rfl
 ·have : w = 8 := by omega
  subst this
  rw [decide_eq_false (show ¬ (((8 : Nat) : Int) < 8) by omega)]
  simp only [cond_false]
  rw [fin]
  simp only [e1, e2]
  have : m / 256 ^ 8 = 0 := Nat.div_eq_of_lt (by omega)
  rw [this]
  simp
theorem ev_step (k f : Nat) (a : List AV) (b : Boxes) (h : (find f fnl).isSome = true) : evF pr (k + 1) f a b = runOf (evF pr k) f k a b := by
 unfold runOf fxOf
 obtain ⟨fx, hfx⟩ := Option.isSome_iff_exists.1 h
 have : pr.f f = some (.inl fx) := by
  show mkF fnl [] f = _
  simp [mkF, find, hfx]
 simp only [evF, this, hfx]
 rfl
theorem e89 (k : Nat) (hk : 10 ≤ k) (s : List UInt8) : evF pr k 89 [.str s] [] = some (.tup [.int .i64 (AM.getV s).1, .int .i64 (AM.getV s).2], []) := by
 obtain ⟨k, rfl⟩ : ∃ m, k = m + 1 := ⟨k - 1, by omega⟩
 rw [ev_step _ _ _ _ (by kernel_rfl)]
 exact get_run _ _ (by omega) s
theorem e37 (k : Nat) (hk : 10 ≤ k) (z : Int) (hz : z < 9223372036854775808) (w : Nat) (hw1 : 1 ≤ w) (hw : w ≤ 8) : evF pr k 37 [.int .i64 z, .int .i64 w] [] = some (.tup [.str (putV z w).1, .int .i64 (putV z w).2], []) := by
 obtain ⟨k, rfl⟩ : ∃ m, k = m + 1 := ⟨k - 1, by omega⟩
 rw [ev_step _ _ _ _ (by kernel_rfl)]
 exact put_run _ _ (by omega) z hz w hw1 hw
theorem byte_wrap (n : Nat) : UInt8.ofNat (Int.toNat (IntKind.wrap .u8 (n : Int))) = UInt8.ofNat n := by
 have : (IntKind.wrap .u8 (n : Int)) = ((n % 256 : Nat) : Int) := by
  simp [IntKind.wrap, IntKind.bits, IntKind.signed]
 rw [this, Int.toNat_natCast]
 apply UInt8.toNat_inj.1
 simp
def numE (w : Nat) (s : List UInt8) : Int := if s.length < w then 2 else if unbe (s.take w) 0 ≥ 9223372036854775808 then 10 else 0
def numN (w : Nat) (s : List UInt8) : Nat := if numE w s = 0 then unbe (s.take w) 0 else 0
def numR (w : Nat) (s : List UInt8) : List UInt8 := if numE w s = 0 then s.drop w else []
theorem getV_take (w : Nat) (hw1 : 1 ≤ w) (hw : w ≤ 8) (s : List UInt8) (h : ¬ s.length < w) : AM.getV (s.take w) = (((numN w s : Nat) : Int), numE w s) := by
 have hl : (s.take w).length = w := by rw [List.length_take]; omega
 unfold AM.getV numN numE
 rw [if_neg (by omega), if_neg h]
 split <;> simp
theorem number_tree (F : Fns) (N : Nat) (s : List UInt8) (w : Int) : runOf F 88 N [.str s, .int .i64 w] [] =
 bif decide (w < 1) then some (AV.tup [AV.int .i64 0, AV.str [], AV.int .i64 1], []) else bif decide (w > 8) then some (AV.tup [AV.int .i64 0, AV.str [], AV.int .i64 1], []) else bif decide ((s.length : Int) < w) then some (AV.tup [AV.int .i64 0, AV.str [], AV.int .i64 2], []) else bif decide ((0 : Int) ≤ 0 ∧ 0 ≤ w ∧ w ≤ (s.length : Int)) then zRe (F 89 [AV.str (List.drop (Int.toNat 0) (List.take (Int.toNat w) s))] []) fun v bs => zTu v fun cs => zCo cs fun v r => zIn .i64 v fun n => zCo r fun v r => zIn .i64 v fun n_1 => zNi r (zNi bs (bif n_1 != 0 then some (AV.tup [AV.int .i64 0, AV.str [], AV.int .i64 n_1], []) else bif decide (0 ≤ w ∧ w ≤ (s.length : Int) ∧ (s.length : Int) ≤ (s.length : Int)) then some (AV.tup [AV.int .i64 n, AV.str (List.drop (Int.toNat w) (List.take (Int.toNat (s.length : Int)) s)), AV.int .i64 0], []) else none)) else none := by kernel_rfl
theorem e88 (k : Nat) (hk : 11 ≤ k) (s : List UInt8) (w : Nat) (hw1 : 1 ≤ w) (hw : w ≤ 8) : evF pr k 88 [.str s, .int .i64 w] [] = some (.tup [.int .i64 (numN w s), .str (numR w s), .int .i64 (numE w s)], []) := by
 obtain ⟨k, rfl⟩ : ∃ m, k = m + 1 := ⟨k - 1, by omega⟩
 rw [ev_step _ _ _ _ (by kernel_rfl), number_tree, decide_eq_false (show ¬ ((w : Int) < 1) by omega), decide_eq_false (show ¬ ((w : Int) > 8) by omega)]
 simp only [cond_false]
 by_cases h : s.length < w
 ·rw [decide_eq_true (by omega)]
  simp [numN, numR, numE, h]
 ·rw [decide_eq_false (by omega), decide_eq_true (show (0 : Int) ≤ 0 ∧ 0 ≤ (w : Int) ∧ (w : Int) ≤ s.length by omega)]
  simp only [cond_false, cond_true, Int.toNat_natCast, Int.toNat_zero, List.drop_zero]
  rw [e89 k (by omega), getV_take w hw1 hw s h]
  simp only [zRe, zTu, zCo, zIn, if_true, zNi]
  by_cases h0 : numE w s = 0
  ·rw [decide_eq_true (show 0 ≤ (w : Int) ∧ (w : Int) ≤ s.length ∧ (s.length : Int) ≤ s.length by omega)]
   simp [h0, numR]
  ·rw [show (numE w s != 0) = true by simp [h0]]
   simp [numN, numR, h0]
theorem rnum_tree (F : Fns) (N : Nat) (s : List UInt8) (b : Bool) (w : Int) : runOf F 49 N [.ptr 0 0 0, .int .i64 w] [[.str s, .bool b]] =
 zRe (F 88 [AV.str s, AV.int .i64 w] []) fun v bs => zTu v fun cs => zCo cs fun v r => zIn .i64 v fun n => zCo r fun v r => zSt v fun s_1 => zCo r fun v r => zIn .i64 v fun n_1 => zNi r (zNi bs (bif b then some (AV.int .i64 0, [[AV.str s, AV.bool true]]) else bif n_1 != 0 then some (AV.int .i64 0, [[AV.str s, AV.bool true]]) else some (AV.int .i64 n, [[AV.str s_1, AV.bool b]]))) := by kernel_rfl
def rdB (w : Nat) (s : List UInt8) (b : Bool) : Bool := b || decide (numE w s ≠ 0)
def rdN (w : Nat) (s : List UInt8) (b : Bool) : Nat := if rdB w s b then 0 else numN w s
def rdS (w : Nat) (s : List UInt8) (b : Bool) : List UInt8 := if rdB w s b then s else s.drop w
theorem e49 (k : Nat) (hk : 12 ≤ k) (s : List UInt8) (b : Bool) (w : Nat) (hw1 : 1 ≤ w) (hw : w ≤ 8) : evF pr k 49 [.ptr 0 0 0, .int .i64 w] [[.str s, .bool b]] = some (.int .i64 (rdN w s b), [[.str (rdS w s b), .bool (rdB w s b)]]) := by
 obtain ⟨k, rfl⟩ : ∃ m, k = m + 1 := ⟨k - 1, by omega⟩
 rw [ev_step _ _ _ _ (by kernel_rfl), rnum_tree, e88 k (by omega) s w hw1 hw]
 simp only [zRe, zTu, zCo, zIn, zSt, if_true, zNi]
 cases b
 ·by_cases h0 : numE w s = 0
  ·simp [rdN, rdS, rdB, h0, numR]
  ·rw [show (numE w s != 0) = true by simp [h0]]
   simp [rdN, rdS, rdB, h0]
 ·simp [rdN, rdS, rdB]
def brV (b : Int × Int) : AV := .agg [.int .i64 b.1, .int .i64 b.2]
def be8 (z : Int) : List UInt8 := (putV z 8).1
def chain : Int → Int → List (Int × Int) → Bool
 | _, _, [] => true
 | e, a, b :: r => decide (e < b.1 ∧ b.1 ≤ 1099511627776 ∧ a ≤ b.2 ∧ b.2 ≤ 1099511627776) && chain b.1 b.2 r
def lineOk : List (Int × Int) → Bool
 | [] => false
 | b :: r => decide ((b :: r).length ≤ 64) && (decide (b.2 = 0) && chain 0 0 (b :: r))
theorem be8_length (z : Int) : (be8 z).length ≤ 8 := by
 unfold be8 putV
 split
 ·simp
 ·split
  ·simp
  ·split
   ·simp
   ·rw [be_length]; decide
theorem getBr (l : List (Int × Int)) (i : Nat) (h : i < l.length) : (l.map brV)[Int.toNat (i : Int)]? = some (.agg [.int .i64 (l[i]).1, .int .i64 (l[i]).2]) := by
 rw [Int.toNat_natCast, List.getElem?_map, List.getElem?_eq_getElem h]
 rfl
theorem ofBytes_append (a b : List UInt8) : ofBytes a ++ ofBytes b = ofBytes (a ++ b) := by simp [ofBytes]
theorem bytesOf_ofBytes : ∀ l : List UInt8, bytesOf (ofBytes l) = some l
 | [] => rfl
 | b :: r => by
  have := bytesOf_ofBytes r
  unfold ofBytes at this
  simp only [ofBytes, List.map_cons, bytesOf, this, Int.toNat_natCast]
  simp
theorem fitsB_small {n b : Nat} (h : n * b ≤ 140737488355328) : fitsB n b = true := decide_eq_true h
def meightS (fl : Bool) (xs : List AV) (len i : Int) (v : AV) : St := ⟨25, [(0, AV.sl 1 fl xs), (2, AV.str []), (3, v), (8, AV.sl 1 fl xs), (9, AV.int .i64 len), (10, AV.int .i64 i)], [], [], [], [], []⟩
theorem meight_tree (F : Fns) (N : Nat) (fl : Bool) (xs : List AV) : runOf F 45 N [.sl 1 fl xs] [] =
 loopA (zBy F 45 0 N) (zDe 45 0) (zCt F 45 0 N 0) N { nt := 25, t := [(0, AV.sl 1 fl xs), (2, AV.str []), (3, AV.sl 0 true []), (8, AV.sl 1 fl xs), (9, AV.int .i64 (xs.length : Int)), (10, AV.int .i64 0)], b := [], r := [], g := [], rd := [], wr := [] } := by kernel_rfl
theorem meight_body0 (F : Fns) (N : Nat) (fl : Bool) (xs : List AV) (len i : Int) (KN : St → Res) : zBy F 45 0 N (meightS fl xs len i (.sl 0 true [])) (brk (zCt F 45 0 N 0) KN) =
 bif decide (i < len) then bif decide (0 ≤ i) then zOp xs[Int.toNat i]? fun x => zIn .i64 x fun n => zRe (F 37 [AV.int .i64 n, AV.int .i64 8] []) fun v bs => zTu v fun cs => zCo cs fun v r => zSt v fun s => zCo r fun v r => zIn .i64 v fun n_1 => zNi r (zNi bs (bif decide ((0 = 1 ∨ ([] : List AV) = []) ∧ fitsB (List.length ([] : List AV) + List.length (ofBytes s)) 1 = true ∧ List.length ([] : List AV) + List.length (ofBytes s) ≤ 4611686018427387904) then KN { nt := 25, t := [(0, AV.sl 1 fl xs), (2, AV.str []), (3, AV.tip 21 0 1 ([] ++ ofBytes s)), (5, AV.int .i64 n), (6, AV.str s), (8, AV.sl 1 fl xs), (9, AV.int .i64 len), (10, AV.int .i64 (IntKind.wrap .i64 (i + 1))), (11, AV.bool (decide (i < len)))], b := [], r := [], g := [], rd := [], wr := [] } else none)) else none else some (AV.str [], []) := by kernel_rfl
theorem meight_body1 (F : Fns) (N : Nat) (fl : Bool) (xs ys : List AV) (len i : Int) (KN : St → Res) : zBy F 45 0 N (meightS fl xs len i (.tip 21 0 1 ys)) (brk (zCt F 45 0 N 0) KN) =
 bif decide (i < len) then bif decide (0 ≤ i) then zOp xs[Int.toNat i]? fun x => zIn .i64 x fun n => zRe (F 37 [AV.int .i64 n, AV.int .i64 8] []) fun v bs => zTu v fun cs => zCo cs fun v r => zSt v fun s => zCo r fun v r => zIn .i64 v fun n_1 => zNi r (zNi bs (bif decide (1 = 1 ∧ fitsB (List.length ys + List.length (ofBytes s)) 1 = true ∧ List.length ys + List.length (ofBytes s) ≤ 4611686018427387904) then KN { nt := 25, t := [(0, AV.sl 1 fl xs), (2, AV.str []), (3, AV.tip 21 0 1 (ys ++ ofBytes s)), (5, AV.int .i64 n), (6, AV.str s), (8, AV.sl 1 fl xs), (9, AV.int .i64 len), (10, AV.int .i64 (IntKind.wrap .i64 (i + 1))), (11, AV.bool (decide (i < len)))], b := [], r := [], g := [], rd := [], wr := [] } else none)) else none else zOp (Option.map AV.str (bytesOf ys)) fun x => zSt x fun s => some (AV.str s, []) := by kernel_rfl
theorem meight_loop (k : Nat) (hk : 12 ≤ k) (fl : Bool) (ns : List Int) (hn : ∀ n ∈ ns, n < 9223372036854775808) (hl : ns.length ≤ 1000) : ∀ (dd i m : Nat) (acc : List UInt8) (st : St), i + dd = ns.length → dd < m → acc.length ≤ 8 * i →
  st.clean (zDe 45 0) = meightS fl (ns.map (AV.int .i64)) ns.length i (.tip 21 0 1 (ofBytes acc)) →
  loopA (zBy (evF pr k) 45 0 k) (zDe 45 0) (zCt (evF pr k) 45 0 k 0) m st = some (.str (acc ++ (ns.drop i).flatMap be8), []) := by
 intro dd
 induction dd with
 | zero =>
  intro i m acc st hi hm ha hst
  obtain ⟨m, rfl⟩ : ∃ m', m = m' + 1 := ⟨m - 1, by omega⟩
  have : i = ns.length := by omega
  subst this
  rw [loopA_succ, hst, meight_body1, decide_eq_false (by omega), bytesOf_ofBytes, List.drop_length]
  simp [zOp, zSt]
 | succ dd ih =>
  intro i m acc st hi hm ha hst
  obtain ⟨m, rfl⟩ : ∃ m', m = m' + 1 := ⟨m - 1, by omega⟩
  have hlt : i < ns.length := by omega
  have h8 := be8_length ns[i]
  rw [loopA_succ, hst, meight_body1, decide_eq_true (show (i : Int) < ns.length by omega), decide_eq_true (show (0 : Int) ≤ i by omega), Int.toNat_natCast, List.getElem?_map, List.getElem?_eq_getElem hlt]
  simp only [cond_true, Option.map_some, zOp, zIn, if_true]
  rw [show (8 : Int) = ((8 : Nat) : Int) from rfl, e37 k (by omega) _ (hn _ (List.getElem_mem hlt)) 8 (by omega) (by omega)]
  simp only [zRe, zTu, zCo, zSt, zIn, if_true, zNi]
  rw [ofBytes_append, decide_eq_true (by
   have hb : (putV ns[i] ((8 : Nat) : Int)).1.length ≤ 8 := h8
   refine ⟨trivial, fitsB_small ?_, ?_⟩ <;> simp only [ofBytes, List.length_map] <;> omega)]
  simp only [cond_true]
  rw [wrap_small (n := (i : Int) + 1) (by omega) (by omega), List.drop_eq_getElem_cons hlt, List.flatMap_cons, ← List.append_assoc]
  exact ih (i + 1) m _ _ (by omega) (by omega) (by
   have hb : (putV ns[i] ((8 : Nat) : Int)).1.length ≤ 8 := h8
   rw [List.length_append]
   omega) (by kernel_rfl)
theorem e45 (k : Nat) (fl : Bool) (ns : List Int) (hk : 13 + ns.length ≤ k) (hn : ∀ n ∈ ns, n < 9223372036854775808) (hl : ns.length ≤ 1000) : evF pr k 45 [.sl 1 fl (ns.map (AV.int .i64))] [] = some (.str (ns.flatMap be8), []) := by
 obtain ⟨k, rfl⟩ : ∃ m, k = m + 1 := ⟨k - 1, by omega⟩
 rw [ev_step _ _ _ _ (by kernel_rfl), meight_tree, List.length_map]
 cases ns with
 | nil =>
  obtain ⟨k, rfl⟩ : ∃ m, k = m + 1 := ⟨k - 1, by omega⟩
  rw [loopA_succ]
  exact meight_body0 _ _ fl [] 0 0 _
 | cons n r =>
  obtain ⟨k', hk'⟩ : ∃ m, k = m + 1 := ⟨k - 1, by omega⟩
  have h8 := be8_length n
  have hb : (putV n ((8 : Nat) : Int)).1.length ≤ 8 := h8
  conv => lhs; arg 4; rw [hk']
  rw [loopA_succ]
  refine (meight_body0 _ _ fl ((n :: r).map (AV.int .i64)) ((n :: r).length) 0 _).trans ?_
  simp only [List.length_cons] at hk
  rw [decide_eq_true (show (0 : Int) < ((n :: r).length : Nat) by simp only [List.length_cons]; omega)]
  simp only [cond_true, Int.toNat_zero, List.map_cons, List.getElem?_cons_zero, zOp, zIn, if_true, show decide ((0 : Int) ≤ 0) = true from rfl]
  rw [show (8 : Int) = ((8 : Nat) : Int) from rfl, e37 k (by omega) _ (hn _ (List.mem_cons_self ..)) 8 (by omega) (by omega)]
  simp only [zRe, zTu, zCo, zSt, zIn, if_true, zNi]
  rw [decide_eq_true (by
   refine ⟨.inr trivial, fitsB_small ?_, ?_⟩ <;> simp only [ofBytes, List.length_map, List.length_nil] <;> omega)]
  simp only [cond_true, List.nil_append]
  exact meight_loop k (by omega) fl (n :: r) hn hl r.length 1 k' _ _ (by simp only [List.length_cons]; omega) (by omega) (by omega) (by kernel_rfl)
def lrightS (fl d : Bool) (xs : List AV) (e a len i : Int) : St := ⟨53, [(0, AV.sl 2 fl xs), (2, AV.bool false), (3, AV.int .i64 e), (4, AV.int .i64 a), (21, AV.bool d), (22, AV.sl 2 fl xs), (23, AV.int .i64 len), (24, AV.int .i64 i)], [], [], [], [], []⟩
theorem lright_tree (F : Fns) (N : Nat) (fl : Bool) (xs : List AV) : runOf F 44 N [.sl 2 fl xs] [] =
 bif decide ((xs.length : Int) < 1) then some (AV.bool false, []) else bif decide ((xs.length : Int) > 64) then some (AV.bool false, []) else zOp xs[Int.toNat 0]? fun x => zAg x fun cs => zCo cs fun v r => zIn .i64 v fun n => zCo r fun v r => zIn .i64 v fun n => zNi r (bif n != 0 then some (AV.bool false, []) else loopA (zBy F 44 0 N) (zDe 44 0) (zCt F 44 0 N 0) N { nt := 53, t := [(0, AV.sl 2 fl xs), (2, AV.bool false), (3, AV.int .i64 0), (4, AV.int .i64 0), (21, AV.bool (n != 0)), (22, AV.sl 2 fl xs), (23, AV.int .i64 (xs.length : Int)), (24, AV.int .i64 0)], b := [], r := [], g := [], rd := [], wr := [] }) := by kernel_rfl
theorem lright_body (F : Fns) (N : Nat) (fl d : Bool) (xs : List AV) (e a len i : Int) (KN : St → Res) : zBy F 44 0 N (lrightS fl d xs e a len i) (brk (zCt F 44 0 N 0) KN) =
 bif decide (i < len) then bif decide (0 ≤ i) then zOp xs[Int.toNat i]? fun x => zAg x fun cs => zCo cs fun v r => zIn .i64 v fun n => zCo r fun v r => zIn .i64 v fun n_1 => zNi r (bif decide (n ≤ e) then some (AV.bool false, []) else bif decide (n > 1099511627776) then some (AV.bool false, []) else bif decide (n_1 < a) then some (AV.bool false, []) else bif decide (n_1 > 1099511627776) then some (AV.bool false, []) else KN { nt := 53, t := [(0, AV.sl 2 fl xs), (2, AV.bool false), (3, AV.int .i64 n), (4, AV.int .i64 n_1), (6, AV.ptr 6 0 0), (21, AV.bool d), (22, AV.sl 2 fl xs), (23, AV.int .i64 len), (24, AV.int .i64 (IntKind.wrap .i64 (i + 1))), (25, AV.bool (decide (i < len))), (47, AV.bool (decide (n_1 > 1099511627776)))], b := [(6, [AV.int .i64 n, AV.int .i64 n_1])], r := [], g := [], rd := [], wr := [] }) else none else some (AV.bool true, []) := by kernel_rfl
theorem lright_loop (F : Fns) (N : Nat) (fl d : Bool) (l : List (Int × Int)) (hl : l.length ≤ 64) : ∀ (dd i m : Nat) (e a : Int) (st : St), i + dd = l.length → dd < m → st.clean (zDe 44 0) = lrightS fl d (l.map brV) e a l.length i →
  loopA (zBy F 44 0 N) (zDe 44 0) (zCt F 44 0 N 0) m st = some (.bool (chain e a (l.drop i)), []) := by
 intro dd
 induction dd with
 | zero =>
  intro i m e a st hi hm hst
  obtain ⟨m, rfl⟩ : ∃ m', m = m' + 1 := ⟨m - 1, by omega⟩
  have : i = l.length := by omega
  subst this
  rw [loopA_succ, hst, lright_body, decide_eq_false (by omega), List.drop_length]
  rfl
 | succ dd ih =>
  intro i m e a st hi hm hst
  obtain ⟨m, rfl⟩ : ∃ m', m = m' + 1 := ⟨m - 1, by omega⟩
  have hlt : i < l.length := by omega
  rw [loopA_succ, hst, lright_body, decide_eq_true (show (i : Int) < l.length by omega), decide_eq_true (show (0 : Int) ≤ i by omega), getBr l i hlt, List.drop_eq_getElem_cons hlt, chain]
  simp only [cond_true, zOp, zAg, zCo, zIn, if_true, zNi]
  rw [wrap_small (n := (i : Int) + 1) (by omega) (by omega)]
  by_cases hc : e < (l[i]).1 ∧ (l[i]).1 ≤ 1099511627776 ∧ a ≤ (l[i]).2 ∧ (l[i]).2 ≤ 1099511627776
  ·rw [decide_eq_true hc, decide_eq_false (show ¬ (l[i]).1 ≤ e by omega), decide_eq_false (show ¬ (l[i]).1 > 1099511627776 by omega), decide_eq_false (show ¬ (l[i]).2 < a by omega), decide_eq_false (show ¬ (l[i]).2 > 1099511627776 by omega)]
   simp only [cond_false, Bool.true_and]
   exact ih (i + 1) m _ _ _ (by omega) (by omega) (by kernel_rfl)
  ·rw [decide_eq_false hc, Bool.false_and]
   by_cases h1 : (l[i]).1 ≤ e
   ·rw [decide_eq_true h1]; rfl
   by_cases h2 : (l[i]).1 > 1099511627776
   ·rw [decide_eq_false h1, decide_eq_true h2]; rfl
   by_cases h3 : (l[i]).2 < a
   ·rw [decide_eq_false h1, decide_eq_false h2, decide_eq_true h3]; rfl
   by_cases h4 : (l[i]).2 > 1099511627776
   ·rw [decide_eq_false h1, decide_eq_false h2, decide_eq_false h3, decide_eq_true h4]; rfl
   exact absurd (by omega) hc
theorem e44 (k : Nat) (hk : 66 ≤ k) (fl : Bool) (l : List (Int × Int)) : evF pr k 44 [.sl 2 fl (l.map brV)] [] = some (.bool (lineOk l), []) := by
 obtain ⟨k, rfl⟩ : ∃ m, k = m + 1 := ⟨k - 1, by omega⟩
 rw [ev_step _ _ _ _ (by kernel_rfl), lright_tree, List.length_map]
 cases l with
 | nil => rfl
 | cons b r =>
  rw [decide_eq_false (show ¬ (((b :: r).length : Nat) : Int) < 1 by simp only [List.length_cons]; omega), lineOk]
  simp only [cond_false]
  by_cases h : (b :: r).length ≤ 64
  ·rw [decide_eq_false (show ¬ (((b :: r).length : Nat) : Int) > 64 by omega), decide_eq_true h]
   simp only [cond_false, Int.toNat_zero, List.map_cons, List.getElem?_cons_zero, zOp, brV, zAg, zCo, zIn, if_true, zNi, Bool.true_and]
   by_cases h0 : b.2 = 0
   ·rw [show (b.2 != 0) = false by simp [h0], decide_eq_true h0]
    simp only [cond_false, Bool.true_and]
    exact lright_loop (evF pr k) k fl false (b :: r) h (b :: r).length 0 k 0 0 _ (Nat.zero_add _) (by omega) (by kernel_rfl)
   ·rw [show (b.2 != 0) = true by simp [h0], decide_eq_false h0]
    rfl
  ·rw [decide_eq_true (show (((b :: r).length : Nat) : Int) > 64 by omega), decide_eq_false h]
   rfl
def lined (l : List (Int × Int)) : Bool := l.isEmpty || lineOk l
def brB (b : Int × Int) : List UInt8 := be8 b.1 ++ be8 b.2
def putL (l : List (Int × Int)) : List UInt8 := UInt8.ofNat l.length :: l.flatMap brB
def Sm (l : List (Int × Int)) : Prop := ∀ b ∈ l, b.1 < 9223372036854775808 ∧ b.2 < 9223372036854775808
theorem brB_length (b : Int × Int) : (brB b).length ≤ 16 := by
 have h1 := be8_length b.1
 have h2 := be8_length b.2
 unfold brB
 rw [List.length_append]
 omega
def putlS (fl d : Bool) (xs : List AV) (s : List UInt8) (len i : Int) : St := ⟨36, [(0, AV.sl 2 fl xs), (2, AV.str []), (3, AV.int .i64 0), (4, AV.str s), (14, AV.bool d), (20, AV.sl 2 fl xs), (21, AV.int .i64 len), (22, AV.int .i64 i)], [], [], [], [], []⟩
theorem putl_tree (F : Fns) (N : Nat) (fl : Bool) (xs : List AV) : runOf F 17 N [.sl 2 fl xs] [] =
 bif decide ((xs.length : Int) > 0) then zRe (F 44 [AV.sl 2 fl xs] []) fun v bs => zBo v fun b => zNi bs (bif !b then some (AV.tup [AV.str [], AV.int .i64 1], []) else loopA (zBy F 17 0 N) (zDe 17 0) (zCt F 17 0 N 0) N { nt := 36, t := [(0, AV.sl 2 fl xs), (2, AV.str []), (3, AV.int .i64 0), (4, AV.str [UInt8.ofNat (Int.toNat (IntKind.wrap .u8 (xs.length : Int)))]), (14, AV.bool !b), (20, AV.sl 2 fl xs), (21, AV.int .i64 (xs.length : Int)), (22, AV.int .i64 0)], b := [], r := [], g := [], rd := [], wr := [] }) else loopA (zBy F 17 0 N) (zDe 17 0) (zCt F 17 0 N 0) N { nt := 36, t := [(0, AV.sl 2 fl xs), (2, AV.str []), (3, AV.int .i64 0), (4, AV.str [UInt8.ofNat (Int.toNat (IntKind.wrap .u8 (xs.length : Int)))]), (14, AV.bool false), (20, AV.sl 2 fl xs), (21, AV.int .i64 (xs.length : Int)), (22, AV.int .i64 0)], b := [], r := [], g := [], rd := [], wr := [] } := by kernel_rfl
theorem putl_body (F : Fns) (N : Nat) (fl d : Bool) (xs : List AV) (s : List UInt8) (len i : Int) (KN : St → Res) : zBy F 17 0 N (putlS fl d xs s len i) (brk (zCt F 17 0 N 0) KN) =
 bif decide (i < len) then bif decide (0 ≤ i) then zOp xs[Int.toNat i]? fun x => zAg x fun cs => zCo cs fun v r => zIn .i64 v fun n => zCo r fun v r => zIn .i64 v fun n_1 => zNi r (zRe (F 45 [AV.sl 1 true [AV.int .i64 n, AV.int .i64 n_1]] []) fun v bs => zSt v fun s_1 => zNi bs (bif decide (List.length s + List.length s_1 ≤ 4611686018427387904) then KN { nt := 36, t := [(0, AV.sl 2 fl xs), (2, AV.str []), (3, AV.int .i64 0), (4, AV.str (s ++ s_1)), (6, AV.ptr 6 0 0), (14, AV.bool d), (20, AV.sl 2 fl xs), (21, AV.int .i64 len), (22, AV.int .i64 (IntKind.wrap .i64 (i + 1))), (23, AV.bool (decide (i < len)))], b := [(6, [AV.int .i64 n, AV.int .i64 n_1])], r := [], g := [], rd := [], wr := [] } else none)) else none else some (AV.tup [AV.str s, AV.int .i64 0], []) := by kernel_rfl
theorem putl_loop (k : Nat) (hk : 16 ≤ k) (fl d : Bool) (l : List (Int × Int)) (hs : Sm l) (hl : l.length ≤ 1000) : ∀ (dd i m : Nat) (acc : List UInt8) (st : St), i + dd = l.length → dd < m → acc.length ≤ 16 * i + 16 → st.clean (zDe 17 0) = putlS fl d (l.map brV) acc l.length i →
  loopA (zBy (evF pr k) 17 0 k) (zDe 17 0) (zCt (evF pr k) 17 0 k 0) m st = some (.tup [.str (acc ++ (l.drop i).flatMap brB), .int .i64 0], []) := by
 intro dd
 induction dd with
 | zero =>
  intro i m acc st hi hm ha hst
  obtain ⟨m, rfl⟩ : ∃ m', m = m' + 1 := ⟨m - 1, by omega⟩
  have : i = l.length := by omega
  subst this
  rw [loopA_succ, hst, putl_body, decide_eq_false (by omega), List.drop_length]
  simp
 | succ dd ih =>
  intro i m acc st hi hm ha hst
  obtain ⟨m, rfl⟩ : ∃ m', m = m' + 1 := ⟨m - 1, by omega⟩
  have hlt : i < l.length := by omega
  have hb := brB_length l[i]
  have hsm := hs _ (List.getElem_mem hlt)
  rw [loopA_succ, hst, putl_body, decide_eq_true (show (i : Int) < l.length by omega), decide_eq_true (show (0 : Int) ≤ i by omega), getBr l i hlt]
  simp only [cond_true, zOp, zAg, zCo, zIn, if_true, zNi]
  have h45 := e45 k true [(l[i]).1, (l[i]).2] (by simp only [List.length_cons, List.length_nil]; omega) (by intro n hn; simp at hn; rcases hn with rfl | rfl; exact hsm.1; exact hsm.2) (by simp)
  simp only [List.map_cons, List.map_nil, List.flatMap_cons, List.flatMap_nil, List.append_nil] at h45
  rw [h45]
  simp only [zRe, zSt, zNi]
  have hb' : (be8 (l[i]).1 ++ be8 (l[i]).2).length ≤ 16 := hb
  rw [decide_eq_true (show acc.length + (be8 (l[i]).1 ++ be8 (l[i]).2).length ≤ 4611686018427387904 by omega)]
  simp only [cond_true]
  rw [wrap_small (n := (i : Int) + 1) (by omega) (by omega), List.drop_eq_getElem_cons hlt, List.flatMap_cons, show acc ++ (brB l[i] ++ (l.drop (i + 1)).flatMap brB) = (acc ++ brB l[i]) ++ (l.drop (i + 1)).flatMap brB from (List.append_assoc ..).symm]
  exact ih (i + 1) m (acc ++ brB l[i]) _ (by omega) (by omega) (by rw [List.length_append]; omega) (by kernel_rfl)
theorem e17 (k : Nat) (fl : Bool) (l : List (Int × Int)) (hk : 70 + l.length ≤ k) (hs : Sm l) (hl : l.length ≤ 1000) : evF pr k 17 [.sl 2 fl (l.map brV)] [] = some (if lined l then .tup [.str (putL l), .int .i64 0] else .tup [.str [], .int .i64 1], []) := by
 obtain ⟨k, rfl⟩ : ∃ m, k = m + 1 := ⟨k - 1, by omega⟩
 rw [ev_step _ _ _ _ (by kernel_rfl), putl_tree, List.length_map, byte_wrap, e44 k (by omega)]
 cases l with
 | nil => exact putl_loop k (by omega) fl false [] hs (by simp) 0 0 k [UInt8.ofNat 0] _ rfl (by omega) (by simp) (by kernel_rfl)
 | cons b r =>
  rw [decide_eq_true (show (((b :: r).length : Nat) : Int) > 0 by simp only [List.length_cons]; omega)]
  simp only [cond_true, zRe, zBo, zNi]
  have hd : lined (b :: r) = lineOk (b :: r) := rfl
  rw [hd]
  cases hok : lineOk (b :: r) with
  | false => rfl
  | true =>
   simp only [Bool.not_true, cond_false, if_true]
   exact putl_loop k (by omega) fl false (b :: r) hs hl (b :: r).length 0 k [UInt8.ofNat (b :: r).length] _ (Nat.zero_add _) (by omega) (by simp) (by kernel_rfl)
def num (w : Nat) (s : List UInt8) : Option (Nat × List UInt8) := if numE w s = 0 then some (numN w s, s.drop w) else none
def brs : Nat → List UInt8 → Option (List (Int × Int) × List UInt8)
 | 0, s => some ([], s)
 | n + 1, s => match num 8 s with
  | none => none
  | some (e, s1) => match num 8 s1 with
   | none => none
   | some (a, s2) => match brs n s2 with
    | none => none
    | some (l, s3) => some (((e : Int), (a : Int)) :: l, s3)
def takeL (s : List UInt8) : Option (List (Int × Int) × List UInt8) := match num 1 s with
 | none => none
 | some (n, s1) => match brs n s1 with
  | none => none
  | some (l, s2) => if lined l then some (l, s2) else none
def slB (l : List (Int × Int)) : AV := if l = [] then .sl 0 true [] else .sl 2 false (l.map brV)
def Bad (r : Res) : Prop := ∃ m fl xs s, r = some (.sl m fl xs, [[.str s, .bool true]])
theorem num_lt {w : Nat} {s : List UInt8} {n : Nat} {t : List UInt8} (h : num w s = some (n, t)) : n < 256 ^ w ∧ n < 9223372036854775808 := by
 unfold num at h
 split at h
 ·rename_i h0
  simp only [Option.some.injEq, Prod.mk.injEq] at h
  rw [← h.1]
  have hl := unbe_lt (s.take w) 0
  unfold numN
  rw [if_pos h0]
  unfold numE at h0
  split at h0
  ·simp at h0
  ·split at h0
   ·simp at h0
   ·rename_i hw hu
    rw [List.length_take, Nat.min_eq_left (by omega)] at hl
    omega
 ·simp at h
theorem rd_some {w : Nat} {s : List UInt8} {n : Nat} {t : List UInt8} (h : num w s = some (n, t)) : rdB w s false = false ∧ rdN w s false = n ∧ rdS w s false = t := by
 unfold num at h
 split at h
 ·rename_i h0
  simp only [Option.some.injEq, Prod.mk.injEq] at h
  have : rdB w s false = false := by simp [rdB, h0]
  exact ⟨this, by simp [rdN, this, h.1], by simp [rdS, this, h.2]⟩
 ·simp at h
theorem rd_none {w : Nat} {s : List UInt8} (h : num w s = none) : rdB w s false = true := by
 unfold num at h
 split at h
 ·simp at h
 ·rename_i h0
  simp [rdB, h0]
theorem rd_bad (w : Nat) (s : List UInt8) : rdB w s true = true ∧ rdN w s true = 0 ∧ rdS w s true = s := by simp [rdB, rdN, rdS]
def rlineS (s : List UInt8) (b : Bool) (v : AV) (n i : Int) : St := ⟨39, [(0, AV.ptr 1000000 0 0), (2, AV.sl 0 true []), (3, v), (5, AV.int .i64 n), (6, AV.int .i64 i)], [(1000000, [AV.str s, AV.bool b])], [], [], [], []⟩
theorem rline_tree (F : Fns) (N : Nat) (s : List UInt8) (b : Bool) : runOf F 48 N [.ptr 0 0 0] [[.str s, .bool b]] =
 zRe (F 49 [AV.ptr 0 0 0, AV.int .i64 1] [[AV.str s, AV.bool b]]) fun v bs => zIn .i64 v fun n => zCo bs fun v r => zCo v fun v r_1 => zSt v fun s => zCo r_1 fun v r_2 => zBo v fun b => zNi r_2 (zNi r (loopA (zBy F 48 0 N) (zDe 48 0) (zCt F 48 0 N 1) N { nt := 39, t := [(0, AV.ptr (1000000 + 0) 0 0), (2, AV.sl 0 true []), (3, AV.sl 0 true []), (5, AV.int .i64 n), (6, AV.int .i64 0)], b := [(1000000, [AV.str s, AV.bool b])], r := [], g := [], rd := [], wr := [] })) := by kernel_rfl
theorem rline_body0 (F : Fns) (N : Nat) (s : List UInt8) (b : Bool) (n i : Int) (KN : St → Res) : zBy F 48 0 N (rlineS s b (.sl 0 true []) n i) (brk (zCt F 48 0 N 1) KN) =
 bif decide (i < n) then zRe (F 49 [AV.ptr 0 0 0, AV.int .i64 8] [[AV.str s, AV.bool b]]) fun v bs => zIn .i64 v fun n_1 => zCo bs fun v r => zCo v fun v r_1 => zSt v fun s => zCo r_1 fun v r_2 => zBo v fun b => zNi r_2 (zNi r (zRe (F 49 [AV.ptr 0 0 0, AV.int .i64 8] [[AV.str s, AV.bool b]]) fun v bs => zIn .i64 v fun n_2 => zCo bs fun v r => zCo v fun v r_3 => zSt v fun s => zCo r_3 fun v r_4 => zBo v fun b => zNi r_4 (zNi r (bif b then some (AV.sl 0 true [], [[AV.str s, AV.bool b]]) else KN { nt := 39, t := [(0, AV.ptr 1000000 0 0), (2, AV.sl 0 true []), (3, AV.tip 15 0 2 [AV.agg [AV.int .i64 n_1, AV.int .i64 n_2]]), (5, AV.int .i64 n), (6, AV.int .i64 (IntKind.wrap .i64 (i + 1))), (7, AV.bool (decide (i < n))), (19, AV.bool b)], b := [(1000000, [AV.str s, AV.bool b])], r := [], g := [], rd := [], wr := [] })))) else bif b then some (AV.sl 0 true [], [[AV.str s, AV.bool true]]) else some (AV.sl 0 true [], [[AV.str s, AV.bool false]]) := by kernel_rfl
theorem rline_body1 (F : Fns) (N : Nat) (s : List UInt8) (b : Bool) (n i : Int) (ys : List AV) (KN : St → Res) : zBy F 48 0 N (rlineS s b (.tip 15 0 2 ys) n i) (brk (zCt F 48 0 N 1) KN) =
 bif decide (i < n) then zRe (F 49 [AV.ptr 0 0 0, AV.int .i64 8] [[AV.str s, AV.bool b]]) fun v bs => zIn .i64 v fun n_1 => zCo bs fun v r => zCo v fun v r_1 => zSt v fun s_1 => zCo r_1 fun v r_2 => zBo v fun b_1 => zNi r_2 (zNi r (zRe (F 49 [AV.ptr 0 0 0, AV.int .i64 8] [[AV.str s_1, AV.bool b_1]]) fun v bs => zIn .i64 v fun n_2 => zCo bs fun v r => zCo v fun v r_3 => zSt v fun s_2 => zCo r_3 fun v r_4 => zBo v fun b_2 => zNi r_4 (zNi r (bif decide (2 = 2 ∧ fitsB (List.length ys + List.length [AV.agg [AV.int .i64 n_1, AV.int .i64 n_2]]) 16 = true ∧ List.length ys + List.length [AV.agg [AV.int .i64 n_1, AV.int .i64 n_2]] ≤ 4611686018427387904) then bif b_2 then some (AV.sl 0 true [], [[AV.str s_2, AV.bool b_2]]) else KN { nt := 39, t := [(0, AV.ptr 1000000 0 0), (2, AV.sl 0 true []), (3, AV.tip 15 0 2 (ys ++ [AV.agg [AV.int .i64 n_1, AV.int .i64 n_2]])), (5, AV.int .i64 n), (6, AV.int .i64 (IntKind.wrap .i64 (i + 1))), (7, AV.bool (decide (i < n))), (19, AV.bool b_2)], b := [(1000000, [AV.str s_2, AV.bool b_2])], r := [], g := [], rd := [], wr := [] } else none)))) else bif b then some (AV.sl 2 false ys, [[AV.str s, AV.bool true]]) else bif decide ((ys.length : Int) > 0) then zRe (F 44 [AV.sl 2 false ys] []) fun v bs => zBo v fun b => zNi bs (some (AV.sl 2 false ys, [[AV.str s, AV.bool !b]])) else some (AV.sl 2 false ys, [[AV.str s, AV.bool false]]) := by kernel_rfl
def LineR (x : Option (List (Int × Int) × List UInt8)) (r : Res) : Prop := match x with
 | none => Bad r
 | some (l, s) => r = some (slB l, [[.str s, .bool false]])
def restL (acc : List (Int × Int)) (x : Option (List (Int × Int) × List UInt8)) : Option (List (Int × Int) × List UInt8) := match x with
 | none => none
 | some (l, s) => if lined (acc ++ l) then some (acc ++ l, s) else none
theorem rline_loop (k : Nat) (hk : 66 ≤ k) (n : Nat) (hn : n ≤ 1000) : ∀ (dd i m : Nat) (acc : List (Int × Int)) (s : List UInt8) (st : St), i + dd = n → dd < m → acc ≠ [] → acc.length = i → st.clean (zDe 48 0) = rlineS s false (.tip 15 0 2 (acc.map brV)) n i →
  LineR (restL acc (brs dd s)) (loopA (zBy (evF pr k) 48 0 k) (zDe 48 0) (zCt (evF pr k) 48 0 k 1) m st) := by
 intro dd
 induction dd with
 | zero =>
  intro i m acc s st hi hm ha hl hst
  obtain ⟨m, rfl⟩ : ∃ m', m = m' + 1 := ⟨m - 1, by omega⟩
  have hp : 0 < acc.length := List.length_pos_iff.2 ha
  rw [loopA_succ, hst, rline_body1, decide_eq_false (by omega), List.length_map, decide_eq_true (show ((acc.length : Nat) : Int) > 0 by omega), e44 k hk]
  simp only [cond_false, cond_true, zRe, zBo, zNi, brs, restL, List.append_nil]
  have hd : lined acc = lineOk acc := by cases acc with | nil => exact absurd rfl ha | cons b r => rfl
  rw [hd]
  cases lineOk acc with
  | false => exact ⟨_, _, _, _, rfl⟩
  | true =>
   show _ = some (slB acc, _)
   rw [slB, if_neg ha]
   rfl
 | succ dd ih =>
  intro i m acc s st hi hm ha hl hst
  obtain ⟨m, rfl⟩ : ∃ m', m = m' + 1 := ⟨m - 1, by omega⟩
  rw [loopA_succ, hst, rline_body1, decide_eq_true (show (i : Int) < n by omega), show (8 : Int) = ((8 : Nat) : Int) from rfl, e49 k (by omega) s false 8 (by omega) (by omega)]
  simp only [cond_true, zRe, zBo, zNi, zIn, if_true, zCo, zSt]
  rw [e49 k (by omega) _ _ 8 (by omega) (by omega)]
  simp only [zRe, zBo, zNi, zIn, if_true, zCo, zSt]
  rw [decide_eq_true (by
   refine ⟨trivial, fitsB_small ?_, ?_⟩ <;> simp only [List.length_map, List.length_cons, List.length_nil] <;> omega)]
  simp only [cond_true, brs]
  cases h1 : num 8 s with
  | none =>
   rw [rd_none h1, (rd_bad _ _).1]
   exact ⟨_, _, _, _, rfl⟩
  | some p =>
   obtain ⟨e, s1⟩ := p
   obtain ⟨r1, r2, r3⟩ := rd_some h1
   rw [r1, r2, r3]
   simp only
   cases h2 : num 8 s1 with
   | none =>
    rw [rd_none h2]
    exact ⟨_, _, _, _, rfl⟩
   | some q =>
    obtain ⟨a, s2⟩ := q
    obtain ⟨q1, q2, q3⟩ := rd_some h2
    rw [q1, q2, q3]
    simp only [cond_false]
    rw [wrap_small (n := (i : Int) + 1) (by omega) (by omega)]
    have := ih (i + 1) m (acc ++ [((e : Int), (a : Int))]) s2 ⟨39, [(0, AV.ptr 1000000 0 0), (2, AV.sl 0 true []), (3, AV.tip 15 0 2 (acc.map brV ++ [AV.agg [AV.int .i64 e, AV.int .i64 a]])), (5, AV.int .i64 n), (6, AV.int .i64 ((i : Int) + 1)), (7, AV.bool true), (19, AV.bool false)], [(1000000, [AV.str s2, AV.bool false])], [], [], [], []⟩ (by omega) (by omega) (by simp) (by simp [hl]) (by rw [List.map_append]; kernel_rfl)
    cases h3 : brs dd s2 with
    | none => rw [h3] at this; exact this
    | some r =>
     obtain ⟨l, s3⟩ := r
     rw [h3] at this
     simp only [restL, List.append_assoc, List.cons_append, List.nil_append] at this ⊢
     exact this
theorem e48 (k : Nat) (hk : 1100 ≤ k) (s : List UInt8) : LineR (takeL s) (evF pr k 48 [.ptr 0 0 0] [[.str s, .bool false]]) := by
 obtain ⟨k, rfl⟩ : ∃ m, k = m + 1 := ⟨k - 1, by omega⟩
 rw [ev_step _ _ _ _ (by kernel_rfl), rline_tree, show (1 : Int) = ((1 : Nat) : Int) from rfl, e49 k (by omega) s false 1 (by omega) (by omega)]
 simp only [zRe, zBo, zNi, zIn, if_true, zCo, zSt]
 obtain ⟨k', hk'⟩ : ∃ m, k = m + 1 := ⟨k - 1, by omega⟩
 unfold takeL
 cases h1 : num 1 s with
 | none =>
  rw [rd_none h1]
  have : rdN 1 s false = 0 := by simp [rdN, rd_none h1]
  rw [this]
  conv => arg 2; arg 4; rw [hk']
  rw [loopA_succ]
  refine ⟨0, true, [], rdS 1 s false, ?_⟩
  exact rline_body0 _ _ (rdS 1 s false) true ((0 : Nat) : Int) 0 _
 | some p =>
  obtain ⟨n, s1⟩ := p
  obtain ⟨r1, r2, r3⟩ := rd_some h1
  have hn := (num_lt h1).1
  rw [r1, r2, r3]
  simp only
  conv => arg 2; arg 4; rw [hk']
  rw [loopA_succ]
  have hb : ∀ x, (x = zBy (evF pr k) 48 0 k (rlineS s1 false (.sl 0 true []) n 0) (brk (zCt (evF pr k) 48 0 k 1) fun st' => loopA (zBy (evF pr k) 48 0 k) (zDe 48 0) (zCt (evF pr k) 48 0 k 1) k' st')) → LineR (match brs n s1 with
   | none => none
   | some (l, s2) => if lined l then some (l, s2) else none) x := by
   intro x hx
   rw [rline_body0] at hx
   cases n with
   | zero => rw [hx]; rfl
   | succ n =>
    rw [hx, decide_eq_true (show (0 : Int) < ((n + 1 : Nat) : Int) by omega), show (8 : Int) = ((8 : Nat) : Int) from rfl, e49 k (by omega) s1 false 8 (by omega) (by omega)]
    simp only [cond_true, zRe, zBo, zNi, zIn, if_true, zCo, zSt]
    rw [e49 k (by omega) _ _ 8 (by omega) (by omega)]
    simp only [zRe, zBo, zNi, zIn, if_true, zCo, zSt, brs]
    cases h1 : num 8 s1 with
    | none =>
     rw [rd_none h1, (rd_bad _ _).1]
     exact ⟨_, _, _, _, rfl⟩
    | some p =>
     obtain ⟨e, s2⟩ := p
     obtain ⟨r1, r2, r3⟩ := rd_some h1
     rw [r1, r2, r3]
     simp only
     cases h2 : num 8 s2 with
     | none =>
      rw [rd_none h2]
      exact ⟨_, _, _, _, rfl⟩
     | some q =>
      obtain ⟨a, s3⟩ := q
      obtain ⟨q1, q2, q3⟩ := rd_some h2
      rw [q1, q2, q3]
      simp only [cond_false]
      have := rline_loop k (by omega) (n + 1) (by omega) n 1 k' [((e : Int), (a : Int))] s3 ⟨39, [(0, AV.ptr 1000000 0 0), (2, AV.sl 0 true []), (3, AV.tip 15 0 2 [AV.agg [AV.int .i64 e, AV.int .i64 a]]), (5, AV.int .i64 ((n + 1 : Nat) : Int)), (6, AV.int .i64 (IntKind.wrap .i64 (0 + 1))), (7, AV.bool true), (19, AV.bool false)], [(1000000, [AV.str s3, AV.bool false])], [], [], [], []⟩ (by omega) (by omega) (by simp) rfl (by kernel_rfl)
      cases h3 : brs n s3 with
      | none => rw [h3] at this; exact this
      | some r =>
       obtain ⟨l, s4⟩ := r
       rw [h3] at this
       exact this
  exact hb _ (by kernel_rfl)
theorem takel_tree (F : Fns) (N : Nat) (s : List UInt8) : runOf F 20 N [.str s] [] =
 zRe (F 48 [AV.ptr 0 0 0] [[AV.str s, AV.bool false]]) fun v bs => asSl v fun m fl xs => zCo bs fun v r => zCo v fun v r_1 => zSt v fun s => zCo r_1 fun v r_2 => zBo v fun b => zNi r_2 (zNi r (bif b then some (AV.tup [AV.sl 0 true [], AV.str [], AV.int .i64 3], []) else some (AV.tup [AV.sl m fl xs, AV.str s, AV.int .i64 0], []))) := by kernel_rfl
def TakeR (x : Option (List (Int × Int) × List UInt8)) : Res := match x with
 | none => some (.tup [.sl 0 true [], .str [], .int .i64 3], [])
 | some (l, s) => some (.tup [slB l, .str s, .int .i64 0], [])
theorem e20 (k : Nat) (hk : 1101 ≤ k) (s : List UInt8) : evF pr k 20 [.str s] [] = TakeR (takeL s) := by
 obtain ⟨k, rfl⟩ : ∃ m, k = m + 1 := ⟨k - 1, by omega⟩
 rw [ev_step _ _ _ _ (by kernel_rfl), takel_tree]
 have h := e48 k (by omega) s
 cases ht : takeL s with
 | none =>
  rw [ht] at h
  obtain ⟨m, fl, xs, s', h⟩ := h
  rw [h]
  rfl
 | some p =>
  obtain ⟨l, s'⟩ := p
  rw [ht] at h
  have h : _ = some (slB l, _) := h
  rw [h]
  show _ = some (AV.tup [slB l, .str s', .int .i64 0], [])
  unfold slB
  split <;> rfl
theorem num_at {w : Nat} {s : List UInt8} {n : Nat} {t : List UInt8} (h : num w s = some (n, t)) : numE w s = 0 ∧ numN w s = n ∧ t = s.drop w := by
 unfold num at h
 split at h
 ·rename_i h0
  simp only [Option.some.injEq, Prod.mk.injEq] at h
  exact ⟨h0, h.1, h.2.symm⟩
 ·simp at h
theorem num_no {w : Nat} {s : List UInt8} (h : num w s = none) : numE w s ≠ 0 := by
 unfold num at h
 split at h
 ·simp at h
 ·assumption
def leqS (fl fl' c : Bool) (xs ys : List AV) (i : Int) : St := ⟨26, [(0, AV.sl 2 fl xs), (1, AV.sl 2 fl' ys), (4, AV.bool false), (5, AV.int .i64 i), (10, AV.bool c)], [], [], [], [], []⟩
def leqS0 (a b : Nat) (fl fl' c : Bool) : St := ⟨26, [(0, AV.sl a fl []), (1, AV.sl b fl' []), (4, AV.bool false), (5, AV.int .i64 0), (10, AV.bool c)], [], [], [], [], []⟩
theorem leq_tree (F : Fns) (N : Nat) (a b : Nat) (fl fl' : Bool) (xs ys : List AV) : runOf F 22 N [.sl a fl xs, .sl b fl' ys] [] =
 bif (xs.length : Int) != (ys.length : Int) then some (AV.bool false, []) else loopA (zBy F 22 0 N) (zDe 22 0) (zCt F 22 0 N 0) N { nt := 26, t := [(0, AV.sl a fl xs), (1, AV.sl b fl' ys), (4, AV.bool false), (5, AV.int .i64 0), (10, AV.bool ((xs.length : Int) != (ys.length : Int)))], b := [], r := [], g := [], rd := [], wr := [] } := by kernel_rfl
theorem leq_body (F : Fns) (N : Nat) (fl fl' c : Bool) (xs ys : List AV) (i : Int) (KN : St → Res) : zBy F 22 0 N (leqS fl fl' c xs ys i) (brk (zCt F 22 0 N 0) KN) =
 bif decide (i < (xs.length : Int)) then bif decide (0 ≤ i) then zOp xs[Int.toNat i]? fun x => zAg x fun cs => zCo cs fun v r => zIn .i64 v fun n => zCo r fun v r => zIn .i64 v fun n_1 => zNi r (bif decide (0 ≤ i) then zOp ys[Int.toNat i]? fun x => zAg x fun cs => zCo cs fun v r => zIn .i64 v fun n_2 => zCo r fun v r => zIn .i64 v fun n_3 => zNi r (bif !(n == n_2 && (n_1 == n_3 && true)) then some (AV.bool false, []) else KN { nt := 26, t := [(0, AV.sl 2 fl xs), (1, AV.sl 2 fl' ys), (4, AV.bool false), (5, AV.int .i64 (IntKind.wrap .i64 (i + 1))), (10, AV.bool c), (14, AV.bool (decide (i < (xs.length : Int)))), (25, AV.bool !(n == n_2 && (n_1 == n_3 && true)))], b := [], r := [], g := [], rd := [], wr := [] }) else none) else none else some (AV.bool true, []) := by kernel_rfl
theorem leq_body0 (F : Fns) (N : Nat) (a b : Nat) (fl fl' c : Bool) (KN : St → Res) : zBy F 22 0 N (leqS0 a b fl fl' c) (brk (zCt F 22 0 N 0) KN) =
 some (AV.bool true, []) := by kernel_rfl
theorem leq_loop (F : Fns) (N : Nat) (fl fl' c : Bool) (l l' : List (Int × Int)) (hl : l.length = l'.length) (hb : l.length < 4611686018427387904) : ∀ (dd i m : Nat) (st : St), i + dd = l.length → dd < m → st.clean (zDe 22 0) = leqS fl fl' c (l.map brV) (l'.map brV) i →
  loopA (zBy F 22 0 N) (zDe 22 0) (zCt F 22 0 N 0) m st = some (.bool (decide (l.drop i = l'.drop i)), []) := by
 intro dd
 induction dd with
 | zero =>
  intro i m st hi hm hst
  obtain ⟨m, rfl⟩ : ∃ m', m = m' + 1 := ⟨m - 1, by omega⟩
  have h1 : l.drop i = [] := List.drop_eq_nil_of_le (by omega)
  have h2 : l'.drop i = [] := List.drop_eq_nil_of_le (by omega)
  rw [loopA_succ, hst, leq_body, List.length_map, decide_eq_false (by omega), h1, h2]
  rfl
 | succ dd ih =>
  intro i m st hi hm hst
  obtain ⟨m, rfl⟩ : ∃ m', m = m' + 1 := ⟨m - 1, by omega⟩
  have hlt : i < l.length := by omega
  have hlt' : i < l'.length := by omega
  rw [loopA_succ, hst, leq_body, List.length_map, decide_eq_true (show (i : Int) < l.length by omega), decide_eq_true (show (0 : Int) ≤ i by omega), getBr l i hlt, getBr l' i hlt', List.drop_eq_getElem_cons hlt, List.drop_eq_getElem_cons hlt']
  simp only [cond_true, zOp, zAg, zCo, zIn, if_true, zNi]
  rw [wrap_small (n := (i : Int) + 1) (by omega) (by omega)]
  by_cases hc : l[i] = l'[i]
  ·rw [hc]
   simp only [beq_self_eq_true, Bool.true_and, Bool.not_true, cond_false]
   refine (ih (i + 1) m _ (by omega) (by omega) (by kernel_rfl)).trans ?_
   have : decide (l.drop (i + 1) = l'.drop (i + 1)) = decide (l'[i] :: l.drop (i + 1) = l'[i] :: l'.drop (i + 1)) := by
    rw [decide_eq_decide]
    simp only [List.cons.injEq, true_and]
   rw [this]
  ·have : ((l[i]).1 == (l'[i]).1 && ((l[i]).2 == (l'[i]).2 && true)) = false := by
    by_cases h1 : (l[i]).1 = (l'[i]).1
    ·have h2 : (l[i]).2 ≠ (l'[i]).2 := fun h2 => hc (Prod.ext h1 h2)
     simp [h1, h2]
    ·simp [h1]
   rw [this, decide_eq_false (fun h => hc (List.cons.inj h).1)]
   rfl
theorem leq_nil (F : Fns) (N m a b : Nat) (fl fl' c : Bool) (st : St) (h : st.clean (zDe 22 0) = leqS0 a b fl fl' c) : loopA (zBy F 22 0 N) (zDe 22 0) (zCt F 22 0 N 0) (m + 1) st = some (.bool true, []) := by rw [loopA_succ, h, leq_body0]
theorem e22 (k : Nat) (fl fl' : Bool) (l l' : List (Int × Int)) (hk : l.length + 3 ≤ k) (hb : l.length < 4611686018427387904) : evF pr k 22 [.sl 2 fl (l.map brV), .sl 2 fl' (l'.map brV)] [] = some (.bool (decide (l = l')), []) := by
 obtain ⟨k, rfl⟩ : ∃ m, k = m + 1 := ⟨k - 1, by omega⟩
 rw [ev_step _ _ _ _ (by kernel_rfl), leq_tree, List.length_map, List.length_map]
 by_cases h : l.length = l'.length
 ·rw [show (((l.length : Nat) : Int) != ((l'.length : Nat) : Int)) = false by simp [h]]
  exact leq_loop (evF pr k) k fl fl' false l l' h hb l.length 0 k _ (Nat.zero_add _) (by omega) (by kernel_rfl)
 ·rw [show (((l.length : Nat) : Int) != ((l'.length : Nat) : Int)) = true by simp only [bne_iff_ne, ne_eq]; omega, decide_eq_false (fun e => h (by rw [e]))]
  rfl
theorem leq_nils (k a b : Nat) (fl fl' : Bool) : evF pr (k + 2) 22 [.sl a fl [], .sl b fl' []] [] = some (.bool true, []) := by
 rw [ev_step _ _ _ _ (by kernel_rfl), leq_tree, show ((((([] : List AV).length : Nat) : Int)) != ((([] : List AV).length : Nat) : Int)) = false from rfl, cond_false]
 exact leq_nil _ _ _ a b fl fl' false _ (by kernel_rfl)
def IsL (v : AV) (l : List (Int × Int)) : Prop := (∃ fl, v = .sl 2 fl (l.map brV)) ∨ (l = [] ∧ ∃ a fl, v = .sl a fl [])
theorem IsL.slB (l : List (Int × Int)) : IsL (slB l) l := by
 unfold AM.Ytnhfjkckgicidaa.slB
 split
 ·rename_i h; exact .inr ⟨h, _, _, rfl⟩
 ·exact .inl ⟨_, rfl⟩
theorem e22' (k : Nat) {v v' : AV} {l l' : List (Int × Int)} (hv : IsL v l) (hv' : IsL v' l') (hk : l.length + 3 ≤ k) (hb : l.length < 4611686018427387904) : evF pr k 22 [v, v'] [] = some (.bool (decide (l = l')), []) := by
 rcases hv with ⟨fl, rfl⟩ | ⟨rfl, a, fl, rfl⟩
 ·rcases hv' with ⟨fl', rfl⟩ | ⟨rfl, a', fl', rfl⟩
  ·exact e22 k fl fl' l l' hk hb
  ·cases l with
   | nil =>
    obtain ⟨k, rfl⟩ : ∃ m, k = m + 2 := ⟨k - 2, by omega⟩
    exact leq_nils k 2 a' fl fl'
   | cons b r =>
    obtain ⟨k, rfl⟩ : ∃ m, k = m + 1 := ⟨k - 1, by omega⟩
    rw [ev_step _ _ _ _ (by kernel_rfl), leq_tree, List.length_map]
    rw [show ((((b :: r).length : Nat) : Int) != ((([] : List AV).length : Nat) : Int)) = true by simp only [bne_iff_ne, ne_eq, List.length_cons, List.length_nil]; omega]
    rfl
 ·rcases hv' with ⟨fl', rfl⟩ | ⟨rfl, a', fl', rfl⟩
  ·cases l' with
   | nil =>
    obtain ⟨k, rfl⟩ : ∃ m, k = m + 2 := ⟨k - 2, by simp at hk; omega⟩
    exact leq_nils k a 2 fl fl'
   | cons b r =>
    obtain ⟨k, rfl⟩ : ∃ m, k = m + 1 := ⟨k - 1, by omega⟩
    rw [ev_step _ _ _ _ (by kernel_rfl), leq_tree, List.length_map]
    rw [show (((([] : List AV).length : Nat) : Int) != (((b :: r).length : Nat) : Int)) = true by simp only [bne_iff_ne, ne_eq, List.length_cons, List.length_nil]; omega]
    rfl
  ·obtain ⟨k, rfl⟩ : ∃ m, k = m + 2 := ⟨k - 2, by simp at hk; omega⟩
   exact leq_nils k a a' fl fl'
abbrev Wr := Int × Int × List UInt8
def wrV (w : Wr) : AV := .agg [.int .i64 w.1, .int .i64 w.2.1, .str w.2.2]
def wless (a b : Wr) : Bool := decide (a.1 < b.1 ∨ a.1 = b.1 ∧ a.2.1 < b.2.1)
def sortedW : List Wr → Bool
 | a :: b :: r => wless a b && sortedW (b :: r)
 | _ => true
def badW (w : Wr) : Bool := decide (w.1 < 1 ∨ w.1 > 255 ∨ w.2.1 < 0 ∨ w.2.1 ≥ 32 ∨ (w.2.2.length : Int) > 8)
def wOk (l : List Wr) : Bool := decide (l.length ≤ 128) && (sortedW l && !(l.any badW))
theorem getWr (l : List Wr) (i : Nat) (h : i < l.length) : (l.map wrV)[Int.toNat (i : Int)]? = some (.agg [.int .i64 (l[i]).1, .int .i64 (l[i]).2.1, .str (l[i]).2.2]) := by
 rw [Int.toNat_natCast, List.getElem?_map, List.getElem?_eq_getElem h]
 rfl
theorem nan_tree (F : Fns) (N : Nat) (a : Int) : runOf F 132 N [.int .i64 a] [] =
 some (AV.bool (a != a), []) := by kernel_rfl
theorem e132 (k : Nat) (hk : 1 ≤ k) (a : Int) : evF pr k 132 [.int .i64 a] [] = some (.bool false, []) := by
 obtain ⟨k, rfl⟩ : ∃ m, k = m + 1 := ⟨k - 1, by omega⟩
 rw [ev_step _ _ _ _ (by kernel_rfl), nan_tree, show (a != a) = false by simp]
theorem compare_tree (F : Fns) (N : Nat) (a b : Int) : runOf F 122 N [.int .i64 a, .int .i64 b] [] =
 zRe (F 132 [AV.int .i64 a] []) fun v bs => zBo v fun b_1 => zNi bs (zRe (F 132 [AV.int .i64 b] []) fun v bs => zBo v fun b_2 => zNi bs (bif b_1 then bif b_2 then some (AV.int .i64 0, []) else some (AV.int .i64 (-1), []) else bif b_2 then some (AV.int .i64 1, []) else bif decide (a < b) then some (AV.int .i64 (-1), []) else bif decide (a > b) then some (AV.int .i64 1, []) else some (AV.int .i64 0, []))) := by kernel_rfl
def cmpI (a b : Int) : Int := if a < b then -1 else if a > b then 1 else 0
theorem e122 (k : Nat) (hk : 2 ≤ k) (a b : Int) : evF pr k 122 [.int .i64 a, .int .i64 b] [] = some (.int .i64 (cmpI a b), []) := by
 obtain ⟨k, rfl⟩ : ∃ m, k = m + 1 := ⟨k - 1, by omega⟩
 rw [ev_step _ _ _ _ (by kernel_rfl), compare_tree, e132 k (by omega), e132 k (by omega)]
 simp only [zRe, zBo, zNi, cond_false, cmpI]
 by_cases h1 : a < b
 ·rw [decide_eq_true h1, if_pos h1]; rfl
 by_cases h2 : a > b
 ·rw [decide_eq_false h1, if_neg h1, decide_eq_true h2, if_pos h2]; rfl
 ·rw [decide_eq_false h1, if_neg h1, decide_eq_false h2, if_neg h2]; rfl
def orV : List Int → Int
 | [] => 0
 | n :: r => if n = 0 then orV r else n
def orS (fl : Bool) (xs : List AV) (len i : Int) : St := ⟨18, [(0, AV.sl 1 fl xs), (2, AV.int .i64 0), (3, AV.int .i64 0), (6, AV.sl 1 fl xs), (7, AV.int .i64 len), (8, AV.int .i64 i)], [], [], [], [], []⟩
theorem or_body (F : Fns) (N : Nat) (fl : Bool) (xs : List AV) (len i : Int) (KN : St → Res) : zBy F 121 0 N (orS fl xs len i) (brk (zCt F 121 0 N 0) KN) =
 bif decide (i < len) then bif decide (0 ≤ i) then zOp xs[Int.toNat i]? fun x => zIn .i64 x fun n => bif n != 0 then some (AV.int .i64 n, []) else KN { nt := 18, t := [(0, AV.sl 1 fl xs), (2, AV.int .i64 0), (3, AV.int .i64 0), (5, AV.int .i64 n), (6, AV.sl 1 fl xs), (7, AV.int .i64 len), (8, AV.int .i64 (IntKind.wrap .i64 (i + 1))), (9, AV.bool (decide (i < len))), (14, AV.bool (n != 0))], b := [], r := [], g := [], rd := [], wr := [] } else none else some (AV.int .i64 0, []) := by kernel_rfl
theorem or_tree (F : Fns) (N : Nat) (fl : Bool) (xs : List AV) : runOf F 121 N [.sl 1 fl xs] [] =
 loopA (zBy F 121 0 N) (zDe 121 0) (zCt F 121 0 N 0) N { nt := 18, t := [(0, AV.sl 1 fl xs), (2, AV.int .i64 0), (3, AV.int .i64 0), (6, AV.sl 1 fl xs), (7, AV.int .i64 (xs.length : Int)), (8, AV.int .i64 0)], b := [], r := [], g := [], rd := [], wr := [] } := by kernel_rfl
theorem or_loop (F : Fns) (N : Nat) (fl : Bool) (ns : List Int) (hl : ns.length ≤ 1000) : ∀ (dd i m : Nat) (st : St), i + dd = ns.length → dd < m → st.clean (zDe 121 0) = orS fl (ns.map (AV.int .i64)) ns.length i →
  loopA (zBy F 121 0 N) (zDe 121 0) (zCt F 121 0 N 0) m st = some (.int .i64 (orV (ns.drop i)), []) := by
 intro dd
 induction dd with
 | zero =>
  intro i m st hi hm hst
  obtain ⟨m, rfl⟩ : ∃ m', m = m' + 1 := ⟨m - 1, by omega⟩
  have : i = ns.length := by omega
  subst this
  rw [loopA_succ, hst, or_body, decide_eq_false (by omega), List.drop_length]
  rfl
 | succ dd ih =>
  intro i m st hi hm hst
  obtain ⟨m, rfl⟩ : ∃ m', m = m' + 1 := ⟨m - 1, by omega⟩
  have hlt : i < ns.length := by omega
  rw [loopA_succ, hst, or_body, decide_eq_true (show (i : Int) < ns.length by omega), decide_eq_true (show (0 : Int) ≤ i by omega), Int.toNat_natCast, List.getElem?_map, List.getElem?_eq_getElem hlt, List.drop_eq_getElem_cons hlt, orV]
  simp only [cond_true, Option.map_some, zOp, zIn, if_true]
  by_cases h : ns[i] = 0
  ·rw [show (ns[i] != 0) = false by simp [h], if_pos h]
   simp only [cond_false]
   rw [wrap_small (n := (i : Int) + 1) (by omega) (by omega)]
   exact ih (i + 1) m _ (by omega) (by omega) (by kernel_rfl)
  ·rw [show (ns[i] != 0) = true by simp [h], if_neg h]
   rfl
theorem order_tree (F : Fns) (N : Nat) (v b v' b' : Int) (s s' : List UInt8) : runOf F 105 N [.agg [.int .i64 v, .int .i64 b, .str s], .agg [.int .i64 v', .int .i64 b', .str s']] [] =
 zRe (F 122 [AV.int .i64 v, AV.int .i64 v'] []) fun v bs => zIn .i64 v fun n => zNi bs (zRe (F 122 [AV.int .i64 b, AV.int .i64 b'] []) fun v bs => zIn .i64 v fun n_1 => zNi bs (zRe (F 121 [AV.sl 1 true [AV.int .i64 n, AV.int .i64 n_1]] []) fun v bs => zIn .i64 v fun n => zNi bs (some (AV.int .i64 n, [])))) := by kernel_rfl
def ordV (a b : Wr) : Int := orV [cmpI a.1 b.1, cmpI a.2.1 b.2.1]
theorem ordV_ge (a b : Wr) : decide (ordV a b ≥ 0) = !wless a b := by
 unfold ordV orV orV orV cmpI wless
 by_cases h1 : a.1 < b.1
 ·simp [h1]
 ·by_cases h2 : a.1 > b.1
  ·have : ¬ a.1 = b.1 := by omega
   simp [h1, h2, this]
  ·have : a.1 = b.1 := by omega
   simp only [this, Int.lt_irrefl, gt_iff_lt, if_false, if_true, false_or, true_and]
   by_cases h3 : a.2.1 < b.2.1
   ·simp [h3]
   ·by_cases h4 : a.2.1 > b.2.1
    ·simp [h3, h4]
    ·simp [h3, h4]
theorem e105 (k : Nat) (hk : 6 ≤ k) (a b : Wr) : evF pr k 105 [.agg [.int .i64 a.1, .int .i64 a.2.1, .str a.2.2], .agg [.int .i64 b.1, .int .i64 b.2.1, .str b.2.2]] [] = some (.int .i64 (ordV a b), []) := by
 obtain ⟨k, rfl⟩ : ∃ m, k = m + 1 := ⟨k - 1, by omega⟩
 rw [ev_step _ _ _ _ (by kernel_rfl), order_tree, e122 k (by omega), e122 k (by omega)]
 simp only [zRe, zIn, if_true, zNi]
 obtain ⟨k, rfl⟩ : ∃ m, k = m + 1 := ⟨k - 1, by omega⟩
 have h : evF pr (k + 1) 121 [.sl 1 true [.int .i64 (cmpI a.1 b.1), .int .i64 (cmpI a.2.1 b.2.1)]] [] = some (.int .i64 (ordV a b), []) := by
  rw [ev_step _ _ _ _ (by kernel_rfl), or_tree]
  exact or_loop (evF pr k) k true [cmpI a.1 b.1, cmpI a.2.1 b.2.1] (by simp) 2 0 k _ rfl (by omega) (by kernel_rfl)
 rw [h]
 rfl
def foldedS (fl : Bool) (xs : List AV) (len i : Int) : St := ⟨25, [(0, AV.sl 3 fl xs), (2, AV.bool false), (5, AV.int .i64 len), (6, AV.int .i64 i)], [], [], [], [], []⟩
theorem folded_tree (F : Fns) (N : Nat) (fl : Bool) (xs : List AV) : runOf F 81 N [.sl 3 fl xs] [] =
 loopA (zBy F 81 0 N) (zDe 81 0) (zCt F 81 0 N 0) N { nt := 25, t := [(0, AV.sl 3 fl xs), (2, AV.bool false), (5, AV.int .i64 (xs.length : Int)), (6, AV.int .i64 0)], b := [], r := [], g := [], rd := [], wr := [] } := by kernel_rfl
theorem folded_body (F : Fns) (N : Nat) (fl : Bool) (xs : List AV) (len i : Int) (KN : St → Res) : zBy F 81 0 N (foldedS fl xs len i) (brk (zCt F 81 0 N 0) KN) =
 bif decide (i < len) then bif decide (i > 0) then bif decide (0 ≤ IntKind.wrap .i64 (i - 1)) then zOp xs[Int.toNat (IntKind.wrap .i64 (i - 1))]? fun x => zAg x fun cs => zCo cs fun v r => zIn .i64 v fun n => zCo r fun v r => zIn .i64 v fun n_1 => zCo r fun v r => zSt v fun s => zNi r (bif decide (0 ≤ i) then zOp xs[Int.toNat i]? fun x => zAg x fun cs => zCo cs fun v r => zIn .i64 v fun n_2 => zCo r fun v r => zIn .i64 v fun n_3 => zCo r fun v r => zSt v fun s_1 => zNi r (zRe (F 105 [AV.agg [AV.int .i64 n, AV.int .i64 n_1, AV.str s], AV.agg [AV.int .i64 n_2, AV.int .i64 n_3, AV.str s_1]] []) fun v bs => zIn .i64 v fun n => zNi bs (bif decide (n ≥ 0) then some (AV.bool false, []) else KN { nt := 25, t := [(0, AV.sl 3 fl xs), (2, AV.bool false), (3, AV.int .i64 i), (5, AV.int .i64 len), (6, AV.int .i64 (IntKind.wrap .i64 (i + 1))), (7, AV.bool (decide (i < len))), (23, AV.bool (decide (n ≥ 0)))], b := [], r := [], g := [], rd := [], wr := [] })) else none) else none else KN { nt := 25, t := [(0, AV.sl 3 fl xs), (2, AV.bool false), (3, AV.int .i64 i), (5, AV.int .i64 len), (6, AV.int .i64 (IntKind.wrap .i64 (i + 1))), (7, AV.bool (decide (i < len))), (23, AV.bool false)], b := [], r := [], g := [], rd := [], wr := [] } else some (AV.bool true, []) := by kernel_rfl
theorem folded_loop (k : Nat) (hk : 6 ≤ k) (fl : Bool) (l : List Wr) (hl : l.length ≤ 100000) : ∀ (dd i m : Nat) (st : St), i + 1 + dd = l.length → dd < m → st.clean (zDe 81 0) = foldedS fl (l.map wrV) l.length ((i + 1 : Nat) : Int) →
  loopA (zBy (evF pr k) 81 0 k) (zDe 81 0) (zCt (evF pr k) 81 0 k 0) m st = some (.bool (sortedW (l.drop i)), []) := by
 intro dd
 induction dd with
 | zero =>
  intro i m st hi hm hst
  obtain ⟨m, rfl⟩ : ∃ m', m = m' + 1 := ⟨m - 1, by omega⟩
  have hlt : i < l.length := by omega
  have : l.drop (i + 1) = [] := List.drop_eq_nil_of_le (by omega)
  rw [loopA_succ, hst, folded_body, decide_eq_false (by omega), List.drop_eq_getElem_cons hlt, this]
  rfl
 | succ dd ih =>
  intro i m st hi hm hst
  obtain ⟨m, rfl⟩ : ∃ m', m = m' + 1 := ⟨m - 1, by omega⟩
  have hlt : i < l.length := by omega
  have hlt1 : i + 1 < l.length := by omega
  have hw : IntKind.wrap .i64 (((i + 1 : Nat) : Int) - 1) = (i : Int) := by rw [wrap_small (by omega) (by omega)]; omega
  rw [loopA_succ, hst, folded_body, decide_eq_true (show (((i + 1 : Nat)) : Int) < l.length by omega), decide_eq_true (show (((i + 1 : Nat)) : Int) > 0 by omega), hw, decide_eq_true (show (0 : Int) ≤ i by omega), decide_eq_true (show (0 : Int) ≤ (i + 1 : Nat) by omega), getWr l i hlt, getWr l (i + 1) hlt1]
  simp only [cond_true, zOp, zAg, zCo, zIn, zSt, if_true, zNi]
  rw [e105 k hk]
  simp only [zRe, zIn, if_true, zNi]
  rw [ordV_ge, List.drop_eq_getElem_cons hlt, List.drop_eq_getElem_cons hlt1, sortedW, show IntKind.wrap .i64 (((i + 1 : Nat) : Int) + 1) = ((i + 1 + 1 : Nat) : Int) by rw [wrap_small (by omega) (by omega)]; omega]
  cases hw : wless l[i] l[i + 1] with
  | false => rfl
  | true =>
   simp only [Bool.not_true, cond_false, Bool.true_and]
   refine (ih (i + 1) m _ (by omega) (by omega) (by kernel_rfl)).trans ?_
   rw [List.drop_eq_getElem_cons hlt1]
theorem e81 (k : Nat) (fl : Bool) (l : List Wr) (hk : 8 + l.length ≤ k) (hl : l.length ≤ 100000) : evF pr k 81 [.sl 3 fl (l.map wrV)] [] = some (.bool (sortedW l), []) := by
 obtain ⟨k, rfl⟩ : ∃ m, k = m + 1 := ⟨k - 1, by omega⟩
 rw [ev_step _ _ _ _ (by kernel_rfl), folded_tree, List.length_map]
 obtain ⟨k', hk'⟩ : ∃ m, k = m + 1 := ⟨k - 1, by omega⟩
 conv => lhs; arg 4; rw [hk']
 rw [loopA_succ]
 refine (folded_body _ _ fl (l.map wrV) l.length 0 _).trans ?_
 cases l with
 | nil => rfl
 | cons b r =>
  rw [decide_eq_true (show (0 : Int) < (((b :: r).length : Nat) : Int) by simp only [List.length_cons]; omega), show decide ((0 : Int) > 0) = false from rfl]
  simp only [cond_true, cond_false]
  simp only [List.length_cons] at hk hl
  exact folded_loop k (by omega) fl (b :: r) (by simpa using hl) r.length 0 k' _ (by simp only [List.length_cons]; omega) (by omega) (by kernel_rfl)
theorem bad1_tree (F : Fns) (N : Nat) (v b : Int) (s : List UInt8) : runOf F 83 N [.agg [.int .i64 v, .int .i64 b, .str s]] [] =
 bif decide (v < 1) then some (AV.bool true, []) else bif decide (v > 255) then some (AV.bool true, []) else bif decide (b < 0) then some (AV.bool true, []) else bif decide (b ≥ 32) then some (AV.bool true, []) else some (AV.bool (decide ((s.length : Int) > 8)), []) := by kernel_rfl
theorem e83 (k : Nat) (hk : 1 ≤ k) (w : Wr) : evF pr k 83 [.agg [.int .i64 w.1, .int .i64 w.2.1, .str w.2.2]] [] = some (.bool (badW w), []) := by
 obtain ⟨k, rfl⟩ : ∃ m, k = m + 1 := ⟨k - 1, by omega⟩
 rw [ev_step _ _ _ _ (by kernel_rfl), bad1_tree]
 by_cases h1 : w.1 < 1
 ·rw [decide_eq_true h1, show badW w = true from decide_eq_true (.inl h1)]; rfl
 by_cases h2 : w.1 > 255
 ·rw [decide_eq_false h1, decide_eq_true h2, show badW w = true from decide_eq_true (.inr (.inl h2))]; rfl
 by_cases h3 : w.2.1 < 0
 ·rw [decide_eq_false h1, decide_eq_false h2, decide_eq_true h3, show badW w = true from decide_eq_true (.inr (.inr (.inl h3)))]; rfl
 by_cases h4 : w.2.1 ≥ 32
 ·rw [decide_eq_false h1, decide_eq_false h2, decide_eq_false h3, decide_eq_true h4, show badW w = true from decide_eq_true (.inr (.inr (.inr (.inl h4))))]; rfl
 rw [decide_eq_false h1, decide_eq_false h2, decide_eq_false h3, decide_eq_false h4, show badW w = decide ((w.2.2.length : Int) > 8) by unfold badW; rw [decide_eq_decide]; omega]
 rfl
def indexS (fl : Bool) (xs : List AV) (len i : Int) : St := ⟨19, [(0, AV.sl 3 fl xs), (1, AV.fn 83), (4, AV.int .i64 0), (7, AV.int .i64 len), (8, AV.int .i64 i)], [], [], [], [], []⟩
theorem index_tree (F : Fns) (N : Nat) (fl : Bool) (xs : List AV) : runOf F 106 N [.sl 3 fl xs, .fn 83] [] =
 loopA (zBy F 106 0 N) (zDe 106 0) (zCt F 106 0 N 0) N { nt := 19, t := [(0, AV.sl 3 fl xs), (1, AV.fn 83), (4, AV.int .i64 0), (7, AV.int .i64 (xs.length : Int)), (8, AV.int .i64 0)], b := [], r := [], g := [], rd := [], wr := [] } := by kernel_rfl
theorem index_body (F : Fns) (N : Nat) (fl : Bool) (xs : List AV) (len i : Int) (KN : St → Res) : zBy F 106 0 N (indexS fl xs len i) (brk (zCt F 106 0 N 0) KN) =
 bif decide (i < len) then bif decide (0 ≤ i) then zOp xs[Int.toNat i]? fun x => zAg x fun cs => zCo cs fun v r => zIn .i64 v fun n => zCo r fun v r => zIn .i64 v fun n_1 => zCo r fun v r => zSt v fun s => zNi r (zRe (F 83 [AV.agg [AV.int .i64 n, AV.int .i64 n_1, AV.str s]] []) fun v bs => zBo v fun b => zNi bs (bif b then some (AV.int .i64 i, []) else KN { nt := 19, t := [(0, AV.sl 3 fl xs), (1, AV.fn 83), (4, AV.int .i64 0), (5, AV.int .i64 i), (7, AV.int .i64 len), (8, AV.int .i64 (IntKind.wrap .i64 (i + 1))), (9, AV.bool (decide (i < len))), (16, AV.bool b)], b := [], r := [], g := [], rd := [], wr := [] })) else none else some (AV.int .i64 (-1), []) := by kernel_rfl
theorem index_loop (k : Nat) (hk : 1 ≤ k) (fl : Bool) (l : List Wr) (hl : l.length ≤ 100000) : ∀ (dd i m : Nat) (st : St), i + dd = l.length → dd < m → st.clean (zDe 106 0) = indexS fl (l.map wrV) l.length i →
  ∃ z, loopA (zBy (evF pr k) 106 0 k) (zDe 106 0) (zCt (evF pr k) 106 0 k 0) m st = some (.int .i64 z, []) ∧ decide (z ≥ 0) = (l.drop i).any badW := by
 intro dd
 induction dd with
 | zero =>
  intro i m st hi hm hst
  obtain ⟨m, rfl⟩ : ∃ m', m = m' + 1 := ⟨m - 1, by omega⟩
  have : l.drop i = [] := List.drop_eq_nil_of_le (by omega)
  rw [loopA_succ, hst, index_body, decide_eq_false (by omega), this]
  exact ⟨-1, rfl, rfl⟩
 | succ dd ih =>
  intro i m st hi hm hst
  obtain ⟨m, rfl⟩ : ∃ m', m = m' + 1 := ⟨m - 1, by omega⟩
  have hlt : i < l.length := by omega
  rw [loopA_succ, hst, index_body, decide_eq_true (show (i : Int) < l.length by omega), decide_eq_true (show (0 : Int) ≤ i by omega), getWr l i hlt, List.drop_eq_getElem_cons hlt, List.any_cons]
  simp only [cond_true, zOp, zAg, zCo, zIn, zSt, if_true, zNi]
  rw [e83 k hk]
  simp only [zRe, zBo, zNi]
  cases badW l[i] with
  | true => exact ⟨i, rfl, by simp⟩
  | false =>
   simp only [cond_false, Bool.false_or]
   rw [wrap_small (n := (i : Int) + 1) (by omega) (by omega)]
   exact ih (i + 1) m _ (by omega) (by omega) (by kernel_rfl)
theorem contains_tree (F : Fns) (N : Nat) (fl : Bool) (xs : List AV) : runOf F 82 N [.sl 3 fl xs, .fn 83] [] =
 zRe (F 106 [AV.sl 3 fl xs, AV.fn 83] []) fun v bs => zIn .i64 v fun n => zNi bs (some (AV.bool (decide (n ≥ 0)), [])) := by kernel_rfl
theorem e82 (k : Nat) (fl : Bool) (l : List Wr) (hk : 4 + l.length ≤ k) (hl : l.length ≤ 100000) : evF pr k 82 [.sl 3 fl (l.map wrV), .fn 83] [] = some (.bool (l.any badW), []) := by
 obtain ⟨k, rfl⟩ : ∃ m, k = m + 2 := ⟨k - 2, by omega⟩
 rw [ev_step _ _ _ _ (by kernel_rfl), contains_tree, ev_step _ _ _ _ (by kernel_rfl), index_tree, List.length_map]
 obtain ⟨z, h1, h2⟩ := index_loop k (by omega) fl l hl l.length 0 k ⟨19, [(0, AV.sl 3 fl (l.map wrV)), (1, AV.fn 83), (4, AV.int .i64 0), (7, AV.int .i64 l.length), (8, AV.int .i64 0)], [], [], [], [], []⟩ (Nat.zero_add _) (by omega) (by kernel_rfl)
 rw [List.drop_zero] at h2
 rw [← h2]
 refine (congrArg (fun x => zRe x _) h1).trans ?_
 rfl
theorem writable_tree (F : Fns) (N : Nat) (fl : Bool) (xs : List AV) : runOf F 36 N [.sl 3 fl xs] [] =
 bif decide ((xs.length : Int) ≤ 128) then zRe (F 81 [AV.sl 3 fl xs] []) fun v bs => zBo v fun b => zNi bs (bif b then zRe (F 82 [AV.sl 3 fl xs, AV.fn 83] []) fun v bs => zBo v fun b => zNi bs (some (AV.bool !b, [])) else some (AV.bool false, [])) else some (AV.bool false, []) := by kernel_rfl
theorem e36 (k : Nat) (fl : Bool) (l : List Wr) (hk : 140 ≤ k) : evF pr k 36 [.sl 3 fl (l.map wrV)] [] = some (.bool (wOk l), []) := by
 obtain ⟨k, rfl⟩ : ∃ m, k = m + 1 := ⟨k - 1, by omega⟩
 rw [ev_step _ _ _ _ (by kernel_rfl), writable_tree, List.length_map, wOk]
 by_cases h : l.length ≤ 128
 ·rw [decide_eq_true (show ((l.length : Nat) : Int) ≤ 128 by omega), decide_eq_true h, e81 k fl l (by omega) (by omega), e82 k fl l (by omega) (by omega)]
  cases sortedW l with
  | false => rfl
  | true => rfl
 ·rw [decide_eq_false (show ¬ ((l.length : Nat) : Int) ≤ 128 by omega), decide_eq_false h]
  rfl
theorem e36nil (k : Nat) : evF pr (k + 6) 36 [.sl 0 true []] [] = some (.bool true, []) := by kernel_rfl
theorem wless_trans {a b c : Wr} (h1 : wless a b = true) (h2 : wless b c = true) : wless a c = true := by
 unfold wless at *
 rw [decide_eq_true_eq] at *
 omega
theorem sortedW_iff : ∀ l : List Wr, sortedW l = true ↔ l.Pairwise fun a b => wless a b = true
 | [] => by simp [sortedW]
 | [a] => by simp [sortedW]
 | a :: b :: r => by
  rw [sortedW, Bool.and_eq_true, sortedW_iff (b :: r), List.pairwise_cons (a := a)]
  constructor
  ·rintro ⟨h1, h2⟩
   refine ⟨fun c hc => ?_, h2⟩
   rcases List.mem_cons.1 hc with rfl | hc
   ·exact h1
   ·exact wless_trans h1 ((List.pairwise_cons.1 h2).1 c hc)
  ·rintro ⟨h1, h2⟩
   exact ⟨h1 b (List.mem_cons_self ..), h2⟩
def skipW (last : Option Wr) (w : Wr) : Bool := match last with
 | none => false
 | some z => !wless z w
def pick (last : Option Wr) : List Wr → Option Wr → Option Wr
 | [], b => b
 | w :: r, b => if skipW last w then pick last r b else match b with
  | none => pick last r (some w)
  | some x => if wless x w then pick last r (some x) else pick last r (some w)
noncomputable def zCb (F : Fns) (f i j n : Nat) (K : Ex → St → Res) : Ex → St → Res := contB F tb sh (fxOf f) n i j K
def slW (l : List Wr) : AV := if l = [] then .sl 0 true [] else .sl 3 false (l.map wrV)
def weqS (fl fl' c : Bool) (xs ys : List AV) (i : Int) : St := ⟨26, [(0, AV.sl 3 fl xs), (1, AV.sl 3 fl' ys), (4, AV.bool false), (5, AV.int .i64 i), (10, AV.bool c)], [], [], [], [], []⟩
theorem weq_tree (F : Fns) (N : Nat) (a b : Nat) (fl fl' : Bool) (xs ys : List AV) : runOf F 16 N [.sl a fl xs, .sl b fl' ys] [] =
 bif (xs.length : Int) != (ys.length : Int) then some (AV.bool false, []) else loopA (zBy F 16 0 N) (zDe 16 0) (zCt F 16 0 N 0) N { nt := 26, t := [(0, AV.sl a fl xs), (1, AV.sl b fl' ys), (4, AV.bool false), (5, AV.int .i64 0), (10, AV.bool ((xs.length : Int) != (ys.length : Int)))], b := [], r := [], g := [], rd := [], wr := [] } := by kernel_rfl
theorem weq_body (F : Fns) (N : Nat) (fl fl' c : Bool) (xs ys : List AV) (i : Int) (KN : St → Res) : zBy F 16 0 N (weqS fl fl' c xs ys i) (brk (zCt F 16 0 N 0) KN) =
 bif decide (i < (xs.length : Int)) then bif decide (0 ≤ i) then zOp xs[Int.toNat i]? fun x => zAg x fun cs => zCo cs fun v r => zIn .i64 v fun n => zCo r fun v r => zIn .i64 v fun n_1 => zCo r fun v r => zSt v fun s => zNi r (bif decide (0 ≤ i) then zOp ys[Int.toNat i]? fun x => zAg x fun cs => zCo cs fun v r => zIn .i64 v fun n_2 => zCo r fun v r => zIn .i64 v fun n_3 => zCo r fun v r => zSt v fun s_1 => zNi r (bif !(n == n_2 && (n_1 == n_3 && (s == s_1 && true))) then some (AV.bool false, []) else KN { nt := 26, t := [(0, AV.sl 3 fl xs), (1, AV.sl 3 fl' ys), (4, AV.bool false), (5, AV.int .i64 (IntKind.wrap .i64 (i + 1))), (10, AV.bool c), (14, AV.bool (decide (i < (xs.length : Int)))), (25, AV.bool !(n == n_2 && (n_1 == n_3 && (s == s_1 && true))))], b := [], r := [], g := [], rd := [], wr := [] }) else none) else none else some (AV.bool true, []) := by kernel_rfl
theorem weq_loop (F : Fns) (N : Nat) (fl fl' c : Bool) (l l' : List Wr) (hl : l.length = l'.length) (hb : l.length < 4611686018427387904) : ∀ (dd i m : Nat) (st : St), i + dd = l.length → dd < m → st.clean (zDe 16 0) = weqS fl fl' c (l.map wrV) (l'.map wrV) i →
  loopA (zBy F 16 0 N) (zDe 16 0) (zCt F 16 0 N 0) m st = some (.bool (decide (l.drop i = l'.drop i)), []) := by
 intro dd
 induction dd with
 | zero =>
  intro i m st hi hm hst
  obtain ⟨m, rfl⟩ : ∃ m', m = m' + 1 := ⟨m - 1, by omega⟩
  have h1 : l.drop i = [] := List.drop_eq_nil_of_le (by omega)
  have h2 : l'.drop i = [] := List.drop_eq_nil_of_le (by omega)
  rw [loopA_succ, hst, weq_body, List.length_map, decide_eq_false (by omega), h1, h2]
  rfl
 | succ dd ih =>
  intro i m st hi hm hst
  obtain ⟨m, rfl⟩ : ∃ m', m = m' + 1 := ⟨m - 1, by omega⟩
  have hlt : i < l.length := by omega
  have hlt' : i < l'.length := by omega
  rw [loopA_succ, hst, weq_body, List.length_map, decide_eq_true (show (i : Int) < l.length by omega), decide_eq_true (show (0 : Int) ≤ i by omega), getWr l i hlt, getWr l' i hlt', List.drop_eq_getElem_cons hlt, List.drop_eq_getElem_cons hlt']
  simp only [cond_true, zOp, zAg, zCo, zIn, zSt, if_true, zNi]
  rw [wrap_small (n := (i : Int) + 1) (by omega) (by omega)]
  by_cases hc : l[i] = l'[i]
  ·rw [hc]
   simp only [beq_self_eq_true, Bool.true_and, Bool.not_true, cond_false]
   refine (ih (i + 1) m _ (by omega) (by omega) (by kernel_rfl)).trans ?_
   have : decide (l.drop (i + 1) = l'.drop (i + 1)) = decide (l'[i] :: l.drop (i + 1) = l'[i] :: l'.drop (i + 1)) := by
    rw [decide_eq_decide]
    simp only [List.cons.injEq, true_and]
   rw [this]
  ·have : ((l[i]).1 == (l'[i]).1 && ((l[i]).2.1 == (l'[i]).2.1 && ((l[i]).2.2 == (l'[i]).2.2 && true))) = false := by
    by_cases h1 : (l[i]).1 = (l'[i]).1
    ·by_cases h2 : (l[i]).2.1 = (l'[i]).2.1
     ·have h3 : (l[i]).2.2 ≠ (l'[i]).2.2 := fun h3 => hc (Prod.ext h1 (Prod.ext h2 h3))
      simp [h1, h2, h3]
     ·simp [h1, h2]
    ·simp [h1]
   rw [this, decide_eq_false (fun h => hc (List.cons.inj h).1)]
   rfl
theorem e16 (k : Nat) (fl fl' : Bool) (l l' : List Wr) (hk : l.length + 3 ≤ k) (hb : l.length < 4611686018427387904) : evF pr k 16 [.sl 3 fl (l.map wrV), .sl 3 fl' (l'.map wrV)] [] = some (.bool (decide (l = l')), []) := by
 obtain ⟨k, rfl⟩ : ∃ m, k = m + 1 := ⟨k - 1, by omega⟩
 rw [ev_step _ _ _ _ (by kernel_rfl), weq_tree, List.length_map, List.length_map]
 by_cases h : l.length = l'.length
 ·rw [show (((l.length : Nat) : Int) != ((l'.length : Nat) : Int)) = false by simp [h]]
  exact weq_loop (evF pr k) k fl fl' false l l' h hb l.length 0 k _ (Nat.zero_add _) (by omega) (by kernel_rfl)
 ·rw [show (((l.length : Nat) : Int) != ((l'.length : Nat) : Int)) = true by simp only [bne_iff_ne, ne_eq]; omega, decide_eq_false (fun e => h (by rw [e]))]
  rfl
def IsW (v : AV) (l : List Wr) : Prop := (∃ fl, v = .sl 3 fl (l.map wrV)) ∨ (l = [] ∧ ∃ a fl, v = .sl a fl [])
theorem IsW.slW (l : List Wr) : IsW (slW l) l := by
 unfold AM.Ytnhfjkckgicidaa.slW
 split
 ·rename_i h; exact .inr ⟨h, _, _, rfl⟩
 ·exact .inl ⟨_, rfl⟩
theorem putV_small (n w : Nat) (hw1 : 1 ≤ w) (hw : w ≤ 8) (h : n < 256 ^ w) : putV (n : Int) (w : Int) = (be w n, 0) := by
 unfold putV
 have : n / 256 ^ w = 0 := Nat.div_eq_of_lt h
 rw [if_neg (by omega), if_neg (by omega), Int.toNat_natCast, Int.toNat_natCast, if_neg (by simp [this])]
theorem text_tree (F : Fns) (N : Nat) (s : List UInt8) : runOf F 38 N [.str s] [] =
 bif decide ((s.length : Int) > 65535) then some (AV.tup [AV.str [], AV.int .i64 5], []) else zRe (F 37 [AV.int .i64 (s.length : Int), AV.int .i64 2] []) fun v bs => zTu v fun cs => zCo cs fun v r => zSt v fun s_1 => zCo r fun v r => zIn .i64 v fun n => zNi r (zNi bs (bif decide (List.length s_1 + List.length s ≤ 4611686018427387904) then some (AV.tup [AV.str (s_1 ++ s), AV.int .i64 0], []) else none)) := by kernel_rfl
theorem e38 (k : Nat) (hk : 12 ≤ k) (s : List UInt8) (hs : s.length ≤ 65535) : evF pr k 38 [.str s] [] = some (.tup [.str (be 2 s.length ++ s), .int .i64 0], []) := by
 obtain ⟨k, rfl⟩ : ∃ m, k = m + 1 := ⟨k - 1, by omega⟩
 rw [ev_step _ _ _ _ (by kernel_rfl), text_tree, decide_eq_false (show ¬ ((s.length : Nat) : Int) > 65535 by omega), show (2 : Int) = ((2 : Nat) : Int) from rfl, e37 k (by omega) _ (by omega) 2 (by omega) (by omega), putV_small s.length 2 (by omega) (by omega) (by omega)]
 simp only [cond_false, zRe, zTu, zCo, zSt, zIn, if_true, zNi]
 rw [decide_eq_true (by rw [be_length]; omega)]
 rfl
def takeT (s : List UInt8) : Option (List UInt8 × List UInt8) := match num 2 s with
 | none => none
 | some (n, t) => if t.length < n then none else some (t.take n, t.drop n)
theorem take_tree (F : Fns) (N : Nat) (s : List UInt8) : runOf F 85 N [.str s] [] =
 zRe (F 88 [AV.str s, AV.int .i64 2] []) fun v bs => zTu v fun cs => zCo cs fun v r => zIn .i64 v fun n => zCo r fun v r => zSt v fun s => zCo r fun v r => zIn .i64 v fun n_1 => zNi r (zNi bs (bif n_1 != 0 then some (AV.tup [AV.str [], AV.str [], AV.int .i64 2], []) else bif decide ((s.length : Int) < n) then some (AV.tup [AV.str [], AV.str [], AV.int .i64 2], []) else bif decide ((0 : Int) ≤ 0 ∧ 0 ≤ n ∧ n ≤ (s.length : Int)) then bif decide (0 ≤ n ∧ n ≤ (s.length : Int) ∧ (s.length : Int) ≤ (s.length : Int)) then some (AV.tup [AV.str (List.drop (Int.toNat 0) (List.take (Int.toNat n) s)), AV.str (List.drop (Int.toNat n) (List.take (Int.toNat (s.length : Int)) s)), AV.int .i64 0], []) else none else none)) := by kernel_rfl
theorem e85 (k : Nat) (hk : 12 ≤ k) (s : List UInt8) : evF pr k 85 [.str s] [] = (match takeT s with
  | none => some (.tup [.str [], .str [], .int .i64 2], [])
  | some (a, b) => some (.tup [.str a, .str b, .int .i64 0], [])) := by
 obtain ⟨k, rfl⟩ : ∃ m, k = m + 1 := ⟨k - 1, by omega⟩
 rw [ev_step _ _ _ _ (by kernel_rfl), take_tree, show (2 : Int) = ((2 : Nat) : Int) from rfl, e88 k (by omega) s 2 (by omega) (by omega)]
 simp only [zRe, zTu, zCo, zSt, zIn, if_true, zNi]
 unfold takeT
 cases h : num 2 s with
 | none =>
  rw [show (numE 2 s != 0) = true by simp [num_no h]]
  rfl
 | some q =>
  obtain ⟨n, t⟩ := q
  obtain ⟨r1, r2, r3⟩ := num_at h
  have r4 : numR 2 s = t := by rw [numR, if_pos r1, r3]
  rw [r1, r2, r4]
  simp only [show ((0 : Int) != 0) = false from rfl, cond_false]
  by_cases hl : t.length < n
  ·rw [decide_eq_true (show ((t.length : Nat) : Int) < n by omega), if_pos hl]
   rfl
  ·rw [decide_eq_false (show ¬ ((t.length : Nat) : Int) < n by omega), if_neg hl, decide_eq_true (show (0 : Int) ≤ 0 ∧ 0 ≤ ((n : Nat) : Int) ∧ ((n : Nat) : Int) ≤ t.length by omega), decide_eq_true (show 0 ≤ ((n : Nat) : Int) ∧ ((n : Nat) : Int) ≤ t.length ∧ ((t.length : Nat) : Int) ≤ t.length by omega)]
   simp only [cond_false, cond_true, Int.toNat_natCast, Int.toNat_zero, List.drop_zero, List.take_length]
def wrB (w : Wr) : List UInt8 := [UInt8.ofNat w.1.toNat, UInt8.ofNat w.2.1.toNat] ++ (be 2 w.2.2.length ++ w.2.2)
def putW (l : List Wr) : List UInt8 := be 2 l.length ++ l.flatMap wrB
theorem badW_not {w : Wr} (h : badW w = false) : 1 ≤ w.1 ∧ w.1 ≤ 255 ∧ 0 ≤ w.2.1 ∧ w.2.1 ≤ 31 ∧ w.2.2.length ≤ 8 := by
 unfold badW at h
 rw [decide_eq_false_iff_not] at h
 omega
theorem wrB_length {w : Wr} (h : badW w = false) : (wrB w).length ≤ 12 := by
 have := badW_not h
 unfold wrB
 rw [List.length_append, List.length_append, be_length]
 simp only [List.length_cons, List.length_nil]
 omega
def putwS (fl d : Bool) (xs bs : List AV) (s : List UInt8) (len i : Int) : St := ⟨48, [(0, AV.sl 3 fl xs), (2, AV.str []), (3, AV.int .i64 0), (4, AV.str s), (6, AV.tip 21 0 1 bs), (13, AV.bool d), (22, AV.sl 3 fl xs), (23, AV.int .i64 len), (24, AV.int .i64 i)], [], [], [], [], []⟩
theorem putw_tree (F : Fns) (N : Nat) (fl : Bool) (xs : List AV) : runOf F 11 N [.sl 3 fl xs] [] =
 zRe (F 36 [AV.sl 3 fl xs] []) fun v bs => zBo v fun b => zNi bs (bif !b then some (AV.tup [AV.str [], AV.int .i64 1], []) else zRe (F 37 [AV.int .i64 (xs.length : Int), AV.int .i64 2] []) fun v bs => zTu v fun cs => zCo cs fun v r => zSt v fun s => zCo r fun v r => zIn .i64 v fun n => zNi r (zNi bs (bif decide (List.length s ≤ 4611686018427387904) then loopA (zBy F 11 0 N) (zDe 11 0) (zCt F 11 0 N 0) N { nt := 48, t := [(0, AV.sl 3 fl xs), (2, AV.str []), (3, AV.int .i64 0), (4, AV.str s), (6, AV.tip 21 0 1 (ofBytes s)), (13, AV.bool !b), (22, AV.sl 3 fl xs), (23, AV.int .i64 (xs.length : Int)), (24, AV.int .i64 0)], b := [], r := [], g := [], rd := [], wr := [] } else none))) := by kernel_rfl
theorem putw_body (F : Fns) (N : Nat) (fl d : Bool) (xs bs : List AV) (s : List UInt8) (len i : Int) (KN : St → Res) : zBy F 11 0 N (putwS fl d xs bs s len i) (brk (zCt F 11 0 N 0) KN) =
 bif decide (i < len) then bif decide (0 ≤ i) then zOp xs[Int.toNat i]? fun x => zAg x fun cs => zCo cs fun v r => zIn .i64 v fun n => zCo r fun v r => zIn .i64 v fun n_1 => zCo r fun v r => zSt v fun s_1 => zNi r (zRe (F 38 [AV.str s_1] []) fun v bs_1 => zTu v fun cs => zCo cs fun v r => zSt v fun s_2 => zCo r fun v r => zIn .i64 v fun n_2 => zNi r (zNi bs_1 (bif decide (1 = 1 ∧ fitsB (List.length bs + List.length [AV.int .u8 (IntKind.wrap .u8 n), AV.int .u8 (IntKind.wrap .u8 n_1)]) 1 = true ∧ List.length bs + List.length [AV.int .u8 (IntKind.wrap .u8 n), AV.int .u8 (IntKind.wrap .u8 n_1)] ≤ 4611686018427387904) then bif decide (1 = 1 ∧ fitsB (List.length (bs ++ [AV.int .u8 (IntKind.wrap .u8 n), AV.int .u8 (IntKind.wrap .u8 n_1)]) + List.length (ofBytes s_2)) 1 = true ∧ List.length (bs ++ [AV.int .u8 (IntKind.wrap .u8 n), AV.int .u8 (IntKind.wrap .u8 n_1)]) + List.length (ofBytes s_2) ≤ 4611686018427387904) then KN { nt := 48, t := [(0, AV.sl 3 fl xs), (2, AV.str []), (3, AV.int .i64 0), (4, AV.str s), (6, AV.tip 21 0 1 (bs ++ [AV.int .u8 (IntKind.wrap .u8 n), AV.int .u8 (IntKind.wrap .u8 n_1)] ++ ofBytes s_2)), (8, AV.ptr 8 0 0), (9, AV.str s_2), (13, AV.bool d), (22, AV.sl 3 fl xs), (23, AV.int .i64 len), (24, AV.int .i64 (IntKind.wrap .i64 (i + 1))), (25, AV.bool (decide (i < len)))], b := [(8, [AV.int .i64 n, AV.int .i64 n_1, AV.str s_1])], r := [], g := [], rd := [], wr := [] } else none else none))) else none else zOp (Option.map AV.str (bytesOf bs)) fun x => zSt x fun s => some (AV.tup [AV.str s, AV.int .i64 0], []) := by kernel_rfl
theorem u8_wrap {n : Int} (h0 : 0 ≤ n) (h1 : n ≤ 255) : IntKind.wrap .u8 n = n := by
 simp [IntKind.wrap, IntKind.bits, IntKind.signed]
 omega
theorem putw_loop (k : Nat) (hk : 12 ≤ k) (fl d : Bool) (s0 : List UInt8) (l : List Wr) (hl : l.length ≤ 1000) (hb : l.any badW = false) : ∀ (dd i m : Nat) (acc : List UInt8) (st : St), i + dd = l.length → dd < m → acc.length ≤ 12 * i + 12 → st.clean (zDe 11 0) = putwS fl d (l.map wrV) (ofBytes acc) s0 l.length i →
  loopA (zBy (evF pr k) 11 0 k) (zDe 11 0) (zCt (evF pr k) 11 0 k 0) m st = some (.tup [.str (acc ++ (l.drop i).flatMap wrB), .int .i64 0], []) := by
 intro dd
 induction dd with
 | zero =>
  intro i m acc st hi hm ha hst
  obtain ⟨m, rfl⟩ : ∃ m', m = m' + 1 := ⟨m - 1, by omega⟩
  have h1 : l.drop i = [] := List.drop_eq_nil_of_le (by omega)
  rw [loopA_succ, hst, putw_body, decide_eq_false (by omega), h1, bytesOf_ofBytes]
  simp [zOp, zSt]
 | succ dd ih =>
  intro i m acc st hi hm ha hst
  obtain ⟨m, rfl⟩ : ∃ m', m = m' + 1 := ⟨m - 1, by omega⟩
  have hlt : i < l.length := by omega
  have hbi : badW l[i] = false := by
   cases hc : badW l[i] with
   | false => rfl
   | true =>
    have : l.any badW = true := List.any_eq_true.2 ⟨l[i], List.getElem_mem hlt, hc⟩
    rw [hb] at this
    exact absurd this (by simp)
  have hg := badW_not hbi
  have hlen := wrB_length hbi
  rw [loopA_succ, hst, putw_body, decide_eq_true (show (i : Int) < l.length by omega), decide_eq_true (show (0 : Int) ≤ i by omega), getWr l i hlt, List.drop_eq_getElem_cons hlt, List.flatMap_cons]
  simp only [cond_true, zOp, zAg, zCo, zIn, zSt, if_true, zNi]
  rw [e38 k (by omega) _ (by omega)]
  simp only [zRe, zTu, zCo, zSt, zIn, if_true, zNi]
  generalize l[i] = w at *
  rw [u8_wrap (by omega) (by omega), u8_wrap (by omega) (by omega)]
  have e1 : [AV.int .u8 w.1, AV.int .u8 w.2.1] = ofBytes [UInt8.ofNat w.1.toNat, UInt8.ofNat w.2.1.toNat] := by
   have a1 : ((UInt8.ofNat w.1.toNat).toNat : Int) = w.1 := by simp; omega
   have a2 : ((UInt8.ofNat w.2.1.toNat).toNat : Int) = w.2.1 := by simp; omega
   simp only [ofBytes, List.map_cons, List.map_nil, a1, a2]
  rw [e1, ofBytes_append, ofBytes_append]
  have hle : (wrB w).length = 2 + (be 2 w.2.2.length ++ w.2.2).length := by
   unfold wrB
   rw [List.length_append]
   simp only [List.length_cons, List.length_nil]
  rw [decide_eq_true (by
   refine ⟨trivial, fitsB_small ?_, ?_⟩ <;> simp only [ofBytes, List.length_map, List.length_cons, List.length_nil] <;> omega)]
  rw [decide_eq_true (by
   refine ⟨trivial, fitsB_small ?_, ?_⟩ <;> simp only [ofBytes, List.length_map, List.length_append, List.length_cons, List.length_nil] at hle ⊢ <;> omega)]
  simp only [cond_true]
  rw [wrap_small (n := (i : Int) + 1) (by omega) (by omega)]
  have hacc : acc ++ wrB w = acc ++ [UInt8.ofNat w.1.toNat, UInt8.ofNat w.2.1.toNat] ++ (be 2 w.2.2.length ++ w.2.2) := by rw [wrB, List.append_assoc]
  refine (ih (i + 1) m (acc ++ wrB w) _ (by omega) (by omega) (by rw [List.length_append]; omega) (by rw [hacc]; kernel_rfl)).trans ?_
  rw [List.append_assoc]
theorem wOk_parts {l : List Wr} (h : wOk l = true) : l.length ≤ 128 ∧ sortedW l = true ∧ l.any badW = false := by
 unfold wOk at h
 simp only [Bool.and_eq_true, decide_eq_true_eq, Bool.not_eq_true'] at h
 exact ⟨h.1, h.2.1, h.2.2⟩
theorem e11 (k : Nat) (fl : Bool) (l : List Wr) (hk : 230 ≤ k) : evF pr k 11 [.sl 3 fl (l.map wrV)] [] = some (if wOk l then .tup [.str (putW l), .int .i64 0] else .tup [.str [], .int .i64 1], []) := by
 obtain ⟨k, rfl⟩ : ∃ m, k = m + 1 := ⟨k - 1, by omega⟩
 rw [ev_step _ _ _ _ (by kernel_rfl), putw_tree, List.length_map, e36 k fl l (by omega)]
 simp only [zRe, zBo, zNi]
 cases hok : wOk l with
 | false => rfl
 | true =>
  obtain ⟨h1, h2, h3⟩ := wOk_parts hok
  rw [show (2 : Int) = ((2 : Nat) : Int) from rfl, e37 k (by omega) _ (by omega) 2 (by omega) (by omega), putV_small l.length 2 (by omega) (by omega) (by omega)]
  simp only [Bool.not_true, cond_false, zRe, zTu, zCo, zSt, zIn, if_true, zNi]
  rw [decide_eq_true (by rw [be_length]; omega)]
  exact putw_loop k (by omega) fl false (be 2 l.length) l (by omega) h3 l.length 0 k (be 2 l.length) _ (Nat.zero_add _) (by omega) (by rw [be_length]; omega) (by kernel_rfl)
def wr1 (s : List UInt8) : Option (Wr × List UInt8) := match num 1 s with
 | none => none
 | some (v, s1) => match num 1 s1 with
  | none => none
  | some (b, s2) => match takeT s2 with
   | none => none
   | some (d, s3) => some (((v : Int), (b : Int), d), s3)
def wrs : Nat → List UInt8 → Option (List Wr × List UInt8)
 | 0, s => some ([], s)
 | n + 1, s => match wr1 s with
  | none => none
  | some (w, t) => match wrs n t with
   | none => none
   | some (l, u) => some (w :: l, u)
def takeW (s : List UInt8) : Option (List Wr × List UInt8) := match num 2 s with
 | none => none
 | some (n, t) => match wrs n t with
  | none => none
  | some (l, u) => if wOk l then some (l, u) else none
def rwritesS (s : List UInt8) (b : Bool) (v : AV) (n i : Int) : St := ⟨61, [(0, AV.ptr 1000000 0 0), (2, AV.sl 0 true []), (3, v), (9, AV.int .i64 n), (10, AV.int .i64 i)], [(1000000, [AV.str s, AV.bool b])], [], [], [], []⟩
theorem rwrites_tree (F : Fns) (N : Nat) (s : List UInt8) (b : Bool) : runOf F 42 N [.ptr 0 0 0] [[.str s, .bool b]] =
 zRe (F 49 [AV.ptr 0 0 0, AV.int .i64 2] [[AV.str s, AV.bool b]]) fun v bs => zIn .i64 v fun n => zCo bs fun v r => zCo v fun v r_1 => zSt v fun s => zCo r_1 fun v r_2 => zBo v fun b => zNi r_2 (zNi r (loopA (zBy F 42 0 N) (zDe 42 0) (zCt F 42 0 N 1) N { nt := 61, t := [(0, AV.ptr (1000000 + 0) 0 0), (2, AV.sl 0 true []), (3, AV.sl 0 true []), (9, AV.int .i64 n), (10, AV.int .i64 0)], b := [(1000000, [AV.str s, AV.bool b])], r := [], g := [], rd := [], wr := [] })) := by kernel_rfl
theorem rwrites_body0 (F : Fns) (N : Nat) (s : List UInt8) (b : Bool) (n i : Int) (KN : St → Res) : zBy F 42 0 N (rwritesS s b (.sl 0 true []) n i) (brk (zCt F 42 0 N 1) KN) =
 bif decide (i < n) then zRe (F 49 [AV.ptr 0 0 0, AV.int .i64 1] [[AV.str s, AV.bool b]]) fun v bs => zIn .i64 v fun n_1 => zCo bs fun v r => zCo v fun v r_1 => zSt v fun s => zCo r_1 fun v r_2 => zBo v fun b => zNi r_2 (zNi r (zRe (F 49 [AV.ptr 0 0 0, AV.int .i64 1] [[AV.str s, AV.bool b]]) fun v bs => zIn .i64 v fun n_2 => zCo bs fun v r => zCo v fun v r_3 => zSt v fun s => zCo r_3 fun v r_4 => zBo v fun b => zNi r_4 (zNi r (zRe (F 85 [AV.str s] []) fun v bs => zTu v fun cs => zCo cs fun v r => zSt v fun s_1 => zCo r fun v r => zSt v fun s_2 => zCo r fun v r => zIn .i64 v fun n_3 => zNi r (zNi bs (bif b then some (AV.sl 0 true [], [[AV.str s, AV.bool true]]) else bif n_3 != 0 then some (AV.sl 0 true [], [[AV.str s, AV.bool true]]) else KN { nt := 61, t := [(0, AV.ptr 1000000 0 0), (2, AV.sl 0 true []), (3, AV.tip 46 0 3 [AV.agg [AV.int .i64 n_1, AV.int .i64 n_2, AV.str s_1]]), (4, AV.ptr 4 0 0), (5, AV.str s_1), (6, AV.str s_2), (7, AV.int .i64 n_3), (9, AV.int .i64 n), (10, AV.int .i64 (IntKind.wrap .i64 (i + 1))), (11, AV.bool (decide (i < n))), (33, AV.bool (n_3 != 0))], b := [(4, [AV.int .i64 n_1, AV.int .i64 n_2, AV.str s_1]), (1000000, [AV.str s_2, AV.bool b])], r := [], g := [], rd := [], wr := [] })))))) else bif b then some (AV.sl 0 true [], [[AV.str s, AV.bool true]]) else zRe (F 36 [AV.sl 0 true []] []) fun v bs => zBo v fun b => zNi bs (some (AV.sl 0 true [], [[AV.str s, AV.bool !b]])) := by kernel_rfl
theorem rwrites_body1 (F : Fns) (N : Nat) (s : List UInt8) (b : Bool) (n i : Int) (ys : List AV) (KN : St → Res) : zBy F 42 0 N (rwritesS s b (.tip 46 0 3 ys) n i) (brk (zCt F 42 0 N 1) KN) =
 bif decide (i < n) then zRe (F 49 [AV.ptr 0 0 0, AV.int .i64 1] [[AV.str s, AV.bool b]]) fun v bs => zIn .i64 v fun n_1 => zCo bs fun v r => zCo v fun v r_1 => zSt v fun s_1 => zCo r_1 fun v r_2 => zBo v fun b_1 => zNi r_2 (zNi r (zRe (F 49 [AV.ptr 0 0 0, AV.int .i64 1] [[AV.str s_1, AV.bool b_1]]) fun v bs => zIn .i64 v fun n_2 => zCo bs fun v r => zCo v fun v r_3 => zSt v fun s_2 => zCo r_3 fun v r_4 => zBo v fun b_2 => zNi r_4 (zNi r (zRe (F 85 [AV.str s_2] []) fun v bs => zTu v fun cs => zCo cs fun v r => zSt v fun s_3 => zCo r fun v r => zSt v fun s_4 => zCo r fun v r => zIn .i64 v fun n_3 => zNi r (zNi bs (bif b_2 then some (AV.sl 0 true [], [[AV.str s_2, AV.bool true]]) else bif n_3 != 0 then some (AV.sl 0 true [], [[AV.str s_2, AV.bool true]]) else bif decide (3 = 3 ∧ fitsB (List.length ys + List.length [AV.agg [AV.int .i64 n_1, AV.int .i64 n_2, AV.str s_3]]) 32 = true ∧ List.length ys + List.length [AV.agg [AV.int .i64 n_1, AV.int .i64 n_2, AV.str s_3]] ≤ 4611686018427387904) then KN { nt := 61, t := [(0, AV.ptr 1000000 0 0), (2, AV.sl 0 true []), (3, AV.tip 46 0 3 (ys ++ [AV.agg [AV.int .i64 n_1, AV.int .i64 n_2, AV.str s_3]])), (4, AV.ptr 4 0 0), (5, AV.str s_3), (6, AV.str s_4), (7, AV.int .i64 n_3), (9, AV.int .i64 n), (10, AV.int .i64 (IntKind.wrap .i64 (i + 1))), (11, AV.bool (decide (i < n))), (33, AV.bool (n_3 != 0))], b := [(4, [AV.int .i64 n_1, AV.int .i64 n_2, AV.str s_3]), (1000000, [AV.str s_4, AV.bool b_2])], r := [], g := [], rd := [], wr := [] } else none)))))) else bif b then some (AV.sl 3 false ys, [[AV.str s, AV.bool true]]) else zRe (F 36 [AV.sl 3 false ys] []) fun v bs => zBo v fun b => zNi bs (some (AV.sl 3 false ys, [[AV.str s, AV.bool !b]])) := by kernel_rfl
def WriteR (x : Option (List Wr × List UInt8)) (r : Res) : Prop := match x with
 | none => Bad r
 | some (l, s) => r = some (slW l, [[.str s, .bool false]])
def restW (acc : List Wr) (x : Option (List Wr × List UInt8)) : Option (List Wr × List UInt8) := match x with
 | none => none
 | some (l, s) => if wOk (acc ++ l) then some (acc ++ l, s) else none
theorem wr1_none {s : List UInt8} (h : wr1 s = none) : rdB 1 (rdS 1 s false) (rdB 1 s false) = true ∨ (rdB 1 (rdS 1 s false) (rdB 1 s false) = false ∧ takeT (rdS 1 (rdS 1 s false) (rdB 1 s false)) = none) := by
 unfold wr1 at h
 split at h
 ·rename_i h1
  left
  rw [rd_none h1, (rd_bad _ _).1]
 ·rename_i v s1 h1
  obtain ⟨a1, a2, a3⟩ := rd_some h1
  rw [a1, a3]
  split at h
  ·rename_i h2
   left
   exact rd_none h2
  ·rename_i b s2 h2
   obtain ⟨b1, b2, b3⟩ := rd_some h2
   right
   rw [b1, b3]
   refine ⟨rfl, ?_⟩
   split at h
   ·assumption
   ·simp at h
theorem wr1_some {s : List UInt8} {w : Wr} {t : List UInt8} (h : wr1 s = some (w, t)) : rdB 1 (rdS 1 s false) (rdB 1 s false) = false ∧ takeT (rdS 1 (rdS 1 s false) (rdB 1 s false)) = some (w.2.2, t) ∧ (rdN 1 s false : Int) = w.1 ∧ (rdN 1 (rdS 1 s false) (rdB 1 s false) : Int) = w.2.1 := by
 unfold wr1 at h
 split at h
 ·simp at h
 ·rename_i v s1 h1
  obtain ⟨a1, a2, a3⟩ := rd_some h1
  rw [a1, a2, a3]
  split at h
  ·simp at h
  ·rename_i b s2 h2
   obtain ⟨b1, b2, b3⟩ := rd_some h2
   rw [b1, b2, b3]
   split at h
   ·simp at h
   ·rename_i d s3 h3
    simp only [Option.some.injEq, Prod.mk.injEq] at h
    obtain ⟨rfl, rfl⟩ := h
    exact ⟨rfl, h3, rfl, rfl⟩
theorem rwrites_loop (k : Nat) (hk : 140 ≤ k) (n : Nat) (hn : n ≤ 65536) : ∀ (dd i m : Nat) (acc : List Wr) (s : List UInt8) (st : St), i + dd = n → dd < m → acc ≠ [] → acc.length = i → st.clean (zDe 42 0) = rwritesS s false (.tip 46 0 3 (acc.map wrV)) n i →
  WriteR (restW acc (wrs dd s)) (loopA (zBy (evF pr k) 42 0 k) (zDe 42 0) (zCt (evF pr k) 42 0 k 1) m st) := by
 intro dd
 induction dd with
 | zero =>
  intro i m acc s st hi hm ha hl hst
  obtain ⟨m, rfl⟩ : ∃ m', m = m' + 1 := ⟨m - 1, by omega⟩
  rw [loopA_succ, hst, rwrites_body1, decide_eq_false (by omega), e36 k false acc hk]
  simp only [cond_false, cond_true, zRe, zBo, zNi, wrs, restW, List.append_nil]
  cases wOk acc with
  | false => exact ⟨_, _, _, _, rfl⟩
  | true =>
   show _ = some (slW acc, _)
   rw [slW, if_neg ha]
   rfl
 | succ dd ih =>
  intro i m acc s st hi hm ha hl hst
  obtain ⟨m, rfl⟩ : ∃ m', m = m' + 1 := ⟨m - 1, by omega⟩
  rw [loopA_succ, hst, rwrites_body1, decide_eq_true (show (i : Int) < n by omega), show (1 : Int) = ((1 : Nat) : Int) from rfl, e49 k (by omega) s false 1 (by omega) (by omega)]
  simp only [cond_true, zRe, zBo, zNi, zIn, if_true, zCo, zSt]
  rw [e49 k (by omega) _ _ 1 (by omega) (by omega)]
  simp only [zRe, zBo, zNi, zIn, if_true, zCo, zSt]
  rw [e85 k (by omega), wrs]
  cases h1 : wr1 s with
  | none =>
   rcases wr1_none h1 with h | ⟨h, h2⟩
   ·rw [h]
    cases takeT (rdS 1 (rdS 1 s false) (rdB 1 s false)) with
    | none => exact ⟨_, _, _, _, rfl⟩
    | some q => exact ⟨_, _, _, _, rfl⟩
   ·rw [h, h2]
    exact ⟨_, _, _, _, rfl⟩
  | some p =>
   obtain ⟨w, t⟩ := p
   obtain ⟨r1, r2, r3, r4⟩ := wr1_some h1
   rw [r1, r2, r3, r4]
   simp only [zTu, zCo, zSt, zIn, if_true, zNi, cond_false, show ((0 : Int) != 0) = false from rfl]
   rw [decide_eq_true (by
    refine ⟨trivial, fitsB_small ?_, ?_⟩ <;> simp only [List.length_map, List.length_cons, List.length_nil] <;> omega)]
   simp only [cond_true]
   rw [show IntKind.wrap .i64 ((i : Int) + ((1 : Nat) : Int)) = ((i + 1 : Nat) : Int) by rw [wrap_small (by omega) (by omega)]; omega]
   have := ih (i + 1) m (acc ++ [w]) t ⟨61, [(0, AV.ptr 1000000 0 0), (2, AV.sl 0 true []), (3, AV.tip 46 0 3 (acc.map wrV ++ [AV.agg [AV.int .i64 w.1, AV.int .i64 w.2.1, AV.str w.2.2]])), (4, AV.ptr 4 0 0), (5, AV.str w.2.2), (6, AV.str t), (7, AV.int .i64 0), (9, AV.int .i64 n), (10, AV.int .i64 ((i + 1 : Nat) : Int)), (11, AV.bool true), (33, AV.bool false)], [(4, [AV.int .i64 w.1, AV.int .i64 w.2.1, AV.str w.2.2]), (1000000, [AV.str t, AV.bool false])], [], [], [], []⟩ (by omega) (by omega) (by simp) (by simp [hl]) (by rw [List.map_append]; kernel_rfl)
   cases h3 : wrs dd t with
   | none => rw [h3] at this; exact this
   | some r =>
    obtain ⟨l, s3⟩ := r
    rw [h3] at this
    simp only [restW, List.append_assoc, List.cons_append, List.nil_append] at this ⊢
    exact this
theorem e42 (k : Nat) (hk : 66000 ≤ k) (s : List UInt8) : WriteR (takeW s) (evF pr k 42 [.ptr 0 0 0] [[.str s, .bool false]]) := by
 obtain ⟨k, rfl⟩ : ∃ m, k = m + 1 := ⟨k - 1, by omega⟩
 rw [ev_step _ _ _ _ (by kernel_rfl), rwrites_tree, show (2 : Int) = ((2 : Nat) : Int) from rfl, e49 k (by omega) s false 2 (by omega) (by omega)]
 simp only [zRe, zBo, zNi, zIn, if_true, zCo, zSt]
 obtain ⟨k', hk'⟩ : ∃ m, k = m + 1 := ⟨k - 1, by omega⟩
 unfold takeW
 cases h1 : num 2 s with
 | none =>
  rw [rd_none h1]
  have : rdN 2 s false = 0 := by simp [rdN, rd_none h1]
  rw [this]
  conv => arg 2; arg 4; rw [hk']
  rw [loopA_succ]
  refine ⟨0, true, [], rdS 2 s false, ?_⟩
  exact rwrites_body0 _ _ (rdS 2 s false) true ((0 : Nat) : Int) 0 _
 | some p =>
  obtain ⟨n, s1⟩ := p
  obtain ⟨r1, r2, r3⟩ := rd_some h1
  have hn := (num_lt h1).1
  rw [r1, r2, r3]
  simp only
  conv => arg 2; arg 4; rw [hk']
  rw [loopA_succ]
  have hb : ∀ x, (x = zBy (evF pr k) 42 0 k (rwritesS s1 false (.sl 0 true []) n 0) (brk (zCt (evF pr k) 42 0 k 1) fun st' => loopA (zBy (evF pr k) 42 0 k) (zDe 42 0) (zCt (evF pr k) 42 0 k 1) k' st')) → WriteR (match wrs n s1 with
   | none => none
   | some (l, s2) => if wOk l then some (l, s2) else none) x := by
   intro x hx
   rw [rwrites_body0] at hx
   cases n with
   | zero =>
    obtain ⟨k2, hk2⟩ : ∃ m, k = m + 6 := ⟨k - 6, by omega⟩
    have h36 : evF pr k 36 [.sl 0 true []] [] = some (.bool true, []) := by rw [hk2]; exact e36nil k2
    rw [hx, h36]
    rfl
   | succ n =>
    rw [hx, decide_eq_true (show (0 : Int) < ((n + 1 : Nat) : Int) by omega), show (1 : Int) = ((1 : Nat) : Int) from rfl, e49 k (by omega) s1 false 1 (by omega) (by omega)]
    simp only [cond_true, zRe, zBo, zNi, zIn, if_true, zCo, zSt]
    rw [e49 k (by omega) _ _ 1 (by omega) (by omega)]
    simp only [zRe, zBo, zNi, zIn, if_true, zCo, zSt]
    rw [e85 k (by omega), wrs]
    cases h1 : wr1 s1 with
    | none =>
     rcases wr1_none h1 with h | ⟨h, h2⟩
     ·rw [h]
      cases takeT (rdS 1 (rdS 1 s1 false) (rdB 1 s1 false)) with
      | none => exact ⟨_, _, _, _, rfl⟩
      | some q => exact ⟨_, _, _, _, rfl⟩
     ·rw [h, h2]
      exact ⟨_, _, _, _, rfl⟩
    | some p =>
     obtain ⟨w, t⟩ := p
     obtain ⟨r1, r2, r3, r4⟩ := wr1_some h1
     rw [r1, r2, r3, r4]
     simp only [zTu, zCo, zSt, zIn, if_true, zNi, cond_false, show ((0 : Int) != 0) = false from rfl]
     have := rwrites_loop k (by omega) (n + 1) (by omega) n 1 k' [w] t ⟨61, [(0, AV.ptr 1000000 0 0), (2, AV.sl 0 true []), (3, AV.tip 46 0 3 [AV.agg [AV.int .i64 w.1, AV.int .i64 w.2.1, AV.str w.2.2]]), (4, AV.ptr 4 0 0), (5, AV.str w.2.2), (6, AV.str t), (7, AV.int .i64 0), (9, AV.int .i64 ((n + 1 : Nat) : Int)), (10, AV.int .i64 (IntKind.wrap .i64 (0 + ((1 : Nat) : Int)))), (11, AV.bool true), (33, AV.bool false)], [(4, [AV.int .i64 w.1, AV.int .i64 w.2.1, AV.str w.2.2]), (1000000, [AV.str t, AV.bool false])], [], [], [], []⟩ (by omega) (by omega) (by simp) rfl (by kernel_rfl)
     cases h3 : wrs n t with
     | none => rw [h3] at this; exact this
     | some r =>
      obtain ⟨l, s4⟩ := r
      rw [h3] at this
      exact this
  exact hb _ (by kernel_rfl)
theorem takew_tree (F : Fns) (N : Nat) (s : List UInt8) : runOf F 14 N [.str s] [] =
 zRe (F 42 [AV.ptr 0 0 0] [[AV.str s, AV.bool false]]) fun v bs => asSl v fun m fl xs => zCo bs fun v r => zCo v fun v r_1 => zSt v fun s => zCo r_1 fun v r_2 => zBo v fun b => zNi r_2 (zNi r (bif b then some (AV.tup [AV.sl 0 true [], AV.str [], AV.int .i64 3], []) else some (AV.tup [AV.sl m fl xs, AV.str s, AV.int .i64 0], []))) := by kernel_rfl
def TakeWR (x : Option (List Wr × List UInt8)) : Res := match x with
 | none => some (.tup [.sl 0 true [], .str [], .int .i64 3], [])
 | some (l, s) => some (.tup [slW l, .str s, .int .i64 0], [])
theorem e14 (k : Nat) (hk : 66001 ≤ k) (s : List UInt8) : evF pr k 14 [.str s] [] = TakeWR (takeW s) := by
 obtain ⟨k, rfl⟩ : ∃ m, k = m + 1 := ⟨k - 1, by omega⟩
 rw [ev_step _ _ _ _ (by kernel_rfl), takew_tree]
 have h := e42 k (by omega) s
 cases ht : takeW s with
 | none =>
  rw [ht] at h
  obtain ⟨m, fl, xs, s', h⟩ := h
  rw [h]
  rfl
 | some p =>
  obtain ⟨l, s'⟩ := p
  rw [ht] at h
  have h : _ = some (slW l, _) := h
  rw [h]
  show _ = some (AV.tup [slW l, .str s', .int .i64 0], [])
  unfold slW
  split <;> rfl
theorem getD_map (s : List UInt8) (p : Nat) (h : p < s.length) : Option.map (fun b => AV.int .u8 ((UInt8.toNat b : Nat) : Int)) s[Int.toNat (p : Int)]? = some (AV.int .u8 ((s.getD p 0).toNat : Int)) := by
 rw [Int.toNat_natCast, List.getElem?_eq_getElem h, List.getD_eq_getElem?_getD, List.getElem?_eq_getElem h]
 rfl
theorem byte_i64 (b : UInt8) : IntKind.wrap .i64 ((b.toNat : Nat) : Int) = ((b.toNat : Nat) : Int) := by
 have := b.toNat_lt
 exact wrap_small (by omega) (by omega)
theorem num_be (w n : Nat) (t : List UInt8) (h : n < 256 ^ w) (h2 : n < 9223372036854775808) : num w (be w n ++ t) = some (n, t) := by
 have hl : (be w n).length = w := be_length w n
 have ht : (be w n ++ t).take w = be w n := by rw [List.take_append_of_le_length (by omega), List.take_of_length_le (by omega)]
 have hd : (be w n ++ t).drop w = t := by rw [List.drop_append_of_le_length (by omega), List.drop_eq_nil_of_le (by omega), List.nil_append]
 have hu : unbe (be w n) 0 = n := by rw [unbe_be, Nat.zero_mul, Nat.zero_add, Nat.mod_eq_of_lt h]
 have he : numE w (be w n ++ t) = 0 := by
  unfold numE
  rw [if_neg (by rw [List.length_append]; omega), ht, hu, if_neg (by omega)]
 unfold num numN
 rw [if_pos he, if_pos he, ht, hd, hu]
theorem be8_nat (n : Nat) (h : n < 9223372036854775808) : be8 (n : Int) = be 8 n := by
 unfold be8
 rw [show (8 : Int) = ((8 : Nat) : Int) from rfl, putV_small n 8 (by omega) (by omega) (by omega)]
def Fit (l : List (Int × Int)) : Prop := ∀ b ∈ l, 0 ≤ b.1 ∧ b.1 < 9223372036854775808 ∧ 0 ≤ b.2 ∧ b.2 < 9223372036854775808
theorem brs_put : ∀ (l : List (Int × Int)) (t : List UInt8), Fit l → brs l.length (l.flatMap brB ++ t) = some (l, t)
 | [], t, _ => rfl
 | b :: r, t, h => by
  obtain ⟨h1, h2, h3, h4⟩ := h b (List.mem_cons_self ..)
  obtain ⟨e, a⟩ := b
  simp only at h1 h2 h3 h4
  obtain ⟨e, rfl⟩ : ∃ n : Nat, e = n := ⟨e.toNat, by omega⟩
  obtain ⟨a, rfl⟩ : ∃ n : Nat, a = n := ⟨a.toNat, by omega⟩
  have hr := brs_put r t fun c hc => h c (List.mem_cons_of_mem _ hc)
  rw [List.length_cons, List.flatMap_cons, brs, brB, be8_nat e (by omega), be8_nat a (by omega), List.append_assoc, List.append_assoc, num_be 8 e _ (by omega) (by omega)]
  simp only
  rw [num_be 8 a _ (by omega) (by omega)]
  simp only
  rw [hr]
theorem chain_fit : ∀ (l : List (Int × Int)) (e a : Int), 0 ≤ e → 0 ≤ a → chain e a l = true → Fit l
 | [], e, a, _, _, _ => by simp [Fit]
 | b :: r, e, a, he, ha, h => by
  rw [chain, Bool.and_eq_true, decide_eq_true_eq] at h
  obtain ⟨⟨h1, h2, h3, h4⟩, h5⟩ := h
  intro c hc
  rcases List.mem_cons.1 hc with rfl | hc
  ·omega
  ·exact chain_fit r b.1 b.2 (by omega) (by omega) h5 c hc
theorem lined_parts {l : List (Int × Int)} (h : lined l = true) : l.length ≤ 64 ∧ Fit l := by
 cases l with
 | nil => exact ⟨by simp, by simp [Fit]⟩
 | cons b r =>
  have h : lineOk (b :: r) = true := h
  rw [lineOk, Bool.and_eq_true, Bool.and_eq_true, decide_eq_true_eq] at h
  exact ⟨h.1, chain_fit _ 0 0 (by omega) (by omega) h.2.2⟩
theorem takeL_put (l : List (Int × Int)) (t : List UInt8) (h : lined l = true) : takeL (putL l ++ t) = some (l, t) := by
 obtain ⟨h1, h2⟩ := lined_parts h
 have hb : be 1 l.length = [UInt8.ofNat l.length] := by
  rw [be, be, List.nil_append, Nat.mod_eq_of_lt (by omega)]
 have hp : putL l ++ t = be 1 l.length ++ (l.flatMap brB ++ t) := by
  rw [hb, putL, List.cons_append, List.singleton_append]
 unfold takeL
 rw [hp, num_be 1 l.length _ (by omega) (by omega)]
 simp only
 rw [brs_put l t h2]
 simp only [h, if_true]
theorem be1 (n : Nat) (h : n < 256) : be 1 n = [UInt8.ofNat n] := by rw [be, be, List.nil_append, Nat.mod_eq_of_lt h]
theorem takeT_put (d t : List UInt8) (h : d.length < 65536) : takeT (be 2 d.length ++ d ++ t) = some (d, t) := by
 unfold takeT
 rw [List.append_assoc, num_be 2 d.length _ (by omega) (by omega)]
 simp only
 rw [if_neg (by rw [List.length_append]; omega), List.take_append_of_le_length (by omega), List.take_of_length_le (by omega), List.drop_append_of_le_length (by omega), List.drop_eq_nil_of_le (by omega), List.nil_append]
theorem wr1_put (w : Wr) (t : List UInt8) (h : badW w = false) : wr1 (wrB w ++ t) = some (w, t) := by
 obtain ⟨h1, h2, h3, h4, h5⟩ := badW_not h
 obtain ⟨v, b, d⟩ := w
 simp only at h1 h2 h3 h4 h5
 obtain ⟨v, rfl⟩ : ∃ n : Nat, v = n := ⟨v.toNat, by omega⟩
 obtain ⟨b, rfl⟩ : ∃ n : Nat, b = n := ⟨b.toNat, by omega⟩
 have hw : wrB ((v : Int), (b : Int), d) ++ t = be 1 v ++ (be 1 b ++ (be 2 d.length ++ d ++ t)) := by
  rw [be1 v (by omega), be1 b (by omega), wrB]
  simp
 unfold wr1
 rw [hw, num_be 1 v _ (by omega) (by omega)]
 simp only
 rw [num_be 1 b _ (by omega) (by omega)]
 simp only
 rw [takeT_put d t (by omega)]
theorem wrs_put : ∀ (l : List Wr) (t : List UInt8), l.any badW = false → wrs l.length (l.flatMap wrB ++ t) = some (l, t)
 | [], t, _ => rfl
 | w :: r, t, h => by
  rw [List.any_cons, Bool.or_eq_false_iff] at h
  have hr := wrs_put r t h.2
  rw [List.length_cons, List.flatMap_cons, wrs, List.append_assoc, wr1_put w _ h.1]
  simp only
  rw [hr]
theorem takeW_put (l : List Wr) (t : List UInt8) (h : wOk l = true) : takeW (putW l ++ t) = some (l, t) := by
 obtain ⟨h1, h2, h3⟩ := wOk_parts h
 unfold takeW putW
 rw [List.append_assoc, num_be 2 l.length _ (by omega) (by omega)]
 simp only
 rw [wrs_put l t h3]
 simp only [h, if_true]
theorem flatMap_length_le {α : Type} (f : α → List UInt8) (c : Nat) : ∀ l : List α, (∀ a ∈ l, (f a).length ≤ c) → (l.flatMap f).length ≤ c * l.length
 | [], h => by simp
 | a :: r, h => by
  have h1 := h a (List.mem_cons_self ..)
  have h2 := flatMap_length_le f c r fun b hb => h b (List.mem_cons_of_mem _ hb)
  rw [List.flatMap_cons, List.length_append, List.length_cons, Nat.mul_succ]
  omega
theorem putL_length (l : List (Int × Int)) : (putL l).length ≤ 1 + 16 * l.length := by
 have := flatMap_length_le brB 16 l fun b _ => brB_length b
 rw [putL, List.length_cons]
 omega
theorem putW_length {l : List Wr} (h : wOk l = true) : (putW l).length ≤ 2 + 12 * l.length := by
 obtain ⟨h1, h2, h3⟩ := wOk_parts h
 have := flatMap_length_le wrB 12 l fun w hw => wrB_length (by
  cases hc : badW w with
  | false => rfl
  | true =>
   have : l.any badW = true := List.any_eq_true.2 ⟨w, hw, hc⟩
   rw [h3] at this
   exact absurd this (by simp))
 rw [putW, List.length_append, be_length]
 omega
end Go.AM.Ytnhfjkckgicidaa
