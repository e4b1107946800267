/- octet.Get -/
import Derived.Test.YtnhfjkckgicidaaAmTab
import Derived.Test.YtnhfjkckgicidaaAmCont
import Derived.Calls
set_option linter.unusedVariables false
namespace Go.AM.Ytnhfjkckgicidaa
open Go.AM Go.Proofs Go

noncomputable def fxOf (f : Nat) : Fx := match find f fnl with | some fx => fx | none => ⟨default, [], [], []⟩
noncomputable def bodyOf (F : Fns) (f i n : Nat) : St → (Ex → St → Res) → Res := bodyF F tb sh (fxOf f) n i
noncomputable def contOf (F : Fns) (f i n nb : Nat) : Ex → St → Res := contF F tb sh (fxOf f) n i nb
noncomputable def runOf (F : Fns) (f n : Nat) : Over := evFn F tb sh (fxOf f) n
noncomputable def deadOf (f i : Nat) : List Nat := (fxOf f).deadAt (loopAt (fxOf f) i)

/-- A round's end: on, or out. -/
def brk (K : Ex → St → Res) (KN : St → Res) : Ex → St → Res := fun e st => match e with | .normal => KN st | .exit id => K (.exit id) st | .ret => K .ret st
theorem loopA_succ (body : St → (Ex → St → Res) → Res) (dead : List Nat) (K : Ex → St → Res) (n : Nat) (st : St) : loopA body dead K (n + 1) st = body (st.clean dead) (brk K fun st' => loopA body dead K n st') := rfl

/-- One byte taken on. -/
def getOne (acc n : Int) : Int := (IntKind.wrap IntKind.u64
                      ↑(BitVec.toNat
                          (BitVec.ofInt (IntKind.bits IntKind.u64)
                              (IntKind.wrap IntKind.u64 (acc * 2 ^ min (Int.toNat 8) (IntKind.bits IntKind.u64))) |||
                            BitVec.ofInt (IntKind.bits IntKind.u64) (IntKind.wrap IntKind.u64 n))))
def getAcc (acc : Int) : List UInt8 → Int
  | [] => acc
  | b :: r => getAcc (getOne acc b.toNat) r

def getS (s : List UInt8) (acc i : Int) (len : Int) (b : Bool) : St := ⟨31, [(0, AV.str s), (2, AV.int IntKind.i64 0), (3, AV.int IntKind.i64 0), (4, AV.int IntKind.u64 acc), (13, AV.bool b), (15, AV.int IntKind.i64 len), (16, AV.int IntKind.i64 i)], [], [], [], [], []⟩

theorem get_body (F : Fns) (n : Nat) (s : List UInt8) (acc i len : Int) (b : Bool) (K : Ex → St → Res) : bodyOf F 89 0 n (getS s acc i len b) K =
  bif decide (i < len) then
  bif decide (0 ≤ i) then
    onOpt (Option.map (fun b => AV.int IntKind.u8 ↑(UInt8.toNat b)) s[Int.toNat i]?) fun x =>
      asInt IntKind.u8 x fun n =>
        K Ex.normal
          { nt := 31,
            t :=
              [(0, AV.str s), (2, AV.int IntKind.i64 0), (3, AV.int IntKind.i64 0),
                (4, AV.int IntKind.u64 (getOne acc n)),
                (5, AV.int IntKind.i64 i), (13, AV.bool b), (15, AV.int IntKind.i64 len),
                (16, AV.int IntKind.i64 (IntKind.wrap IntKind.i64 (i + 1))), (17, AV.bool (decide (i < len)))],
            b := [], r := [], g := [], rd := [], wr := [] }
  else none
  else
  K (Ex.exit 0)
    { nt := 31,
      t :=
        [(0, AV.str s), (2, AV.int IntKind.i64 0), (3, AV.int IntKind.i64 0), (4, AV.int IntKind.u64 acc),
          (13, AV.bool b), (15, AV.int IntKind.i64 len), (16, AV.int IntKind.i64 i), (17, AV.bool (decide (i < len)))],
      b := [], r := [], g := [], rd := [], wr := [] } := by kernel_rfl

theorem wrap_i64 {n : Int} (h : 0 ≤ n) (h2 : n < 9223372036854775808) : IntKind.wrap IntKind.i64 n = n := by
  simp [IntKind.wrap, IntKind.bits, IntKind.signed]
  omega

theorem get_loop (F : Fns) (n : Nat) (s : List UInt8) (b : Bool) (K : Ex → St → Res) (hs : s.length ≤ 8) : ∀ (d i m : Nat) (acc : Int) (st : St), i + d = s.length → d < m → st.clean (deadOf 89 0) = getS s acc i s.length b →
    loopA (bodyOf F 89 0 n) (deadOf 89 0) K m st = K (.exit 0) ⟨31, [(0, AV.str s), (2, AV.int IntKind.i64 0), (3, AV.int IntKind.i64 0), (4, AV.int IntKind.u64 (getAcc acc (s.drop i))), (13, AV.bool b), (15, AV.int IntKind.i64 s.length), (16, AV.int IntKind.i64 s.length), (17, AV.bool false)], [], [], [], [], []⟩ := by
  intro d
  induction d with
  | zero =>
    intro i m acc st hi hm hst
    obtain ⟨m, rfl⟩ : ∃ m', m = m' + 1 := ⟨m - 1, by omega⟩
    have : i = s.length := by omega
    subst this
    rw [loopA, hst, get_body]
    simp [getAcc]
  | succ d ih =>
    intro i m acc st hi hm hst
    obtain ⟨m, rfl⟩ : ∃ m', m = m' + 1 := ⟨m - 1, by omega⟩
    rw [loopA, hst, get_body]
    have h1 : decide ((i : Int) < s.length) = true := decide_eq_true (by omega)
    have h2 : decide ((0 : Int) ≤ i) = true := decide_eq_true (by omega)
    have hlt : i < s.length := by omega
    rw [h1, h2]
    simp only [cond_true, Int.toNat_natCast, List.getElem?_eq_getElem hlt, Option.map_some, onOpt, asInt, if_true]
    rw [wrap_i64 (by omega) (by omega)]
    rw [ih (i + 1) m (getOne acc (s[i]).toNat) _ (by omega) (by omega) (by kernel_rfl)]
    rw [List.drop_eq_getElem_cons hlt, getAcc]

theorem get_head (F : Fns) (n : Nat) (s : List UInt8) : runOf F 89 n [.str s] [] =
  bif decide (↑(List.length s) < (1 : Int)) then some (AV.tup [AV.int IntKind.i64 0, AV.int IntKind.i64 1], [])
  else
  bif decide (↑(List.length s) > (8 : Int)) then some (AV.tup [AV.int IntKind.i64 0, AV.int IntKind.i64 1], [])
  else loopA (bodyOf F 89 0 n) (deadOf 89 0) (contOf F 89 0 n 0) n (getS s 0 0 ↑(List.length s) (decide (↑(List.length s) > (8 : Int)))) := by kernel_rfl

theorem get_tail (F : Fns) (n : Nat) (s : List UInt8) (acc len : Int) (b : Bool) : contOf F 89 0 n 0 (.exit 0) ⟨31, [(0, AV.str s), (2, AV.int IntKind.i64 0), (3, AV.int IntKind.i64 0), (4, AV.int IntKind.u64 acc), (13, AV.bool b), (15, AV.int IntKind.i64 len), (16, AV.int IntKind.i64 len), (17, AV.bool false)], [], [], [], [], []⟩ =
  bif decide (acc > 9223372036854775807) then some (AV.tup [AV.int IntKind.i64 0, AV.int IntKind.i64 10], [])
  else some (AV.tup [AV.int IntKind.i64 (IntKind.wrap IntKind.i64 acc), AV.int IntKind.i64 0], []) := by kernel_rfl

/-- octet.Get: the number, the error. -/
def getV (s : List UInt8) : Int × Int :=
  if s.length < 1 ∨ s.length > 8 then (0, 1) else if getAcc 0 s > 9223372036854775807 then (0, 10) else (IntKind.wrap IntKind.i64 (getAcc 0 s), 0)

theorem get_spec (F : Fns) (n : Nat) (hn : 8 < n) (s : List UInt8) : runOf F 89 n [.str s] [] = some (.tup [.int .i64 (getV s).1, .int .i64 (getV s).2], []) := by
  rw [get_head]
  unfold getV
  by_cases h1 : s.length < 1
  · have e : decide (↑(List.length s) < (1 : Int)) = true := decide_eq_true (by omega)
    rw [e, if_pos (.inl h1)]
    rfl
  · have e : decide (↑(List.length s) < (1 : Int)) = false := decide_eq_false (by omega)
    rw [e]
    by_cases h2 : s.length > 8
    · have e2 : decide (↑(List.length s) > (8 : Int)) = true := decide_eq_true (by omega)
      rw [e2, if_pos (.inr h2)]
      rfl
    · have e2 : decide (↑(List.length s) > (8 : Int)) = false := decide_eq_false (by omega)
      rw [e2, if_neg (by omega)]
      simp only [cond_false]
      rw [get_loop F n s false _ (by omega) s.length 0 n 0 _ (by omega) (by omega) (by kernel_rfl), get_tail]
      simp only [List.drop_zero]
      by_cases h3 : getAcc 0 s > 9223372036854775807
      · rw [decide_eq_true h3, if_pos h3]; rfl
      · rw [decide_eq_false h3, if_neg h3]; rfl

end Go.AM.Ytnhfjkckgicidaa

set_option linter.unusedVariables false
namespace Go.AM.Ytnhfjkckgicidaa
open Go.AM Go.Proofs Go

def putS (z w : Int) (c : Bool) (b : Bool) (len i : Int) (row : List AV) : St := ⟨48, [(0, AV.int IntKind.i64 z), (1, AV.int IntKind.i64 w), (4, AV.str []), (5, AV.int IntKind.i64 0), (6, AV.row 28 0), (13, AV.bool b), (26, AV.bool c), (30, AV.int IntKind.i64 len), (31, AV.int IntKind.i64 i)], [], [(28, row)], [], [], []⟩
def putByte (z w i : Int) : Int := (IntKind.wrap IntKind.u8
                        (Int.fdiv z
                          (2 ^
                            min
                              (Int.toNat
                                (IntKind.wrap IntKind.i64
                                  (8 * IntKind.wrap IntKind.i64 (IntKind.wrap IntKind.i64 (w - 1) - i))))
                              (IntKind.bits IntKind.i64))))

theorem put_body (F : Fns) (n : Nat) (z w : Int) (c b : Bool) (len i : Int) (row : List AV) (K : Ex → St → Res) : bodyOf F 37 0 n (putS z w c b len i row) K =
  bif decide (i < len) then
  bif decide (0 ≤ IntKind.wrap IntKind.i64 (8 * IntKind.wrap IntKind.i64 (IntKind.wrap IntKind.i64 (w - 1) - i))) then
    bif decide (0 ≤ i ∧ i < ↑(List.length row)) then
      bif decide (Int.toNat i < List.length row) then
        K Ex.normal
          { nt := 48,
            t :=
              [(0, AV.int IntKind.i64 z), (1, AV.int IntKind.i64 w), (4, AV.str []), (5, AV.int IntKind.i64 0),
                (6, AV.row 28 0), (7, AV.int IntKind.i64 i), (13, AV.bool b), (26, AV.bool c),
                (30, AV.int IntKind.i64 len), (31, AV.int IntKind.i64 (IntKind.wrap IntKind.i64 (i + 1))),
                (32, AV.bool (decide (i < len)))],
            b := [],
            r := [(28, List.set row (Int.toNat i) (AV.int IntKind.u8 (putByte z w i)))],
            g := [], rd := [], wr := [] }
      else none
    else none
  else none
  else
  K (Ex.exit 0)
    { nt := 48,
      t :=
        [(0, AV.int IntKind.i64 z), (1, AV.int IntKind.i64 w), (4, AV.str []), (5, AV.int IntKind.i64 0),
          (6, AV.row 28 0), (13, AV.bool b), (26, AV.bool c), (30, AV.int IntKind.i64 len), (31, AV.int IntKind.i64 i),
          (32, AV.bool (decide (i < len)))],
      b := [], r := [(28, row)], g := [], rd := [], wr := [] } := by kernel_rfl

theorem wrap_small {n : Int} (h : -9223372036854775808 ≤ n) (h2 : n < 9223372036854775808) : IntKind.wrap IntKind.i64 n = n := by
  simp [IntKind.wrap, IntKind.bits, IntKind.signed]
  omega

theorem put_loop (F : Fns) (n : Nat) (z : Int) (w : Nat) (c b : Bool) (K : Ex → St → Res) (hw : w ≤ 8) : ∀ (d i m : Nat) (row : List AV) (st : St), i + d = w → row.length = w → d < m → st.clean (deadOf 37 0) = putS z w c b w i row →
    loopA (bodyOf F 37 0 n) (deadOf 37 0) K m st = K (.exit 0) ⟨48, [(0, AV.int IntKind.i64 z), (1, AV.int IntKind.i64 w), (4, AV.str []), (5, AV.int IntKind.i64 0), (6, AV.row 28 0), (13, AV.bool b), (26, AV.bool c), (30, AV.int IntKind.i64 w), (31, AV.int IntKind.i64 w), (32, AV.bool false)], [], [(28, row.take i ++ (List.range' i d).map fun j : Nat => AV.int .u8 (putByte z w (j : Int)))], [], [], []⟩ := by
  intro d
  induction d with
  | zero =>
    intro i m row st hi hr hm hst
    obtain ⟨m, rfl⟩ : ∃ m', m = m' + 1 := ⟨m - 1, by omega⟩
    have : i = w := by omega
    subst this
    rw [loopA, hst, put_body]
    have : row.take i = row := List.take_of_length_le (by omega)
    simp [this]
  | succ d ih =>
    intro i m row st hi hr hm hst
    obtain ⟨m, rfl⟩ : ∃ m', m = m' + 1 := ⟨m - 1, by omega⟩
    rw [loopA, hst, put_body]
    have h1 : decide ((i : Int) < w) = true := decide_eq_true (by omega)
    have h2 : decide (0 ≤ IntKind.wrap IntKind.i64 (8 * IntKind.wrap IntKind.i64 (IntKind.wrap IntKind.i64 ((w : Int) - 1) - i))) = true := decide_eq_true (by
      rw [wrap_small (n := (w : Int) - 1) (by omega) (by omega), wrap_small (n := (w : Int) - 1 - i) (by omega) (by omega), wrap_small (by omega) (by omega)]
      omega)
    have h3 : decide ((0 : Int) ≤ i ∧ (i : Int) < row.length) = true := decide_eq_true (by omega)
    have h4 : decide (Int.toNat i < row.length) = true := decide_eq_true (by omega)
    rw [h1, h2, h3, h4]
    simp only [cond_true, Int.toNat_natCast]
    rw [wrap_small (by omega) (by omega)]
    rw [ih (i + 1) m (row.set i (AV.int .u8 (putByte z w i))) _ (by omega) (by simpa using hr) (by omega) (by kernel_rfl)]
    have e : (row.set i (AV.int .u8 (putByte z w i))).take (i + 1) = row.take i ++ [AV.int .u8 (putByte z w i)] := by
      rw [List.take_add_one, List.take_set_of_le (Nat.le_refl _)]
      simp [show i < row.length by omega]
    rw [e, List.range'_succ, List.map_cons, List.append_assoc]
    rfl

theorem put_tail (F : Fns) (n : Nat) (z w len : Int) (c b : Bool) (row : List AV) : contOf F 37 0 n 0 (.exit 0) ⟨48, [(0, AV.int IntKind.i64 z), (1, AV.int IntKind.i64 w), (4, AV.str []), (5, AV.int IntKind.i64 0), (6, AV.row 28 0), (13, AV.bool b), (26, AV.bool c), (30, AV.int IntKind.i64 len), (31, AV.int IntKind.i64 len), (32, AV.bool false)], [], [(28, row)], [], [], []⟩ =
  onOpt (Option.map AV.str (bytesOf row)) fun x => asStr x fun s => some (AV.tup [AV.str s, AV.int IntKind.i64 0], []) := by kernel_rfl

theorem put_head (F : Fns) (n : Nat) (z w : Int) : runOf F 37 n [.int .i64 z, .int .i64 w] [] =
  bif decide (w < 1) then some (AV.tup [AV.str [], AV.int IntKind.i64 1], [])
  else bif decide (w > 8) then some (AV.tup [AV.str [], AV.int IntKind.i64 1], [])
  else bif decide (z < 0) then some (AV.tup [AV.str [], AV.int IntKind.i64 10], [])
  else bif decide (w < 8) then
    bif decide (0 ≤ IntKind.wrap IntKind.i64 (8 * w)) then
      bif Int.fdiv z (2 ^ min (Int.toNat (IntKind.wrap IntKind.i64 (8 * w))) (IntKind.bits IntKind.i64)) != 0 then some (AV.tup [AV.str [], AV.int IntKind.i64 10], [])
      else bif decide (w = w ∧ 0 ≤ w ∧ w ≤ 9223372036854775807 ∧ fitsB w.toNat 1 = true) then
        loopA (bodyOf F 37 0 n) (deadOf 37 0) (contOf F 37 0 n 0) n (putS z w (Int.fdiv z (2 ^ min (Int.toNat (IntKind.wrap IntKind.i64 (8 * w))) (IntKind.bits IntKind.i64)) != 0) (decide (w > 8)) (List.length (List.replicate w.toNat (AV.int .u8 0))) 0 (List.replicate w.toNat (AV.int .u8 0)))
      else none
    else none
  else bif decide (w = w ∧ 0 ≤ w ∧ w ≤ 9223372036854775807 ∧ fitsB w.toNat 1 = true) then
    loopA (bodyOf F 37 0 n) (deadOf 37 0) (contOf F 37 0 n 0) n (putS z w false (decide (w > 8)) (List.length (List.replicate w.toNat (AV.int .u8 0))) 0 (List.replicate w.toNat (AV.int .u8 0)))
  else none := by kernel_rfl

theorem bytesOf_map (g : Nat → Int) : ∀ l : List Nat, bytesOf (l.map fun j => AV.int .u8 (g j)) = some (l.map fun j => UInt8.ofNat (g j).toNat)
  | [] => rfl
  | a :: r => by simp only [List.map_cons, bytesOf, bytesOf_map g r]

end Go.AM.Ytnhfjkckgicidaa

set_option linter.unusedVariables false
namespace Go.AM

/-- A number's last w bytes. -/
def be : Nat → Nat → List UInt8
  | 0, _ => []
  | w + 1, n => be w (n / 256) ++ [UInt8.ofNat (n % 256)]
/-- The number that bytes are. -/
def unbe : List UInt8 → Nat → Nat
  | [], a => a
  | b :: r, a => unbe r (a * 256 + b.toNat)

theorem be_length : ∀ (w n : Nat), (be w n).length = w
  | 0, _ => rfl
  | w + 1, n => by simp [be, be_length w]

theorem unbe_append (s t : List UInt8) : ∀ a, unbe (s ++ t) a = unbe t (unbe s a) := by
  induction s with
  | nil => intro a; rfl
  | cons b r ih => intro a; simp [unbe, ih]

theorem unbe_be : ∀ (w n a : Nat), unbe (be w n) a = a * 256 ^ w + n % 256 ^ w
  | 0, n, a => by simp [be, unbe, Nat.mod_one]
  | w + 1, n, a => by
    rw [be, unbe_append, unbe_be w]
    simp only [unbe]
    have h : (UInt8.ofNat (n % 256)).toNat = n % 256 := by simp
    rw [h, Nat.pow_succ, Nat.mul_comm (256 ^ w) 256, Nat.mod_mul, Nat.add_mul, ← Nat.mul_assoc, Nat.mul_right_comm]
    omega

theorem unbe_lt : ∀ (s : List UInt8) (a : Nat), unbe s a < (a + 1) * 256 ^ s.length
  | [], a => by simp [unbe]
  | b :: r, a => by
    have := unbe_lt r (a * 256 + b.toNat)
    have hb := b.toNat_lt
    simp only [unbe, List.length_cons, Nat.pow_succ]
    refine Nat.lt_of_lt_of_le this ?_
    rw [Nat.mul_comm (256 ^ r.length) 256, ← Nat.mul_assoc]
    exact Nat.mul_le_mul_right _ (by omega)

theorem unbe_acc : ∀ (s : List UInt8) (a : Nat), unbe s a = a * 256 ^ s.length + unbe s 0
  | [], a => by simp [unbe]
  | b :: r, a => by
    simp only [unbe, List.length_cons, Nat.pow_succ]
    rw [unbe_acc r, unbe_acc r (0 * 256 + b.toNat), Nat.mul_comm (256 ^ r.length) 256, Nat.add_mul, Nat.mul_assoc, Nat.zero_mul, Nat.zero_add, Nat.add_assoc]

theorem be_unbe_append (t : List UInt8) : ∀ (w n : Nat), be (w + t.length) (n * 256 ^ t.length + unbe t 0) = be w n ++ t := by
  generalize hl : t.length = m
  induction m generalizing t with
  | zero => intro w n; have := List.length_eq_zero_iff.1 hl; subst this; simp [unbe]
  | succ m ih' =>
    obtain ⟨r, b, rfl⟩ : ∃ r b, t = r ++ [b] := ⟨t.dropLast, t.getLast (by intro h; simp [h] at hl), (List.dropLast_concat_getLast _).symm⟩
    have hl : r.length = m := by simpa using hl
    have ih := ih' r hl
    subst hl
    intro w n
    have hb := b.toNat_lt
    rw [unbe_append, ← Nat.add_assoc, be]
    simp only [unbe]
    have e1 : (n * 256 ^ (r.length + 1) + (unbe r 0 * 256 + b.toNat)) / 256 = n * 256 ^ r.length + unbe r 0 := by
      rw [Nat.pow_succ, ← Nat.mul_assoc]
      omega
    have e2 : (n * 256 ^ (r.length + 1) + (unbe r 0 * 256 + b.toNat)) % 256 = b.toNat := by
      rw [Nat.pow_succ, ← Nat.mul_assoc]
      omega
    rw [e1, e2, ih]
    simp

theorem be_unbe (t : List UInt8) : be t.length (unbe t 0) = t := by
  have := be_unbe_append t 0 0
  simpa [be] using this

theorem be_map : ∀ (w n : Nat), be w n = (List.range w).map fun j => UInt8.ofNat (n / 256 ^ (w - 1 - j) % 256)
  | 0, n => rfl
  | w + 1, n => by
    rw [be, be_map w, List.range_succ, List.map_append]
    congr 1
    · apply List.map_congr_left
      intro j hj
      rw [List.mem_range] at hj
      rw [Nat.div_div_eq_div_mul, ← Nat.pow_succ']
      congr 4
      omega
    · simp

theorem be_cons : ∀ (w n : Nat), be (w + 1) n = UInt8.ofNat (n / 256 ^ w % 256) :: be w n
  | 0, n => by simp [be]
  | w + 1, n => by
    rw [be, be_cons w (n / 256), be, Nat.div_div_eq_div_mul, ← Nat.pow_succ', List.cons_append]

theorem le_unbe (s : List UInt8) (a : Nat) : a ≤ unbe s a := by
  rw [unbe_acc]
  have : 0 < 256 ^ s.length := Nat.pow_pos (by omega)
  have := Nat.le_mul_of_pos_right a this
  omega

/-- What a number of w bytes is as bytes, and the error. -/
def putV (z w : Int) : List UInt8 × Int :=
  if w < 1 ∨ w > 8 then ([], 1) else if z < 0 then ([], 10) else if z.toNat / 256 ^ w.toNat ≠ 0 then ([], 10) else (be w.toNat z.toNat, 0)
/-- The number that bytes are, and the error. -/
def getV (s : List UInt8) : Int × Int :=
  if s.length < 1 ∨ s.length > 8 then (0, 1) else if unbe s 0 ≥ 9223372036854775808 then (0, 10) else ((unbe s 0 : Nat), 0)

end Go.AM

set_option linter.unusedVariables false
namespace Go.AM.Ytnhfjkckgicidaa
open Go.AM Go.Proofs Go

theorem wrap_u64 {n : Nat} (h : n < 18446744073709551616) : IntKind.wrap IntKind.u64 (n : Int) = n := by
  simp [IntKind.wrap, IntKind.bits, IntKind.signed]
  omega

theorem getOne_aux (a n M : Nat) (h : a < M) (hn : n < 256) : a * 256 + n < M * 256 := by omega

theorem getOne_nat (a n : Nat) (h7 : a < 72057594037927936) (hn : n < 256) : getOne (a : Int) (n : Int) = ((a * 256 + n : Nat) : Int) := by
  have hs : a * 256 + n < 18446744073709551616 := by simpa using getOne_aux a n 72057594037927936 h7 hn
  have ha : a * 256 < 18446744073709551616 := Nat.lt_of_le_of_lt (Nat.le_add_right _ _) hs
  unfold getOne
  have e : ((a : Int) * 2 ^ min (Int.toNat 8) (IntKind.bits IntKind.u64)) = ((a * 256 : Nat) : Int) := by
    have : (2 : Int) ^ min (Int.toNat 8) (IntKind.bits IntKind.u64) = 256 := by decide
    rw [this]
    omega
  rw [e, wrap_u64 (n := a * 256) ha, wrap_u64 (n := n) (by omega)]
  have hb : IntKind.bits IntKind.u64 = 64 := rfl
  rw [hb, BitVec.ofInt_natCast, BitVec.ofInt_natCast, BitVec.toNat_or, BitVec.toNat_ofNat, BitVec.toNat_ofNat, Nat.mod_eq_of_lt ha, Nat.mod_eq_of_lt (show n < 2 ^ 64 by omega)]
  have h8 := Nat.shiftLeft_add_eq_or_of_lt (i := 8) (b := n) (by omega) a
  rw [Nat.shiftLeft_eq] at h8
  have h9 : a * 256 ||| n = a * 256 + n := h8.symm
  rw [h9]
  exact wrap_u64 hs

theorem getAcc_unbe : ∀ (s : List UInt8) (a k : Nat), a < 256 ^ k → k + s.length ≤ 8 → getAcc (a : Int) s = (unbe s a : Nat)
  | [], a, k, h, hk => rfl
  | b :: r, a, k, h, hk => by
    have hb := b.toNat_lt
    simp only [List.length_cons] at hk
    have h7 : a < 256 ^ 7 := Nat.lt_of_lt_of_le h (Nat.pow_le_pow_right (by omega) (by omega))
    rw [getAcc, unbe, getOne_nat a b.toNat (by simpa using h7) hb]
    refine getAcc_unbe r _ (k + 1) ?_ (by omega)
    rw [Nat.pow_succ]
    omega

theorem unbe_lt8 (s : List UInt8) (h : s.length ≤ 8) : unbe s 0 < 18446744073709551616 := by
  have h1 := unbe_lt s 0
  have h2 : 256 ^ s.length ≤ 256 ^ 8 := Nat.pow_le_pow_right (by omega) h
  omega

theorem get_run (F : Fns) (n : Nat) (hn : 8 < n) (s : List UInt8) : runOf F 89 n [.str s] [] = some (.tup [.int .i64 (AM.getV s).1, .int .i64 (AM.getV s).2], []) := by
  rw [get_spec F n hn s]
  have : getV s = AM.getV s := by
    unfold getV AM.getV
    split
    · rfl
    · rename_i h
      have h0 : getAcc 0 s = (unbe s 0 : Nat) := getAcc_unbe s 0 0 (by simp) (by omega)
      rw [h0]
      by_cases h1 : unbe s 0 ≥ 9223372036854775808
      · rw [if_pos (by omega), if_pos h1]
      · rw [if_neg (by omega), if_neg h1, wrap_small (by omega) (by omega)]
  rw [this]

theorem putByte_eq (m w j : Nat) (hw : w ≤ 8) (hj : j < w) : (putByte (m : Int) (w : Int) (j : Int)).toNat = m / 256 ^ (w - 1 - j) % 256 := by
  unfold putByte
  rw [wrap_small (n := (w : Int) - 1) (by omega) (by omega), wrap_small (n := (w : Int) - 1 - j) (by omega) (by omega), wrap_small (by omega) (by omega)]
  have e1 : (8 * ((w : Int) - 1 - (j : Int))).toNat = 8 * (w - 1 - j) := by omega
  have e2 : min (8 * (w - 1 - j)) (IntKind.bits IntKind.i64) = 8 * (w - 1 - j) := Nat.min_eq_left (by have : IntKind.bits IntKind.i64 = 64 := rfl; omega)
  rw [e1, e2]
  have e3 : Int.fdiv (m : Int) ((2 : Int) ^ (8 * (w - 1 - j))) = ((m / 256 ^ (w - 1 - j) : Nat) : Int) := by
    have : ((2 : Int) ^ (8 * (w - 1 - j))) = ((256 ^ (w - 1 - j) : Nat) : Int) := by
      rw [Int.pow_mul]
      simp
    rw [this]
    exact (Int.fdiv_eq_ediv_of_nonneg _ (Int.natCast_nonneg _)).trans (by simp)
  rw [e3]
  generalize m / 256 ^ (w - 1 - j) = q
  simp [IntKind.wrap, IntKind.bits, IntKind.signed]
  omega

theorem bits_fdiv (m w : Nat) (hw : w < 8) : Int.fdiv (m : Int) (2 ^ min (Int.toNat (IntKind.wrap IntKind.i64 (8 * (w : Int)))) (IntKind.bits IntKind.i64)) = ((m / 256 ^ w : Nat) : Int) := by
  rw [wrap_small (by omega) (by omega)]
  have e2 : min (8 * (w : Int)).toNat (IntKind.bits IntKind.i64) = 8 * w := by
    have e1 : (8 * (w : Int)).toNat = 8 * w := by omega
    rw [e1]
    exact Nat.min_eq_left (by have : IntKind.bits IntKind.i64 = 64 := rfl; omega)
  rw [e2]
  have : ((2 : Int) ^ (8 * w)) = ((256 ^ w : Nat) : Int) := by
    rw [Int.pow_mul]
    simp
  rw [this]
  exact (Int.fdiv_eq_ediv_of_nonneg _ (Int.natCast_nonneg _)).trans (by simp)

theorem put_run (F : Fns) (n : Nat) (hn : 8 < n) (z : Int) (hz : z < 9223372036854775808) (w : Nat) (hw1 : 1 ≤ w) (hw : w ≤ 8) : runOf F 37 n [.int .i64 z, .int .i64 w] [] = some (.tup [.str (putV z w).1, .int .i64 (putV z w).2], []) := by
  rw [put_head]
  unfold putV
  rw [decide_eq_false (show ¬ ((w : Int) < 1) by omega), decide_eq_false (show ¬ ((w : Int) > 8) by omega), if_neg (by omega)]
  simp only [cond_false]
  by_cases h0 : z < 0
  · rw [decide_eq_true h0, if_pos h0]; rfl
  obtain ⟨m, rfl⟩ : ∃ m : Nat, z = m := ⟨z.toNat, by omega⟩
  have fin : ∀ c b : Bool, loopA (bodyOf F 37 0 n) (deadOf 37 0) (contOf F 37 0 n 0) n (putS m w c b (List.length (List.replicate ((w : Int).toNat) (AV.int .u8 0))) 0 (List.replicate ((w : Int).toNat) (AV.int .u8 0))) = some (.tup [.str (be w m), .int .i64 0], []) := by
    intro c b
    have hl : (List.length (List.replicate ((w : Int).toNat) (AV.int .u8 0)) : Int) = w := by simp
    rw [hl, put_loop F n m w c b _ hw w 0 n (List.replicate ((w : Int).toNat) (AV.int .u8 0)) _ (by omega) (by simp) (by omega) (by kernel_rfl)]
    rw [put_tail]
    simp only [List.take_zero, List.nil_append]
    rw [bytesOf_map, be_map, ← List.range_eq_range']
    have : (List.range w).map (fun j : Nat => UInt8.ofNat (putByte (m : Int) (w : Int) (j : Int)).toNat) = (List.range w).map fun j => UInt8.ofNat (m / 256 ^ (w - 1 - j) % 256) := by
      apply List.map_congr_left
      intro j hj
      rw [List.mem_range] at hj
      rw [putByte_eq m w j hw hj]
    rw [this]
    rfl
  have hfit : decide (True ∧ 0 ≤ (w : Int) ∧ (w : Int) ≤ 9223372036854775807 ∧ fitsB (w : Int).toNat 1 = true) = true := decide_eq_true ⟨trivial, by omega, by omega, by simp [fitsB, roomB]; omega⟩
  rw [decide_eq_false h0, if_neg h0, hfit]
  simp only [cond_false, cond_true]
  have e1 : (w : Int).toNat = w := by omega
  have e2 : (m : Int).toNat = m := by omega
  by_cases h8 : w < 8
  · have hs : decide (0 ≤ IntKind.wrap IntKind.i64 (8 * (w : Int))) = true := decide_eq_true (by rw [wrap_small (by omega) (by omega)]; omega)
    rw [decide_eq_true (show (w : Int) < 8 by omega), hs, bits_fdiv m w h8]
    simp only [cond_true]
    rw [fin]
    simp only [e1, e2]
    by_cases hq : m / 256 ^ w = 0
    · simp [hq]
    · have : (((m / 256 ^ w : Nat) : Int) != 0) = true := by simp only [bne_iff_ne, ne_eq]; omega
      rw [this, if_pos hq]; rfl
  · have : w = 8 := by omega
    subst this
    rw [decide_eq_false (show ¬ (((8 : Nat) : Int) < 8) by omega)]
    simp only [cond_false]
    rw [fin]
    simp only [e1, e2]
    have : m / 256 ^ 8 = 0 := Nat.div_eq_of_lt (by omega)
    rw [this]
    simp

end Go.AM.Ytnhfjkckgicidaa
