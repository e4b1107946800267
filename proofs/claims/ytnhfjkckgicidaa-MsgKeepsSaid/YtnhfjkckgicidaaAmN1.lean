/- Numbers as bytes, the greatest first: plain. -/
import Derived.Calls
set_option linter.unusedVariables false
namespace Go.AM

/-- A number's last w bytes. -/
def be : Nat → Nat → List UInt8
  | 0, _ => []
  | w + 1, n => be w (n / 256) ++ [UInt8.ofNat (n % 256)]
/-- The number that bytes are. -/
def unbe : List UInt8 → Nat → Nat
  | [], a => a
  | b :: r, a => unbe r (a * 256 + b.toNat)

theorem be_length : ∀ (w n : Nat), (be w n).length = w
  | 0, _ => rfl
  | w + 1, n => by simp [be, be_length w]

theorem unbe_append (s t : List UInt8) : ∀ a, unbe (s ++ t) a = unbe t (unbe s a) := by
  induction s with
  | nil => intro a; rfl
  | cons b r ih => intro a; simp [unbe, ih]

theorem unbe_be : ∀ (w n a : Nat), unbe (be w n) a = a * 256 ^ w + n % 256 ^ w
  | 0, n, a => by simp [be, unbe, Nat.mod_one]
  | w + 1, n, a => by
    rw [be, unbe_append, unbe_be w]
    simp only [unbe]
    have h : (UInt8.ofNat (n % 256)).toNat = n % 256 := by simp
    rw [h, Nat.pow_succ, Nat.mul_comm (256 ^ w) 256, Nat.mod_mul, Nat.add_mul, ← Nat.mul_assoc, Nat.mul_right_comm]
    omega

theorem unbe_lt : ∀ (s : List UInt8) (a : Nat), unbe s a < (a + 1) * 256 ^ s.length
  | [], a => by simp [unbe]
  | b :: r, a => by
    have := unbe_lt r (a * 256 + b.toNat)
    have hb := b.toNat_lt
    simp only [unbe, List.length_cons, Nat.pow_succ]
    refine Nat.lt_of_lt_of_le this ?_
    rw [Nat.mul_comm (256 ^ r.length) 256, ← Nat.mul_assoc]
    exact Nat.mul_le_mul_right _ (by omega)

theorem unbe_acc : ∀ (s : List UInt8) (a : Nat), unbe s a = a * 256 ^ s.length + unbe s 0
  | [], a => by simp [unbe]
  | b :: r, a => by
    simp only [unbe, List.length_cons, Nat.pow_succ]
    rw [unbe_acc r, unbe_acc r (0 * 256 + b.toNat), Nat.mul_comm (256 ^ r.length) 256, Nat.add_mul, Nat.mul_assoc, Nat.zero_mul, Nat.zero_add, Nat.add_assoc]

theorem be_unbe_append (t : List UInt8) : ∀ (w n : Nat), be (w + t.length) (n * 256 ^ t.length + unbe t 0) = be w n ++ t := by
  generalize hl : t.length = m
  induction m generalizing t with
  | zero => intro w n; have := List.length_eq_zero_iff.1 hl; subst this; simp [unbe]
  | succ m ih' =>
    obtain ⟨r, b, rfl⟩ : ∃ r b, t = r ++ [b] := ⟨t.dropLast, t.getLast (by intro h; simp [h] at hl), (List.dropLast_concat_getLast _).symm⟩
    have hl : r.length = m := by simpa using hl
    have ih := ih' r hl
    subst hl
    intro w n
    have hb := b.toNat_lt
    rw [unbe_append, ← Nat.add_assoc, be]
    simp only [unbe]
    have e1 : (n * 256 ^ (r.length + 1) + (unbe r 0 * 256 + b.toNat)) / 256 = n * 256 ^ r.length + unbe r 0 := by
      rw [Nat.pow_succ, ← Nat.mul_assoc]
      omega
    have e2 : (n * 256 ^ (r.length + 1) + (unbe r 0 * 256 + b.toNat)) % 256 = b.toNat := by
      rw [Nat.pow_succ, ← Nat.mul_assoc]
      omega
    rw [e1, e2, ih]
    simp

theorem be_unbe (t : List UInt8) : be t.length (unbe t 0) = t := by
  have := be_unbe_append t 0 0
  simpa [be] using this

theorem be_map : ∀ (w n : Nat), be w n = (List.range w).map fun j => UInt8.ofNat (n / 256 ^ (w - 1 - j) % 256)
  | 0, n => rfl
  | w + 1, n => by
    rw [be, be_map w, List.range_succ, List.map_append]
    congr 1
    · apply List.map_congr_left
      intro j hj
      rw [List.mem_range] at hj
      rw [Nat.div_div_eq_div_mul, ← Nat.pow_succ']
      congr 4
      omega
    · simp

theorem be_cons : ∀ (w n : Nat), be (w + 1) n = UInt8.ofNat (n / 256 ^ w % 256) :: be w n
  | 0, n => by simp [be]
  | w + 1, n => by
    rw [be, be_cons w (n / 256), be, Nat.div_div_eq_div_mul, ← Nat.pow_succ', List.cons_append]

theorem le_unbe (s : List UInt8) (a : Nat) : a ≤ unbe s a := by
  rw [unbe_acc]
  have : 0 < 256 ^ s.length := Nat.pow_pos (by omega)
  have := Nat.le_mul_of_pos_right a this
  omega

/-- What a number of w bytes is as bytes, and the error. -/
def putV (z w : Int) : List UInt8 × Int :=
  if w < 1 ∨ w > 8 then ([], 1) else if z < 0 then ([], 10) else if z.toNat / 256 ^ w.toNat ≠ 0 then ([], 10) else (be w.toNat z.toNat, 0)
/-- The number that bytes are, and the error. -/
def getV (s : List UInt8) : Int × Int :=
  if s.length < 1 ∨ s.length > 8 then (0, 1) else if unbe s 0 ≥ 9223372036854775808 then (0, 10) else ((unbe s 0 : Nat), 0)

end Go.AM
