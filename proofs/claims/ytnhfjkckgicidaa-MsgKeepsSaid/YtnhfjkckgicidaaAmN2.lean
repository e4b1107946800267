/- octet.Get and octet.Put: what they answer, plain. -/
import Derived.Test.YtnhfjkckgicidaaAmM2
import Derived.Test.YtnhfjkckgicidaaAmN1
set_option linter.unusedVariables false
namespace Go.AM.Ytnhfjkckgicidaa
open Go.AM Go.Proofs Go

theorem wrap_u64 {n : Nat} (h : n < 18446744073709551616) : IntKind.wrap IntKind.u64 (n : Int) = n := by
  simp [IntKind.wrap, IntKind.bits, IntKind.signed]
  omega

theorem getOne_aux (a n M : Nat) (h : a < M) (hn : n < 256) : a * 256 + n < M * 256 := by omega

theorem getOne_nat (a n : Nat) (h7 : a < 72057594037927936) (hn : n < 256) : getOne (a : Int) (n : Int) = ((a * 256 + n : Nat) : Int) := by
  have hs : a * 256 + n < 18446744073709551616 := by simpa using getOne_aux a n 72057594037927936 h7 hn
  have ha : a * 256 < 18446744073709551616 := Nat.lt_of_le_of_lt (Nat.le_add_right _ _) hs
  unfold getOne
  have e : ((a : Int) * 2 ^ min (Int.toNat 8) (IntKind.bits IntKind.u64)) = ((a * 256 : Nat) : Int) := by
    have : (2 : Int) ^ min (Int.toNat 8) (IntKind.bits IntKind.u64) = 256 := by decide
    rw [this]
    omega
  rw [e, wrap_u64 (n := a * 256) ha, wrap_u64 (n := n) (by omega)]
  have hb : IntKind.bits IntKind.u64 = 64 := rfl
  rw [hb, BitVec.ofInt_natCast, BitVec.ofInt_natCast, BitVec.toNat_or, BitVec.toNat_ofNat, BitVec.toNat_ofNat, Nat.mod_eq_of_lt ha, Nat.mod_eq_of_lt (show n < 2 ^ 64 by omega)]
  have h8 := Nat.shiftLeft_add_eq_or_of_lt (i := 8) (b := n) (by omega) a
  rw [Nat.shiftLeft_eq] at h8
  have h9 : a * 256 ||| n = a * 256 + n := h8.symm
  rw [h9]
  exact wrap_u64 hs

theorem getAcc_unbe : ∀ (s : List UInt8) (a k : Nat), a < 256 ^ k → k + s.length ≤ 8 → getAcc (a : Int) s = (unbe s a : Nat)
  | [], a, k, h, hk => rfl
  | b :: r, a, k, h, hk => by
    have hb := b.toNat_lt
    simp only [List.length_cons] at hk
    have h7 : a < 256 ^ 7 := Nat.lt_of_lt_of_le h (Nat.pow_le_pow_right (by omega) (by omega))
    rw [getAcc, unbe, getOne_nat a b.toNat (by simpa using h7) hb]
    refine getAcc_unbe r _ (k + 1) ?_ (by omega)
    rw [Nat.pow_succ]
    omega

theorem unbe_lt8 (s : List UInt8) (h : s.length ≤ 8) : unbe s 0 < 18446744073709551616 := by
  have h1 := unbe_lt s 0
  have h2 : 256 ^ s.length ≤ 256 ^ 8 := Nat.pow_le_pow_right (by omega) h
  omega

theorem get_run (F : Fns) (n : Nat) (hn : 8 < n) (s : List UInt8) : runOf F 89 n [.str s] [] = some (.tup [.int .i64 (AM.getV s).1, .int .i64 (AM.getV s).2], []) := by
  rw [get_spec F n hn s]
  have : getV s = AM.getV s := by
    unfold getV AM.getV
    split
    · rfl
    · rename_i h
      have h0 : getAcc 0 s = (unbe s 0 : Nat) := getAcc_unbe s 0 0 (by simp) (by omega)
      rw [h0]
      by_cases h1 : unbe s 0 ≥ 9223372036854775808
      · rw [if_pos (by omega), if_pos h1]
      · rw [if_neg (by omega), if_neg h1, wrap_small (by omega) (by omega)]
  rw [this]

theorem putByte_eq (m w j : Nat) (hw : w ≤ 8) (hj : j < w) : (putByte (m : Int) (w : Int) (j : Int)).toNat = m / 256 ^ (w - 1 - j) % 256 := by
  unfold putByte
  rw [wrap_small (n := (w : Int) - 1) (by omega) (by omega), wrap_small (n := (w : Int) - 1 - j) (by omega) (by omega), wrap_small (by omega) (by omega)]
  have e1 : (8 * ((w : Int) - 1 - (j : Int))).toNat = 8 * (w - 1 - j) := by omega
  have e2 : min (8 * (w - 1 - j)) (IntKind.bits IntKind.i64) = 8 * (w - 1 - j) := Nat.min_eq_left (by have : IntKind.bits IntKind.i64 = 64 := rfl; omega)
  rw [e1, e2]
  have e3 : Int.fdiv (m : Int) ((2 : Int) ^ (8 * (w - 1 - j))) = ((m / 256 ^ (w - 1 - j) : Nat) : Int) := by
    have : ((2 : Int) ^ (8 * (w - 1 - j))) = ((256 ^ (w - 1 - j) : Nat) : Int) := by
      rw [Int.pow_mul]
      simp
    rw [this]
    exact (Int.fdiv_eq_ediv_of_nonneg _ (Int.natCast_nonneg _)).trans (by simp)
  rw [e3]
  generalize m / 256 ^ (w - 1 - j) = q
  simp [IntKind.wrap, IntKind.bits, IntKind.signed]
  omega

theorem bits_fdiv (m w : Nat) (hw : w < 8) : Int.fdiv (m : Int) (2 ^ min (Int.toNat (IntKind.wrap IntKind.i64 (8 * (w : Int)))) (IntKind.bits IntKind.i64)) = ((m / 256 ^ w : Nat) : Int) := by
  rw [wrap_small (by omega) (by omega)]
  have e2 : min (8 * (w : Int)).toNat (IntKind.bits IntKind.i64) = 8 * w := by
    have e1 : (8 * (w : Int)).toNat = 8 * w := by omega
    rw [e1]
    exact Nat.min_eq_left (by have : IntKind.bits IntKind.i64 = 64 := rfl; omega)
  rw [e2]
  have : ((2 : Int) ^ (8 * w)) = ((256 ^ w : Nat) : Int) := by
    rw [Int.pow_mul]
    simp
  rw [this]
  exact (Int.fdiv_eq_ediv_of_nonneg _ (Int.natCast_nonneg _)).trans (by simp)

theorem put_run (F : Fns) (n : Nat) (hn : 8 < n) (z : Int) (hz : z < 9223372036854775808) (w : Nat) (hw1 : 1 ≤ w) (hw : w ≤ 8) : runOf F 37 n [.int .i64 z, .int .i64 w] [] = some (.tup [.str (putV z w).1, .int .i64 (putV z w).2], []) := by
  rw [put_head]
  unfold putV
  rw [decide_eq_false (show ¬ ((w : Int) < 1) by omega), decide_eq_false (show ¬ ((w : Int) > 8) by omega), if_neg (by omega)]
  simp only [cond_false]
  by_cases h0 : z < 0
  · rw [decide_eq_true h0, if_pos h0]; rfl
  obtain ⟨m, rfl⟩ : ∃ m : Nat, z = m := ⟨z.toNat, by omega⟩
  have fin : ∀ c b : Bool, loopA (bodyOf F 37 0 n) (deadOf 37 0) (contOf F 37 0 n 0) n (putS m w c b (List.length (List.replicate ((w : Int).toNat) (AV.int .u8 0))) 0 (List.replicate ((w : Int).toNat) (AV.int .u8 0))) = some (.tup [.str (be w m), .int .i64 0], []) := by
    intro c b
    have hl : (List.length (List.replicate ((w : Int).toNat) (AV.int .u8 0)) : Int) = w := by simp
    rw [hl, put_loop F n m w c b _ hw w 0 n (List.replicate ((w : Int).toNat) (AV.int .u8 0)) _ (by omega) (by simp) (by omega) (by kernel_rfl)]
    rw [put_tail]
    simp only [List.take_zero, List.nil_append]
    rw [bytesOf_map, be_map, ← List.range_eq_range']
    have : (List.range w).map (fun j : Nat => UInt8.ofNat (putByte (m : Int) (w : Int) (j : Int)).toNat) = (List.range w).map fun j => UInt8.ofNat (m / 256 ^ (w - 1 - j) % 256) := by
      apply List.map_congr_left
      intro j hj
      rw [List.mem_range] at hj
      rw [putByte_eq m w j hw hj]
    rw [this]
    rfl
  have hfit : decide (True ∧ 0 ≤ (w : Int) ∧ (w : Int) ≤ 9223372036854775807 ∧ fitsB (w : Int).toNat 1 = true) = true := decide_eq_true ⟨trivial, by omega, by omega, by simp [fitsB, roomB]; omega⟩
  rw [decide_eq_false h0, if_neg h0, hfit]
  simp only [cond_false, cond_true]
  have e1 : (w : Int).toNat = w := by omega
  have e2 : (m : Int).toNat = m := by omega
  by_cases h8 : w < 8
  · have hs : decide (0 ≤ IntKind.wrap IntKind.i64 (8 * (w : Int))) = true := decide_eq_true (by rw [wrap_small (by omega) (by omega)]; omega)
    rw [decide_eq_true (show (w : Int) < 8 by omega), hs, bits_fdiv m w h8]
    simp only [cond_true]
    rw [fin]
    simp only [e1, e2]
    by_cases hq : m / 256 ^ w = 0
    · simp [hq]
    · have : (((m / 256 ^ w : Nat) : Int) != 0) = true := by simp only [bne_iff_ne, ne_eq]; omega
      rw [this, if_pos hq]; rfl
  · have : w = 8 := by omega
    subst this
    rw [decide_eq_false (show ¬ (((8 : Nat) : Int) < 8) by omega)]
    simp only [cond_false]
    rw [fin]
    simp only [e1, e2]
    have : m / 256 ^ 8 = 0 := Nat.div_eq_of_lt (by omega)
    rw [this]
    simp

end Go.AM.Ytnhfjkckgicidaa
