/- octet.Put -/
import Derived.Test.YtnhfjkckgicidaaAmM1
set_option linter.unusedVariables false
namespace Go.AM.Ytnhfjkckgicidaa
open Go.AM Go.Proofs Go

def putS (z w : Int) (c : Bool) (b : Bool) (len i : Int) (row : List AV) : St := ⟨48, [(0, AV.int IntKind.i64 z), (1, AV.int IntKind.i64 w), (4, AV.str []), (5, AV.int IntKind.i64 0), (6, AV.row 28 0), (13, AV.bool b), (26, AV.bool c), (30, AV.int IntKind.i64 len), (31, AV.int IntKind.i64 i)], [], [(28, row)], [], [], []⟩
def putByte (z w i : Int) : Int := (IntKind.wrap IntKind.u8
                        (Int.fdiv z
                          (2 ^
                            min
                              (Int.toNat
                                (IntKind.wrap IntKind.i64
                                  (8 * IntKind.wrap IntKind.i64 (IntKind.wrap IntKind.i64 (w - 1) - i))))
                              (IntKind.bits IntKind.i64))))

theorem put_body (F : Fns) (n : Nat) (z w : Int) (c b : Bool) (len i : Int) (row : List AV) (K : Ex → St → Res) : bodyOf F 37 0 n (putS z w c b len i row) K =
  bif decide (i < len) then
  bif decide (0 ≤ IntKind.wrap IntKind.i64 (8 * IntKind.wrap IntKind.i64 (IntKind.wrap IntKind.i64 (w - 1) - i))) then
    bif decide (0 ≤ i ∧ i < ↑(List.length row)) then
      bif decide (Int.toNat i < List.length row) then
        K Ex.normal
          { nt := 48,
            t :=
              [(0, AV.int IntKind.i64 z), (1, AV.int IntKind.i64 w), (4, AV.str []), (5, AV.int IntKind.i64 0),
                (6, AV.row 28 0), (7, AV.int IntKind.i64 i), (13, AV.bool b), (26, AV.bool c),
                (30, AV.int IntKind.i64 len), (31, AV.int IntKind.i64 (IntKind.wrap IntKind.i64 (i + 1))),
                (32, AV.bool (decide (i < len)))],
            b := [],
            r := [(28, List.set row (Int.toNat i) (AV.int IntKind.u8 (putByte z w i)))],
            g := [], rd := [], wr := [] }
      else none
    else none
  else none
  else
  K (Ex.exit 0)
    { nt := 48,
      t :=
        [(0, AV.int IntKind.i64 z), (1, AV.int IntKind.i64 w), (4, AV.str []), (5, AV.int IntKind.i64 0),
          (6, AV.row 28 0), (13, AV.bool b), (26, AV.bool c), (30, AV.int IntKind.i64 len), (31, AV.int IntKind.i64 i),
          (32, AV.bool (decide (i < len)))],
      b := [], r := [(28, row)], g := [], rd := [], wr := [] } := by kernel_rfl

theorem wrap_small {n : Int} (h : -9223372036854775808 ≤ n) (h2 : n < 9223372036854775808) : IntKind.wrap IntKind.i64 n = n := by
  simp [IntKind.wrap, IntKind.bits, IntKind.signed]
  omega

theorem put_loop (F : Fns) (n : Nat) (z : Int) (w : Nat) (c b : Bool) (K : Ex → St → Res) (hw : w ≤ 8) : ∀ (d i m : Nat) (row : List AV) (st : St), i + d = w → row.length = w → d < m → st.clean (deadOf 37 0) = putS z w c b w i row →
    loopA (bodyOf F 37 0 n) (deadOf 37 0) K m st = K (.exit 0) ⟨48, [(0, AV.int IntKind.i64 z), (1, AV.int IntKind.i64 w), (4, AV.str []), (5, AV.int IntKind.i64 0), (6, AV.row 28 0), (13, AV.bool b), (26, AV.bool c), (30, AV.int IntKind.i64 w), (31, AV.int IntKind.i64 w), (32, AV.bool false)], [], [(28, row.take i ++ (List.range' i d).map fun j : Nat => AV.int .u8 (putByte z w (j : Int)))], [], [], []⟩ := by
  intro d
  induction d with
  | zero =>
    intro i m row st hi hr hm hst
    obtain ⟨m, rfl⟩ : ∃ m', m = m' + 1 := ⟨m - 1, by omega⟩
    have : i = w := by omega
    subst this
    rw [loopA, hst, put_body]
    have : row.take i = row := List.take_of_length_le (by omega)
    simp [this]
  | succ d ih =>
    intro i m row st hi hr hm hst
    obtain ⟨m, rfl⟩ : ∃ m', m = m' + 1 := ⟨m - 1, by omega⟩
    rw [loopA, hst, put_body]
    have h1 : decide ((i : Int) < w) = true := decide_eq_true (by omega)
    have h2 : decide (0 ≤ IntKind.wrap IntKind.i64 (8 * IntKind.wrap IntKind.i64 (IntKind.wrap IntKind.i64 ((w : Int) - 1) - i))) = true := decide_eq_true (by
      rw [wrap_small (n := (w : Int) - 1) (by omega) (by omega), wrap_small (n := (w : Int) - 1 - i) (by omega) (by omega), wrap_small (by omega) (by omega)]
      omega)
    have h3 : decide ((0 : Int) ≤ i ∧ (i : Int) < row.length) = true := decide_eq_true (by omega)
    have h4 : decide (Int.toNat i < row.length) = true := decide_eq_true (by omega)
    rw [h1, h2, h3, h4]
    simp only [cond_true, Int.toNat_natCast]
    rw [wrap_small (by omega) (by omega)]
    rw [ih (i + 1) m (row.set i (AV.int .u8 (putByte z w i))) _ (by omega) (by simpa using hr) (by omega) (by kernel_rfl)]
    have e : (row.set i (AV.int .u8 (putByte z w i))).take (i + 1) = row.take i ++ [AV.int .u8 (putByte z w i)] := by
      rw [List.take_add_one, List.take_set_of_le (Nat.le_refl _)]
      simp [show i < row.length by omega]
    rw [e, List.range'_succ, List.map_cons, List.append_assoc]
    rfl

theorem put_tail (F : Fns) (n : Nat) (z w len : Int) (c b : Bool) (row : List AV) : contOf F 37 0 n 0 (.exit 0) ⟨48, [(0, AV.int IntKind.i64 z), (1, AV.int IntKind.i64 w), (4, AV.str []), (5, AV.int IntKind.i64 0), (6, AV.row 28 0), (13, AV.bool b), (26, AV.bool c), (30, AV.int IntKind.i64 len), (31, AV.int IntKind.i64 len), (32, AV.bool false)], [], [(28, row)], [], [], []⟩ =
  onOpt (Option.map AV.str (bytesOf row)) fun x => asStr x fun s => some (AV.tup [AV.str s, AV.int IntKind.i64 0], []) := by kernel_rfl

theorem put_head (F : Fns) (n : Nat) (z w : Int) : runOf F 37 n [.int .i64 z, .int .i64 w] [] =
  bif decide (w < 1) then some (AV.tup [AV.str [], AV.int IntKind.i64 1], [])
  else bif decide (w > 8) then some (AV.tup [AV.str [], AV.int IntKind.i64 1], [])
  else bif decide (z < 0) then some (AV.tup [AV.str [], AV.int IntKind.i64 10], [])
  else bif decide (w < 8) then
    bif decide (0 ≤ IntKind.wrap IntKind.i64 (8 * w)) then
      bif Int.fdiv z (2 ^ min (Int.toNat (IntKind.wrap IntKind.i64 (8 * w))) (IntKind.bits IntKind.i64)) != 0 then some (AV.tup [AV.str [], AV.int IntKind.i64 10], [])
      else bif decide (w = w ∧ 0 ≤ w ∧ w ≤ 9223372036854775807 ∧ fitsB w.toNat 1 = true) then
        loopA (bodyOf F 37 0 n) (deadOf 37 0) (contOf F 37 0 n 0) n (putS z w (Int.fdiv z (2 ^ min (Int.toNat (IntKind.wrap IntKind.i64 (8 * w))) (IntKind.bits IntKind.i64)) != 0) (decide (w > 8)) (List.length (List.replicate w.toNat (AV.int .u8 0))) 0 (List.replicate w.toNat (AV.int .u8 0)))
      else none
    else none
  else bif decide (w = w ∧ 0 ≤ w ∧ w ≤ 9223372036854775807 ∧ fitsB w.toNat 1 = true) then
    loopA (bodyOf F 37 0 n) (deadOf 37 0) (contOf F 37 0 n 0) n (putS z w false (decide (w > 8)) (List.length (List.replicate w.toNat (AV.int .u8 0))) 0 (List.replicate w.toNat (AV.int .u8 0)))
  else none := by kernel_rfl

theorem bytesOf_map (g : Nat → Int) : ∀ l : List Nat, bytesOf (l.map fun j => AV.int .u8 (g j)) = some (l.map fun j => UInt8.ofNat (g j).toNat)
  | [] => rfl
  | a :: r => by simp only [List.map_cons, bytesOf, bytesOf_map g r]

end Go.AM.Ytnhfjkckgicidaa
