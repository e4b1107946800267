/- octet.Get -/
import Derived.Test.YtnhfjkckgicidaaAmTab
import Derived.Test.YtnhfjkckgicidaaAmCont
set_option linter.unusedVariables false
namespace Go.AM.Ytnhfjkckgicidaa
open Go.AM Go.Proofs Go

noncomputable def fxOf (f : Nat) : Fx := match find f fnl with | some fx => fx | none => ⟨default, [], [], []⟩
noncomputable def bodyOf (F : Fns) (f i n : Nat) : St → (Ex → St → Res) → Res := bodyF F tb sh (fxOf f) n i
noncomputable def contOf (F : Fns) (f i n nb : Nat) : Ex → St → Res := contF F tb sh (fxOf f) n i nb
noncomputable def runOf (F : Fns) (f n : Nat) : Over := evFn F tb sh (fxOf f) n
noncomputable def deadOf (f i : Nat) : List Nat := (fxOf f).deadAt (loopAt (fxOf f) i)

/-- A round's end: on, or out. -/
def brk (K : Ex → St → Res) (KN : St → Res) : Ex → St → Res := fun e st => match e with | .normal => KN st | .exit id => K (.exit id) st | .ret => K .ret st
theorem loopA_succ (body : St → (Ex → St → Res) → Res) (dead : List Nat) (K : Ex → St → Res) (n : Nat) (st : St) : loopA body dead K (n + 1) st = body (st.clean dead) (brk K fun st' => loopA body dead K n st') := rfl

/-- One byte taken on. -/
def getOne (acc n : Int) : Int := (IntKind.wrap IntKind.u64
                      ↑(BitVec.toNat
                          (BitVec.ofInt (IntKind.bits IntKind.u64)
                              (IntKind.wrap IntKind.u64 (acc * 2 ^ min (Int.toNat 8) (IntKind.bits IntKind.u64))) |||
                            BitVec.ofInt (IntKind.bits IntKind.u64) (IntKind.wrap IntKind.u64 n))))
def getAcc (acc : Int) : List UInt8 → Int
  | [] => acc
  | b :: r => getAcc (getOne acc b.toNat) r

def getS (s : List UInt8) (acc i : Int) (len : Int) (b : Bool) : St := ⟨31, [(0, AV.str s), (2, AV.int IntKind.i64 0), (3, AV.int IntKind.i64 0), (4, AV.int IntKind.u64 acc), (13, AV.bool b), (15, AV.int IntKind.i64 len), (16, AV.int IntKind.i64 i)], [], [], [], [], []⟩

theorem get_body (F : Fns) (n : Nat) (s : List UInt8) (acc i len : Int) (b : Bool) (K : Ex → St → Res) : bodyOf F 89 0 n (getS s acc i len b) K =
  bif decide (i < len) then
  bif decide (0 ≤ i) then
    onOpt (Option.map (fun b => AV.int IntKind.u8 ↑(UInt8.toNat b)) s[Int.toNat i]?) fun x =>
      asInt IntKind.u8 x fun n =>
        K Ex.normal
          { nt := 31,
            t :=
              [(0, AV.str s), (2, AV.int IntKind.i64 0), (3, AV.int IntKind.i64 0),
                (4, AV.int IntKind.u64 (getOne acc n)),
                (5, AV.int IntKind.i64 i), (13, AV.bool b), (15, AV.int IntKind.i64 len),
                (16, AV.int IntKind.i64 (IntKind.wrap IntKind.i64 (i + 1))), (17, AV.bool (decide (i < len)))],
            b := [], r := [], g := [], rd := [], wr := [] }
  else none
  else
  K (Ex.exit 0)
    { nt := 31,
      t :=
        [(0, AV.str s), (2, AV.int IntKind.i64 0), (3, AV.int IntKind.i64 0), (4, AV.int IntKind.u64 acc),
          (13, AV.bool b), (15, AV.int IntKind.i64 len), (16, AV.int IntKind.i64 i), (17, AV.bool (decide (i < len)))],
      b := [], r := [], g := [], rd := [], wr := [] } := by kernel_rfl

theorem wrap_i64 {n : Int} (h : 0 ≤ n) (h2 : n < 9223372036854775808) : IntKind.wrap IntKind.i64 n = n := by
  simp [IntKind.wrap, IntKind.bits, IntKind.signed]
  omega

theorem get_loop (F : Fns) (n : Nat) (s : List UInt8) (b : Bool) (K : Ex → St → Res) (hs : s.length ≤ 8) : ∀ (d i m : Nat) (acc : Int) (st : St), i + d = s.length → d < m → st.clean (deadOf 89 0) = getS s acc i s.length b →
    loopA (bodyOf F 89 0 n) (deadOf 89 0) K m st = K (.exit 0) ⟨31, [(0, AV.str s), (2, AV.int IntKind.i64 0), (3, AV.int IntKind.i64 0), (4, AV.int IntKind.u64 (getAcc acc (s.drop i))), (13, AV.bool b), (15, AV.int IntKind.i64 s.length), (16, AV.int IntKind.i64 s.length), (17, AV.bool false)], [], [], [], [], []⟩ := by
  intro d
  induction d with
  | zero =>
    intro i m acc st hi hm hst
    obtain ⟨m, rfl⟩ : ∃ m', m = m' + 1 := ⟨m - 1, by omega⟩
    have : i = s.length := by omega
    subst this
    rw [loopA, hst, get_body]
    simp [getAcc]
  | succ d ih =>
    intro i m acc st hi hm hst
    obtain ⟨m, rfl⟩ : ∃ m', m = m' + 1 := ⟨m - 1, by omega⟩
    rw [loopA, hst, get_body]
    have h1 : decide ((i : Int) < s.length) = true := decide_eq_true (by omega)
    have h2 : decide ((0 : Int) ≤ i) = true := decide_eq_true (by omega)
    have hlt : i < s.length := by omega
    rw [h1, h2]
    simp only [cond_true, Int.toNat_natCast, List.getElem?_eq_getElem hlt, Option.map_some, onOpt, asInt, if_true]
    rw [wrap_i64 (by omega) (by omega)]
    rw [ih (i + 1) m (getOne acc (s[i]).toNat) _ (by omega) (by omega) (by kernel_rfl)]
    rw [List.drop_eq_getElem_cons hlt, getAcc]

theorem get_head (F : Fns) (n : Nat) (s : List UInt8) : runOf F 89 n [.str s] [] =
  bif decide (↑(List.length s) < (1 : Int)) then some (AV.tup [AV.int IntKind.i64 0, AV.int IntKind.i64 1], [])
  else
  bif decide (↑(List.length s) > (8 : Int)) then some (AV.tup [AV.int IntKind.i64 0, AV.int IntKind.i64 1], [])
  else loopA (bodyOf F 89 0 n) (deadOf 89 0) (contOf F 89 0 n 0) n (getS s 0 0 ↑(List.length s) (decide (↑(List.length s) > (8 : Int)))) := by kernel_rfl

theorem get_tail (F : Fns) (n : Nat) (s : List UInt8) (acc len : Int) (b : Bool) : contOf F 89 0 n 0 (.exit 0) ⟨31, [(0, AV.str s), (2, AV.int IntKind.i64 0), (3, AV.int IntKind.i64 0), (4, AV.int IntKind.u64 acc), (13, AV.bool b), (15, AV.int IntKind.i64 len), (16, AV.int IntKind.i64 len), (17, AV.bool false)], [], [], [], [], []⟩ =
  bif decide (acc > 9223372036854775807) then some (AV.tup [AV.int IntKind.i64 0, AV.int IntKind.i64 10], [])
  else some (AV.tup [AV.int IntKind.i64 (IntKind.wrap IntKind.i64 acc), AV.int IntKind.i64 0], []) := by kernel_rfl

/-- octet.Get: the number, the error. -/
def getV (s : List UInt8) : Int × Int :=
  if s.length < 1 ∨ s.length > 8 then (0, 1) else if getAcc 0 s > 9223372036854775807 then (0, 10) else (IntKind.wrap IntKind.i64 (getAcc 0 s), 0)

theorem get_spec (F : Fns) (n : Nat) (hn : 8 < n) (s : List UInt8) : runOf F 89 n [.str s] [] = some (.tup [.int .i64 (getV s).1, .int .i64 (getV s).2], []) := by
  rw [get_head]
  unfold getV
  by_cases h1 : s.length < 1
  · have e : decide (↑(List.length s) < (1 : Int)) = true := decide_eq_true (by omega)
    rw [e, if_pos (.inl h1)]
    rfl
  · have e : decide (↑(List.length s) < (1 : Int)) = false := decide_eq_false (by omega)
    rw [e]
    by_cases h2 : s.length > 8
    · have e2 : decide (↑(List.length s) > (8 : Int)) = true := decide_eq_true (by omega)
      rw [e2, if_pos (.inr h2)]
      rfl
    · have e2 : decide (↑(List.length s) > (8 : Int)) = false := decide_eq_false (by omega)
      rw [e2, if_neg (by omega)]
      simp only [cond_false]
      rw [get_loop F n s false _ (by omega) s.length 0 n 0 _ (by omega) (by omega) (by kernel_rfl), get_tail]
      simp only [List.drop_zero]
      by_cases h3 : getAcc 0 s > 9223372036854775807
      · rw [decide_eq_true h3, if_pos h3]; rfl
      · rw [decide_eq_false h3, if_neg h3]; rfl

end Go.AM.Ytnhfjkckgicidaa
