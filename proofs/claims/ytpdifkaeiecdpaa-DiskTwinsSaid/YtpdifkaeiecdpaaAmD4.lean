/- The disk: Read, Write. -/
import Derived.Test.YtpdifkaeiecdpaaAmD3
set_option linter.unusedVariables false
set_option maxRecDepth 100000
namespace Go.AM.Ytpdifkaeiecdpaa
open Go.AM Go.Proofs Go
theorem wrap_id {n : Int} (h1 : -9223372036854775808 ≤ n) (h2 : n < 9223372036854775808) : IntKind.wrap .i64 n = n := by
  simp [IntKind.wrap, IntKind.bits, IntKind.signed]
  omega
def sR (l i k : Int) (a d : Bool) (f : List (List UInt8)) (p : List T77) : St := ⟨57, [(0, .ptr 0 0), (1, .int .i64 i), (4, .str []), (5, .int .i64 0), (6, .int .i64 k), (7, .bool d), (10, .bool (decide (i ≥ ((f.length : Nat) : Int))))], [(0, .box [.int .i64 l, .bool a, .bool d, .vw 100000 9, .vw 100001 77]), (100000, .row 9 f), (100001, .row 77 p)], [0, 100000, 100001]⟩
theorem b15 (N : Nat) (l i k : Int) (a d : Bool) (f : List (List UInt8)) (p : List T77) (KN : St → Option Ret) : bodyF F1 tb fx15 N 0 (sR l i k a d f p) (brk (contF F1 tb fx15 N 0 1) KN) =
  bif decide (k ≥ 0) then bif decide (0 ≤ k ∧ k < ((p.length : Nat) : Int)) then getO p[0 + k.toNat]? fun x => bif x.at_ == i then bif decide (0 ≤ k ∧ k < ((p.length : Nat) : Int)) then getO p[0 + k.toNat]? fun x => some (AV.tup [AV.str x.s, AV.int IntKind.i64 0], [Ob.box [AV.int IntKind.i64 l, AV.bool a, AV.bool d, AV.ow 9 f, AV.ow 77 p]]) else none else KN { nt := 57, t := [(0, AV.ptr 0 0), (1, AV.int IntKind.i64 i), (4, AV.str []), (5, AV.int IntKind.i64 0), (6, AV.int IntKind.i64 (IntKind.i64.wrap (k - 1))), (7, AV.bool d), (10, AV.bool (decide (i ≥ ((f.length : Nat) : Int)))), (29, AV.bool (decide (k ≥ 0))), (41, AV.bool (x.at_ == i))], h := [(0, Ob.box [AV.int IntKind.i64 l, AV.bool a, AV.bool d, AV.vw 100000 9, AV.vw 100001 77]), (100000, Ob.row 9 f), (100001, Ob.row 77 p)], u := [0, 100000, 100001] : St } else none else bif decide (0 ≤ i ∧ i < ((f.length : Nat) : Int)) then getO f[0 + i.toNat]? fun x => some (AV.tup [AV.str x, AV.int IntKind.i64 0], [Ob.box [AV.int IntKind.i64 l, AV.bool a, AV.bool d, AV.ow 9 f, AV.ow 77 p]]) else none := by kernel_rfl
/-- What stands in a sector: the last loose write among the first n, else what is firm. -/
def rdN (p : List T77) (i : Int) (s : List UInt8) : Nat → List UInt8
  | 0 => s
  | n + 1 => match p[n]? with | some x => (bif x.at_ == i then x.s else rdN p i s n) | none => s
theorem l15 (N : Nat) (l i : Int) (a d : Bool) (f : List (List UInt8)) (p : List T77) (hp : p.length < 4611686018427387904) (hi : 0 ≤ i) (s : List UInt8) (hs : f[i.toNat]? = some s) : ∀ (n m : Nat) (st : St), n ≤ p.length → n < m → st.clean (fx15.deadAt (loopAt fx15 0)) = sR l i ((n : Int) - 1) a d f p →
    loopF F1 tb fx15 0 N (contF F1 tb fx15 N 0 1) m st = some (.tup [.str (rdN p i s n), .int .i64 0], dB l a d f p) := by
  have hlt : i < (f.length : Int) := by have := (List.getElem?_eq_some_iff.1 hs).1; omega
  intro n
  induction n with
  | zero =>
    intro m st _ hm hst
    obtain ⟨m, rfl⟩ : ∃ m', m = m' + 1 := ⟨m - 1, by omega⟩
    rw [loopF_succ, hst, b15, decide_eq_false (by omega), decide_eq_true (show 0 ≤ i ∧ i < ((f.length : Nat) : Int) from ⟨hi, hlt⟩)]
    simp only [cond_false, cond_true, Nat.zero_add, hs, getO]
    rfl
  | succ n ih =>
    intro m st hn hm hst
    obtain ⟨m, rfl⟩ : ∃ m', m = m' + 1 := ⟨m - 1, by omega⟩
    have e1 : ((n + 1 : Nat) : Int) - 1 = n := by omega
    rw [e1] at hst
    have hx := List.getElem?_eq_getElem (show n < p.length by omega)
    rw [loopF_succ, hst, b15, decide_eq_true (by omega), decide_eq_true (show 0 ≤ (n : Int) ∧ (n : Int) < ((p.length : Nat) : Int) by omega)]
    simp only [cond_true, Nat.zero_add, Int.toNat_natCast, hx, getO, rdN]
    cases hb : p[n].at_ == i
    · simp only [cond_false]
      refine ih m _ (by omega) (by omega) ?_
      rw [wrap_id (by omega) (by omega)]
      kernel_rfl
    · rfl
end Go.AM.Ytpdifkaeiecdpaa
