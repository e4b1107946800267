/- A part of the proof: machine and program. -/
import Derived.Test.YtpdifkaeiecdpaaAm18
namespace Go.AM
section
variable [Reg]
/-! parts that the printer has as well -/
def loopsOf : Code → List Code
  | .seq a b => loopsOf a ++ loopsOf b
  | .cond _ a b => loopsOf a ++ loopsOf b
  | .block _ c => loopsOf c
  | .loop c => c :: loopsOf c
  | _ => []
def nLoops (c : Code) : Nat := (loopsOf c).length
noncomputable def contL {ρ : Type} (E : Ev) (fx : Fx) (n : Nat) : Code → Nat → (Ex → St → Option ρ) → Ex → St → Option ρ
  | .seq a b, i, K => bif Nat.blt i (nLoops a) then contL E fx n a i (fun e st' => match e with
      | .normal => evC E fx n b st' K
      | .exit id => K (.exit id) st'
      | .ret => K .ret st') else contL E fx n b (i - nLoops a) K
  | .cond _ a b, i, K => bif Nat.blt i (nLoops a) then contL E fx n a i K else contL E fx n b (i - nLoops a) K
  | .block id c, i, K => contL E fx n c i (fun e st' => match e with
      | .normal => K .normal st'
      | .exit id' => bif Nat.beq id' id then K .normal st' else K (.exit id') st'
      | .ret => K .ret st')
  | _, _, K => K
def loopAt (fx : Fx) (i : Nat) : Code := match fx.fn.body with | some c => (match (loopsOf c)[i]? with | some c => c | none => .skip) | none => .skip
/-- What follows the i-th loop of a function's body (m objects were handed in). -/
noncomputable def contF (F : Fns) (tb : Tb) (fx : Fx) (n : Nat) (i : Nat) (m : Nat) : Ex → St → Option Ret :=
  match fx.fn.body with
  | some c => contL ⟨F, tb, fx.H⟩ fx n c i (endK tb fx.fn fx.ow m)
  | none => fun _ _ => none
/-- The i-th loop's body, one round. -/
noncomputable def bodyF (F : Fns) (tb : Tb) (fx : Fx) (n : Nat) (i : Nat) : St → (Ex → St → Option Ret) → Option Ret := evC ⟨F, tb, fx.H⟩ fx n (loopAt fx i)
/-- What follows loop j of the body of loop i. -/
noncomputable def contB (F : Fns) (tb : Tb) (fx : Fx) (n : Nat) (i j : Nat) (K : Ex → St → Option Ret) : Ex → St → Option Ret := contL ⟨F, tb, fx.H⟩ fx n (loopAt fx i) j K
def brk {ρ : Type} (K : Ex → St → Option ρ) (KN : St → Option ρ) : Ex → St → Option ρ := fun e st => match e with | .normal => KN st | .exit id => K (.exit id) st | .ret => K .ret st
/-- The i-th loop, with all that follows. -/
noncomputable def loopF (F : Fns) (tb : Tb) (fx : Fx) (i : Nat) (N : Nat) (K : Ex → St → Option Ret) (n : Nat) (st : St) : Option Ret := loopA (bodyF F tb fx N i) (fx.deadAt (loopAt fx i)) K n st
/-- .. from a state that is clean. -/
noncomputable def loopG (F : Fns) (tb : Tb) (fx : Fx) (i : Nat) (N : Nat) (K : Ex → St → Option Ret) (n : Nat) (st : St) : Option Ret := loopC (bodyF F tb fx N i) (fx.deadAt (loopAt fx i)) K n st
/-! .. and others -/
def hasR (id : Nat) : Code → Bool
  | .region i _ _ => Nat.beq i id
  | .seq a b => hasR id a || hasR id b
  | .cond _ a b => hasR id a || hasR id b
  | .block _ c => hasR id c
  | .loop c => hasR id c
  | _ => false
/-- What follows a region, by its number. -/
noncomputable def contRL {ρ : Type} (E : Ev) (fx : Fx) (n : Nat) (id : Nat) : Code → (Ex → St → Option ρ) → St → Option ρ
  | .seq a b, K => bif hasR id a then contRL E fx n id a (fun e st' => match e with
      | .normal => evC E fx n b st' K
      | .exit id => K (.exit id) st'
      | .ret => K .ret st') else contRL E fx n id b K
  | .cond _ a b, K => bif hasR id a then contRL E fx n id a K else contRL E fx n id b K
  | .block i c, K => contRL E fx n id c (fun e st' => match e with
      | .normal => K .normal st'
      | .exit id' => bif Nat.beq id' i then K .normal st' else K (.exit id') st'
      | .ret => K .ret st')
  | _, K => K .normal
noncomputable def contR (F : Fns) (tb : Tb) (fx : Fx) (n : Nat) (id : Nat) (m : Nat) : St → Option Ret :=
  match fx.fn.body with
  | some c => contRL ⟨F, tb, fx.H⟩ fx n id c (endK tb fx.fn fx.ow m)
  | none => fun _ => none
/-- .. in the i-th loop's body. -/
noncomputable def contRB (F : Fns) (tb : Tb) (fx : Fx) (n : Nat) (i id : Nat) (K : Ex → St → Option Ret) : St → Option Ret := contRL ⟨F, tb, fx.H⟩ fx n id (loopAt fx i) K
def iterM {V ρ : Type} (T : (V → Option ρ) → V → Option ρ) : Nat → V → Option ρ
  | 0, _ => none
  | n + 1, v => T (iterM T n) v
/-- A loop as a plain function of what its rounds hand on. -/
theorem loopG_iter {F : Fns} {tb : Tb} {fx : Fx} {i N : Nat} {K : Ex → St → Option Ret} {V : Type} {s : V → St} {T : (V → Option Ret) → V → Option Ret}
    (hb : ∀ (KN : St → Option Ret) (v : V), bodyF F tb fx N i (s v) (brk K fun st' => KN (st'.clean (fx.deadAt (loopAt fx i)))) = T (fun v' => KN (s v')) v) :
    ∀ (m : Nat) (v : V), loopG F tb fx i N K m (s v) = iterM T m v
  | 0, _ => rfl
  | m + 1, v => (hb (loopG F tb fx i N K m) v).trans (congrArg (fun r => T r v) (funext fun v' => loopG_iter hb m v'))
theorem loopF_succ (F : Fns) (tb : Tb) (fx : Fx) (i N : Nat) (K : Ex → St → Option Ret) (n : Nat) (st : St) : loopF F tb fx i N K (n + 1) st = bodyF F tb fx N i (st.clean (fx.deadAt (loopAt fx i))) (brk K fun st' => loopF F tb fx i N K n st') := rfl
end
end Go.AM
set_option linter.unusedVariables false
set_option maxRecDepth 100000
namespace Go.AM.Ytpdifkaeiecdpaa
open Go.AM Go.Proofs Go
def dB (l : Int) (a d : Bool) (f : List (List UInt8)) (p : List T77) : List Ob := [.box [.int .i64 l, .bool a, .bool d, .ow 9 f, .ow 77 p]]
def pad (n : Nat) : List UInt8 := List.replicate n 0
def o34 : Over := fun vs os => match vs, os with | [.ptr 0 0], [.box [.int .i64 l, .bool a, .bool d, .ow 9 f, .ow 77 p]] => .br (a && decide (l = 0)) (.ret (.bool false, dB l a true f p)) (.ret (.bool true, dB (bif a then IntKind.wrap .i64 (l - 1) else l) a d f p)) | _, _ => .fail
def o20 : Over := fun vs os => match vs, os with | [.nilp], [] => .ret (.bool true, []) | [.ptr 0 0], [.box [.int .i64 l, .bool a, .bool d, .ow 9 f, .ow 77 p]] => .ret (.bool d, dB l a d f p) | _, _ => .fail
def o33 : Over := fun vs os => match vs, os with | [.str [0], .int .i64 n], [] => .ask (decide (0 ≤ n ∧ n ≤ 32)) (.ret (.str (pad n.toNat), [])) | _, _ => .fail
def F1 : Fns := tabF [(34, o34), (20, o20), (33, o33)]
theorem t34 (l : Int) (a d : Bool) (f : List (List UInt8)) (p : List T77) : evFn (tabF []) tb fx34 0 [.ptr 0 0] (dB l a d f p) =
  bif a then bif l == 0 then some (AV.bool false, [Ob.box [AV.int IntKind.i64 l, AV.bool a, AV.bool true, AV.ow 9 f, AV.ow 77 p]]) else bif a then some (AV.bool true, [Ob.box [AV.int IntKind.i64 (IntKind.i64.wrap (l - 1)), AV.bool a, AV.bool d, AV.ow 9 f, AV.ow 77 p]]) else some (AV.bool true, [Ob.box [AV.int IntKind.i64 l, AV.bool a, AV.bool d, AV.ow 9 f, AV.ow 77 p]]) else bif a then some (AV.bool true, [Ob.box [AV.int IntKind.i64 (IntKind.i64.wrap (l - 1)), AV.bool a, AV.bool d, AV.ow 9 f, AV.ow 77 p]]) else some (AV.bool true, [Ob.box [AV.int IntKind.i64 l, AV.bool a, AV.bool d, AV.ow 9 f, AV.ow 77 p]]) := by kernel_rfl
theorem t20 (l : Int) (a d : Bool) (f : List (List UInt8)) (p : List T77) : evFn (tabF []) tb fx20 0 [.ptr 0 0] (dB l a d f p) =
  some (AV.bool d, [Ob.box [AV.int IntKind.i64 l, AV.bool a, AV.bool d, AV.ow 9 f, AV.ow 77 p]]) := by kernel_rfl
theorem t12 (i l : Int) (s : List UInt8) (a d : Bool) (f : List (List UInt8)) (p : List T77) : evFn F1 tb fx12 0 [.ptr 0 0, .int .i64 i, .str s] (dB l a d f p) =
  bif d then some (AV.int IntKind.i64 7, [Ob.box [AV.int IntKind.i64 l, AV.bool a, AV.bool d, AV.ow 9 f, AV.ow 77 p]]) else bif decide (i < 0) then some (AV.int IntKind.i64 1, [Ob.box [AV.int IntKind.i64 l, AV.bool a, AV.bool d, AV.ow 9 f, AV.ow 77 p]]) else bif decide (i ≥ ((f.length : Nat) : Int)) then some (AV.int IntKind.i64 1, [Ob.box [AV.int IntKind.i64 l, AV.bool a, AV.bool d, AV.ow 9 f, AV.ow 77 p]]) else bif decide (((s.length : Nat) : Int) > 32) then some (AV.int IntKind.i64 5, [Ob.box [AV.int IntKind.i64 l, AV.bool a, AV.bool d, AV.ow 9 f, AV.ow 77 p]]) else bif a && decide (l = 0) then some (AV.int IntKind.i64 7, [Ob.box [AV.int IntKind.i64 l, AV.bool a, AV.bool true, AV.ow 9 f, AV.ow 77 p]]) else bif decide (0 ≤ IntKind.i64.wrap (32 - ((s.length : Nat) : Int)) ∧ IntKind.i64.wrap (32 - ((s.length : Nat) : Int)) ≤ 32) then bif decide (s.length + (pad (IntKind.i64.wrap (32 - ((s.length : Nat) : Int))).toNat).length ≤ big62) then bif fitsB (p.length + [{ at_ := i, s := s ++ pad (IntKind.i64.wrap (32 - ((s.length : Nat) : Int))).toNat : T77 }].length) 24 && decide (p.length + [{ at_ := i, s := s ++ pad (IntKind.i64.wrap (32 - ((s.length : Nat) : Int))).toNat : T77 }].length ≤ big62) then some (AV.int IntKind.i64 0, [Ob.box [AV.int IntKind.i64 (bif a then IntKind.i64.wrap (l - 1) else l), AV.bool a, AV.bool d, AV.ow 9 f, AV.ow 77 (p ++ [{ at_ := i, s := s ++ pad (IntKind.i64.wrap (32 - ((s.length : Nat) : Int))).toNat : T77 }])]]) else none else none else none := by kernel_rfl
theorem t15 (N : Nat) (i l : Int) (a d : Bool) (f : List (List UInt8)) (p : List T77) : evFn F1 tb fx15 N [.ptr 0 0, .int .i64 i] (dB l a d f p) =
  bif d then some (AV.tup [AV.str { data := #[] : ByteArray }.data.toList, AV.int IntKind.i64 7], [Ob.box [AV.int IntKind.i64 l, AV.bool a, AV.bool d, AV.ow 9 f, AV.ow 77 p]]) else bif decide (i < 0) then some (AV.tup [AV.str { data := #[] : ByteArray }.data.toList, AV.int IntKind.i64 1], [Ob.box [AV.int IntKind.i64 l, AV.bool a, AV.bool d, AV.ow 9 f, AV.ow 77 p]]) else bif decide (i ≥ ((f.length : Nat) : Int)) then some (AV.tup [AV.str { data := #[] : ByteArray }.data.toList, AV.int IntKind.i64 1], [Ob.box [AV.int IntKind.i64 l, AV.bool a, AV.bool d, AV.ow 9 f, AV.ow 77 p]]) else loopF F1 tb fx15 0 N (contF F1 tb fx15 N 0 1) N { nt := 57, t := [(0, AV.ptr 0 0), (1, AV.int IntKind.i64 i), (4, AV.str { data := #[] : ByteArray }.data.toList), (5, AV.int IntKind.i64 0), (6, AV.int IntKind.i64 (IntKind.i64.wrap (((p.length : Nat) : Int) - 1))), (7, AV.bool d), (10, AV.bool (decide (i ≥ ((f.length : Nat) : Int))))], h := [(0, Ob.box [AV.int IntKind.i64 l, AV.bool a, AV.bool d, AV.vw 1147587 9, AV.vw 1147588 77]), (1147587, Ob.row 9 f), (1147588, Ob.row 77 p)], u := [1147587, 1147588, 0, 1003, 1004] : St } := by kernel_rfl
end Go.AM.Ytpdifkaeiecdpaa
set_option linter.unusedVariables false
set_option maxRecDepth 100000
namespace Go.AM.Ytpdifkaeiecdpaa
open Go.AM Go.Proofs Go
theorem F0_ok : SoundF Try.prog (tabF []) := SoundF.tab (by simp)
theorem p34 : OverOk Try.prog 34 o34 := OverOk.of F0_ok tb_ok ok34 fun vs os r h => by
  unfold o34 at h
  split at h
  · rename_i l a d f p
    refine ⟨0, (t34 l a d f p).trans (Eq.trans ?_ h)⟩
    have e2 : (l == 0) = decide (l = 0) := by rw [Bool.eq_iff_iff]; simp
    rw [e2]
    by_cases e : l = 0 <;> cases a <;> simp [Q.val, Q.run, dB, e]
  · cases h
theorem p20 : OverOk Try.prog 20 o20 := OverOk.of F0_ok tb_ok ok20 fun vs os r h => by
  unfold o20 at h
  split at h
  · exact ⟨0, Eq.trans (by kernel_rfl) h⟩
  · rename_i l a d f p
    exact ⟨0, (t20 l a d f p).trans h⟩
  · cases h
end Go.AM.Ytpdifkaeiecdpaa
set_option linter.unusedVariables false
set_option maxRecDepth 100000
namespace Go.AM.Ytpdifkaeiecdpaa
open Go.AM Go.Proofs Go
theorem wrap_id {n : Int} (h1 : -9223372036854775808 ≤ n) (h2 : n < 9223372036854775808) : IntKind.wrap .i64 n = n := by
  simp [IntKind.wrap, IntKind.bits, IntKind.signed]
  omega
def sR (l i k : Int) (a d : Bool) (f : List (List UInt8)) (p : List T77) : St := ⟨57, [(0, .ptr 0 0), (1, .int .i64 i), (4, .str []), (5, .int .i64 0), (6, .int .i64 k), (7, .bool d), (10, .bool (decide (i ≥ ((f.length : Nat) : Int))))], [(0, .box [.int .i64 l, .bool a, .bool d, .vw 100000 9, .vw 100001 77]), (100000, .row 9 f), (100001, .row 77 p)], [0, 100000, 100001]⟩
theorem b15 (N : Nat) (l i k : Int) (a d : Bool) (f : List (List UInt8)) (p : List T77) (KN : St → Option Ret) : bodyF F1 tb fx15 N 0 (sR l i k a d f p) (brk (contF F1 tb fx15 N 0 1) KN) =
  bif decide (k ≥ 0) then bif decide (0 ≤ k ∧ k < ((p.length : Nat) : Int)) then getO p[0 + k.toNat]? fun x => bif x.at_ == i then bif decide (0 ≤ k ∧ k < ((p.length : Nat) : Int)) then getO p[0 + k.toNat]? fun x => some (AV.tup [AV.str x.s, AV.int IntKind.i64 0], [Ob.box [AV.int IntKind.i64 l, AV.bool a, AV.bool d, AV.ow 9 f, AV.ow 77 p]]) else none else KN { nt := 57, t := [(0, AV.ptr 0 0), (1, AV.int IntKind.i64 i), (4, AV.str []), (5, AV.int IntKind.i64 0), (6, AV.int IntKind.i64 (IntKind.i64.wrap (k - 1))), (7, AV.bool d), (10, AV.bool (decide (i ≥ ((f.length : Nat) : Int)))), (29, AV.bool (decide (k ≥ 0))), (41, AV.bool (x.at_ == i))], h := [(0, Ob.box [AV.int IntKind.i64 l, AV.bool a, AV.bool d, AV.vw 100000 9, AV.vw 100001 77]), (100000, Ob.row 9 f), (100001, Ob.row 77 p)], u := [0, 100000, 100001] : St } else none else bif decide (0 ≤ i ∧ i < ((f.length : Nat) : Int)) then getO f[0 + i.toNat]? fun x => some (AV.tup [AV.str x, AV.int IntKind.i64 0], [Ob.box [AV.int IntKind.i64 l, AV.bool a, AV.bool d, AV.ow 9 f, AV.ow 77 p]]) else none := by kernel_rfl
/-- What stands in a sector: the last loose write among the first n, else what is firm. -/
def rdN (p : List T77) (i : Int) (s : List UInt8) : Nat → List UInt8
  | 0 => s
  | n + 1 => match p[n]? with | some x => (bif x.at_ == i then x.s else rdN p i s n) | none => s
theorem l15 (N : Nat) (l i : Int) (a d : Bool) (f : List (List UInt8)) (p : List T77) (hp : p.length < 4611686018427387904) (hi : 0 ≤ i) (s : List UInt8) (hs : f[i.toNat]? = some s) : ∀ (n m : Nat) (st : St), n ≤ p.length → n < m → st.clean (fx15.deadAt (loopAt fx15 0)) = sR l i ((n : Int) - 1) a d f p →
    loopF F1 tb fx15 0 N (contF F1 tb fx15 N 0 1) m st = some (.tup [.str (rdN p i s n), .int .i64 0], dB l a d f p) := by
  have hlt : i < (f.length : Int) := by have := (List.getElem?_eq_some_iff.1 hs).1; omega
  intro n
  induction n with
  | zero =>
    intro m st _ hm hst
    obtain ⟨m, rfl⟩ : ∃ m', m = m' + 1 := ⟨m - 1, by omega⟩
    rw [loopF_succ, hst, b15, decide_eq_false (by omega), decide_eq_true (show 0 ≤ i ∧ i < ((f.length : Nat) : Int) from ⟨hi, hlt⟩)]
    simp only [cond_false, cond_true, Nat.zero_add, hs, getO]
    rfl
  | succ n ih =>
    intro m st hn hm hst
    obtain ⟨m, rfl⟩ : ∃ m', m = m' + 1 := ⟨m - 1, by omega⟩
    have e1 : ((n + 1 : Nat) : Int) - 1 = n := by omega
    rw [e1] at hst
    have hx := List.getElem?_eq_getElem (show n < p.length by omega)
    rw [loopF_succ, hst, b15, decide_eq_true (by omega), decide_eq_true (show 0 ≤ (n : Int) ∧ (n : Int) < ((p.length : Nat) : Int) by omega)]
    simp only [cond_true, Nat.zero_add, Int.toNat_natCast, hx, getO, rdN]
    cases hb : p[n].at_ == i
    · simp only [cond_false]
      refine ih m _ (by omega) (by omega) ?_
      rw [wrap_id (by omega) (by omega)]
      kernel_rfl
    · rfl
end Go.AM.Ytpdifkaeiecdpaa
set_option linter.unusedVariables false
set_option maxRecDepth 100000
namespace Go.AM.Ytpdifkaeiecdpaa
open Go.AM Go.Proofs Go
structure Dk where (l : Int) (a d : Bool) (f : List (List UInt8)) (p : List T77)
def dO (x : Dk) : List Ob := dB x.l x.a x.d x.f x.p
def readM (x : Dk) (i : Int) : List UInt8 × Int := bif x.d then ([], 7) else bif decide (i < 0) then ([], 1) else bif decide (i ≥ ((x.f.length : Nat) : Int)) then ([], 1) else (rdN x.p i (x.f[i.toNat]?.getD []) x.p.length, 0)
def writeM (x : Dk) (i : Int) (s : List UInt8) : Int × Dk := bif x.d then (7, x) else bif decide (i < 0) then (1, x) else bif decide (i ≥ ((x.f.length : Nat) : Int)) then (1, x) else bif decide (((s.length : Nat) : Int) > 32) then (5, x) else bif x.a && decide (x.l = 0) then (7, { x with d := true }) else (0, { x with l := bif x.a then IntKind.wrap .i64 (x.l - 1) else x.l, p := x.p ++ [⟨i, s ++ pad (32 - s.length)⟩] })
def o15 : Over := fun vs os => match vs, os with
  | [.nilp, .int .i64 i], [] => .ret (.tup [.str [], .int .i64 7], [])
  | [.ptr 0 0, .int .i64 i], [.box [.int .i64 l, .bool a, .bool d, .ow 9 f, .ow 77 p]] => .ask (decide (p.length < 4611686018427387904)) (.ret (.tup [.str (readM ⟨l, a, d, f, p⟩ i).1, .int .i64 (readM ⟨l, a, d, f, p⟩ i).2], dB l a d f p))
  | _, _ => .fail
def o12 : Over := fun vs os => match vs, os with
  | [.nilp, .int .i64 i, .str s], [] => .ret (.int .i64 7, [])
  | [.ptr 0 0, .int .i64 i, .str s], [.box [.int .i64 l, .bool a, .bool d, .ow 9 f, .ow 77 p]] => .ask (decide (p.length < 1000000)) (.ret (.int .i64 (writeM ⟨l, a, d, f, p⟩ i s).1, dO (writeM ⟨l, a, d, f, p⟩ i s).2))
  | _, _ => .fail
theorem F1_ok (h : OverOk Try.prog 33 o33) : SoundF Try.prog F1 := SoundF.tab (by
  intro p hp
  simp only [List.mem_cons, List.not_mem_nil, or_false] at hp
  rcases hp with rfl | rfl | rfl
  · exact p34
  · exact p20
  · exact h)
theorem e15 (x : Dk) (i : Int) (hp : x.p.length < 4611686018427387904) : evFn F1 tb fx15 (x.p.length + 1) [.ptr 0 0, .int .i64 i] (dO x) = some (.tup [.str (readM x i).1, .int .i64 (readM x i).2], dO x) := by
  obtain ⟨l, a, d, f, p⟩ := x
  refine (t15 (p.length + 1) i l a d f p).trans ?_
  unfold readM
  simp only at hp ⊢
  cases d
  · cases h1 : decide (i < 0)
    · cases h2 : decide (i ≥ ((f.length : Nat) : Int))
      · have h1 := of_decide_eq_false h1
        have h2' := of_decide_eq_false h2
        have hlt : i.toNat < f.length := by omega
        have hs := List.getElem?_eq_getElem hlt
        simp only [cond_false]
        rw [l15 (p.length + 1) l i a false f p hp (by omega) _ hs p.length (p.length + 1) _ (Nat.le_refl _) (by omega) (by
          rw [wrap_id (by omega) (by omega)]
          unfold sR
          rw [h2]
          kernel_rfl)]
        rw [hs]
        rfl
      · rfl
    · rfl
  · rfl
theorem p15 (h33 : OverOk Try.prog 33 o33) : OverOk Try.prog 15 o15 := OverOk.of (F1_ok h33) tb_ok ok15 fun vs os r h => by
  unfold o15 at h
  split at h
  · rename_i i
    exact ⟨0, Eq.trans (by kernel_rfl) h⟩
  · rename_i i l a d f p
    obtain ⟨hp, h⟩ := Q.val_ask h
    exact ⟨_, (e15 ⟨l, a, d, f, p⟩ i (of_decide_eq_true hp)).trans h⟩
  · cases h
theorem e12 (x : Dk) (i : Int) (s : List UInt8) (hp : x.p.length < 1000000) : evFn F1 tb fx12 0 [.ptr 0 0, .int .i64 i, .str s] (dO x) = some (.int .i64 (writeM x i s).1, dO (writeM x i s).2) := by
  obtain ⟨l, a, d, f, p⟩ := x
  refine (t12 i l s a d f p).trans ?_
  unfold writeM
  simp only at hp ⊢
  cases d
  · cases h1 : decide (i < 0)
    · cases h2 : decide (i ≥ ((f.length : Nat) : Int))
      · cases h3 : decide (((s.length : Nat) : Int) > 32)
        · have h3 := of_decide_eq_false h3
          have e1 : (IntKind.wrap .i64 (32 - ((s.length : Nat) : Int))).toNat = 32 - s.length := by rw [wrap_id (by omega) (by omega)]; omega
          have e2 : (pad (32 - s.length)).length = 32 - s.length := by simp [pad]
          have e3 : ∀ x : T77, fitsB (p.length + [x].length) 24 = true := fun x => decide_eq_true (by simp only [List.length_singleton, roomB]; omega)
          simp only [cond_false]
          rw [decide_eq_true (show 0 ≤ IntKind.wrap .i64 (32 - ((s.length : Nat) : Int)) ∧ IntKind.wrap .i64 (32 - ((s.length : Nat) : Int)) ≤ 32 by rw [wrap_id (by omega) (by omega)]; omega)]
          simp only [cond_true]
          rw [e1, e2, e3, decide_eq_true (show s.length + (32 - s.length) ≤ big62 by unfold big62; omega)]
          simp only [List.length_singleton]
          rw [decide_eq_true (show p.length + 1 ≤ big62 by unfold big62; omega)]
          cases (a && decide (l = 0)) <;> rfl
        · rfl
      · rfl
    · rfl
  · rfl
theorem p12 (h33 : OverOk Try.prog 33 o33) : OverOk Try.prog 12 o12 := OverOk.of (F1_ok h33) tb_ok ok12 fun vs os r h => by
  unfold o12 at h
  split at h
  · rename_i i s
    exact ⟨0, Eq.trans (by kernel_rfl) h⟩
  · rename_i i s l a d f p
    obtain ⟨hp, h⟩ := Q.val_ask h
    exact ⟨0, (e12 ⟨l, a, d, f, p⟩ i s (of_decide_eq_true hp)).trans h⟩
  · cases h
end Go.AM.Ytpdifkaeiecdpaa
set_option linter.unusedVariables false
set_option maxRecDepth 100000
namespace Go.AM.Ytpdifkaeiecdpaa
open Go.AM Go.Proofs Go
theorem t19 (n l : Int) (a d : Bool) (f : List (List UInt8)) (p : List T77) : evFn F1 tb fx19 0 [.ptr 0 0, .int .i64 n] (dB l a d f p) =
  some (AV.tup [], [Ob.box [AV.int IntKind.i64 n, AV.bool (decide (n ≥ 0)), AV.bool d, AV.ow 9 f, AV.ow 77 p]]) := by kernel_rfl
theorem t14 (l : Int) (a d : Bool) (f : List (List UInt8)) (p : List T77) : evFn F1 tb fx14 0 [.ptr 0 0] (dB l a d f p) =
  some (AV.int IntKind.i64 ((p.length : Nat) : Int), [Ob.box [AV.int IntKind.i64 l, AV.bool a, AV.bool d, AV.ow 9 f, AV.ow 77 p]]) := by kernel_rfl
theorem t21 (l : Int) (a d : Bool) (f : List (List UInt8)) (p : List T77) : evFn F1 tb fx21 0 [.ptr 0 0] (dB l a d f p) =
  some (AV.int IntKind.i64 ((f.length : Nat) : Int), [Ob.box [AV.int IntKind.i64 l, AV.bool a, AV.bool d, AV.ow 9 f, AV.ow 77 p]]) := by kernel_rfl
theorem t17 (x : T30) : evFn F1 tb fx17 0 [up 30 x] [] =
  some (AV.int IntKind.i64 (IntKind.i64.wrap ((IntKind.u64.wrap x.kind).tmod 7)), []) := by kernel_rfl
theorem t13 (N : Nat) (l : Int) (a d : Bool) (f : List (List UInt8)) (p : List T77) : evFn F1 tb fx13 N [.ptr 0 0] (dB l a d f p) =
  bif d then some (AV.int IntKind.i64 7, [Ob.box [AV.int IntKind.i64 l, AV.bool a, AV.bool d, AV.ow 9 f, AV.ow 77 p]]) else bif a && decide (l = 0) then some (AV.int IntKind.i64 7, [Ob.box [AV.int IntKind.i64 l, AV.bool a, AV.bool true, AV.ow 9 f, AV.ow 77 p]]) else loopF F1 tb fx13 0 N (contF F1 tb fx13 N 0 1) N { nt := 36, t := [(0, AV.ptr 0 0), (2, AV.int IntKind.i64 0), (13, AV.bool !true), (17, AV.vw 1180356 77), (18, AV.int IntKind.i64 ((p.length : Nat) : Int)), (19, AV.int IntKind.i64 0)], h := [(0, Ob.box [AV.int IntKind.i64 (bif a then IntKind.i64.wrap (l - 1) else l), AV.bool a, AV.bool d, AV.vw 1180355 9, AV.vw 1180356 77]), (1180355, Ob.row 9 f), (1180356, Ob.row 77 p)], u := [1180355, 1180356, 1098435, 1098436, 0, 1003, 1004] : St } := by kernel_rfl
theorem t16 (N : Nat) (l : Int) (a d : Bool) (f : List (List UInt8)) (p : List T77) (ks : List Bool) : evFn F1 tb fx16 N [.ptr 0 0, .sl 4 false ks] (dB l a d f p) =
  loopF F1 tb fx16 0 N (contF F1 tb fx16 N 0 1) N { nt := 45, t := [(0, AV.ptr 0 0), (1, AV.sl 4 false ks), (7, AV.bool false), (11, AV.vw 1004 77), (12, AV.int IntKind.i64 ((p.length : Nat) : Int)), (13, AV.int IntKind.i64 0)], h := [(0, Ob.box [AV.int IntKind.i64 l, AV.bool a, AV.bool d, AV.vw 1003 9, AV.vw 1004 77]), (1003, Ob.row 9 f), (1004, Ob.row 77 p)], u := [0, 1003, 1004] : St } := by kernel_rfl
theorem t10 (N : Nat) (n : Int) : evFn F1 tb fx10 N [.int .i64 n] [] =
  bif decide (n < 1) then some (AV.nilp, []) else bif decide (n > 4096) then some (AV.nilp, []) else loopF F1 tb fx10 0 N (contF F1 tb fx10 N 0 0) N { nt := 27, t := [(0, AV.int IntKind.i64 n), (2, AV.nilp), (3, AV.ptr 1180224 0), (9, AV.bool (decide (n > 4096))), (12, AV.int IntKind.i64 n), (13, AV.int IntKind.i64 0)], h := [(1180224, Ob.box [AV.int IntKind.i64 0, AV.bool false, AV.bool false, AV.vw 1180228 9, AV.vw 1180229 77]), (1180228, Ob.row 9 []), (1180229, Ob.row 77 [])], u := [1180224, 1180229, 1180228] : St } := by kernel_rfl
end Go.AM.Ytpdifkaeiecdpaa
set_option linter.unusedVariables false
set_option maxRecDepth 100000
namespace Go.AM.Ytpdifkaeiecdpaa
open Go.AM Go.Proofs Go
def s13 (l k : Int) (a d : Bool) (f : List (List UInt8)) (p : List T77) : St := ⟨36, [(0, .ptr 0 0), (2, .int .i64 0), (13, .bool false), (17, .vw 100000 77), (18, .int .i64 ((p.length : Nat) : Int)), (19, .int .i64 k)], [(0, .box [.int .i64 l, .bool a, .bool d, .vw 100001 9, .vw 100000 77]), (100000, .row 77 p), (100001, .row 9 f)], [0, 100000, 100001]⟩
def s16 (l k : Int) (a d : Bool) (f : List (List UInt8)) (p : List T77) (ks : List Bool) : St := ⟨45, [(0, .ptr 0 0), (1, .sl 4 false ks), (7, .bool false), (11, .vw 100000 77), (12, .int .i64 ((p.length : Nat) : Int)), (13, .int .i64 k)], [(0, .box [.int .i64 l, .bool a, .bool d, .vw 100001 9, .vw 100000 77]), (100000, .row 77 p), (100001, .row 9 f)], [0, 100000, 100001]⟩
def s10 (n k : Int) (f : List (List UInt8)) : St := ⟨27, [(0, .int .i64 n), (2, .nilp), (3, .ptr 100000 0), (9, .bool (decide (n > 4096))), (12, .int .i64 n), (13, .int .i64 k)], [(100000, .box [.int .i64 0, .bool false, .bool false, .vw 100001 9, .vw 100002 77]), (100001, .row 9 f), (100002, .row 77 [])], [100000, 100001, 100002]⟩
theorem b13 (N : Nat) (l k : Int) (a d : Bool) (f : List (List UInt8)) (p : List T77) (KN : St → Option Ret) : bodyF F1 tb fx13 N 0 (s13 l k a d f p) (brk (contF F1 tb fx13 N 0 1) KN) =
  bif decide (k < ((p.length : Nat) : Int)) then bif decide (0 ≤ k ∧ k < ((p.length : Nat) : Int)) then getO p[0 + k.toNat]? fun x => bif decide (0 ≤ x.at_ ∧ x.at_ < ((f.length : Nat) : Int)) then getO f[0 + x.at_.toNat]? fun x_1 => KN { nt := 36, t := [(0, AV.ptr 0 0), (2, AV.int IntKind.i64 0), (4, AV.ptr 1065536 0), (13, AV.bool false), (17, AV.vw 100000 77), (18, AV.int IntKind.i64 ((p.length : Nat) : Int)), (19, AV.int IntKind.i64 (IntKind.i64.wrap (k + 1))), (20, AV.bool (decide (k < ((p.length : Nat) : Int))))], h := [(0, Ob.box [AV.int IntKind.i64 l, AV.bool a, AV.bool d, AV.vw 100001 9, AV.vw 100000 77]), (100000, Ob.row 77 p), (100001, Ob.row 9 (f.set (0 + x.at_.toNat) x.2)), (1065536, Ob.box [AV.int IntKind.i64 x.at_, AV.str x.s])], u := [1065536, 0, 100000, 100001] : St } else none else none else some (AV.int IntKind.i64 0, [Ob.box [AV.int IntKind.i64 l, AV.bool a, AV.bool d, AV.ow 9 f, AV.ow 77 []]]) := by kernel_rfl
theorem b16 (N : Nat) (l k : Int) (a d : Bool) (f : List (List UInt8)) (p : List T77) (ks : List Bool) (KN : St → Option Ret) : bodyF F1 tb fx16 N 0 (s16 l k a d f p ks) (brk (contF F1 tb fx16 N 0 1) KN) =
  bif decide (k < ((p.length : Nat) : Int)) then bif decide (0 ≤ k ∧ k < ((p.length : Nat) : Int)) then getO p[0 + k.toNat]? fun x => bif decide (k < ((ks.length : Nat) : Int)) then bif decide (0 ≤ k) then getO ks[k.toNat]? fun x_1 => bif x_1 then bif decide (0 ≤ x.at_ ∧ x.at_ < ((f.length : Nat) : Int)) then getO f[0 + x.at_.toNat]? fun x_2 => KN { nt := 45, t := [(0, AV.ptr 0 0), (1, AV.sl 4 false ks), (4, AV.int IntKind.i64 k), (5, AV.ptr 1081920 0), (7, AV.bool false), (11, AV.vw 100000 77), (12, AV.int IntKind.i64 ((p.length : Nat) : Int)), (13, AV.int IntKind.i64 (IntKind.i64.wrap (k + 1))), (14, AV.bool (decide (k < ((p.length : Nat) : Int)))), (27, AV.bool x_1)], h := [(0, Ob.box [AV.int IntKind.i64 l, AV.bool a, AV.bool d, AV.vw 100001 9, AV.vw 100000 77]), (100000, Ob.row 77 p), (100001, Ob.row 9 (f.set (0 + x.at_.toNat) x.2)), (1081920, Ob.box [AV.int IntKind.i64 x.at_, AV.str x.s])], u := [1081920, 0, 100000, 100001] : St } else none else KN { nt := 45, t := [(0, AV.ptr 0 0), (1, AV.sl 4 false ks), (4, AV.int IntKind.i64 k), (5, AV.ptr 1081920 0), (7, AV.bool false), (11, AV.vw 100000 77), (12, AV.int IntKind.i64 ((p.length : Nat) : Int)), (13, AV.int IntKind.i64 (IntKind.i64.wrap (k + 1))), (14, AV.bool (decide (k < ((p.length : Nat) : Int)))), (27, AV.bool x_1)], h := [(0, Ob.box [AV.int IntKind.i64 l, AV.bool a, AV.bool d, AV.vw 100001 9, AV.vw 100000 77]), (100000, Ob.row 77 p), (100001, Ob.row 9 f), (1081920, Ob.box [AV.int IntKind.i64 x.at_, AV.str x.s])], u := [1081920, 0, 100000, 100001] : St } else none else KN { nt := 45, t := [(0, AV.ptr 0 0), (1, AV.sl 4 false ks), (4, AV.int IntKind.i64 k), (5, AV.ptr 1081920 0), (7, AV.bool false), (11, AV.vw 100000 77), (12, AV.int IntKind.i64 ((p.length : Nat) : Int)), (13, AV.int IntKind.i64 (IntKind.i64.wrap (k + 1))), (14, AV.bool (decide (k < ((p.length : Nat) : Int)))), (27, AV.bool false)], h := [(0, Ob.box [AV.int IntKind.i64 l, AV.bool a, AV.bool d, AV.vw 100001 9, AV.vw 100000 77]), (100000, Ob.row 77 p), (100001, Ob.row 9 f), (1081920, Ob.box [AV.int IntKind.i64 x.at_, AV.str x.s])], u := [1081920, 0, 100000, 100001] : St } else none else some (AV.tup [], [Ob.box [AV.int IntKind.i64 0, AV.bool false, AV.bool false, AV.ow 9 f, AV.ow 77 []]]) := by kernel_rfl
theorem b10 (N : Nat) (n k : Int) (f : List (List UInt8)) (KN : St → Option Ret) : bodyF F1 tb fx10 N 0 (s10 n k f) (brk (contF F1 tb fx10 N 0 0) KN) =
  bif decide (k < n) then bif fitsB (f.length + [[0, 0, 0, 0, 0, 0, 0, 0, 0, 0, 0, 0, 0, 0, 0, 0, 0, 0, 0, 0, 0, 0, 0, 0, 0, 0, 0, 0, 0, 0, 0, 0]].length) 16 && decide (f.length + [[0, 0, 0, 0, 0, 0, 0, 0, 0, 0, 0, 0, 0, 0, 0, 0, 0, 0, 0, 0, 0, 0, 0, 0, 0, 0, 0, 0, 0, 0, 0, 0]].length ≤ big62) then KN { nt := 27, t := [(0, AV.int IntKind.i64 n), (2, AV.nilp), (3, AV.ptr 100000 0), (9, AV.bool (decide (n > 4096))), (12, AV.int IntKind.i64 n), (13, AV.int IntKind.i64 (IntKind.i64.wrap (k + 1))), (14, AV.bool (decide (k < n)))], h := [(100000, Ob.box [AV.int IntKind.i64 0, AV.bool false, AV.bool false, AV.vw 1360448 9, AV.vw 100002 77]), (100002, Ob.row 77 []), (1360448, Ob.row 9 (f ++ [[0, 0, 0, 0, 0, 0, 0, 0, 0, 0, 0, 0, 0, 0, 0, 0, 0, 0, 0, 0, 0, 0, 0, 0, 0, 0, 0, 0, 0, 0, 0, 0]]))], u := [1360448, 100000, 100001, 100002] : St } else none else some (AV.ptr 0 0, [Ob.box [AV.int IntKind.i64 0, AV.bool false, AV.bool false, AV.ow 9 f, AV.ow 77 []]]) := by kernel_rfl
end Go.AM.Ytpdifkaeiecdpaa
set_option linter.unusedVariables false
set_option maxRecDepth 100000
namespace Go.AM.Ytpdifkaeiecdpaa
open Go.AM Go.Proofs Go
def setF (f : List (List UInt8)) (x : T77) : List (List UInt8) := f.set x.at_.toNat x.s
def crF : List T77 → List Bool → List (List UInt8) → List (List UInt8)
  | [], _, f => f
  | _ :: _, [], f => f
  | x :: q, b :: ks, f => crF q ks (bif b then setF f x else f)
theorem bif_t {α : Type} {b : Bool} {x y : α} (h : b = true) : (bif b then x else y) = x := by rw [h]; rfl
theorem drop_get {α : Type} {p q : List α} {k : Nat} {x : α} (h : p.drop k = x :: q) : p[k]? = some x ∧ p.drop (k + 1) = q ∧ k < p.length := by
  have h1 : k < p.length := by
    have : (p.drop k).length = (x :: q).length := by rw [h]
    simp at this
    omega
  rw [List.drop_eq_getElem_cons h1] at h
  simp only [List.cons.injEq] at h
  exact ⟨by rw [List.getElem?_eq_getElem h1, h.1], h.2, h1⟩
theorem drop_nil {α : Type} {p : List α} {k : Nat} (h : p.drop k = []) : p.length ≤ k := by
  have : (p.drop k).length = 0 := by rw [h]; rfl
  simp at this
  omega
theorem l13 (N : Nat) (l : Int) (a d : Bool) (p : List T77) (hp : p.length < 1000000) : ∀ (q : List T77) (k m : Nat) (f : List (List UInt8)) (st : St), p.drop k = q → q.length < m → (∀ x ∈ q, 0 ≤ x.at_ ∧ x.at_ < (f.length : Int)) → st.clean (fx13.deadAt (loopAt fx13 0)) = s13 l k a d f p →
    loopF F1 tb fx13 0 N (contF F1 tb fx13 N 0 1) m st = some (.int .i64 0, dB l a d (q.foldl setF f) []) := by
  intro q
  induction q with
  | nil =>
    intro k m f st hq hm hx hst
    obtain ⟨m, rfl⟩ : ∃ m', m = m' + 1 := ⟨m - 1, by omega⟩
    have := drop_nil hq
    rw [loopF_succ, hst, b13, decide_eq_false (by omega)]
    rfl
  | cons x q ih =>
    intro k m f st hq hm hx hst
    obtain ⟨m, rfl⟩ : ∃ m', m = m' + 1 := ⟨m - 1, by omega⟩
    obtain ⟨h1, h2, h3⟩ := drop_get hq
    obtain ⟨h4, h5⟩ := hx x (by simp)
    have hlt : x.at_.toNat < f.length := by omega
    rw [loopF_succ, hst, b13, decide_eq_true (show (k : Int) < ((p.length : Nat) : Int) by omega), decide_eq_true (show 0 ≤ (k : Int) ∧ (k : Int) < ((p.length : Nat) : Int) by omega)]
    simp only [cond_true, Nat.zero_add, Int.toNat_natCast, h1, getO]
    rw [decide_eq_true (show 0 ≤ x.at_ ∧ x.at_ < ((f.length : Nat) : Int) from ⟨h4, h5⟩)]
    simp only [cond_true, List.getElem?_eq_getElem hlt]
    rw [wrap_id (by omega) (by omega)]
    refine ih (k + 1) m (setF f x) _ h2 (by simp at hm; omega) (fun y hy => ?_) (by kernel_rfl)
    have := hx y (by simp [hy])
    simpa [setF] using this
theorem l16 (N : Nat) (l : Int) (a d : Bool) (p : List T77) (ks : List Bool) (hp : p.length < 1000000) : ∀ (q : List T77) (kr : List Bool) (k m : Nat) (f : List (List UInt8)) (st : St), p.drop k = q → ks.drop k = kr → q.length < m → (∀ x ∈ q, 0 ≤ x.at_ ∧ x.at_ < (f.length : Int)) → st.clean (fx16.deadAt (loopAt fx16 0)) = s16 l k a d f p ks →
    loopF F1 tb fx16 0 N (contF F1 tb fx16 N 0 1) m st = some (.tup [], dB 0 false false (crF q kr f) []) := by
  intro q
  induction q with
  | nil =>
    intro kr k m f st hq hk hm hx hst
    obtain ⟨m, rfl⟩ : ∃ m', m = m' + 1 := ⟨m - 1, by omega⟩
    have := drop_nil hq
    rw [loopF_succ, hst, b16, decide_eq_false (by omega)]
    rfl
  | cons x q ih =>
    intro kr k m f st hq hk hm hx hst
    obtain ⟨m, rfl⟩ : ∃ m', m = m' + 1 := ⟨m - 1, by omega⟩
    obtain ⟨h1, h2, h3⟩ := drop_get hq
    obtain ⟨h4, h5⟩ := hx x (by simp)
    have hlt : x.at_.toNat < f.length := by omega
    have hx' : ∀ g : List (List UInt8), g.length = f.length → ∀ y ∈ q, 0 ≤ y.at_ ∧ y.at_ < (g.length : Int) := fun g hg y hy => by rw [hg]; exact hx y (by simp [hy])
    rw [loopF_succ, hst, b16, decide_eq_true (show (k : Int) < ((p.length : Nat) : Int) by omega), decide_eq_true (show 0 ≤ (k : Int) ∧ (k : Int) < ((p.length : Nat) : Int) by omega)]
    simp only [cond_true, Nat.zero_add, Int.toNat_natCast, h1, getO]
    rw [wrap_id (show -9223372036854775808 ≤ (k : Int) + 1 by omega) (by omega)]
    cases kr with
    | nil =>
      have hle := drop_nil hk
      rw [decide_eq_false (show ¬ ((k : Int) < ((ks.length : Nat) : Int)) by omega)]
      simp only [cond_false]
      have hn : crF (x :: q) [] f = crF q [] f := by cases q <;> rfl
      rw [hn]
      exact ih [] (k + 1) m f _ h2 (List.drop_eq_nil_of_le (by omega)) (by simp at hm; omega) (hx' f rfl) (by kernel_rfl)
    | cons b kr =>
      obtain ⟨g1, g2, g3⟩ := drop_get hk
      rw [decide_eq_true (show (k : Int) < ((ks.length : Nat) : Int) by omega), decide_eq_true (show 0 ≤ (k : Int) by omega)]
      simp only [cond_true, g1]
      cases b
      · simp only [cond_false]
        exact ih kr (k + 1) m f _ h2 g2 (by simp at hm; omega) (hx' f rfl) (by kernel_rfl)
      · simp only [cond_true]
        rw [decide_eq_true (show 0 ≤ x.at_ ∧ x.at_ < ((f.length : Nat) : Int) from ⟨h4, h5⟩)]
        simp only [cond_true, List.getElem?_eq_getElem hlt]
        exact ih kr (k + 1) m (setF f x) _ h2 g2 (by simp at hm; omega) (hx' _ (by simp [setF])) (by kernel_rfl)
theorem l10 (N n : Nat) (hn : n ≤ 4096) : ∀ (r k m : Nat) (st : St), k + r = n → r < m → st.clean (fx10.deadAt (loopAt fx10 0)) = s10 n k (List.replicate k (pad 32)) →
    loopF F1 tb fx10 0 N (contF F1 tb fx10 N 0 0) m st = some (.ptr 0 0, dB 0 false false (List.replicate n (pad 32)) []) := by
  intro r
  induction r with
  | zero =>
    intro k m st hk hm hst
    obtain ⟨m, rfl⟩ : ∃ m', m = m' + 1 := ⟨m - 1, by omega⟩
    obtain rfl : k = n := by omega
    rw [loopF_succ, hst, b10, decide_eq_false (by omega)]
    rfl
  | succ r ih =>
    intro k m st hk hm hst
    obtain ⟨m, rfl⟩ : ∃ m', m = m' + 1 := ⟨m - 1, by omega⟩
    rw [loopF_succ, hst, b10, decide_eq_true (by omega)]
    have hf : ∀ x : List UInt8, (fitsB ((List.replicate k (pad 32)).length + [x].length) 16 && decide ((List.replicate k (pad 32)).length + [x].length ≤ big62)) = true := fun x => by
      simp only [List.length_replicate, List.length_singleton, Bool.and_eq_true]
      exact ⟨decide_eq_true (by unfold roomB; omega), decide_eq_true (by unfold big62; omega)⟩
    refine (bif_t rfl).trans ((bif_t (hf [])).trans ?_)
    rw [wrap_id (by omega) (by omega)]
    refine ih (k + 1) m _ (by omega) (by omega) ?_
    rw [List.replicate_succ' (n := k)]
    kernel_rfl
end Go.AM.Ytpdifkaeiecdpaa
set_option linter.unusedVariables false
set_option maxRecDepth 100000
namespace Go.AM.Ytpdifkaeiecdpaa
open Go.AM Go.Proofs Go
def okD (x : Dk) : Bool := x.p.all (fun y => decide (0 ≤ y.at_) && decide (y.at_ < (x.f.length : Int))) && decide (x.p.length < 1000000)
theorem okD_spec {x : Dk} (h : okD x = true) : (∀ y ∈ x.p, 0 ≤ y.at_ ∧ y.at_ < (x.f.length : Int)) ∧ x.p.length < 1000000 := by
  simp only [okD, Bool.and_eq_true, List.all_eq_true, decide_eq_true_eq] at h
  exact h
def flushM (x : Dk) : Int × Dk := bif x.d then (7, x) else bif x.a && decide (x.l = 0) then (7, { x with d := true }) else (0, { x with l := bif x.a then IntKind.wrap .i64 (x.l - 1) else x.l, f := x.p.foldl setF x.f, p := [] })
def crashM (x : Dk) (ks : List Bool) : Dk := ⟨0, false, false, crF x.p ks x.f, []⟩
def armM (x : Dk) (n : Int) : Dk := { x with l := n, a := decide (n ≥ 0) }
def newM (n : Nat) : Dk := ⟨0, false, false, List.replicate n (pad 32), []⟩
def o13 : Over := fun vs os => match vs, os with
  | [.nilp], [] => .ret (.int .i64 7, [])
  | [.ptr 0 0], [.box [.int .i64 l, .bool a, .bool d, .ow 9 f, .ow 77 p]] => .ask (okD ⟨l, a, d, f, p⟩) (.ret (.int .i64 (flushM ⟨l, a, d, f, p⟩).1, dO (flushM ⟨l, a, d, f, p⟩).2))
  | _, _ => .fail
def o16 : Over := fun vs os => match vs, os with
  | [.ptr 0 0, .sl 4 false ks], [.box [.int .i64 l, .bool a, .bool d, .ow 9 f, .ow 77 p]] => .ask (okD ⟨l, a, d, f, p⟩) (.ret (.tup [], dO (crashM ⟨l, a, d, f, p⟩ ks)))
  | _, _ => .fail
def o19 : Over := fun vs os => match vs, os with
  | [.ptr 0 0, .int .i64 n], [.box [.int .i64 l, .bool a, .bool d, .ow 9 f, .ow 77 p]] => .ret (.tup [], dO (armM ⟨l, a, d, f, p⟩ n))
  | _, _ => .fail
def o14 : Over := fun vs os => match vs, os with
  | [.nilp], [] => .ret (.int .i64 0, [])
  | [.ptr 0 0], [.box [.int .i64 l, .bool a, .bool d, .ow 9 f, .ow 77 p]] => .ret (.int .i64 ((p.length : Nat) : Int), dB l a d f p)
  | _, _ => .fail
def o21 : Over := fun vs os => match vs, os with
  | [.nilp], [] => .ret (.int .i64 0, [])
  | [.ptr 0 0], [.box [.int .i64 l, .bool a, .bool d, .ow 9 f, .ow 77 p]] => .ret (.int .i64 ((f.length : Nat) : Int), dB l a d f p)
  | _, _ => .fail
def o10 : Over := fun vs os => match vs, os with
  | [.int .i64 n], [] => .br (decide (n < 1)) (.ret (.nilp, [])) (.br (decide (n > 4096)) (.ret (.nilp, [])) (.ret (.ptr 0 0, dO (newM n.toNat))))
  | _, _ => .fail
theorem e13 (x : Dk) (ho : okD x = true) : evFn F1 tb fx13 (x.p.length + 1) [.ptr 0 0] (dO x) = some (.int .i64 (flushM x).1, dO (flushM x).2) := by
  obtain ⟨h1, h2⟩ := okD_spec ho
  obtain ⟨l, a, d, f, p⟩ := x
  simp only at h1 h2
  refine (t13 (p.length + 1) l a d f p).trans ?_
  unfold flushM
  simp only
  cases d
  · cases hc : a && decide (l = 0)
    · exact l13 (p.length + 1) _ a false p h2 p 0 (p.length + 1) f _ rfl (by omega) h1 (by kernel_rfl)
    · rfl
  · rfl
theorem p13 (h33 : OverOk Try.prog 33 o33) : OverOk Try.prog 13 o13 := OverOk.of (F1_ok h33) tb_ok ok13 fun vs os r h => by
  unfold o13 at h
  split at h
  · exact ⟨0, Eq.trans (by kernel_rfl) h⟩
  · rename_i l a d f p
    obtain ⟨ho, h⟩ := Q.val_ask h
    exact ⟨_, (e13 ⟨l, a, d, f, p⟩ ho).trans h⟩
  · cases h
theorem e16 (x : Dk) (ks : List Bool) (ho : okD x = true) : evFn F1 tb fx16 (x.p.length + 1) [.ptr 0 0, .sl 4 false ks] (dO x) = some (.tup [], dO (crashM x ks)) := by
  obtain ⟨h1, h2⟩ := okD_spec ho
  obtain ⟨l, a, d, f, p⟩ := x
  simp only at h1 h2
  exact (t16 (p.length + 1) l a d f p ks).trans (l16 (p.length + 1) l a d p ks h2 p ks 0 (p.length + 1) f _ rfl rfl (by omega) h1 (by kernel_rfl))
theorem p16 (h33 : OverOk Try.prog 33 o33) : OverOk Try.prog 16 o16 := OverOk.of (F1_ok h33) tb_ok ok16 fun vs os r h => by
  unfold o16 at h
  split at h
  · rename_i ks l a d f p
    obtain ⟨ho, h⟩ := Q.val_ask h
    exact ⟨_, (e16 ⟨l, a, d, f, p⟩ ks ho).trans h⟩
  · cases h
theorem p19 (h33 : OverOk Try.prog 33 o33) : OverOk Try.prog 19 o19 := OverOk.of (F1_ok h33) tb_ok ok19 fun vs os r h => by
  unfold o19 at h
  split at h
  · rename_i n l a d f p
    exact ⟨0, (t19 n l a d f p).trans h⟩
  · cases h
theorem p14 (h33 : OverOk Try.prog 33 o33) : OverOk Try.prog 14 o14 := OverOk.of (F1_ok h33) tb_ok ok14 fun vs os r h => by
  unfold o14 at h
  split at h
  · exact ⟨0, Eq.trans (by kernel_rfl) h⟩
  · rename_i l a d f p
    exact ⟨0, (t14 l a d f p).trans h⟩
  · cases h
theorem p21 (h33 : OverOk Try.prog 33 o33) : OverOk Try.prog 21 o21 := OverOk.of (F1_ok h33) tb_ok ok21 fun vs os r h => by
  unfold o21 at h
  split at h
  · exact ⟨0, Eq.trans (by kernel_rfl) h⟩
  · rename_i l a d f p
    exact ⟨0, (t21 l a d f p).trans h⟩
  · cases h
theorem p10 (h33 : OverOk Try.prog 33 o33) : OverOk Try.prog 10 o10 := OverOk.of (F1_ok h33) tb_ok ok10 fun vs os r h => by
  unfold o10 at h
  split at h
  · rename_i n
    refine ⟨n.toNat + 1, (t10 (n.toNat + 1) n).trans (Eq.trans ?_ h)⟩
    cases h1 : decide (n < 1)
    · cases h2 : decide (n > 4096)
      · have h1 := of_decide_eq_false h1
        have h2' := of_decide_eq_false h2
        obtain ⟨m, rfl⟩ : ∃ m : Nat, n = m := ⟨n.toNat, by omega⟩
        refine (l10 (m + 1) m (by omega) m 0 (m + 1) _ (by omega) (by omega) ?_)
        unfold s10
        rw [h2]
        kernel_rfl
      · rfl
    · rfl
  · cases h
end Go.AM.Ytpdifkaeiecdpaa
