/- What follows a loop, by the loop's number; proofs by trees. -/
import Derived.Test.YtpdifkaeiecdpaaAmM8
namespace Go.AM
section
variable [Reg]
/-! parts that the printer has as well -/
def loopsOf : Code → List Code
  | .seq a b => loopsOf a ++ loopsOf b
  | .cond _ a b => loopsOf a ++ loopsOf b
  | .block _ c => loopsOf c
  | .loop c => c :: loopsOf c
  | _ => []
def nLoops (c : Code) : Nat := (loopsOf c).length
noncomputable def contL {ρ : Type} (E : Ev) (fx : Fx) (n : Nat) : Code → Nat → (Ex → St → Option ρ) → Ex → St → Option ρ
  | .seq a b, i, K => bif Nat.blt i (nLoops a) then contL E fx n a i (fun e st' => match e with
      | .normal => evC E fx n b st' K
      | .exit id => K (.exit id) st'
      | .ret => K .ret st') else contL E fx n b (i - nLoops a) K
  | .cond _ a b, i, K => bif Nat.blt i (nLoops a) then contL E fx n a i K else contL E fx n b (i - nLoops a) K
  | .block id c, i, K => contL E fx n c i (fun e st' => match e with
      | .normal => K .normal st'
      | .exit id' => bif Nat.beq id' id then K .normal st' else K (.exit id') st'
      | .ret => K .ret st')
  | _, _, K => K
def loopAt (fx : Fx) (i : Nat) : Code := match fx.fn.body with | some c => (match (loopsOf c)[i]? with | some c => c | none => .skip) | none => .skip
/-- What follows the i-th loop of a function's body (m objects were handed in). -/
noncomputable def contF (F : Fns) (tb : Tb) (fx : Fx) (n : Nat) (i : Nat) (m : Nat) : Ex → St → Option Ret :=
  match fx.fn.body with
  | some c => contL ⟨F, tb, fx.H⟩ fx n c i (endK tb fx.fn fx.ow m)
  | none => fun _ _ => none
/-- The i-th loop's body, one round. -/
noncomputable def bodyF (F : Fns) (tb : Tb) (fx : Fx) (n : Nat) (i : Nat) : St → (Ex → St → Option Ret) → Option Ret := evC ⟨F, tb, fx.H⟩ fx n (loopAt fx i)
/-- What follows loop j of the body of loop i. -/
noncomputable def contB (F : Fns) (tb : Tb) (fx : Fx) (n : Nat) (i j : Nat) (K : Ex → St → Option Ret) : Ex → St → Option Ret := contL ⟨F, tb, fx.H⟩ fx n (loopAt fx i) j K
def brk {ρ : Type} (K : Ex → St → Option ρ) (KN : St → Option ρ) : Ex → St → Option ρ := fun e st => match e with | .normal => KN st | .exit id => K (.exit id) st | .ret => K .ret st
/-- The i-th loop, with all that follows. -/
noncomputable def loopF (F : Fns) (tb : Tb) (fx : Fx) (i : Nat) (N : Nat) (K : Ex → St → Option Ret) (n : Nat) (st : St) : Option Ret := loopA (bodyF F tb fx N i) (fx.deadAt (loopAt fx i)) K n st
/-! .. and others -/
theorem loopF_succ (F : Fns) (tb : Tb) (fx : Fx) (i N : Nat) (K : Ex → St → Option Ret) (n : Nat) (st : St) : loopF F tb fx i N K (n + 1) st = bodyF F tb fx N i (st.clean (fx.deadAt (loopAt fx i))) (brk K fun st' => loopF F tb fx i N K n st') := rfl
end
end Go.AM
