/- What follows a loop, by the loop's number. -/
import Derived.Test.YtnhfjkckgicidaaAmRow
set_option linter.unusedVariables false
namespace Go.AM
def nLoops (c : Code) : Nat := (loopsOf c).length
def contL (E : Ev) (fx : Fx) (n : Nat) : Code → Nat → (Ex → St → Res) → Ex → St → Res
  | .seq a b, i, K => if i < nLoops a then contL E fx n a i (fun e st' => match e with
      | .normal => evC E fx n b st' K
      | .exit id => K (.exit id) st'
      | .ret => K .ret st') else contL E fx n b (i - nLoops a) K
  | .cond _ a b, i, K => if i < nLoops a then contL E fx n a i K else contL E fx n b (i - nLoops a) K
  | .block id c, i, K => contL E fx n c i (fun e st' => match e with
      | .normal => K .normal st'
      | .exit id' => if id' = id then K .normal st' else K (.exit id') st'
      | .ret => K .ret st')
  | _, _, K => K
def loopAt (fx : Fx) (i : Nat) : Code := match fx.fn.body with | some c => (match (loopsOf c)[i]? with | some c => c | none => .skip) | none => .skip
/-- What follows the i-th loop of a function's body. -/
def contF (F : Fns) (tb : Tb) (sh : List (Nat × Sh)) (fx : Fx) (n : Nat) (i : Nat) (nb : Nat) : Ex → St → Res :=
  match fx.fn.body with
  | some c => contL ⟨F, tb, sh⟩ fx n c i (endK tb fx.fn nb)
  | none => fun _ _ => none
/-- The i-th loop's body, one round. -/
def bodyF (F : Fns) (tb : Tb) (sh : List (Nat × Sh)) (fx : Fx) (n : Nat) (i : Nat) : St → (Ex → St → Res) → Res := evC ⟨F, tb, sh⟩ fx n (loopAt fx i)
/-- What follows loop j of the body of loop i. -/
def contB (F : Fns) (tb : Tb) (sh : List (Nat × Sh)) (fx : Fx) (n : Nat) (i j : Nat) (K : Ex → St → Res) : Ex → St → Res := contL ⟨F, tb, sh⟩ fx n (loopAt fx i) j K
end Go.AM
