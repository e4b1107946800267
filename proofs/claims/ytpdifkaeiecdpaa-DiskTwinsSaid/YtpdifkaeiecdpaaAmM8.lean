/- Functions' texts, looked at. -/
import Derived.Test.YtpdifkaeiecdpaaAmM7
import Derived.KernelRfl
namespace Go.AM
section
variable [Reg]
def fnOkB (tb : Tb) (fx : Fx) : Bool :=
  !(fx.fn.name == "runtime.NumGoroutine") && (match fx.fn.body with | some c => codeOkB tb c | none => true)
theorem FnOk.of {P : Program} {tb : Tb} {f : Nat} {fx : Fx} (hm : P.follows .mixedOrders = true) (h1 : P.funcs[f]? = some fx.fn) (h2 : fnOkB tb fx = true) : FnOk P tb f fx := by
  simp only [fnOkB, Bool.and_eq_true, Bool.not_eq_true'] at h2
  refine ⟨h1, h2.1, fun c hc => ?_⟩
  rw [hc] at h2
  exact codeOkB_sound hm h2.2
end
end Go.AM
