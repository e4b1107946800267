/- A program's table, as a list. -/
import Derived.Test.YtnhfjkckgicidaaAmDrawa
import Derived.KernelRfl
set_option linter.unusedVariables false
namespace Go.AM

def mkF (fnl : List (Nat × Fx)) (ov : List (Nat × Over)) (f : Nat) : Option (Fx ⊕ Over) :=
  match find f ov with
  | some g => some (.inr g)
  | none => (match find f fnl with | some fx => some (.inl fx) | none => none)

def fnOkB (tb : Tb) (fx : Fx) : Bool :=
  !(fx.fn.name == "runtime.NumGoroutine") && (match fx.fn.body with | some c => codeOkB tb c | none => true)

def FnAll (P : Program) (tb : Tb) : List (Nat × Fx) → Prop
  | [] => True
  | (f, fx) :: r => (P.funcs[f]? = some fx.fn ∧ fnOkB tb fx = true) ∧ FnAll P tb r
def OvAll (P : Program) : List (Nat × Over) → Prop
  | [] => True
  | (f, g) :: r => OverOk P f g ∧ OvAll P r

theorem FnAll.get {P : Program} {tb : Tb} (hm : P.follows .mixedOrders = true) : ∀ {l : List (Nat × Fx)}, FnAll P tb l → ∀ f fx, find f l = some fx → FnOk P tb f fx
  | [], _, f, fx, h => by simp [find] at h
  | (g, gx) :: r, ha, f, fx, h => by
    simp only [find] at h
    split at h
    · rename_i e
      subst e
      simp only [Option.some.injEq] at h
      subst h
      obtain ⟨⟨h1, h2⟩, _⟩ := ha
      simp only [fnOkB, Bool.and_eq_true, Bool.not_eq_true'] at h2
      refine ⟨h1, h2.1, fun c hc => ?_⟩
      rw [hc] at h2
      exact codeOkB_sound hm h2.2
    · exact FnAll.get hm ha.2 f fx h
theorem OvAll.get {P : Program} : ∀ {l : List (Nat × Over)}, OvAll P l → ∀ f g, find f l = some g → OverOk P f g
  | [], _, f, fx, h => by simp [find] at h
  | (g, gx) :: r, ha, f, fx, h => by
    simp only [find] at h
    split at h
    · rename_i e
      subst e
      simp only [Option.some.injEq] at h
      subst h
      exact ha.1
    · exact OvAll.get ha.2 f fx h

/-- Where no loop has a summary. -/
def noLs : List (Nat × Fx) → Bool
  | [] => true
  | (_, fx) :: r => fx.ls.isEmpty && noLs r
theorem noLs_get : ∀ {l : List (Nat × Fx)}, noLs l = true → ∀ f fx, find f l = some fx → fx.ls = []
  | [], _, f, fx, h => by simp [find] at h
  | (g, gx) :: r, ha, f, fx, h => by
    simp only [noLs, Bool.and_eq_true, List.isEmpty_iff] at ha
    simp only [find] at h
    split at h
    · simp only [Option.some.injEq] at h
      subst h
      exact ha.1
    · exact noLs_get ha.2 f fx h

theorem PrgOk.of {P : Program} {tb : Tb} {sh : List (Nat × Sh)} {fnl : List (Nat × Fx)} {ov : List (Nat × Over)} (hm : P.follows .mixedOrders = true) (h1 : TbAll P tb) (h2 : FnAll P tb fnl)
    (hl : ∀ f fx, find f fnl = some fx → ∀ k c, fx.fn.body = some c → LsOk ⟨evF ⟨mkF fnl ov, tb, sh⟩ k, tb, sh⟩ fx c) (h3 : OvAll P ov) : PrgOk P ⟨mkF fnl ov, tb, sh⟩ := by
  have inl : ∀ {f fx}, mkF fnl ov f = some (.inl fx) → find f fnl = some fx := by
    intro f fx h
    simp only [mkF] at h
    split at h
    · simp at h
    · split at h
      · rename_i hf
        simp only [Option.some.injEq, Sum.inl.injEq] at h
        subst h
        exact hf
      · simp at h
  refine ⟨TbOk.of_all h1, fun f fx h => h2.get hm f _ (inl h), fun f fx h => hl f fx (inl h), fun f g h => ?_⟩
  simp only [mkF] at h
  split at h
  · rename_i hf
    simp only [Option.some.injEq, Sum.inr.injEq] at h
    subst h
    exact h3.get f _ hf
  · split at h <;> simp at h

theorem PrgOk.of_plain {P : Program} {tb : Tb} {sh : List (Nat × Sh)} {fnl : List (Nat × Fx)} {ov : List (Nat × Over)} (hm : P.follows .mixedOrders = true) (h1 : TbAll P tb) (h2 : FnAll P tb fnl) (hl : noLs fnl = true) (h3 : OvAll P ov) : PrgOk P ⟨mkF fnl ov, tb, sh⟩ :=
  PrgOk.of hm h1 h2 (fun f fx hf k c hc c' hc' LS hLS => by rw [noLs_get hl f fx hf] at hLS; simp [find] at hLS) h3

end Go.AM
