/- Regions that draw their order (3): two operations that do not meet change places. -/
import Derived.Test.YtnhfjkckgicidaaAmDraw2
set_option linter.unusedVariables false
set_option linter.unusedSimpArgs false
namespace Go.AM
open Go.RowKit Go.Lib

theorem put_comm {α : Type} {a b : Nat} (h : a ≠ b) (x y : α) : ∀ l : List (Nat × α), put a x (put b y l) = put b y (put a x l)
  | [] => by
    simp only [put]
    rcases Nat.lt_trichotomy a b with hh | hh | hh
    · simp [h, Ne.symm h, hh, Nat.lt_asymm hh]
    · exact absurd hh h
    · simp [h, Ne.symm h, hh, Nat.lt_asymm hh]
  | (m, u) :: r => by
    have ih := put_comm h x y r
    have h' : ¬ b = a := fun e => h e.symm
    rcases Nat.lt_trichotomy a m with h1 | h1 | h1 <;> rcases Nat.lt_trichotomy b m with h2 | h2 | h2 <;>
      first
        | (exfalso; omega)
        | (rcases Nat.lt_trichotomy a b with h3 | h3 | h3 <;>
            first
              | (exfalso; omega)
              | (simp only [put, show (a = m) = False from eq_false (by omega), show (b = m) = False from eq_false (by omega), if_false, if_true, h1, h2, h3, h, h', show (m < a) = True from eq_true (by omega), show ¬ a < m by omega, show ¬ b < m by omega, show ¬ b < a by omega, show ¬ a < b by omega, ih]; done)
              | skip)
    all_goals (simp only [put]; repeat' split)
    all_goals first | rfl | (exfalso; omega) | (simp only [put]; repeat' split)
    all_goals first | rfl | (exfalso; omega) | (simp_all; done) | (simp only [ih])

theorem insN_comm (a b : Nat) : ∀ l : List Nat, insN a (insN b l) = insN b (insN a l)
  | [] => by
    simp only [insN]
    rcases Nat.lt_trichotomy a b with hh | hh | hh
    · simp [hh, Nat.ne_of_lt hh, Nat.ne_of_gt hh, Nat.lt_asymm hh, (Nat.ne_of_lt hh).symm]
    · subst hh; rfl
    · simp [hh, Nat.ne_of_lt hh, Nat.ne_of_gt hh, Nat.lt_asymm hh, (Nat.ne_of_lt hh).symm]
  | m :: r => by
    have ih := insN_comm a b r
    by_cases e : a = b
    · subst e; rfl
    simp only [insN]
    repeat' split
    all_goals first | rfl | (exfalso; omega) | (simp only [insN]; repeat' split)
    all_goals first | rfl | (exfalso; omega) | (simp_all; done) | (simp only [ih]) | skip

theorem mem_insN {k a : Nat} : ∀ {l : List Nat}, k ∈ insN a l ↔ k = a ∨ k ∈ l
  | [] => by simp [insN]
  | m :: r => by
    simp only [insN]
    split
    · rename_i e; subst e; simp
    · split
      · simp
      · simp only [List.mem_cons, mem_insN (l := r)]
        constructor
        · rintro (h | h | h) <;> simp [h]
        · rintro (h | h | h) <;> simp [h]

end Go.AM
