/- The laws' arguments, by their types: a line, writes, a text. -/
import Derived.Test.YtnhfjkckgicidaaAmW2
import Derived.Test.YtnhfjkckgicidaaAmNB
set_option linter.unusedVariables false
namespace Go.AM.Ytnhfjkckgicidaa
open Go.AM Go.Proofs Go
theorem law_msgKeeps (avs : List AV) (h : WtArgs Try.prog 6 [35, 22, 9] avs) : ∃ k, evF pr k 5 avs [] = some (.bool true, []) := by
  obtain ⟨x, r, rfl, h1, y, r', rfl, h2, z, r'', rfl, h3, h4⟩ := h
  obtain rfl : r'' = [] := h4
  obtain ⟨l, rfl, hs, _⟩ := wt_line h1
  obtain ⟨ws, rfl, _⟩ := wt_writes h2
  obtain ⟨s, rfl, _⟩ := wt_str h3
  exact ⟨70000, msgKeeps false false l hs ws s⟩
end Go.AM.Ytnhfjkckgicidaa
