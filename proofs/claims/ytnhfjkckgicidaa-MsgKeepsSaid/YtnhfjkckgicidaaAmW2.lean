/- The laws' arguments, by their types: writes. -/
import Derived.Test.YtnhfjkckgicidaaAmW1
import Derived.Test.YtnhfjkckgicidaaAmNA
set_option linter.unusedVariables false
namespace Go.AM.Ytnhfjkckgicidaa
open Go.AM Go.Proofs Go
theorem wt_str' {n : Nat} {l : List AV} (h : Wt Try.prog (n + 1) 9 l) : ∃ s, l = [.str s] ∧ s.length ≤ 140737488351232 := Wt.str1 Try.underlying9 h
theorem wt_write {n : Nat} {x : AV} (h : WtV Try.prog (n + 2) 78 x) : ∃ w : Wr, x = wrV w ∧ (w.1 < 9223372036854775808 ∧ w.2.1 < 9223372036854775808 ∧ w.2.2.length ≤ 140737488351232) := by
  obtain ⟨l, rfl, hl⟩ := WtV.struct1 Try.underlying78 h
  obtain ⟨a, r, rfl, h1, h2⟩ := WtFs.cons1 hl
  obtain ⟨b, r, rfl, h3, h4⟩ := WtFs.cons1 h2
  obtain ⟨c, r, rfl, h5, h6⟩ := WtFs.cons1 h4
  obtain rfl := WtFs.nil1 h6
  obtain ⟨m, rfl, _, hm⟩ := wt_int h1
  obtain ⟨m', rfl, _, hm'⟩ := wt_int h3
  obtain ⟨s, rfl, hs⟩ := wt_str' h5
  exact ⟨(m, m', s), rfl, hm, hm', hs⟩
theorem wt_writes {n : Nat} {x : AV} (h : WtV Try.prog (n + 3) 22 x) : ∃ l : List Wr, x = .sl 3 false (l.map wrV) ∧ ∀ w ∈ l, (w.1 < 9223372036854775808 ∧ w.2.1 < 9223372036854775808 ∧ w.2.2.length ≤ 140737488351232) := by
  obtain ⟨xs, rfl, hx, hall⟩ := WtV.sl1 Try.underlying22 h
  have hc : Try.prog.cellsOf 78 = 3 := by kernel_rfl
  rw [hc]
  obtain ⟨l, rfl, h1⟩ := all_map (fun x hx => wt_write hx) xs hall
  exact ⟨l, rfl, h1⟩
theorem law_msgWrites (avs : List AV) (h : WtArgs Try.prog 6 [22, 9] avs) : ∃ k, evF pr k 3 avs [] = some (.bool true, []) := by
  obtain ⟨x, r, rfl, h1, y, r', rfl, h2, h3⟩ := h
  obtain rfl : r' = [] := h3
  obtain ⟨l, rfl, _⟩ := wt_writes h1
  obtain ⟨s, rfl, hl⟩ := wt_str h2
  exact ⟨70000, msgWrites false l s⟩
end Go.AM.Ytnhfjkckgicidaa
