/- The laws' arguments, by their types. -/
import Derived.Test.YtnhfjkckgicidaaAmN6
set_option linter.unusedVariables false
namespace Go.AM.Ytnhfjkckgicidaa
open Go.AM Go.Proofs Go

section
variable {P : Program} {n t : Nat}
theorem Wt.int1 {k : IntKind} {l : List AV} (hu : P.underlying t = some (.int k)) (h : Wt P (n + 1) t l) : ∃ m, l = [.int k m] ∧ (Lit.int k m).wf = true := by
  unfold Wt at h
  rw [hu] at h
  exact h
theorem Wt.bool1 {l : List AV} (hu : P.underlying t = some .bool) (h : Wt P (n + 1) t l) : ∃ m, l = [.bool m] := by
  unfold Wt at h
  rw [hu] at h
  exact h
theorem Wt.str1 {l : List AV} (hu : P.underlying t = some .string) (h : Wt P (n + 1) t l) : ∃ s, l = [.str s] ∧ s.length ≤ reachBytes := by
  unfold Wt at h
  rw [hu] at h
  exact h
theorem Wt.sl1 {e : Nat} {l : List AV} (hu : P.underlying t = some (.slice e)) (h : Wt P (n + 1) t l) : ∃ xs, l = [.sl (P.cellsOf e) false xs] ∧ xs.length * P.bytesOf e ≤ reachBytes ∧ ∀ x ∈ xs, WtV P n e x := by
  unfold Wt at h
  rw [hu] at h
  exact h
theorem Wt.struct1 {fs : Array Field} {l : List AV} (hu : P.underlying t = some (.struct fs)) (h : Wt P (n + 1) t l) : WtFs P n (fs.toList.map (·.type)) l := by
  unfold Wt at h
  rw [hu] at h
  exact h
theorem WtV.int1 {k : IntKind} {x : AV} (hu : P.underlying t = some (.int k)) (h : WtV P (n + 1) t x) : ∃ m, x = .int k m ∧ (Lit.int k m).wf = true := by
  unfold WtV at h
  rw [hu] at h
  exact h.2
theorem WtV.str1 {x : AV} (hu : P.underlying t = some .string) (h : WtV P (n + 1) t x) : ∃ s, x = .str s ∧ s.length ≤ reachBytes := by
  unfold WtV at h
  rw [hu] at h
  exact h.2
theorem WtV.sl1 {e : Nat} {x : AV} (hu : P.underlying t = some (.slice e)) (h : WtV P (n + 1) t x) : ∃ xs, x = .sl (P.cellsOf e) false xs ∧ xs.length * P.bytesOf e ≤ reachBytes ∧ ∀ x ∈ xs, WtV P n e x := by
  unfold WtV at h
  rw [hu] at h
  exact h.2
theorem WtV.struct1 {fs : Array Field} {x : AV} (hu : P.underlying t = some (.struct fs)) (h : WtV P (n + 1) t x) : ∃ l, x = .agg l ∧ WtFs P n (fs.toList.map (·.type)) l := by
  unfold WtV at h
  rw [hu] at h
  exact h.2
theorem WtFs.cons1 {t : Nat} {ts : List TypeId} {l : List AV} (h : WtFs P n (t :: ts) l) : ∃ a b, l = a ++ b ∧ Wt P n t a ∧ WtFs P n ts b := by
  unfold WtFs at h
  obtain ⟨a, b, h1, _, h2, h3⟩ := h
  exact ⟨a, b, h1, h2, h3⟩
theorem WtFs.nil1 {l : List AV} (h : WtFs P n [] l) : l = [] := by
  unfold WtFs at h
  exact h
end
/-- Slices whose elements are all of a form. -/
theorem all_map {α : Type} {f : α → AV} {p : AV → Prop} {q : α → Prop} (h : ∀ x, p x → ∃ a, x = f a ∧ q a) : ∀ xs : List AV, (∀ x ∈ xs, p x) → ∃ l : List α, xs = l.map f ∧ ∀ a ∈ l, q a := by
  intro xs
  induction xs with
  | nil => intro _; exact ⟨[], rfl, by simp⟩
  | cons x r ih =>
    intro hx
    obtain ⟨b, rfl, h1⟩ := h x (hx x (List.mem_cons_self ..))
    obtain ⟨l, rfl, h2⟩ := ih fun y hy => hx y (List.mem_cons_of_mem _ hy)
    exact ⟨b :: l, rfl, by
      intro c hc
      rcases List.mem_cons.1 hc with rfl | hc
      · exact h1
      · exact h2 c hc⟩

theorem wf_i64 {m : Int} (h : (Lit.int .i64 m).wf = true) : -9223372036854775808 ≤ m ∧ m < 9223372036854775808 := by
  have e1 : IntKind.min .i64 = -9223372036854775808 := by decide
  have e2 : IntKind.max .i64 = 9223372036854775807 := by decide
  simp only [Lit.wf, e1, e2, Bool.and_eq_true, decide_eq_true_eq] at h
  omega
theorem wt_int {n : Nat} {l : List AV} (h : Wt Try.prog (n + 1) 3 l) : ∃ m, l = [.int .i64 m] ∧ -9223372036854775808 ≤ m ∧ m < 9223372036854775808 := by
  obtain ⟨m, h1, h2⟩ := Wt.int1 Try.underlying3 h
  exact ⟨m, h1, wf_i64 h2⟩
theorem wt_str {n : Nat} {x : AV} (h : WtV Try.prog (n + 1) 9 x) : ∃ s, x = .str s ∧ s.length ≤ 140737488351232 := WtV.str1 Try.underlying9 h
theorem wt_branch {n : Nat} {x : AV} (h : WtV Try.prog (n + 2) 91 x) : ∃ b : Int × Int, x = brV b ∧ b.1 < 9223372036854775808 ∧ b.2 < 9223372036854775808 := by
  obtain ⟨l, rfl, hl⟩ := WtV.struct1 Try.underlying91 h
  obtain ⟨a, r, rfl, h1, h2⟩ := WtFs.cons1 hl
  obtain ⟨b, r, rfl, h3, h4⟩ := WtFs.cons1 h2
  obtain rfl := WtFs.nil1 h4
  obtain ⟨m, rfl, _, hm⟩ := wt_int h1
  obtain ⟨m', rfl, _, hm'⟩ := wt_int h3
  exact ⟨(m, m'), rfl, hm, hm'⟩
theorem wt_line {n : Nat} {x : AV} (h : WtV Try.prog (n + 3) 35 x) : ∃ l, x = .sl 2 false (l.map brV) ∧ Sm l ∧ l.length ≤ 140737488351232 := by
  obtain ⟨xs, rfl, hx, hall⟩ := WtV.sl1 Try.underlying35 h
  have hb : Try.prog.bytesOf 91 = 16 := by kernel_rfl
  have hc : Try.prog.cellsOf 91 = 2 := by kernel_rfl
  rw [hb] at hx
  rw [hc]
  obtain ⟨l, rfl, h1⟩ := all_map (fun x hx => wt_branch hx) xs hall
  refine ⟨l, rfl, h1, ?_⟩
  rw [List.length_map] at hx
  unfold reachBytes at hx
  omega
theorem law_msgLines (avs : List AV) (h : WtArgs Try.prog 6 [35, 9] avs) : ∃ k, evF pr k 4 avs [] = some (.bool true, []) := by
  obtain ⟨x, r, rfl, h1, y, r', rfl, h2, h3⟩ := h
  obtain rfl : r' = [] := h3
  obtain ⟨l, rfl, hs, _⟩ := wt_line h1
  obtain ⟨s, rfl, hl⟩ := wt_str h2
  exact ⟨2000, msgLines false l hs s (by omega)⟩
end Go.AM.Ytnhfjkckgicidaa
