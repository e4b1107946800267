/- The laws' arguments, by their types. -/
import Derived.Test.YtnhfjkckgicidaaAmN6
import Derived.Test.YtnhfjkckgicidaaAmNA
import Derived.Test.YtnhfjkckgicidaaAmNB
import Derived.Test.YtnhfjkckgicidaaAmNL
import Derived.Test.YtnhfjkckgicidaaAmNP
set_option linter.unusedVariables false
namespace Go.AM.Ytnhfjkckgicidaa
open Go.AM Go.Proofs Go

section
variable {P : Program} {n t : Nat}
theorem Wt.int1 {k : IntKind} {l : List AV} (hu : P.underlying t = some (.int k)) (h : Wt P (n + 1) t l) : ∃ m, l = [.int k m] ∧ (Lit.int k m).wf = true := by
  unfold Wt at h
  rw [hu] at h
  exact h
theorem Wt.bool1 {l : List AV} (hu : P.underlying t = some .bool) (h : Wt P (n + 1) t l) : ∃ m, l = [.bool m] := by
  unfold Wt at h
  rw [hu] at h
  exact h
theorem Wt.str1 {l : List AV} (hu : P.underlying t = some .string) (h : Wt P (n + 1) t l) : ∃ s, l = [.str s] ∧ s.length ≤ reachBytes := by
  unfold Wt at h
  rw [hu] at h
  exact h
theorem Wt.sl1 {e : Nat} {l : List AV} (hu : P.underlying t = some (.slice e)) (h : Wt P (n + 1) t l) : ∃ xs, l = [.sl (P.cellsOf e) false xs] ∧ xs.length * P.bytesOf e ≤ reachBytes ∧ ∀ x ∈ xs, WtV P n e x := by
  unfold Wt at h
  rw [hu] at h
  exact h
theorem Wt.struct1 {fs : Array Field} {l : List AV} (hu : P.underlying t = some (.struct fs)) (h : Wt P (n + 1) t l) : WtFs P n (fs.toList.map (·.type)) l := by
  unfold Wt at h
  rw [hu] at h
  exact h
theorem WtV.int1 {k : IntKind} {x : AV} (hu : P.underlying t = some (.int k)) (h : WtV P (n + 1) t x) : ∃ m, x = .int k m ∧ (Lit.int k m).wf = true := by
  unfold WtV at h
  rw [hu] at h
  exact h.2
theorem WtV.str1 {x : AV} (hu : P.underlying t = some .string) (h : WtV P (n + 1) t x) : ∃ s, x = .str s ∧ s.length ≤ reachBytes := by
  unfold WtV at h
  rw [hu] at h
  exact h.2
theorem WtV.sl1 {e : Nat} {x : AV} (hu : P.underlying t = some (.slice e)) (h : WtV P (n + 1) t x) : ∃ xs, x = .sl (P.cellsOf e) false xs ∧ xs.length * P.bytesOf e ≤ reachBytes ∧ ∀ x ∈ xs, WtV P n e x := by
  unfold WtV at h
  rw [hu] at h
  exact h.2
theorem WtV.struct1 {fs : Array Field} {x : AV} (hu : P.underlying t = some (.struct fs)) (h : WtV P (n + 1) t x) : ∃ l, x = .agg l ∧ WtFs P n (fs.toList.map (·.type)) l := by
  unfold WtV at h
  rw [hu] at h
  exact h.2
theorem WtFs.cons1 {t : Nat} {ts : List TypeId} {l : List AV} (h : WtFs P n (t :: ts) l) : ∃ a b, l = a ++ b ∧ Wt P n t a ∧ WtFs P n ts b := by
  unfold WtFs at h
  obtain ⟨a, b, h1, _, h2, h3⟩ := h
  exact ⟨a, b, h1, h2, h3⟩
theorem WtFs.nil1 {l : List AV} (h : WtFs P n [] l) : l = [] := by
  unfold WtFs at h
  exact h
end
/-- Slices whose elements are all of a form. -/
theorem all_map {α : Type} {f : α → AV} {p : AV → Prop} {q : α → Prop} (h : ∀ x, p x → ∃ a, x = f a ∧ q a) : ∀ xs : List AV, (∀ x ∈ xs, p x) → ∃ l : List α, xs = l.map f ∧ ∀ a ∈ l, q a := by
  intro xs
  induction xs with
  | nil => intro _; exact ⟨[], rfl, by simp⟩
  | cons x r ih =>
    intro hx
    obtain ⟨b, rfl, h1⟩ := h x (hx x (List.mem_cons_self ..))
    obtain ⟨l, rfl, h2⟩ := ih fun y hy => hx y (List.mem_cons_of_mem _ hy)
    exact ⟨b :: l, rfl, by
      intro c hc
      rcases List.mem_cons.1 hc with rfl | hc
      · exact h1
      · exact h2 c hc⟩

theorem wf_i64 {m : Int} (h : (Lit.int .i64 m).wf = true) : -9223372036854775808 ≤ m ∧ m < 9223372036854775808 := by
  have e1 : IntKind.min .i64 = -9223372036854775808 := by decide
  have e2 : IntKind.max .i64 = 9223372036854775807 := by decide
  simp only [Lit.wf, e1, e2, Bool.and_eq_true, decide_eq_true_eq] at h
  omega
theorem wt_int {n : Nat} {l : List AV} (h : Wt Try.prog (n + 1) 3 l) : ∃ m, l = [.int .i64 m] ∧ -9223372036854775808 ≤ m ∧ m < 9223372036854775808 := by
  obtain ⟨m, h1, h2⟩ := Wt.int1 Try.underlying3 h
  exact ⟨m, h1, wf_i64 h2⟩
theorem wt_str {n : Nat} {x : AV} (h : WtV Try.prog (n + 1) 9 x) : ∃ s, x = .str s ∧ s.length ≤ 140737488351232 := WtV.str1 Try.underlying9 h
theorem wt_branch {n : Nat} {x : AV} (h : WtV Try.prog (n + 2) 91 x) : ∃ b : Int × Int, x = brV b ∧ b.1 < 9223372036854775808 ∧ b.2 < 9223372036854775808 := by
  obtain ⟨l, rfl, hl⟩ := WtV.struct1 Try.underlying91 h
  obtain ⟨a, r, rfl, h1, h2⟩ := WtFs.cons1 hl
  obtain ⟨b, r, rfl, h3, h4⟩ := WtFs.cons1 h2
  obtain rfl := WtFs.nil1 h4
  obtain ⟨m, rfl, _, hm⟩ := wt_int h1
  obtain ⟨m', rfl, _, hm'⟩ := wt_int h3
  exact ⟨(m, m'), rfl, hm, hm'⟩
theorem wt_line {n : Nat} {x : AV} (h : WtV Try.prog (n + 3) 35 x) : ∃ l, x = .sl 2 false (l.map brV) ∧ Sm l ∧ l.length ≤ 140737488351232 := by
  obtain ⟨xs, rfl, hx, hall⟩ := WtV.sl1 Try.underlying35 h
  have hb : Try.prog.bytesOf 91 = 16 := by kernel_rfl
  have hc : Try.prog.cellsOf 91 = 2 := by kernel_rfl
  rw [hb] at hx
  rw [hc]
  obtain ⟨l, rfl, h1⟩ := all_map (fun x hx => wt_branch hx) xs hall
  refine ⟨l, rfl, h1, ?_⟩
  rw [List.length_map] at hx
  unfold reachBytes at hx
  omega
theorem law_msgLines (avs : List AV) (h : WtArgs Try.prog 6 [35, 9] avs) : ∃ k, evF pr k 4 avs [] = some (.bool true, []) := by
  obtain ⟨x, r, rfl, h1, y, r', rfl, h2, h3⟩ := h
  obtain rfl : r' = [] := h3
  obtain ⟨l, rfl, hs, _⟩ := wt_line h1
  obtain ⟨s, rfl, hl⟩ := wt_str h2
  exact ⟨2000, msgLines false l hs s (by omega)⟩
end Go.AM.Ytnhfjkckgicidaa

set_option linter.unusedVariables false
namespace Go.AM.Ytnhfjkckgicidaa
open Go.AM Go.Proofs Go
theorem wt_str' {n : Nat} {l : List AV} (h : Wt Try.prog (n + 1) 9 l) : ∃ s, l = [.str s] ∧ s.length ≤ 140737488351232 := Wt.str1 Try.underlying9 h
theorem wt_write {n : Nat} {x : AV} (h : WtV Try.prog (n + 2) 78 x) : ∃ w : Wr, x = wrV w ∧ (w.1 < 9223372036854775808 ∧ w.2.1 < 9223372036854775808 ∧ w.2.2.length ≤ 140737488351232) := by
  obtain ⟨l, rfl, hl⟩ := WtV.struct1 Try.underlying78 h
  obtain ⟨a, r, rfl, h1, h2⟩ := WtFs.cons1 hl
  obtain ⟨b, r, rfl, h3, h4⟩ := WtFs.cons1 h2
  obtain ⟨c, r, rfl, h5, h6⟩ := WtFs.cons1 h4
  obtain rfl := WtFs.nil1 h6
  obtain ⟨m, rfl, _, hm⟩ := wt_int h1
  obtain ⟨m', rfl, _, hm'⟩ := wt_int h3
  obtain ⟨s, rfl, hs⟩ := wt_str' h5
  exact ⟨(m, m', s), rfl, hm, hm', hs⟩
theorem wt_writes {n : Nat} {x : AV} (h : WtV Try.prog (n + 3) 22 x) : ∃ l : List Wr, x = .sl 3 false (l.map wrV) ∧ ∀ w ∈ l, (w.1 < 9223372036854775808 ∧ w.2.1 < 9223372036854775808 ∧ w.2.2.length ≤ 140737488351232) := by
  obtain ⟨xs, rfl, hx, hall⟩ := WtV.sl1 Try.underlying22 h
  have hc : Try.prog.cellsOf 78 = 3 := by kernel_rfl
  rw [hc]
  obtain ⟨l, rfl, h1⟩ := all_map (fun x hx => wt_write hx) xs hall
  exact ⟨l, rfl, h1⟩
theorem law_msgWrites (avs : List AV) (h : WtArgs Try.prog 6 [22, 9] avs) : ∃ k, evF pr k 3 avs [] = some (.bool true, []) := by
  obtain ⟨x, r, rfl, h1, y, r', rfl, h2, h3⟩ := h
  obtain rfl : r' = [] := h3
  obtain ⟨l, rfl, _⟩ := wt_writes h1
  obtain ⟨s, rfl, hl⟩ := wt_str h2
  exact ⟨70000, msgWrites false l s⟩
end Go.AM.Ytnhfjkckgicidaa

set_option linter.unusedVariables false
namespace Go.AM.Ytnhfjkckgicidaa
open Go.AM Go.Proofs Go
theorem law_msgKeeps (avs : List AV) (h : WtArgs Try.prog 6 [35, 22, 9] avs) : ∃ k, evF pr k 5 avs [] = some (.bool true, []) := by
  obtain ⟨x, r, rfl, h1, y, r', rfl, h2, z, r'', rfl, h3, h4⟩ := h
  obtain rfl : r'' = [] := h4
  obtain ⟨l, rfl, hs, _⟩ := wt_line h1
  obtain ⟨ws, rfl, _⟩ := wt_writes h2
  obtain ⟨s, rfl, _⟩ := wt_str h3
  exact ⟨70000, msgKeeps false false l hs ws s⟩
end Go.AM.Ytnhfjkckgicidaa

set_option linter.unusedVariables false
namespace Go.AM.Ytnhfjkckgicidaa
open Go.AM Go.Proofs Go
theorem wf_u64 {m : Int} (h : (Lit.int .u64 m).wf = true) : 0 ≤ m ∧ m < 18446744073709551616 := by
  have e1 : IntKind.min .u64 = 0 := by decide
  have e2 : IntKind.max .u64 = 18446744073709551615 := by decide
  simp only [Lit.wf, e1, e2, Bool.and_eq_true, decide_eq_true_eq] at h
  omega
theorem wt_u64 {n t : Nat} {l : List AV} (hu : Try.prog.underlying t = some (.int .u64)) (h : Wt Try.prog (n + 1) t l) : ∃ m, l = [.int .u64 m] ∧ 0 ≤ m ∧ m < 18446744073709551616 := by
  obtain ⟨m, h1, h2⟩ := Wt.int1 hu h
  exact ⟨m, h1, wf_u64 h2⟩
theorem wt_line' {n : Nat} {l : List AV} (h : Wt Try.prog (n + 3) 35 l) : ∃ b : List (Int × Int), l = [.sl 2 false (b.map brV)] := by
  obtain ⟨xs, rfl, hx, hall⟩ := Wt.sl1 Try.underlying35 h
  have hc : Try.prog.cellsOf 91 = 2 := by kernel_rfl
  rw [hc]
  obtain ⟨b, rfl, h1⟩ := all_map (fun x hx => wt_branch hx) xs hall
  exact ⟨b, rfl⟩
theorem wt_bit {n : Nat} {x : AV} (h : WtV Try.prog (n + 2) 138 x) : ∃ b : Int × Int, x = btV b ∧ 0 ≤ b.2 ∧ b.2 < 18446744073709551616 := by
  obtain ⟨l, rfl, hl⟩ := WtV.struct1 Try.underlying138 h
  obtain ⟨a, r, rfl, h1, h2⟩ := WtFs.cons1 hl
  obtain ⟨b, r, rfl, h3, h4⟩ := WtFs.cons1 h2
  obtain rfl := WtFs.nil1 h4
  obtain ⟨m, rfl, _, hm⟩ := wt_int h1
  obtain ⟨m', rfl, hm'⟩ := wt_u64 Try.underlying136 h3
  exact ⟨(m, m'), rfl, hm'⟩
theorem wt_bits {n : Nat} {l : List AV} (h : Wt Try.prog (n + 3) 48 l) : ∃ b : List (Int × Int), l = [.sl 2 false (b.map btV)] ∧ UM b := by
  obtain ⟨xs, rfl, hx, hall⟩ := Wt.sl1 Try.underlying48 h
  have hc : Try.prog.cellsOf 138 = 2 := by kernel_rfl
  rw [hc]
  obtain ⟨b, rfl, h1⟩ := all_map (fun x hx => wt_bit hx) xs hall
  exact ⟨b, rfl, h1⟩
theorem wt_intV {n : Nat} {x : AV} (h : WtV Try.prog (n + 1) 3 x) : ∃ m : Int, x = .int .i64 m ∧ True := by
  obtain ⟨m, h1, h2⟩ := WtV.int1 Try.underlying3 h
  exact ⟨m, h1, trivial⟩
theorem wt_ints {n : Nat} {l : List AV} (h : Wt Try.prog (n + 3) 49 l) : ∃ b : List Int, l = [.sl 1 false (b.map (AV.int .i64))] := by
  obtain ⟨xs, rfl, hx, hall⟩ := Wt.sl1 Try.underlying49 h
  have hc : Try.prog.cellsOf 3 = 1 := by kernel_rfl
  rw [hc]
  obtain ⟨b, rfl, h1⟩ := all_map (f := AV.int .i64) (q := fun _ => True) (fun x hx => wt_intV hx) xs hall
  exact ⟨b, rfl⟩
theorem wt_writes' {n : Nat} {l : List AV} (h : Wt Try.prog (n + 3) 22 l) : ∃ b : List Wr, l = [.sl 3 false (b.map wrV)] := by
  obtain ⟨xs, rfl, hx, hall⟩ := Wt.sl1 Try.underlying22 h
  have hc : Try.prog.cellsOf 78 = 3 := by kernel_rfl
  rw [hc]
  obtain ⟨b, rfl, h1⟩ := all_map (fun x hx => wt_write hx) xs hall
  exact ⟨b, rfl⟩
theorem wt_msg {x : AV} (h : WtV Try.prog 6 53 x) : ∃ m : Ms, IsM x m ∧ UM m.bt := by
  obtain ⟨l, rfl, hl⟩ := WtV.struct1 (n := 5) Try.underlying53 h
  obtain ⟨c1, r, rfl, t1, hl⟩ := WtFs.cons1 hl
  obtain ⟨c2, r, rfl, t2, hl⟩ := WtFs.cons1 hl
  obtain ⟨c3, r, rfl, t3, hl⟩ := WtFs.cons1 hl
  obtain ⟨c4, r, rfl, t4, hl⟩ := WtFs.cons1 hl
  obtain ⟨c5, r, rfl, t5, hl⟩ := WtFs.cons1 hl
  obtain ⟨c6, r, rfl, t6, hl⟩ := WtFs.cons1 hl
  obtain ⟨c7, r, rfl, t7, hl⟩ := WtFs.cons1 hl
  obtain ⟨c8, r, rfl, t8, hl⟩ := WtFs.cons1 hl
  obtain ⟨c9, r, rfl, t9, hl⟩ := WtFs.cons1 hl
  obtain ⟨c10, r, rfl, t10, hl⟩ := WtFs.cons1 hl
  obtain ⟨c11, r, rfl, t11, hl⟩ := WtFs.cons1 hl
  obtain rfl := WtFs.nil1 hl
  obtain ⟨kd, rfl, _⟩ := wt_int t1
  obtain ⟨ep, rfl, _⟩ := wt_int t2
  obtain ⟨ln, rfl⟩ := wt_line' t3
  obtain ⟨sq, rfl, _⟩ := wt_int t4
  obtain ⟨nn, rfl, _⟩ := wt_int t5
  obtain ⟨fo, rfl, _⟩ := wt_int t6
  obtain ⟨fu, rfl⟩ := Wt.bool1 Try.underlying4 t7
  have t8 := Wt.struct1 Try.underlying47 t8
  obtain ⟨d1, r, rfl, u1, t8⟩ := WtFs.cons1 t8
  obtain ⟨d2, r, rfl, u2, t8⟩ := WtFs.cons1 t8
  obtain rfl := WtFs.nil1 t8
  obtain ⟨an, rfl⟩ := wt_line' u1
  obtain ⟨asq, rfl, _⟩ := wt_int u2
  obtain ⟨bt, rfl, hbt⟩ := wt_bits t9
  obtain ⟨sz, rfl⟩ := wt_ints t10
  have t11 := Wt.struct1 Try.underlying51 t11
  obtain ⟨d3, r, rfl, u3, t11⟩ := WtFs.cons1 t11
  obtain ⟨d4, r, rfl, u4, t11⟩ := WtFs.cons1 t11
  obtain ⟨d5, r, rfl, u5, t11⟩ := WtFs.cons1 t11
  obtain rfl := WtFs.nil1 t11
  obtain ⟨fr, rfl, _⟩ := wt_int u3
  obtain ⟨to, rfl, _⟩ := wt_int u4
  obtain ⟨wr, rfl⟩ := wt_writes' u5
  exact ⟨⟨kd, ep, ln, sq, nn, fo, fu, an, asq, bt, sz, fr, to, wr⟩, ⟨_, _, _, _, _, rfl, .inl ⟨false, rfl⟩, .inl ⟨false, rfl⟩, .inl ⟨false, rfl⟩, .inl ⟨false, rfl⟩, .inl ⟨false, rfl⟩⟩, hbt⟩
theorem law_msgBytes (avs : List AV) (h : WtArgs Try.prog 6 [53] avs) : ∃ k, evF pr k 7 avs [] = some (.bool true, []) := by
  obtain ⟨x, r, rfl, h1, h2⟩ := h
  obtain rfl : r = [] := h2
  obtain ⟨m, hM, hu⟩ := wt_msg h1
  exact ⟨70000, msgBytes hM hu⟩
theorem law_msgApart (avs : List AV) (h : WtArgs Try.prog 6 [53, 53, 9] avs) : ∃ k, evF pr k 8 avs [] = some (.bool true, []) := by
  obtain ⟨x, r, rfl, h1, y, r', rfl, h2, z, r'', rfl, h3, h4⟩ := h
  obtain rfl : r'' = [] := h4
  obtain ⟨m, hM, hu⟩ := wt_msg h1
  obtain ⟨m', hM', hu'⟩ := wt_msg h2
  obtain ⟨s, rfl, hs⟩ := wt_str h3
  exact ⟨70000, msgApart hM hM' hu hu' s hs⟩
end Go.AM.Ytnhfjkckgicidaa

set_option linter.unusedVariables false
namespace Go.AM.Ytnhfjkckgicidaa
open Go.AM Go.Proofs Go
theorem law_msgParses (avs : List AV) (h : WtArgs Try.prog 6 [9] avs) : ∃ k, evF pr k 6 avs [] = some (.bool true, []) := by
  obtain ⟨x, r, rfl, h1, h2⟩ := h
  obtain rfl : r = [] := h2
  obtain ⟨s, rfl, hs⟩ := wt_str h1
  exact ⟨70000, msgParses s⟩
end Go.AM.Ytnhfjkckgicidaa
