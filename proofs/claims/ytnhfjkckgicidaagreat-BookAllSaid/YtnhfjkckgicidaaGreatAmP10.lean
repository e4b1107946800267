/- The rest of book: awake, the laws' trees. -/
import Derived.Test.YtnhfjkckgicidaaGreatAmP09
import Derived.Test.YtnhfjkckgicidaaGreatChecked
set_option linter.unusedVariables false
set_option linter.unusedSimpArgs false
namespace Go.AM.YtnhfjkckgicidaaGreat
open Go.AM Go.Proofs Go
theorem t21 (F : Fns) (N : Nat) : runOf F 21 N [] [] =
 some (AV.agg [AV.int .i64 2, AV.bool false, AV.bool false, AV.int .i64 0, AV.sl 0 true [], AV.int .i64 0, AV.sl 0 true [], AV.bool false, AV.sl 0 true [], AV.sl 0 true [], AV.int .i64 0, AV.sl 0 true [], AV.sl 0 true [], AV.int .i64 0, AV.int .i64 0, AV.int .i64 0, AV.bool false, AV.sl 0 true [], AV.int .i64 0, AV.sl 0 true [], AV.sl 0 true [], AV.int .i64 0, AV.int .i64 0, AV.int .i64 0, AV.int .i64 0, AV.int .i64 0], []) := by kernel_rfl
theorem t8 (F : Fns) (N : Nat) : runOf F 8 N [] [] =
 zRe (F 21 [] []) fun v bs => zNd v fun n b b_1 n_1 m fl xs n_2 m_1 fl_1 xs_1 b_2 m_2 fl_2 xs_2 m_3 fl_3 xs_3 n_3 m_4 fl_4 xs_4 m_5 fl_5 xs_5 n_4 n_5 n_6 b_3 m_6 fl_6 xs_6 n_7 m_7 fl_7 xs_7 m_8 fl_8 xs_8 n_8 n_9 n_10 n_11 n_12 => (zNi bs (zRe (F 9 [AV.agg [AV.int .i64 n, AV.bool b, AV.bool b_1, AV.int .i64 n_1, AV.sl m fl xs, AV.int .i64 n_2, AV.sl m_1 fl_1 xs_1, AV.bool b_2, AV.sl m_2 fl_2 xs_2, AV.sl m_3 fl_3 xs_3, AV.int .i64 n_3, AV.sl m_4 fl_4 xs_4, AV.sl m_5 fl_5 xs_5, AV.int .i64 n_4, AV.int .i64 n_5, AV.int .i64 n_6, AV.bool b_3, AV.sl m_6 fl_6 xs_6, AV.int .i64 n_7, AV.sl m_7 fl_7 xs_7, AV.sl m_8 fl_8 xs_8, AV.int .i64 n_8, AV.int .i64 n_9, AV.int .i64 n_10, AV.int .i64 n_11, AV.int .i64 n_12]] []) fun v bs => zTC v fun v r => zSt v fun s => zCo r fun v r => zIn .i64 v fun n => zNi r (zNi bs (zRe (F 11 [AV.str s] []) fun v bs => zTC v fun v r => zNd v fun n_13 b b n_14 m fl xs n_15 m fl xs b m fl xs m fl xs n_16 m fl xs m fl xs n_17 n_18 n_19 b m fl xs n_20 m fl xs m fl xs n_21 n_22 n_23 n_24 n_25 => (zCo r fun v r => zIn .i64 v fun n_26 => zNi r (zNi bs (bif (s.length : Int) == 107 then bif n == 0 then bif n_13 == 2 then some (AV.bool (n_26 == 0), []) else some (AV.bool false, []) else some (AV.bool false, []) else some (AV.bool false, [])))))))) := by kernel_rfl
theorem t3 (F : Fns) (N : Nat) (n : Nd) : runOf F 3 N [.agg (ndL n)] [] =
 zRe (F 7 [AV.agg (ndL n)] []) fun v bs => zBo v fun b => zNi bs (bif !b then zRe (F 8 [] []) fun v bs => zBo v fun b => zNi bs (some (AV.bool b, [])) else zRe (F 9 [AV.agg (ndL n)] []) fun v bs => zTC v fun v r => zSt v fun s => zCo r fun v r => zIn .i64 v fun n_1 => zNi r (zNi bs (zRe (F 10 [AV.agg (ndL n)] []) fun v bs => zBo v fun b => zNi bs (bif !b then bif s == [] then bif n_1 == 1 then zRe (F 8 [] []) fun v bs => zBo v fun b => zNi bs (some (AV.bool b, [])) else some (AV.bool false, []) else some (AV.bool false, []) else zRe (F 11 [AV.str s] []) fun v bs => zTC v fun v r => zNd v fun n_2 b b_1 n_3 m fl xs n_4 m_1 fl_1 xs_1 b_2 m_2 fl_2 xs_2 m_3 fl_3 xs_3 n_5 m_4 fl_4 xs_4 m_5 fl_5 xs_5 n_6 n_7 n_8 b_3 m_6 fl_6 xs_6 n_9 m_7 fl_7 xs_7 m_8 fl_8 xs_8 n_10 n_11 n_12 n_13 n_14 => (zCo r fun v r => zIn .i64 v fun n_15 => zNi r (zNi bs (zRe (F 12 [AV.agg (ndL n)] []) fun v bs => zSt v fun s_1 => zNi bs (bif s == s_1 then bif n_1 == 0 then zRe (F 13 [AV.agg [AV.int .i64 n_2, AV.bool b, AV.bool b_1, AV.int .i64 n_3, AV.sl m fl xs, AV.int .i64 n_4, AV.sl m_1 fl_1 xs_1, AV.bool b_2, AV.sl m_2 fl_2 xs_2, AV.sl m_3 fl_3 xs_3, AV.int .i64 n_5, AV.sl m_4 fl_4 xs_4, AV.sl m_5 fl_5 xs_5, AV.int .i64 n_6, AV.int .i64 n_7, AV.int .i64 n_8, AV.bool b_3, AV.sl m_6 fl_6 xs_6, AV.int .i64 n_9, AV.sl m_7 fl_7 xs_7, AV.sl m_8 fl_8 xs_8, AV.int .i64 n_10, AV.int .i64 n_11, AV.int .i64 n_12, AV.int .i64 n_13, AV.int .i64 n_14], AV.agg (ndL n)] []) fun v bs => zBo v fun b => zNi bs (bif b then bif n_15 == 0 then zRe (F 8 [] []) fun v bs => zBo v fun b => zNi bs (some (AV.bool b, [])) else some (AV.bool false, []) else some (AV.bool false, [])) else some (AV.bool false, []) else some (AV.bool false, []))))))))) := by kernel_rfl
theorem t4 (F : Fns) (N : Nat) (s : List UInt8) : runOf F 4 N [.str s] [] =
 bif decide ((s.length : Int) > 8192) then zRe (F 8 [] []) fun v bs => zBo v fun b => zNi bs (some (AV.bool b, [])) else zRe (F 11 [AV.str s] []) fun v bs => zTC v fun v r => zNd v fun n b b_1 n_1 m fl xs n_2 m_1 fl_1 xs_1 b_2 m_2 fl_2 xs_2 m_3 fl_3 xs_3 n_3 m_4 fl_4 xs_4 m_5 fl_5 xs_5 n_4 n_5 n_6 b_3 m_6 fl_6 xs_6 n_7 m_7 fl_7 xs_7 m_8 fl_8 xs_8 n_8 n_9 n_10 n_11 n_12 => (zCo r fun v r => zIn .i64 v fun n_13 => zNi r (zNi bs (zRe (F 14 [AV.str s] []) fun v bs => zTC v fun v r => zNd v fun n_14 b_4 b_5 n_15 m_9 fl_9 xs_9 n_16 m_10 fl_10 xs_10 b_6 m_11 fl_11 xs_11 m_12 fl_12 xs_12 n_17 m_13 fl_13 xs_13 m_14 fl_14 xs_14 n_18 n_19 n_20 b_7 m_15 fl_15 xs_15 n_21 m_16 fl_16 xs_16 m_17 fl_17 xs_17 n_22 n_23 n_24 n_25 n_26 => (zCo r fun v r => zBo v fun b_8 => zNi r (zNi bs (bif !b_8 then zRe (F 13 [AV.agg [AV.int .i64 n, AV.bool b, AV.bool b_1, AV.int .i64 n_1, AV.sl m fl xs, AV.int .i64 n_2, AV.sl m_1 fl_1 xs_1, AV.bool b_2, AV.sl m_2 fl_2 xs_2, AV.sl m_3 fl_3 xs_3, AV.int .i64 n_3, AV.sl m_4 fl_4 xs_4, AV.sl m_5 fl_5 xs_5, AV.int .i64 n_4, AV.int .i64 n_5, AV.int .i64 n_6, AV.bool b_3, AV.sl m_6 fl_6 xs_6, AV.int .i64 n_7, AV.sl m_7 fl_7 xs_7, AV.sl m_8 fl_8 xs_8, AV.int .i64 n_8, AV.int .i64 n_9, AV.int .i64 n_10, AV.int .i64 n_11, AV.int .i64 n_12], AV.agg zdL] []) fun v bs => zBo v fun b => zNi bs (bif b then bif n_13 == 3 then zRe (F 8 [] []) fun v bs => zBo v fun b => zNi bs (some (AV.bool b, [])) else some (AV.bool false, []) else some (AV.bool false, [])) else zRe (F 13 [AV.agg [AV.int .i64 n, AV.bool b, AV.bool b_1, AV.int .i64 n_1, AV.sl m fl xs, AV.int .i64 n_2, AV.sl m_1 fl_1 xs_1, AV.bool b_2, AV.sl m_2 fl_2 xs_2, AV.sl m_3 fl_3 xs_3, AV.int .i64 n_3, AV.sl m_4 fl_4 xs_4, AV.sl m_5 fl_5 xs_5, AV.int .i64 n_4, AV.int .i64 n_5, AV.int .i64 n_6, AV.bool b_3, AV.sl m_6 fl_6 xs_6, AV.int .i64 n_7, AV.sl m_7 fl_7 xs_7, AV.sl m_8 fl_8 xs_8, AV.int .i64 n_8, AV.int .i64 n_9, AV.int .i64 n_10, AV.int .i64 n_11, AV.int .i64 n_12], AV.agg [AV.int .i64 n_14, AV.bool b_4, AV.bool b_5, AV.int .i64 n_15, AV.sl m_9 fl_9 xs_9, AV.int .i64 n_16, AV.sl m_10 fl_10 xs_10, AV.bool b_6, AV.sl m_11 fl_11 xs_11, AV.sl m_12 fl_12 xs_12, AV.int .i64 n_17, AV.sl m_13 fl_13 xs_13, AV.sl m_14 fl_14 xs_14, AV.int .i64 n_18, AV.int .i64 n_19, AV.int .i64 n_20, AV.bool b_7, AV.sl m_15 fl_15 xs_15, AV.int .i64 n_21, AV.sl m_16 fl_16 xs_16, AV.sl m_17 fl_17 xs_17, AV.int .i64 n_22, AV.int .i64 n_23, AV.int .i64 n_24, AV.int .i64 n_25, AV.int .i64 n_26]] []) fun v bs => zBo v fun b => zNi bs (bif b then bif n_13 == 0 then zRe (F 8 [] []) fun v bs => zBo v fun b => zNi bs (some (AV.bool b, [])) else some (AV.bool false, []) else some (AV.bool false, [])))))))) := by kernel_rfl
def nA : Nd := { zN with ro := 2 }
theorem nA_ok : nodeOk nA = true := (by kernel_rfl)
theorem nA_len : (nodeB nA).length = 107 := (by kernel_rfl)
theorem nA_B : NdB nA := ⟨by decide, by decide, by decide, by decide, by decide, by simp [UM, nA, zN], by decide, by simp [nA, zN], by decide, by decide, by simp [nA, zN], by decide, by decide⟩
theorem nA_is : IsB (nodeB nA) nA := ⟨nA_ok, nA_B, by decide, rfl⟩
theorem x21 (k : Nat) (hk : 1 ≤ k) : W k 21 [] [] = some (.agg (ndL nA), []) := by
 obtain ⟨k, rfl⟩ := succ1 (show 1 ≤ k by omega)
 exact (W_tree (t21 (W k) k) (by kernel_rfl)).trans (by kernel_rfl)
theorem x11ok (k : Nat) (hk : 70700 ≤ k) {s : List UInt8} {n : Nd} (h : IsB s n) : W k 11 [.str s] [] = okB n := by
 obtain ⟨m, r, hd, hw⟩ := x11 k hk s
 obtain ⟨h1, h2, h3, rfl⟩ := h
 obtain ⟨rfl, rfl⟩ := dec_put (rt_of h1 h2.cp) h2.um h3 hd
 rw [hw fun _ _ => h2]
 unfold outC
 rw [if_pos ⟨rfl, rfl, h1⟩]
theorem x8 (k : Nat) (hk : 70800 ≤ k) : W k 8 [] [] = some (.bool true, []) := by
 obtain ⟨k, rfl⟩ := succ1 (show 1 ≤ k by omega)
 refine (W_tree0 (t8 (W k) k) (by kernel_rfl)).trans ?_
 refine qO (x21 k (by omega)) ?_
 repeat with_reducible first|apply qT|apply qC|apply qN|apply qS|apply qB|apply qI|apply qA|apply qL
 refine qO (x9 k (by omega) nA nA_B nA_ok (by decide)) ?_
 repeat with_reducible first|apply qT|apply qC|apply qN|apply qS|apply qB|apply qI|apply qA|apply qL
 refine qO (x11ok k (by omega) nA_is) ?_
 repeat with_reducible first|apply qT|apply qC|apply qN|apply qS|apply qB|apply qI|apply qA|apply qL
 refine qY (by rw [nA_len]; rfl) ?_
 rfl
theorem small_B {n : Nd} (h : smallN n = true) (hu : UM n.ch) : NdB n := by
 unfold smallN smallV smallQ at h
 simp only [Bool.and_eq_true, decide_eq_true_eq, List.all_eq_true] at h
 obtain ⟨⟨⟨⟨h1, h2, h3, h4, h5⟩, ⟨h6, h7⟩, h8⟩, ⟨h9, h10⟩, h11⟩, h12⟩ := h
 refine ⟨by omega, by omega, by omega, by omega, by omega, hu, by omega, fun s hs => h12 s hs, by omega, by omega, fun s hs => by have := h11 s hs; omega, by omega, ?_⟩
 have e : ∀ l : List Shot, (∀ s ∈ l, s.2.2.length ≤ 60) → (l.flatMap fun s => s.2.2).length ≤ 60 * l.length := by
  intro l
  induction l with
  | nil => simp
  | cons x r ih =>
   intro hl
   have e1 := ih fun s hs => hl s (List.mem_cons_of_mem _ hs)
   have e2 := hl x (List.mem_cons_self ..)
   rw [List.flatMap_cons, List.length_append, List.length_cons]
   omega
 have := e n.qs h11
 omega
theorem x13s (k : Nat) (hk : 70500 ≤ k) (n : Nd) (hc : NdC n) : W k 13 [.agg (ndL n), .agg (ndL n)] [] = some (.bool true, []) := by
 have h := x13 k hk n n hc
 rwa [(eqN_iff n n).2 rfl] at h
open Go.AM Go.Proofs Go
section
variable {P : Program} {n t : Nat}
theorem Wt.int1 {k : IntKind} {l : List AV} (hu : P.underlying t = some (.int k)) (h : Wt P (n + 1) t l) : ∃ m, l = [.int k m] ∧ (Lit.int k m).wf = true := by
 unfold Wt at h
 rw [hu] at h
 exact h
theorem Wt.bool1 {l : List AV} (hu : P.underlying t = some .bool) (h : Wt P (n + 1) t l) : ∃ m, l = [.bool m] := by
 unfold Wt at h
 rw [hu] at h
 exact h
theorem Wt.str1 {l : List AV} (hu : P.underlying t = some .string) (h : Wt P (n + 1) t l) : ∃ s, l = [.str s] ∧ s.length ≤ reachBytes := by
 unfold Wt at h
 rw [hu] at h
 exact h
theorem Wt.sl1 {e : Nat} {l : List AV} (hu : P.underlying t = some (.slice e)) (h : Wt P (n + 1) t l) : ∃ xs, l = [.sl (P.cellsOf e) false xs] ∧ xs.length * P.bytesOf e ≤ reachBytes ∧ ∀ x ∈ xs, WtV P n e x := by
 unfold Wt at h
 rw [hu] at h
 exact h
theorem Wt.struct1 {fs : Array Field} {l : List AV} (hu : P.underlying t = some (.struct fs)) (h : Wt P (n + 1) t l) : WtFs P n (fs.toList.map (·.type)) l := by
 unfold Wt at h
 rw [hu] at h
 exact h
theorem WtV.int1 {k : IntKind} {x : AV} (hu : P.underlying t = some (.int k)) (h : WtV P (n + 1) t x) : ∃ m, x = .int k m ∧ (Lit.int k m).wf = true := by
 unfold WtV at h
 rw [hu] at h
 exact h.2
theorem WtV.str1 {x : AV} (hu : P.underlying t = some .string) (h : WtV P (n + 1) t x) : ∃ s, x = .str s ∧ s.length ≤ reachBytes := by
 unfold WtV at h
 rw [hu] at h
 exact h.2
theorem WtV.sl1 {e : Nat} {x : AV} (hu : P.underlying t = some (.slice e)) (h : WtV P (n + 1) t x) : ∃ xs, x = .sl (P.cellsOf e) false xs ∧ xs.length * P.bytesOf e ≤ reachBytes ∧ ∀ x ∈ xs, WtV P n e x := by
 unfold WtV at h
 rw [hu] at h
 exact h.2
theorem WtV.struct1 {fs : Array Field} {x : AV} (hu : P.underlying t = some (.struct fs)) (h : WtV P (n + 1) t x) : ∃ l, x = .agg l ∧ WtFs P n (fs.toList.map (·.type)) l := by
 unfold WtV at h
 rw [hu] at h
 exact h.2
theorem WtFs.cons1 {t : Nat} {ts : List TypeId} {l : List AV} (h : WtFs P n (t :: ts) l) : ∃ a b, l = a ++ b ∧ Wt P n t a ∧ WtFs P n ts b := by
 unfold WtFs at h
 obtain ⟨a, b, h1, _, h2, h3⟩ := h
 exact ⟨a, b, h1, h2, h3⟩
theorem WtFs.nil1 {l : List AV} (h : WtFs P n [] l) : l = [] := by
 unfold WtFs at h
 exact h
end
theorem all_map {α : Type} {f : α → AV} {p : AV → Prop} {q : α → Prop} (h : ∀ x, p x → ∃ a, x = f a ∧ q a) : ∀ xs : List AV, (∀ x ∈ xs, p x) → ∃ l : List α, xs = l.map f ∧ ∀ a ∈ l, q a := by
 intro xs
 induction xs with
 | nil => intro _; exact ⟨[], rfl, by simp⟩
 | cons x r ih =>
  intro hx
  obtain ⟨b, rfl, h1⟩ := h x (hx x (List.mem_cons_self ..))
  obtain ⟨l, rfl, h2⟩ := ih fun y hy => hx y (List.mem_cons_of_mem _ hy)
  exact ⟨b :: l, rfl, by
   intro c hc
   rcases List.mem_cons.1 hc with rfl | hc
   ·exact h1
   ·exact h2 c hc⟩
theorem wf_i64 {m : Int} (h : (Lit.int .i64 m).wf = true) : -9223372036854775808 ≤ m ∧ m < 9223372036854775808 := by
 have e1 : IntKind.min .i64 = -9223372036854775808 := by decide
 have e2 : IntKind.max .i64 = 9223372036854775807 := by decide
 simp only [Lit.wf, e1, e2, Bool.and_eq_true, decide_eq_true_eq] at h
 omega
theorem wf_u64 {m : Int} (h : (Lit.int .u64 m).wf = true) : 0 ≤ m ∧ m < 18446744073709551616 := by
 have e1 : IntKind.min .u64 = 0 := by decide
 have e2 : IntKind.max .u64 = 18446744073709551615 := by decide
 simp only [Lit.wf, e1, e2, Bool.and_eq_true, decide_eq_true_eq] at h
 omega
theorem wt_int {n : Nat} {l : List AV} (h : Wt Tryz.prog (n + 1) 3 l) : ∃ m, l = [.int .i64 m] ∧ -9223372036854775808 ≤ m ∧ m < 9223372036854775808 := by
 obtain ⟨m, h1, h2⟩ := Wt.int1 Tryz.underlying3 h
 exact ⟨m, h1, wf_i64 h2⟩
theorem wt_u64 {n : Nat} {l : List AV} (h : Wt Tryz.prog (n + 1) 112 l) : ∃ m, l = [.int .u64 m] ∧ 0 ≤ m ∧ m < 18446744073709551616 := by
 obtain ⟨m, h1, h2⟩ := Wt.int1 Tryz.underlying112 h
 exact ⟨m, h1, wf_u64 h2⟩
theorem wt_bool {n : Nat} {l : List AV} (h : Wt Tryz.prog (n + 1) 4 l) : ∃ m, l = [.bool m] := Wt.bool1 Tryz.underlying4 h
theorem wt_str {n : Nat} {x : AV} (h : WtV Tryz.prog (n + 1) 9 x) : ∃ s, x = .str s ∧ s.length ≤ 140737488351232 := WtV.str1 Tryz.underlying9 h
theorem wt_str' {n : Nat} {l : List AV} (h : Wt Tryz.prog (n + 1) 9 l) : ∃ s, l = [.str s] ∧ s.length ≤ 140737488351232 := Wt.str1 Tryz.underlying9 h
theorem wt_branch {n : Nat} {x : AV} (h : WtV Tryz.prog (n + 2) 120 x) : ∃ b : Int × Int, x = brV b ∧ True := by
 obtain ⟨l, rfl, hl⟩ := WtV.struct1 Tryz.underlying120 h
 obtain ⟨a, r, rfl, h1, h2⟩ := WtFs.cons1 hl
 obtain ⟨b, r, rfl, h3, h4⟩ := WtFs.cons1 h2
 obtain rfl := WtFs.nil1 h4
 obtain ⟨m, rfl, _, hm⟩ := wt_int h1
 obtain ⟨m', rfl, _, hm'⟩ := wt_int h3
 exact ⟨(m, m'), rfl, trivial⟩
theorem wt_line {n : Nat} {x : List AV} (h : Wt Tryz.prog (n + 3) 22 x) : ∃ l, x = [lnV l] := by
 obtain ⟨xs, rfl, hx, hall⟩ := Wt.sl1 Tryz.underlying22 h
 have hc : Tryz.prog.cellsOf 120 = 2 := by kernel_rfl
 rw [hc]
 obtain ⟨l, rfl, h1⟩ := all_map (fun x hx => wt_branch hx) xs hall
 exact ⟨l, rfl⟩
theorem wt_bit {n : Nat} {x : AV} (h : WtV Tryz.prog (n + 2) 114 x) : ∃ b : Int × Int, x = btV b ∧ (0 ≤ b.2 ∧ b.2 < 18446744073709551616) := by
 obtain ⟨l, rfl, hl⟩ := WtV.struct1 Tryz.underlying114 h
 obtain ⟨a, r, rfl, h1, h2⟩ := WtFs.cons1 hl
 obtain ⟨b, r, rfl, h3, h4⟩ := WtFs.cons1 h2
 obtain rfl := WtFs.nil1 h4
 obtain ⟨m, rfl, _, hm⟩ := wt_int h1
 obtain ⟨m', rfl, hm'⟩ := wt_u64 h3
 exact ⟨(m, m'), rfl, hm'⟩
theorem wt_bits {n : Nat} {x : List AV} (h : Wt Tryz.prog (n + 3) 27 x) : ∃ l, x = [btsV l] ∧ UM l := by
 obtain ⟨xs, rfl, hx, hall⟩ := Wt.sl1 Tryz.underlying27 h
 have hc : Tryz.prog.cellsOf 114 = 2 := by kernel_rfl
 rw [hc]
 obtain ⟨l, rfl, h1⟩ := all_map (fun x hx => wt_bit hx) xs hall
 exact ⟨l, rfl, h1⟩
theorem wt_write {n : Nat} {x : AV} (h : WtV Tryz.prog (n + 2) 147 x) : ∃ w : Wr, x = wrV w ∧ True := by
 obtain ⟨l, rfl, hl⟩ := WtV.struct1 Tryz.underlying147 h
 obtain ⟨a, r, rfl, h1, h2⟩ := WtFs.cons1 hl
 obtain ⟨b, r, rfl, h3, h4⟩ := WtFs.cons1 h2
 obtain ⟨c, r, rfl, h5, h6⟩ := WtFs.cons1 h4
 obtain rfl := WtFs.nil1 h6
 obtain ⟨m, rfl, _, hm⟩ := wt_int h1
 obtain ⟨m', rfl, _, hm'⟩ := wt_int h3
 obtain ⟨s, rfl, hs⟩ := wt_str' h5
 exact ⟨(m, m', s), rfl, trivial⟩
theorem wt_writes {n : Nat} {x : List AV} (h : Wt Tryz.prog (n + 3) 24 x) : ∃ l : List Wr, x = [wsV l] := by
 obtain ⟨xs, rfl, hx, hall⟩ := Wt.sl1 Tryz.underlying24 h
 have hc : Tryz.prog.cellsOf 147 = 3 := by kernel_rfl
 rw [hc]
 obtain ⟨l, rfl, h1⟩ := all_map (fun x hx => wt_write hx) xs hall
 exact ⟨l, rfl⟩
theorem wt_vol {n : Nat} {x : AV} (h : WtV Tryz.prog (n + 3) 103 x) : ∃ v : Vol, x = volV false v ∧ True := by
 obtain ⟨l, rfl, hl⟩ := WtV.struct1 Tryz.underlying103 h
 obtain ⟨a, r, rfl, h1, h2⟩ := WtFs.cons1 hl
 obtain ⟨b, r, rfl, h3, h4⟩ := WtFs.cons1 h2
 obtain rfl := WtFs.nil1 h4
 obtain ⟨m, rfl, _, hm⟩ := wt_int h1
 obtain ⟨xs, rfl, hx, hall⟩ := Wt.sl1 Tryz.underlying49 h3
 have hc : Tryz.prog.cellsOf 9 = 1 := by kernel_rfl
 rw [hc]
 obtain ⟨l, rfl, h1⟩ := all_map (fun x hx => wt_str hx) xs hall
 exact ⟨(m, l), rfl, trivial⟩
theorem wt_vols {n : Nat} {x : List AV} (h : Wt Tryz.prog (n + 4) 23 x) : ∃ l : List Vol, x = [vsV l] := by
 obtain ⟨xs, rfl, hx, hall⟩ := Wt.sl1 Tryz.underlying23 h
 have hc : Tryz.prog.cellsOf 103 = 2 := by kernel_rfl
 rw [hc]
 obtain ⟨l, rfl, h1⟩ := all_map (fun x hx => wt_vol hx) xs hall
 exact ⟨l, rfl⟩
theorem wt_fields {n : Nat} {l : List AV} (h : WtFs Tryz.prog (n + 3) [3, 3, 24] l) : ∃ s : Shot, l = [.int .i64 s.1, .int .i64 s.2.1, wsV s.2.2] := by
 obtain ⟨a, r, rfl, h1, h2⟩ := WtFs.cons1 h
 obtain ⟨b, r, rfl, h3, h4⟩ := WtFs.cons1 h2
 obtain ⟨c, r, rfl, h5, h6⟩ := WtFs.cons1 h4
 obtain rfl := WtFs.nil1 h6
 obtain ⟨m, rfl, _, hm⟩ := wt_int h1
 obtain ⟨m', rfl, _, hm'⟩ := wt_int h3
 obtain ⟨ws, rfl⟩ := wt_writes h5
 exact ⟨(m, m', ws), rfl⟩
theorem wt_shot {n : Nat} {x : AV} (h : WtV Tryz.prog (n + 4) 59 x) : ∃ v : Shot, x = shV v ∧ True := by
 obtain ⟨l, rfl, hl⟩ := WtV.struct1 Tryz.underlying59 h
 obtain ⟨s, rfl⟩ := wt_fields hl
 exact ⟨s, rfl, trivial⟩
theorem wt_set {n : Nat} {x : AV} (h : WtV Tryz.prog (n + 4) 70 x) : ∃ v : Shot, x = shV v ∧ True := by
 obtain ⟨l, rfl, hl⟩ := WtV.struct1 Tryz.underlying70 h
 obtain ⟨s, rfl⟩ := wt_fields hl
 exact ⟨s, rfl, trivial⟩
theorem wt_shots {n : Nat} {x : List AV} (h : Wt Tryz.prog (n + 5) 28 x) : ∃ l : List Shot, x = [shsV l] := by
 obtain ⟨xs, rfl, hx, hall⟩ := Wt.sl1 Tryz.underlying28 h
 have hc : Tryz.prog.cellsOf 59 = 3 := by kernel_rfl
 rw [hc]
 obtain ⟨l, rfl, h1⟩ := all_map (fun x hx => wt_shot hx) xs hall
 exact ⟨l, rfl⟩
theorem wt_sets {n : Nat} {x : List AV} (h : Wt Tryz.prog (n + 5) 29 x) : ∃ l : List Shot, x = [shsV l] := by
 obtain ⟨xs, rfl, hx, hall⟩ := Wt.sl1 Tryz.underlying29 h
 have hc : Tryz.prog.cellsOf 70 = 3 := by kernel_rfl
 rw [hc]
 obtain ⟨l, rfl, h1⟩ := all_map (fun x hx => wt_set hx) xs hall
 exact ⟨l, rfl⟩
theorem wt_pos {n : Nat} {x : List AV} (h : Wt Tryz.prog (n + 4) 26 x) : ∃ (l : List (Int × Int)) (z : Int), x = [lnV l, .int .i64 z] := by
 have h := Wt.struct1 Tryz.underlying26 h
 obtain ⟨a, r, rfl, h1, h2⟩ := WtFs.cons1 h
 obtain ⟨b, r, rfl, h3, h4⟩ := WtFs.cons1 h2
 obtain rfl := WtFs.nil1 h4
 obtain ⟨l, rfl⟩ := wt_line h1
 obtain ⟨m', rfl, _, hm'⟩ := wt_int h3
 exact ⟨l, m', rfl⟩
theorem wt_queue {n : Nat} {x : List AV} (h : Wt Tryz.prog (n + 6) 31 x) : ∃ (l : List Shot) (w : List Wr) (y z : Int), x = [shsV l, wsV w, .int .i64 y, .int .i64 z] := by
 have h := Wt.struct1 Tryz.underlying31 h
 obtain ⟨a, r, rfl, h1, h2⟩ := WtFs.cons1 h
 obtain ⟨b, r, rfl, h3, h4⟩ := WtFs.cons1 h2
 obtain ⟨c, r, rfl, h5, h6⟩ := WtFs.cons1 h4
 obtain ⟨d, r, rfl, h7, h8⟩ := WtFs.cons1 h6
 obtain rfl := WtFs.nil1 h8
 obtain ⟨l, rfl⟩ := wt_sets h1
 obtain ⟨w, rfl⟩ := wt_writes h3
 obtain ⟨m, rfl, _, _⟩ := wt_int h5
 obtain ⟨m', rfl, _, _⟩ := wt_int h7
 exact ⟨l, w, m, m', rfl⟩
theorem wt_node {n : Nat} {x : AV} (h : WtV Tryz.prog (n + 7) 33 x) : ∃ m : Nd, x = .agg (ndL m) ∧ UM m.ch := by
 obtain ⟨l, rfl, h0⟩ := WtV.struct1 Tryz.underlying33 h
 obtain ⟨a0, r, rfl, g0, h1⟩ := WtFs.cons1 h0
 obtain ⟨a1, r, rfl, g1, h2⟩ := WtFs.cons1 h1
 obtain ⟨a2, r, rfl, g2, h3⟩ := WtFs.cons1 h2
 obtain ⟨a3, r, rfl, g3, h4⟩ := WtFs.cons1 h3
 obtain ⟨a4, r, rfl, g4, h5⟩ := WtFs.cons1 h4
 obtain ⟨a5, r, rfl, g5, h6⟩ := WtFs.cons1 h5
 obtain ⟨a6, r, rfl, g6, h7⟩ := WtFs.cons1 h6
 obtain ⟨a7, r, rfl, g7, h8⟩ := WtFs.cons1 h7
 obtain ⟨a8, r, rfl, g8, h9⟩ := WtFs.cons1 h8
 obtain ⟨a9, r, rfl, g9, h10⟩ := WtFs.cons1 h9
 obtain ⟨a10, r, rfl, g10, h11⟩ := WtFs.cons1 h10
 obtain ⟨a11, r, rfl, g11, h12⟩ := WtFs.cons1 h11
 obtain ⟨a12, r, rfl, g12, h13⟩ := WtFs.cons1 h12
 obtain ⟨a13, r, rfl, g13, h14⟩ := WtFs.cons1 h13
 obtain ⟨a14, r, rfl, g14, h15⟩ := WtFs.cons1 h14
 obtain ⟨a15, r, rfl, g15, h16⟩ := WtFs.cons1 h15
 obtain ⟨a16, r, rfl, g16, h17⟩ := WtFs.cons1 h16
 obtain ⟨a17, r, rfl, g17, h18⟩ := WtFs.cons1 h17
 obtain ⟨a18, r, rfl, g18, h19⟩ := WtFs.cons1 h18
 obtain ⟨a19, r, rfl, g19, h20⟩ := WtFs.cons1 h19
 obtain ⟨a20, r, rfl, g20, h21⟩ := WtFs.cons1 h20
 obtain ⟨a21, r, rfl, g21, h22⟩ := WtFs.cons1 h21
 obtain rfl := WtFs.nil1 h22
 obtain ⟨v0, rfl, _, _⟩ := wt_int g0
 obtain ⟨v1, rfl⟩ := wt_bool g1
 obtain ⟨v2, rfl⟩ := wt_bool g2
 obtain ⟨v3, rfl, _, _⟩ := wt_int g3
 obtain ⟨v4, rfl⟩ := wt_line g4
 obtain ⟨v5, rfl, _, _⟩ := wt_int g5
 obtain ⟨v6, rfl⟩ := wt_vols g6
 obtain ⟨v7, rfl⟩ := wt_bool g7
 obtain ⟨v8, rfl⟩ := wt_writes g8
 obtain ⟨v9, w9, rfl⟩ := wt_pos g9
 obtain ⟨v10, rfl, hu⟩ := wt_bits g10
 obtain ⟨v11, rfl⟩ := wt_shots g11
 obtain ⟨v12, rfl, _, _⟩ := wt_int g12
 obtain ⟨v13, rfl, _, _⟩ := wt_int g13
 obtain ⟨v14, rfl, _, _⟩ := wt_int g14
 obtain ⟨v15, rfl⟩ := wt_bool g15
 obtain ⟨v16, rfl⟩ := wt_writes g16
 obtain ⟨v17, rfl, _, _⟩ := wt_int g17
 obtain ⟨v18, w18, x18, y18, rfl⟩ := wt_queue g18
 obtain ⟨v19, rfl, _, _⟩ := wt_int g19
 obtain ⟨v20, rfl, _, _⟩ := wt_int g20
 obtain ⟨v21, rfl, _, _⟩ := wt_int g21
 exact ⟨⟨v0, v1, v2, v3, v4, v5, v6, v7, v8, v9, w9, v10, v11, v12, v13, v14, v15, v16, v17, v18, w18, x18, y18, v19, v20, v21⟩, rfl, hu⟩
theorem wt_nodes {n : Nat} {x : AV} (h : WtV Tryz.prog (n + 8) 46 x) : ∃ l : List Nd, x = .sl 26 false (l.map fun m => .agg (ndL m)) ∧ (∀ m ∈ l, UM m.ch) ∧ l.length ≤ 140737488351232 := by
 obtain ⟨xs, rfl, hx, hall⟩ := WtV.sl1 Tryz.underlying46 h
 have hb : Tryz.prog.bytesOf 33 ≥ 1 := of_decide_eq_true (by kernel_rfl)
 have hc : Tryz.prog.cellsOf 33 = 26 := by kernel_rfl
 rw [hc]
 obtain ⟨l, rfl, h1⟩ := all_map (fun x hx => wt_node hx) xs hall
 refine ⟨l, rfl, h1, ?_⟩
 rw [List.length_map] at hx
 unfold reachBytes at hx
 have : l.length * 1 ≤ l.length * Tryz.prog.bytesOf 33 := Nat.mul_le_mul_left _ hb
 omega
theorem noLs : ∀ f fx, pr.f f = some (.inl fx) → fx.ls = [] := by
 have e : fnl.all (fun p => p.2.ls.isEmpty) = true := by kernel_rfl
 intro f fx h
 have h1 : find f fnl = some fx := by
  have h : mkF fnl [] f = some (.inl fx) := h
  simp only [mkF, find] at h
  cases hf : find f fnl with
  | none => rw [hf] at h; simp at h
  | some g => rw [hf] at h; simp at h; rw [h]
 have h2 : ∀ (l : List (Nat × Fx)), find f l = some fx → ∃ m, (m, fx) ∈ l := by
  intro l
  induction l with
  | nil => simp [find]
  | cons p r ih =>
   obtain ⟨m, v⟩ := p
   intro h
   rw [find] at h
   split at h
   ·simp only [Option.some.injEq] at h
    subst h
    exact ⟨m, List.mem_cons_self ..⟩
   ·obtain ⟨m', hm⟩ := ih h
    exact ⟨m', List.mem_cons_of_mem _ hm⟩
 obtain ⟨m, hm⟩ := h2 fnl h1
 have := List.all_eq_true.1 e _ hm
 simpa using this
theorem W_sound (k : Nat) : SoundF Tryz.prog (W k) := evW_sound pr_ok noLs old ct k
def ndV (n : Nd) : AV := .agg (ndL n)
abbrev ndsV (l : List Nd) : AV := .sl 26 false (l.map ndV)
theorem t15 (F : Fns) (N : Nat) (s : List UInt8) : runOf F 15 N [.str s] [] =
 zRe (F 64 [AV.str s] []) fun v bs => zTC v fun v r => asSl v fun m fl xs => zCo r fun v r => zSt v fun s_1 => zCo r fun v r => zIn .i64 v fun n => zNi r (zNi bs (bif n != 0 then some (AV.tup [AV.sl 0 true [], AV.int .i64 3], []) else bif !s_1 == [] then some (AV.tup [AV.sl 0 true [], AV.int .i64 3], []) else bif decide ((xs.length : Int) > 4) then some (AV.tup [AV.sl 0 true [], AV.int .i64 3], []) else loopA (zBy F 15 0 N) (zDe 15 0) (zCt F 15 0 N 0) N { nt := 48, t := [(0, AV.str s), (2, AV.sl 0 true []), (3, AV.int .i64 0), (4, AV.sl m fl xs), (5, AV.str s_1), (6, AV.int .i64 n), (7, AV.sl 0 true []), (28, AV.bool (decide ((xs.length : Int) > 4))), (29, AV.sl m fl xs), (30, AV.int .i64 (xs.length : Int)), (31, AV.int .i64 0)], b := [], r := [], g := [], rd := [], wr := [] })) := by kernel_rfl
theorem t5 (F : Fns) (N : Nat) (s : List UInt8) : runOf F 5 N [.str s] [] =
 bif decide ((s.length : Int) > 8192) then zRe (F 8 [] []) fun v bs => zBo v fun b => zNi bs (some (AV.bool b, [])) else zRe (F 15 [AV.str s] []) fun v bs => zTC v fun v r => asSl v fun m fl xs => zCo r fun v r => zIn .i64 v fun n => zNi r (zNi bs (zRe (F 16 [AV.str s] []) fun v bs => zTC v fun v r => asSl v fun m_1 fl_1 xs_1 => zCo r fun v r => zSt v fun s_1 => zCo r fun v r => zIn .i64 v fun n_1 => zNi r (zNi bs (bif n_1 == 0 then bif s_1 == [] then loopA (zBy F 5 0 N) (zDe 5 0) (zCt F 5 0 N 0) N { nt := 94, t := [(0, AV.str s), (2, AV.bool false), (3, AV.sl m fl xs), (4, AV.int .i64 n), (5, AV.sl m_1 fl_1 xs_1), (6, AV.str s_1), (7, AV.int .i64 n_1), (8, AV.bool (decide ((xs_1.length : Int) ≤ 4))), (9, AV.int .i64 0), (14, AV.bool (decide ((s.length : Int) > 8192)))], b := [], r := [], g := [], rd := [], wr := [] } else loopA (zBy F 5 0 N) (zDe 5 0) (zCt F 5 0 N 0) N { nt := 94, t := [(0, AV.str s), (2, AV.bool false), (3, AV.sl m fl xs), (4, AV.int .i64 n), (5, AV.sl m_1 fl_1 xs_1), (6, AV.str s_1), (7, AV.int .i64 n_1), (8, AV.bool false), (9, AV.int .i64 0), (14, AV.bool (decide ((s.length : Int) > 8192)))], b := [], r := [], g := [], rd := [], wr := [] } else loopA (zBy F 5 0 N) (zDe 5 0) (zCt F 5 0 N 0) N { nt := 94, t := [(0, AV.str s), (2, AV.bool false), (3, AV.sl m fl xs), (4, AV.int .i64 n), (5, AV.sl m_1 fl_1 xs_1), (6, AV.str s_1), (7, AV.int .i64 n_1), (8, AV.bool false), (9, AV.int .i64 0), (14, AV.bool (decide ((s.length : Int) > 8192)))], b := [], r := [], g := [], rd := [], wr := [] })))) := by kernel_rfl
def e5S (s : List UInt8) (tx : List (List UInt8)) (v : AV) (i : Int) : St := ⟨48, [(0, .str s), (2, .sl 0 true []), (3, .int .i64 0), (4, ssV tx), (5, .str []), (6, .int .i64 0), (7, v), (28, .bool false), (29, ssV tx), (30, .int .i64 ((List.length (List.map AV.str tx) : Nat) : Int)), (31, .int .i64 i)], [], [], [], [], []⟩
theorem b15a (F : Fns) (N : Nat) (s : List UInt8) (tx : List (List UInt8)) (i : Int) (KN : St → Res) : zBy F 15 0 N (e5S s tx (.sl 0 true []) i) (brk (zCt F 15 0 N 0) KN) =
 bif decide (i < ((List.length (List.map AV.str tx) : Nat) : Int)) then bif decide (0 ≤ i) then zOp (List.map AV.str tx)[Int.toNat i]? fun x => zSt x fun s_1 => zRe (F 11 [AV.str s_1] []) fun v bs => zTC v fun v r => zNd v fun n b b_1 n_1 m fl xs n_2 m_1 fl_1 xs_1 b_2 m_2 fl_2 xs_2 m_3 fl_3 xs_3 n_3 m_4 fl_4 xs_4 m_5 fl_5 xs_5 n_4 n_5 n_6 b_3 m_6 fl_6 xs_6 n_7 m_7 fl_7 xs_7 m_8 fl_8 xs_8 n_8 n_9 n_10 n_11 n_12 => (zCo r fun v r => zIn .i64 v fun n_13 => zNi r (zNi bs (bif n_13 != 0 then some (AV.tup [AV.sl 0 true [], AV.int .i64 3], []) else KN { nt := 48, t := [(0, AV.str s), (2, AV.sl 0 true []), (3, AV.int .i64 0), (4, ssV tx), (5, AV.str []), (6, AV.int .i64 0), (7, AV.tip 45 0 26 [AV.agg [AV.int .i64 n, AV.bool b, AV.bool b_1, AV.int .i64 n_1, AV.sl m fl xs, AV.int .i64 n_2, AV.sl m_1 fl_1 xs_1, AV.bool b_2, AV.sl m_2 fl_2 xs_2, AV.sl m_3 fl_3 xs_3, AV.int .i64 n_3, AV.sl m_4 fl_4 xs_4, AV.sl m_5 fl_5 xs_5, AV.int .i64 n_4, AV.int .i64 n_5, AV.int .i64 n_6, AV.bool b_3, AV.sl m_6 fl_6 xs_6, AV.int .i64 n_7, AV.sl m_7 fl_7 xs_7, AV.sl m_8 fl_8 xs_8, AV.int .i64 n_8, AV.int .i64 n_9, AV.int .i64 n_10, AV.int .i64 n_11, AV.int .i64 n_12]]), (9, AV.str s_1), (10, AV.ptr 10 0 0), (11, AV.int .i64 n_13), (28, AV.bool false), (29, ssV tx), (30, AV.int .i64 ((List.length (List.map AV.str tx) : Nat) : Int)), (31, AV.int .i64 (IntKind.wrap .i64 (i + 1))), (32, AV.bool (decide (i < ((List.length (List.map AV.str tx) : Nat) : Int)))), (41, AV.bool (n_13 != 0))], b := [(10, [AV.int .i64 n, AV.bool b, AV.bool b_1, AV.int .i64 n_1, AV.sl m fl xs, AV.int .i64 n_2, AV.sl m_1 fl_1 xs_1, AV.bool b_2, AV.sl m_2 fl_2 xs_2, AV.sl m_3 fl_3 xs_3, AV.int .i64 n_3, AV.sl m_4 fl_4 xs_4, AV.sl m_5 fl_5 xs_5, AV.int .i64 n_4, AV.int .i64 n_5, AV.int .i64 n_6, AV.bool b_3, AV.sl m_6 fl_6 xs_6, AV.int .i64 n_7, AV.sl m_7 fl_7 xs_7, AV.sl m_8 fl_8 xs_8, AV.int .i64 n_8, AV.int .i64 n_9, AV.int .i64 n_10, AV.int .i64 n_11, AV.int .i64 n_12])], r := [], g := [], rd := [], wr := [] }))) else none else some (AV.tup [AV.sl 0 true [], AV.int .i64 0], []) := by kernel_rfl
theorem b15 (F : Fns) (N : Nat) (s : List UInt8) (tx : List (List UInt8)) (ys : List AV) (i : Int) (KN : St → Res) : zBy F 15 0 N (e5S s tx (.tip 45 0 26 ys) i) (brk (zCt F 15 0 N 0) KN) =
 bif decide (i < ((List.length (List.map AV.str tx) : Nat) : Int)) then bif decide (0 ≤ i) then zOp (List.map AV.str tx)[Int.toNat i]? fun x => zSt x fun s_1 => zRe (F 11 [AV.str s_1] []) fun v bs => zTC v fun v r => zNd v fun n b b_1 n_1 m fl xs n_2 m_1 fl_1 xs_1 b_2 m_2 fl_2 xs_2 m_3 fl_3 xs_3 n_3 m_4 fl_4 xs_4 m_5 fl_5 xs_5 n_4 n_5 n_6 b_3 m_6 fl_6 xs_6 n_7 m_7 fl_7 xs_7 m_8 fl_8 xs_8 n_8 n_9 n_10 n_11 n_12 => (zCo r fun v r => zIn .i64 v fun n_13 => zNi r (zNi bs (bif n_13 != 0 then some (AV.tup [AV.sl 0 true [], AV.int .i64 3], []) else bif decide (26 = 26 ∧ fitsB (List.length ys + List.length [AV.agg [AV.int .i64 n, AV.bool b, AV.bool b_1, AV.int .i64 n_1, AV.sl m fl xs, AV.int .i64 n_2, AV.sl m_1 fl_1 xs_1, AV.bool b_2, AV.sl m_2 fl_2 xs_2, AV.sl m_3 fl_3 xs_3, AV.int .i64 n_3, AV.sl m_4 fl_4 xs_4, AV.sl m_5 fl_5 xs_5, AV.int .i64 n_4, AV.int .i64 n_5, AV.int .i64 n_6, AV.bool b_3, AV.sl m_6 fl_6 xs_6, AV.int .i64 n_7, AV.sl m_7 fl_7 xs_7, AV.sl m_8 fl_8 xs_8, AV.int .i64 n_8, AV.int .i64 n_9, AV.int .i64 n_10, AV.int .i64 n_11, AV.int .i64 n_12]]) 344 = true ∧ List.length ys + List.length [AV.agg [AV.int .i64 n, AV.bool b, AV.bool b_1, AV.int .i64 n_1, AV.sl m fl xs, AV.int .i64 n_2, AV.sl m_1 fl_1 xs_1, AV.bool b_2, AV.sl m_2 fl_2 xs_2, AV.sl m_3 fl_3 xs_3, AV.int .i64 n_3, AV.sl m_4 fl_4 xs_4, AV.sl m_5 fl_5 xs_5, AV.int .i64 n_4, AV.int .i64 n_5, AV.int .i64 n_6, AV.bool b_3, AV.sl m_6 fl_6 xs_6, AV.int .i64 n_7, AV.sl m_7 fl_7 xs_7, AV.sl m_8 fl_8 xs_8, AV.int .i64 n_8, AV.int .i64 n_9, AV.int .i64 n_10, AV.int .i64 n_11, AV.int .i64 n_12]] ≤ 4611686018427387904) then KN { nt := 48, t := [(0, AV.str s), (2, AV.sl 0 true []), (3, AV.int .i64 0), (4, ssV tx), (5, AV.str []), (6, AV.int .i64 0), (7, AV.tip 45 0 26 (ys ++ [AV.agg [AV.int .i64 n, AV.bool b, AV.bool b_1, AV.int .i64 n_1, AV.sl m fl xs, AV.int .i64 n_2, AV.sl m_1 fl_1 xs_1, AV.bool b_2, AV.sl m_2 fl_2 xs_2, AV.sl m_3 fl_3 xs_3, AV.int .i64 n_3, AV.sl m_4 fl_4 xs_4, AV.sl m_5 fl_5 xs_5, AV.int .i64 n_4, AV.int .i64 n_5, AV.int .i64 n_6, AV.bool b_3, AV.sl m_6 fl_6 xs_6, AV.int .i64 n_7, AV.sl m_7 fl_7 xs_7, AV.sl m_8 fl_8 xs_8, AV.int .i64 n_8, AV.int .i64 n_9, AV.int .i64 n_10, AV.int .i64 n_11, AV.int .i64 n_12]])), (9, AV.str s_1), (10, AV.ptr 10 0 0), (11, AV.int .i64 n_13), (28, AV.bool false), (29, ssV tx), (30, AV.int .i64 ((List.length (List.map AV.str tx) : Nat) : Int)), (31, AV.int .i64 (IntKind.wrap .i64 (i + 1))), (32, AV.bool (decide (i < ((List.length (List.map AV.str tx) : Nat) : Int)))), (41, AV.bool (n_13 != 0))], b := [(10, [AV.int .i64 n, AV.bool b, AV.bool b_1, AV.int .i64 n_1, AV.sl m fl xs, AV.int .i64 n_2, AV.sl m_1 fl_1 xs_1, AV.bool b_2, AV.sl m_2 fl_2 xs_2, AV.sl m_3 fl_3 xs_3, AV.int .i64 n_3, AV.sl m_4 fl_4 xs_4, AV.sl m_5 fl_5 xs_5, AV.int .i64 n_4, AV.int .i64 n_5, AV.int .i64 n_6, AV.bool b_3, AV.sl m_6 fl_6 xs_6, AV.int .i64 n_7, AV.sl m_7 fl_7 xs_7, AV.sl m_8 fl_8 xs_8, AV.int .i64 n_8, AV.int .i64 n_9, AV.int .i64 n_10, AV.int .i64 n_11, AV.int .i64 n_12])], r := [], g := [], rd := [], wr := [] } else none))) else none else some (AV.tup [AV.sl 26 false ys, AV.int .i64 0], []) := by kernel_rfl
def h5S (s : List UInt8) (ns : List Nd) (e : Int) (tx : List (List UInt8)) (u : List UInt8) (f : Int) (b : Bool) (i : Int) : St := ⟨94, [(0, .str s), (2, .bool false), (3, ndsV ns), (4, .int .i64 e), (5, ssV tx), (6, .str u), (7, .int .i64 f), (8, .bool b), (9, .int .i64 i), (14, .bool false)], [], [], [], [], []⟩
theorem b5 (F : Fns) (N : Nat) (s : List UInt8) (ns : List Nd) (e : Int) (tx : List (List UInt8)) (u : List UInt8) (f : Int) (b : Bool) (i : Int) (KN : St → Res) : zBy F 5 0 N (h5S s ns e tx u f b i) (brk (zCt F 5 0 N 0) KN) =
 bif decide (i < ((List.length (List.map AV.str tx) : Nat) : Int)) then bif b then bif decide (0 ≤ i) then zOp (List.map AV.str tx)[Int.toNat i]? fun x => zSt x fun s_1 => zRe (F 14 [AV.str s_1] []) fun v bs => zTC v fun v r => zNd v fun n b_1 b_2 n_1 m fl xs n_2 m_1 fl_1 xs_1 b_3 m_2 fl_2 xs_2 m_3 fl_3 xs_3 n_3 m_4 fl_4 xs_4 m_5 fl_5 xs_5 n_4 n_5 n_6 b_4 m_6 fl_6 xs_6 n_7 m_7 fl_7 xs_7 m_8 fl_8 xs_8 n_8 n_9 n_10 n_11 n_12 => (zCo r fun v r => zBo v fun b_5 => zNi r (zNi bs (bif b_5 then bif decide (i < ((List.length (List.map ndV ns) : Nat) : Int)) then bif decide (0 ≤ i) then zOp (List.map ndV ns)[Int.toNat i]? fun x => zNd x fun n_13 b_6 b_7 n_14 m_9 fl_9 xs_9 n_15 m_10 fl_10 xs_10 b_8 m_11 fl_11 xs_11 m_12 fl_12 xs_12 n_16 m_13 fl_13 xs_13 m_14 fl_14 xs_14 n_17 n_18 n_19 b_9 m_15 fl_15 xs_15 n_20 m_16 fl_16 xs_16 m_17 fl_17 xs_17 n_21 n_22 n_23 n_24 n_25 => (zRe (F 13 [AV.agg [AV.int .i64 n_13, AV.bool b_6, AV.bool b_7, AV.int .i64 n_14, AV.sl m_9 fl_9 xs_9, AV.int .i64 n_15, AV.sl m_10 fl_10 xs_10, AV.bool b_8, AV.sl m_11 fl_11 xs_11, AV.sl m_12 fl_12 xs_12, AV.int .i64 n_16, AV.sl m_13 fl_13 xs_13, AV.sl m_14 fl_14 xs_14, AV.int .i64 n_17, AV.int .i64 n_18, AV.int .i64 n_19, AV.bool b_9, AV.sl m_15 fl_15 xs_15, AV.int .i64 n_20, AV.sl m_16 fl_16 xs_16, AV.sl m_17 fl_17 xs_17, AV.int .i64 n_21, AV.int .i64 n_22, AV.int .i64 n_23, AV.int .i64 n_24, AV.int .i64 n_25], AV.agg [AV.int .i64 n, AV.bool b_1, AV.bool b_2, AV.int .i64 n_1, AV.sl m fl xs, AV.int .i64 n_2, AV.sl m_1 fl_1 xs_1, AV.bool b_3, AV.sl m_2 fl_2 xs_2, AV.sl m_3 fl_3 xs_3, AV.int .i64 n_3, AV.sl m_4 fl_4 xs_4, AV.sl m_5 fl_5 xs_5, AV.int .i64 n_4, AV.int .i64 n_5, AV.int .i64 n_6, AV.bool b_4, AV.sl m_6 fl_6 xs_6, AV.int .i64 n_7, AV.sl m_7 fl_7 xs_7, AV.sl m_8 fl_8 xs_8, AV.int .i64 n_8, AV.int .i64 n_9, AV.int .i64 n_10, AV.int .i64 n_11, AV.int .i64 n_12]] []) fun v bs => zBo v fun b_10 => zNi bs (KN { nt := 94, t := [(0, AV.str s), (2, AV.bool false), (3, ndsV ns), (4, AV.int .i64 e), (5, ssV tx), (6, AV.str u), (7, AV.int .i64 f), (8, AV.bool b_10), (9, AV.int .i64 (IntKind.wrap .i64 (i + 1))), (10, AV.ptr 10 0 0), (11, AV.bool b_5), (14, AV.bool false), (44, AV.bool b)], b := [(10, [AV.int .i64 n, AV.bool b_1, AV.bool b_2, AV.int .i64 n_1, AV.sl m fl xs, AV.int .i64 n_2, AV.sl m_1 fl_1 xs_1, AV.bool b_3, AV.sl m_2 fl_2 xs_2, AV.sl m_3 fl_3 xs_3, AV.int .i64 n_3, AV.sl m_4 fl_4 xs_4, AV.sl m_5 fl_5 xs_5, AV.int .i64 n_4, AV.int .i64 n_5, AV.int .i64 n_6, AV.bool b_4, AV.sl m_6 fl_6 xs_6, AV.int .i64 n_7, AV.sl m_7 fl_7 xs_7, AV.sl m_8 fl_8 xs_8, AV.int .i64 n_8, AV.int .i64 n_9, AV.int .i64 n_10, AV.int .i64 n_11, AV.int .i64 n_12])], r := [], g := [], rd := [], wr := [] })) else none else KN { nt := 94, t := [(0, AV.str s), (2, AV.bool false), (3, ndsV ns), (4, AV.int .i64 e), (5, ssV tx), (6, AV.str u), (7, AV.int .i64 f), (8, AV.bool false), (9, AV.int .i64 (IntKind.wrap .i64 (i + 1))), (10, AV.ptr 10 0 0), (11, AV.bool b_5), (14, AV.bool false), (44, AV.bool b)], b := [(10, [AV.int .i64 n, AV.bool b_1, AV.bool b_2, AV.int .i64 n_1, AV.sl m fl xs, AV.int .i64 n_2, AV.sl m_1 fl_1 xs_1, AV.bool b_3, AV.sl m_2 fl_2 xs_2, AV.sl m_3 fl_3 xs_3, AV.int .i64 n_3, AV.sl m_4 fl_4 xs_4, AV.sl m_5 fl_5 xs_5, AV.int .i64 n_4, AV.int .i64 n_5, AV.int .i64 n_6, AV.bool b_4, AV.sl m_6 fl_6 xs_6, AV.int .i64 n_7, AV.sl m_7 fl_7 xs_7, AV.sl m_8 fl_8 xs_8, AV.int .i64 n_8, AV.int .i64 n_9, AV.int .i64 n_10, AV.int .i64 n_11, AV.int .i64 n_12])], r := [], g := [], rd := [], wr := [] } else KN { nt := 94, t := [(0, AV.str s), (2, AV.bool false), (3, ndsV ns), (4, AV.int .i64 e), (5, ssV tx), (6, AV.str u), (7, AV.int .i64 f), (8, AV.bool false), (9, AV.int .i64 (IntKind.wrap .i64 (i + 1))), (10, AV.ptr 10 0 0), (11, AV.bool b_5), (14, AV.bool false), (44, AV.bool b)], b := [(10, [AV.int .i64 n, AV.bool b_1, AV.bool b_2, AV.int .i64 n_1, AV.sl m fl xs, AV.int .i64 n_2, AV.sl m_1 fl_1 xs_1, AV.bool b_3, AV.sl m_2 fl_2 xs_2, AV.sl m_3 fl_3 xs_3, AV.int .i64 n_3, AV.sl m_4 fl_4 xs_4, AV.sl m_5 fl_5 xs_5, AV.int .i64 n_4, AV.int .i64 n_5, AV.int .i64 n_6, AV.bool b_4, AV.sl m_6 fl_6 xs_6, AV.int .i64 n_7, AV.sl m_7 fl_7 xs_7, AV.sl m_8 fl_8 xs_8, AV.int .i64 n_8, AV.int .i64 n_9, AV.int .i64 n_10, AV.int .i64 n_11, AV.int .i64 n_12])], r := [], g := [], rd := [], wr := [] }))) else none else bif !b then bif ((List.length (List.map ndV ns) : Nat) : Int) == 0 then bif e == 3 then zRe (F 8 [] []) fun v bs => zBo v fun b => zNi bs (some (AV.bool b, [])) else some (AV.bool false, []) else some (AV.bool false, []) else bif ((List.length (List.map ndV ns) : Nat) : Int) == ((List.length (List.map AV.str tx) : Nat) : Int) then bif e == 0 then zRe (F 8 [] []) fun v bs => zBo v fun b => zNi bs (some (AV.bool b, [])) else some (AV.bool false, []) else some (AV.bool false, []) else bif !b then bif ((List.length (List.map ndV ns) : Nat) : Int) == 0 then bif e == 3 then zRe (F 8 [] []) fun v bs => zBo v fun b => zNi bs (some (AV.bool b, [])) else some (AV.bool false, []) else some (AV.bool false, []) else bif ((List.length (List.map ndV ns) : Nat) : Int) == ((List.length (List.map AV.str tx) : Nat) : Int) then bif e == 0 then zRe (F 8 [] []) fun v bs => zBo v fun b => zNi bs (some (AV.bool b, [])) else some (AV.bool false, []) else some (AV.bool false, []) := by kernel_rfl
def AllB : List (List UInt8) → List Nd → Prop
 | [], [] => True
 | s :: r, n :: ns => IsB s n ∧ AllB r ns
 | [], _ :: _ => False
 | _ :: _, [] => False
theorem takeT_short {s a t : List UInt8} (h : takeT s = some (a, t)) : a.length ≤ 65535 := by
 unfold takeT at h
 split at h
 ·simp at h
 ·rename_i m u h5
  split at h
  ·simp at h
  ·simp only [Option.some.injEq, Prod.mk.injEq] at h
   have := (num_lt h5).1
   rw [← h.1, List.length_take]
   omega
theorem txts_short : ∀ (n : Nat) (s : List UInt8) (l : List (List UInt8)) (t : List UInt8), txts n s = some (l, t) → ∀ x ∈ l, x.length ≤ 65535
 | 0, s, l, t, h => by
  simp only [txts, Option.some.injEq, Prod.mk.injEq] at h
  rw [← h.1]
  simp
 | n + 1, s, l, t, h => by
  simp only [txts] at h
  split at h
  ·simp at h
  ·rename_i a s1 h1
   split at h
   ·simp at h
   ·rename_i l2 s2 h2
    simp only [Option.some.injEq, Prod.mk.injEq] at h
    rw [← h.1]
    intro x hx
    rcases List.mem_cons.1 hx with rfl | hx
    ·exact takeT_short h1
    ·exact txts_short n s1 l2 s2 h2 x hx
theorem items_short {s : List UInt8} {l : List (List UInt8)} {t : List UInt8} (h : items s = some (l, t)) : ∀ x ∈ l, x.length ≤ 65535 := by
 unfold items at h
 split at h
 ·simp at h
 ·exact txts_short _ _ _ _ h
theorem getNd (l : List Nd) (i : Nat) (h : i < l.length) : (l.map ndV)[Int.toNat (i : Int)]? = some (.agg (ndL l[i])) := getM ndV l i h
theorem getTx (l : List (List UInt8)) (i : Nat) (h : i < l.length) : (l.map AV.str)[Int.toNat (i : Int)]? = some (.str l[i]) := getM AV.str l i h
def OutE (tx : List (List UInt8)) (acc : List Nd) (X : Res) : Prop := (∃ ns, AllB (tx.drop acc.length) ns ∧ X = some (.tup [gsV 26 ((acc ++ ns).map ndV), .int .i64 0], [])) ∨ ((∀ ns, ¬ AllB (tx.drop acc.length) ns) ∧ X = some (.tup [.sl 0 true [], .int .i64 3], []))
theorem outE_ex (tx : List (List UInt8)) (acc : List Nd) : ∃ X, OutE tx acc X := by
 by_cases h : ∃ ns, AllB (tx.drop acc.length) ns
 ·obtain ⟨ns, h⟩ := h
  exact ⟨_, .inl ⟨ns, h, rfl⟩⟩
 ·exact ⟨_, .inr ⟨fun ns hn => h ⟨ns, hn⟩, rfl⟩⟩
theorem outE_step {tx : List (List UInt8)} {acc : List Nd} {X : Res} (hi : acc.length < tx.length) {n : Nd} (hn : IsB tx[acc.length] n) (h : OutE tx acc X) : OutE tx (acc ++ [n]) X := by
 unfold OutE at h ⊢
 rw [List.drop_eq_getElem_cons hi] at h
 rw [List.length_append, List.length_singleton]
 rcases h with ⟨ns, h1, h2⟩ | ⟨h1, h2⟩
 ·cases ns with
  | nil => exact h1.elim
  | cons m r =>
   obtain rfl := isB_one h1.1 hn
   refine .inl ⟨r, h1.2, ?_⟩
   rw [h2, List.append_assoc, List.singleton_append]
 ·exact .inr ⟨fun ns hb => h1 (n :: ns) ⟨hn, hb⟩, h2⟩
theorem outE_bad {tx : List (List UInt8)} {acc : List Nd} {X : Res} (hi : acc.length < tx.length) (hn : ∀ n, ¬ IsB tx[acc.length] n) (h : OutE tx acc X) : X = some (.tup [.sl 0 true [], .int .i64 3], []) := by
 unfold OutE at h
 rw [List.drop_eq_getElem_cons hi] at h
 rcases h with ⟨ns, h1, h2⟩ | ⟨h1, h2⟩
 ·cases ns with
  | nil => exact h1.elim
  | cons m r => exact absurd h1.1 (hn m)
 ·exact h2
theorem outE_end {tx : List (List UInt8)} {acc : List Nd} {X : Res} (hi : ¬ acc.length < tx.length) (h : OutE tx acc X) : X = some (.tup [gsV 26 (acc.map ndV), .int .i64 0], []) := by
 unfold OutE at h
 rw [List.drop_eq_nil_of_le (by omega)] at h
 rcases h with ⟨ns, h1, h2⟩ | ⟨h1, h2⟩
 ·cases ns with
  | nil => rw [h2, List.append_nil]
  | cons m r => exact h1.elim
 ·exact absurd (show AllB [] [] from trivial) (h1 [])
theorem each15 (k : Nat) (hk : 70800 ≤ k) (s : List UInt8) (tx : List (List UInt8)) (hn : tx.length ≤ 4) (hx : ∀ x ∈ tx, x.length ≤ 65535) (X : Res) (hX : OutE tx [] X) (st : St) (hst : st.clean (zDe 15 0) = e5S s tx (.sl 0 true []) (0 : Nat)) : loopA (zBy (W k) 15 0 k) (zDe 15 0) (zCt (W k) 15 0 k 0) k st = X := by
 refine loopA_ind (fun a : List Nd => e5S s tx (gtV 45 26 (a.map ndV)) a.length) (fun a => tx.length - a.length) (fun a r => a.length ≤ tx.length → OutE tx a X → r = X) (fun acc m ih h0 hO => ?_) k [] st (by simp; omega) hst (by simp) hX
 have hw := wi (n := acc.length) (by omega)
 have hgo : ∀ (n : Nd) (st : St) (hi : acc.length < tx.length), IsB tx[acc.length] n → st.clean (zDe 15 0) = e5S s tx (gtV 45 26 (acc.map ndV ++ [ndV n])) ((acc.length + 1 : Nat) : Int) → loopA (zBy (W k) 15 0 k) (zDe 15 0) (zCt (W k) 15 0 k 0) m st = X := by
  intro n st hi hb hst
  exact ih (acc ++ [n]) st (by simp; omega) (by rw [List.map_append, List.length_append]; exact hst) (by simp; omega) (outE_step hi hb hO)
 cases acc with
 | nil =>
  rw [List.map_nil, gtV, b15a]
  by_cases hi : ([] : List Nd).length < tx.length
  ·have hl := hx _ (List.getElem_mem hi)
   refine qY (decide_eq_true (by rw [List.length_map]; exact_mod_cast hi)) ?_
   refine qY (decide_eq_true (by first | omega | (simp only [List.length_append, List.length_cons, List.length_nil, List.length_map]; omega))) ?_
   refine qP (getTx tx _ hi) ?_
   repeat with_reducible first|apply qT|apply qC|apply qN|apply qS|apply qB|apply qI|apply qA|apply qL
   rcases x11d k (by omega) _ (show tx[([] : List Nd).length].length ≤ 240000 by omega) with ⟨n, hb, h1⟩ | ⟨hb, h1⟩
   ·refine qO h1 ?_
    repeat with_reducible first|apply qT|apply qC|apply qN|apply qS|apply qB|apply qI|apply qA|apply qL
    refine qX rfl ?_
    rw [hw]
    exact hgo n _ hi hb (by kernel_rfl)
   ·refine qO h1 ?_
    repeat with_reducible first|apply qT|apply qC|apply qN|apply qS|apply qB|apply qI|apply qA|apply qL
    refine qY rfl ?_
    exact (outE_bad hi hb hO).symm
  ·refine qX (decide_eq_false (by rw [List.length_map]; exact_mod_cast hi)) ?_
   exact (outE_end hi hO).symm
 | cons y z =>
  rw [List.map_cons, gtV, b15]
  by_cases hi : (y :: z).length < tx.length
  ·have hl := hx _ (List.getElem_mem hi)
   refine qY (decide_eq_true (by rw [List.length_map]; exact_mod_cast hi)) ?_
   refine qY (decide_eq_true (by first | omega | (simp only [List.length_append, List.length_cons, List.length_nil, List.length_map]; omega))) ?_
   refine qP (getTx tx _ hi) ?_
   repeat with_reducible first|apply qT|apply qC|apply qN|apply qS|apply qB|apply qI|apply qA|apply qL
   rcases x11d k (by omega) _ (show tx[(y :: z).length].length ≤ 240000 by omega) with ⟨n, hb, h1⟩ | ⟨hb, h1⟩
   ·refine qO h1 ?_
    repeat with_reducible first|apply qT|apply qC|apply qN|apply qS|apply qB|apply qI|apply qA|apply qL
    refine qX rfl ?_
    have hi2 := hi
    simp only [List.length_cons] at hi2
    refine qY (decide_eq_true (by refine ⟨by first | rfl | exact .inr rfl, fitsB_small ?_, ?_⟩ <;> simp only [ofBytes, List.length_map, List.length_append, List.length_cons, List.length_nil] <;> omega)) ?_
    rw [hw]
    exact hgo n _ hi hb (by kernel_rfl)
   ·refine qO h1 ?_
    repeat with_reducible first|apply qT|apply qC|apply qN|apply qS|apply qB|apply qI|apply qA|apply qL
    refine qY rfl ?_
    exact (outE_bad hi hb hO).symm
  ·refine qX (decide_eq_false (by rw [List.length_map]; exact_mod_cast hi)) ?_
   exact (outE_end hi hO).symm
def EachB (s : List UInt8) (ns : List Nd) : Prop := ∃ tx, items s = some (tx, []) ∧ tx.length ≤ 4 ∧ AllB tx ns
theorem canr15g (ns : List Nd) : cRes (ctR ct 15) (some (.tup [gsV 26 (ns.map ndV), .int .i64 0], [])) = some (.tup [ndsV ns, .int .i64 0], []) := by cases ns <;> exact (by kernel_rfl)
theorem canr15b : cRes (ctR ct 15) (some (.tup [.sl 0 true [], .int .i64 3], [])) = some (.tup [ndsV [], .int .i64 3], []) := (by kernel_rfl)
theorem x15 (k : Nat) (hk : 70900 ≤ k) (s : List UInt8) : (∃ ns, EachB s ns ∧ W k 15 [.str s] [] = some (.tup [ndsV ns, .int .i64 0], [])) ∨ ((∀ ns, ¬ EachB s ns) ∧ W k 15 [.str s] [] = some (.tup [ndsV [], .int .i64 3], [])) := by
 obtain ⟨k, rfl⟩ := succ1 (show 1 ≤ k by omega)
 have h64 := x64 k (by omega) s
 have key : ∀ X Y, runOf (W k) 15 k [.str s] [] = X → cRes (ctR ct 15) X = Y → W (k + 1) 15 [.str s] [] = Y := fun X Y h1 h2 => (W_tree h1 (by kernel_rfl)).trans h2
 cases hx : items s with
 | none =>
  rw [hx] at h64
  refine .inr ⟨fun ns ⟨tx, h1, _⟩ => (by rw [hx] at h1; simp at h1), key _ _ ?_ canr15b⟩
  rw [t15]
  refine qO h64 ?_
  repeat with_reducible first|apply qT|apply qC|apply qN|apply qS|apply qB|apply qI|apply qA|apply qL
  refine qY rfl ?_
  rfl
 | some a =>
  obtain ⟨tx, u⟩ := a
  rw [hx] at h64
  have h64 : W k 64 [.str s] [] = some (.tup [ssV tx, .str u, .int .i64 0], []) := h64
  by_cases hu : u = []
  ·subst hu
   by_cases h4 : tx.length ≤ 4
   ·obtain ⟨X, hX⟩ := outE_ex tx []
    have hrun : runOf (W k) 15 k [.str s] [] = X := by
     rw [t15]
     refine qO h64 ?_
     repeat with_reducible first|apply qT|apply qC|apply qN|apply qS|apply qB|apply qI|apply qA|apply qL
     refine qX rfl ?_
     refine qX rfl ?_
     refine qX (decide_eq_false (by rw [List.length_map]; omega)) ?_
     rw [decide_eq_false (show ¬ (((List.map AV.str tx).length : Nat) : Int) > 4 by rw [List.length_map]; omega)]
     exact each15 k (by omega) s tx h4 (items_short hx) X hX _ (by kernel_rfl)
    rcases hX with ⟨ns, h1, h2⟩ | ⟨h1, h2⟩
    ·refine .inl ⟨ns, ⟨tx, hx, h4, h1⟩, key _ _ hrun ?_⟩
     rw [h2]
     exact canr15g ns
    ·refine .inr ⟨fun ns ⟨tx', e1, e2, e3⟩ => ?_, key _ _ hrun ?_⟩
     ·rw [hx] at e1
      simp only [Option.some.injEq, Prod.mk.injEq, and_true] at e1
      subst e1
      exact h1 ns e3
     ·rw [h2]
      exact canr15b
   ·refine .inr ⟨fun ns ⟨tx', e1, e2, e3⟩ => ?_, key _ _ ?_ canr15b⟩
    ·rw [hx] at e1
     simp only [Option.some.injEq, Prod.mk.injEq, and_true] at e1
     subst e1
     exact h4 e2
    ·rw [t15]
     refine qO h64 ?_
     repeat with_reducible first|apply qT|apply qC|apply qN|apply qS|apply qB|apply qI|apply qA|apply qL
     refine qX rfl ?_
     refine qX rfl ?_
     refine qY (decide_eq_true (by rw [List.length_map]; omega)) ?_
     rfl
  ·refine .inr ⟨fun ns ⟨tx', e1, e2, e3⟩ => ?_, key _ _ ?_ canr15b⟩
   ·rw [hx] at e1
    simp only [Option.some.injEq, Prod.mk.injEq] at e1
    exact hu e1.2
   ·rw [t15]
    refine qO h64 ?_
    repeat with_reducible first|apply qT|apply qC|apply qN|apply qS|apply qB|apply qI|apply qA|apply qL
    refine qX rfl ?_
    refine qY (by simpa using hu) ?_
    rfl
def a7S (l : List Nd) (v : AV) (i : Int) : St := ⟨35, [(0, ndsV l), (2, .str []), (3, .int .i64 0), (4, v), (9, ndsV l), (10, .int .i64 ((List.length (List.map ndV l) : Nat) : Int)), (11, .int .i64 i)], [], [], [], [], []⟩
theorem b17a (F : Fns) (N : Nat) (l : List Nd) (i : Int) (KN : St → Res) : zBy F 17 0 N (a7S l (.sl 0 true []) i) (brk (zCt F 17 0 N 0) KN) =
 bif decide (i < ((List.length (List.map ndV l) : Nat) : Int)) then bif decide (0 ≤ i) then zOp (List.map ndV l)[Int.toNat i]? fun x => zNd x fun n b b_1 n_1 m fl xs n_2 m_1 fl_1 xs_1 b_2 m_2 fl_2 xs_2 m_3 fl_3 xs_3 n_3 m_4 fl_4 xs_4 m_5 fl_5 xs_5 n_4 n_5 n_6 b_3 m_6 fl_6 xs_6 n_7 m_7 fl_7 xs_7 m_8 fl_8 xs_8 n_8 n_9 n_10 n_11 n_12 => (zRe (F 9 [AV.agg [AV.int .i64 n, AV.bool b, AV.bool b_1, AV.int .i64 n_1, AV.sl m fl xs, AV.int .i64 n_2, AV.sl m_1 fl_1 xs_1, AV.bool b_2, AV.sl m_2 fl_2 xs_2, AV.sl m_3 fl_3 xs_3, AV.int .i64 n_3, AV.sl m_4 fl_4 xs_4, AV.sl m_5 fl_5 xs_5, AV.int .i64 n_4, AV.int .i64 n_5, AV.int .i64 n_6, AV.bool b_3, AV.sl m_6 fl_6 xs_6, AV.int .i64 n_7, AV.sl m_7 fl_7 xs_7, AV.sl m_8 fl_8 xs_8, AV.int .i64 n_8, AV.int .i64 n_9, AV.int .i64 n_10, AV.int .i64 n_11, AV.int .i64 n_12]] []) fun v bs => zTC v fun v r => zSt v fun s => zCo r fun v r => zIn .i64 v fun n_13 => zNi r (zNi bs (bif n_13 != 0 then some (AV.tup [AV.str (Array.toList (ByteArray.data { data := #[] })), AV.int .i64 n_13], []) else KN { nt := 35, t := [(0, ndsV l), (2, AV.str []), (3, AV.int .i64 0), (4, AV.tip 26 0 1 [AV.str s]), (6, AV.ptr 6 0 0), (7, AV.str s), (8, AV.int .i64 n_13), (9, ndsV l), (10, AV.int .i64 ((List.length (List.map ndV l) : Nat) : Int)), (11, AV.int .i64 (IntKind.wrap .i64 (i + 1))), (12, AV.bool (decide (i < ((List.length (List.map ndV l) : Nat) : Int)))), (21, AV.bool (n_13 != 0))], b := [(6, [AV.int .i64 n, AV.bool b, AV.bool b_1, AV.int .i64 n_1, AV.sl m fl xs, AV.int .i64 n_2, AV.sl m_1 fl_1 xs_1, AV.bool b_2, AV.sl m_2 fl_2 xs_2, AV.sl m_3 fl_3 xs_3, AV.int .i64 n_3, AV.sl m_4 fl_4 xs_4, AV.sl m_5 fl_5 xs_5, AV.int .i64 n_4, AV.int .i64 n_5, AV.int .i64 n_6, AV.bool b_3, AV.sl m_6 fl_6 xs_6, AV.int .i64 n_7, AV.sl m_7 fl_7 xs_7, AV.sl m_8 fl_8 xs_8, AV.int .i64 n_8, AV.int .i64 n_9, AV.int .i64 n_10, AV.int .i64 n_11, AV.int .i64 n_12])], r := [], g := [], rd := [], wr := [] }))) else none else bif decide (((List.length (List.map ndV l) : Nat) : Int) > 4) then some (AV.tup [AV.str [], AV.int .i64 5], []) else zRe (F 66 [AV.sl 0 true []] []) fun v bs => zTC v fun v r => zSt v fun s => zCo r fun v r => zIn .i64 v fun n => zNi r (zNi bs (some (AV.tup [AV.str s, AV.int .i64 n], []))) := by kernel_rfl
theorem b17 (F : Fns) (N : Nat) (l : List Nd) (ys : List AV) (i : Int) (KN : St → Res) : zBy F 17 0 N (a7S l (.tip 26 0 1 ys) i) (brk (zCt F 17 0 N 0) KN) =
 bif decide (i < ((List.length (List.map ndV l) : Nat) : Int)) then bif decide (0 ≤ i) then zOp (List.map ndV l)[Int.toNat i]? fun x => zNd x fun n b b_1 n_1 m fl xs n_2 m_1 fl_1 xs_1 b_2 m_2 fl_2 xs_2 m_3 fl_3 xs_3 n_3 m_4 fl_4 xs_4 m_5 fl_5 xs_5 n_4 n_5 n_6 b_3 m_6 fl_6 xs_6 n_7 m_7 fl_7 xs_7 m_8 fl_8 xs_8 n_8 n_9 n_10 n_11 n_12 => (zRe (F 9 [AV.agg [AV.int .i64 n, AV.bool b, AV.bool b_1, AV.int .i64 n_1, AV.sl m fl xs, AV.int .i64 n_2, AV.sl m_1 fl_1 xs_1, AV.bool b_2, AV.sl m_2 fl_2 xs_2, AV.sl m_3 fl_3 xs_3, AV.int .i64 n_3, AV.sl m_4 fl_4 xs_4, AV.sl m_5 fl_5 xs_5, AV.int .i64 n_4, AV.int .i64 n_5, AV.int .i64 n_6, AV.bool b_3, AV.sl m_6 fl_6 xs_6, AV.int .i64 n_7, AV.sl m_7 fl_7 xs_7, AV.sl m_8 fl_8 xs_8, AV.int .i64 n_8, AV.int .i64 n_9, AV.int .i64 n_10, AV.int .i64 n_11, AV.int .i64 n_12]] []) fun v bs => zTC v fun v r => zSt v fun s => zCo r fun v r => zIn .i64 v fun n_13 => zNi r (zNi bs (bif n_13 != 0 then some (AV.tup [AV.str (Array.toList (ByteArray.data { data := #[] })), AV.int .i64 n_13], []) else bif decide (1 = 1 ∧ fitsB (List.length ys + List.length [AV.str s]) 16 = true ∧ List.length ys + List.length [AV.str s] ≤ 4611686018427387904) then KN { nt := 35, t := [(0, ndsV l), (2, AV.str []), (3, AV.int .i64 0), (4, AV.tip 26 0 1 (ys ++ [AV.str s])), (6, AV.ptr 6 0 0), (7, AV.str s), (8, AV.int .i64 n_13), (9, ndsV l), (10, AV.int .i64 ((List.length (List.map ndV l) : Nat) : Int)), (11, AV.int .i64 (IntKind.wrap .i64 (i + 1))), (12, AV.bool (decide (i < ((List.length (List.map ndV l) : Nat) : Int)))), (21, AV.bool (n_13 != 0))], b := [(6, [AV.int .i64 n, AV.bool b, AV.bool b_1, AV.int .i64 n_1, AV.sl m fl xs, AV.int .i64 n_2, AV.sl m_1 fl_1 xs_1, AV.bool b_2, AV.sl m_2 fl_2 xs_2, AV.sl m_3 fl_3 xs_3, AV.int .i64 n_3, AV.sl m_4 fl_4 xs_4, AV.sl m_5 fl_5 xs_5, AV.int .i64 n_4, AV.int .i64 n_5, AV.int .i64 n_6, AV.bool b_3, AV.sl m_6 fl_6 xs_6, AV.int .i64 n_7, AV.sl m_7 fl_7 xs_7, AV.sl m_8 fl_8 xs_8, AV.int .i64 n_8, AV.int .i64 n_9, AV.int .i64 n_10, AV.int .i64 n_11, AV.int .i64 n_12])], r := [], g := [], rd := [], wr := [] } else none))) else none else bif decide (((List.length (List.map ndV l) : Nat) : Int) > 4) then some (AV.tup [AV.str [], AV.int .i64 5], []) else zRe (F 66 [AV.sl 1 false ys] []) fun v bs => zTC v fun v r => zSt v fun s => zCo r fun v r => zIn .i64 v fun n => zNi r (zNi bs (some (AV.tup [AV.str s, AV.int .i64 n], []))) := by kernel_rfl
def g6S (l : List Nd) (w i : Int) : St := ⟨141, [(0, ndsV l), (2, .bool false), (3, .int .i64 w), (4, .sl 0 true []), (17, .bool false), (20, .int .i64 ((List.length (List.map ndV l) : Nat) : Int)), (21, .int .i64 i)], [], [], [], [], []⟩
theorem b6 (F : Fns) (N : Nat) (l : List Nd) (w i : Int) (KN : St → Res) : zBy F 6 0 N (g6S l w i) (brk (zCt F 6 0 N 0) KN) =
 bif decide (i < ((List.length (List.map ndV l) : Nat) : Int)) then bif decide (0 ≤ i) then zOp (List.map ndV l)[Int.toNat i]? fun x => zNd x fun n b b_1 n_1 m fl xs n_2 m_1 fl_1 xs_1 b_2 m_2 fl_2 xs_2 m_3 fl_3 xs_3 n_3 m_4 fl_4 xs_4 m_5 fl_5 xs_5 n_4 n_5 n_6 b_3 m_6 fl_6 xs_6 n_7 m_7 fl_7 xs_7 m_8 fl_8 xs_8 n_8 n_9 n_10 n_11 n_12 => (zRe (F 7 [AV.agg [AV.int .i64 n, AV.bool b, AV.bool b_1, AV.int .i64 n_1, AV.sl m fl xs, AV.int .i64 n_2, AV.sl m_1 fl_1 xs_1, AV.bool b_2, AV.sl m_2 fl_2 xs_2, AV.sl m_3 fl_3 xs_3, AV.int .i64 n_3, AV.sl m_4 fl_4 xs_4, AV.sl m_5 fl_5 xs_5, AV.int .i64 n_4, AV.int .i64 n_5, AV.int .i64 n_6, AV.bool b_3, AV.sl m_6 fl_6 xs_6, AV.int .i64 n_7, AV.sl m_7 fl_7 xs_7, AV.sl m_8 fl_8 xs_8, AV.int .i64 n_8, AV.int .i64 n_9, AV.int .i64 n_10, AV.int .i64 n_11, AV.int .i64 n_12]] []) fun v bs => zBo v fun b => zNi bs (bif !b then zRe (F 8 [] []) fun v bs => zBo v fun b => zNi bs (some (AV.bool b, [])) else bif decide (0 ≤ i) then zOp (List.map ndV l)[Int.toNat i]? fun x => zNd x fun n b_4 b_5 n_13 m fl xs n_14 m_9 fl_9 xs_9 b_6 m_10 fl_10 xs_10 m_11 fl_11 xs_11 n_15 m_12 fl_12 xs_12 m_13 fl_13 xs_13 n_16 n_17 n_18 b_7 m_14 fl_14 xs_14 n_19 m_15 fl_15 xs_15 m_16 fl_16 xs_16 n_20 n_21 n_22 n_23 n_24 => (zRe (F 10 [AV.agg [AV.int .i64 n, AV.bool b_4, AV.bool b_5, AV.int .i64 n_13, AV.sl m fl xs, AV.int .i64 n_14, AV.sl m_9 fl_9 xs_9, AV.bool b_6, AV.sl m_10 fl_10 xs_10, AV.sl m_11 fl_11 xs_11, AV.int .i64 n_15, AV.sl m_12 fl_12 xs_12, AV.sl m_13 fl_13 xs_13, AV.int .i64 n_16, AV.int .i64 n_17, AV.int .i64 n_18, AV.bool b_7, AV.sl m_14 fl_14 xs_14, AV.int .i64 n_19, AV.sl m_15 fl_15 xs_15, AV.sl m_16 fl_16 xs_16, AV.int .i64 n_20, AV.int .i64 n_21, AV.int .i64 n_22, AV.int .i64 n_23, AV.int .i64 n_24]] []) fun v bs => zBo v fun b_8 => zNi bs (bif !b_8 then KN { nt := 141, t := [(0, ndsV l), (2, AV.bool false), (3, AV.int .i64 1), (4, AV.sl 0 true []), (5, AV.int .i64 i), (17, AV.bool false), (20, AV.int .i64 ((List.length (List.map ndV l) : Nat) : Int)), (21, AV.int .i64 (IntKind.wrap .i64 (i + 1))), (22, AV.bool (decide (i < ((List.length (List.map ndV l) : Nat) : Int)))), (29, AV.bool !b), (36, AV.bool !b_8)], b := [], r := [], g := [], rd := [], wr := [] } else KN { nt := 141, t := [(0, ndsV l), (2, AV.bool false), (3, AV.int .i64 w), (4, AV.sl 0 true []), (5, AV.int .i64 i), (17, AV.bool false), (20, AV.int .i64 ((List.length (List.map ndV l) : Nat) : Int)), (21, AV.int .i64 (IntKind.wrap .i64 (i + 1))), (22, AV.bool (decide (i < ((List.length (List.map ndV l) : Nat) : Int)))), (29, AV.bool !b), (36, AV.bool !b_8)], b := [], r := [], g := [], rd := [], wr := [] })) else none)) else none else loopA (zBy F 6 1 N) (zDe 6 1) (zCt F 6 1 N 0) N { nt := 141, t := [(0, ndsV l), (2, AV.bool false), (3, AV.int .i64 w), (4, AV.sl 0 true []), (6, AV.int .i64 0), (17, AV.bool false), (20, AV.int .i64 ((List.length (List.map ndV l) : Nat) : Int)), (21, AV.int .i64 i), (22, AV.bool (decide (i < ((List.length (List.map ndV l) : Nat) : Int))))], b := [], r := [], g := [], rd := [], wr := [] } := by kernel_rfl
theorem t17 (F : Fns) (N : Nat) (l : List Nd) : runOf F 17 N [ndsV l] [] =
 loopA (zBy F 17 0 N) (zDe 17 0) (zCt F 17 0 N 0) N { nt := 35, t := [(0, ndsV l), (2, AV.str []), (3, AV.int .i64 0), (4, AV.sl 0 true []), (9, ndsV l), (10, AV.int .i64 ((List.length (List.map ndV l) : Nat) : Int)), (11, AV.int .i64 0)], b := [], r := [], g := [], rd := [], wr := [] } := by kernel_rfl
theorem t6 (F : Fns) (N : Nat) (l : List Nd) : runOf F 6 N [ndsV l] [] =
 bif decide (((List.length (List.map ndV l) : Nat) : Int) > 6) then zRe (F 8 [] []) fun v bs => zBo v fun b => zNi bs (some (AV.bool b, [])) else loopA (zBy F 6 0 N) (zDe 6 0) (zCt F 6 0 N 0) N { nt := 141, t := [(0, ndsV l), (2, AV.bool false), (3, AV.int .i64 0), (4, AV.sl 0 true []), (17, AV.bool (decide (((List.length (List.map ndV l) : Nat) : Int) > 6))), (20, AV.int .i64 ((List.length (List.map ndV l) : Nat) : Int)), (21, AV.int .i64 0)], b := [], r := [], g := [], rd := [], wr := [] } := by kernel_rfl
def g7S (l : List Nd) (w : Int) (v : AV) (i j : Int) : St := ⟨141, [(0, ndsV l), (2, .bool false), (3, .int .i64 w), (4, v), (6, .int .i64 j), (17, .bool false), (20, .int .i64 ((List.length (List.map ndV l) : Nat) : Int)), (21, .int .i64 i), (22, .bool false)], [], [], [], [], []⟩
theorem c6a (F : Fns) (N : Nat) (l : List Nd) (w i j : Int) (KN : St → Res) : zBy F 6 1 N (g7S l w (.sl 0 true []) i j) (brk (zCt F 6 1 N 0) KN) =
 bif decide (j < ((List.length (List.map ndV l) : Nat) : Int)) then bif w == 0 then bif decide (0 ≤ j) then zOp (List.map ndV l)[Int.toNat j]? fun x => zNd x fun n b b_1 n_1 m fl xs n_2 m_1 fl_1 xs_1 b_2 m_2 fl_2 xs_2 m_3 fl_3 xs_3 n_3 m_4 fl_4 xs_4 m_5 fl_5 xs_5 n_4 n_5 n_6 b_3 m_6 fl_6 xs_6 n_7 m_7 fl_7 xs_7 m_8 fl_8 xs_8 n_8 n_9 n_10 n_11 n_12 => (zRe (F 12 [AV.agg [AV.int .i64 n, AV.bool b, AV.bool b_1, AV.int .i64 n_1, AV.sl m fl xs, AV.int .i64 n_2, AV.sl m_1 fl_1 xs_1, AV.bool b_2, AV.sl m_2 fl_2 xs_2, AV.sl m_3 fl_3 xs_3, AV.int .i64 n_3, AV.sl m_4 fl_4 xs_4, AV.sl m_5 fl_5 xs_5, AV.int .i64 n_4, AV.int .i64 n_5, AV.int .i64 n_6, AV.bool b_3, AV.sl m_6 fl_6 xs_6, AV.int .i64 n_7, AV.sl m_7 fl_7 xs_7, AV.sl m_8 fl_8 xs_8, AV.int .i64 n_8, AV.int .i64 n_9, AV.int .i64 n_10, AV.int .i64 n_11, AV.int .i64 n_12]] []) fun v bs => zSt v fun s => zNi bs (KN { nt := 141, t := [(0, ndsV l), (2, AV.bool false), (3, AV.int .i64 w), (4, AV.tip 55 0 1 [AV.str s]), (6, AV.int .i64 (IntKind.wrap .i64 (j + 1))), (17, AV.bool false), (20, AV.int .i64 ((List.length (List.map ndV l) : Nat) : Int)), (21, AV.int .i64 i), (22, AV.bool false), (45, AV.bool (w == 0))], b := [], r := [], g := [], rd := [], wr := [] })) else none else bif w == 0 then bif decide (((List.length (List.map ndV l) : Nat) : Int) > 4) then loopA (zBy F 6 2 N) (zDe 6 2) (zCt F 6 2 N 0) N { nt := 141, t := [(0, ndsV l), (2, AV.bool false), (3, AV.int .i64 5), (4, AV.sl 0 true []), (6, AV.int .i64 j), (7, AV.int .i64 0), (17, AV.bool false), (20, AV.int .i64 ((List.length (List.map ndV l) : Nat) : Int)), (21, AV.int .i64 i), (22, AV.bool false), (45, AV.bool (w == 0)), (62, AV.bool (decide (((List.length (List.map ndV l) : Nat) : Int) > 4)))], b := [], r := [], g := [], rd := [], wr := [] } else loopA (zBy F 6 2 N) (zDe 6 2) (zCt F 6 2 N 0) N { nt := 141, t := [(0, ndsV l), (2, AV.bool false), (3, AV.int .i64 w), (4, AV.sl 0 true []), (6, AV.int .i64 j), (7, AV.int .i64 0), (17, AV.bool false), (20, AV.int .i64 ((List.length (List.map ndV l) : Nat) : Int)), (21, AV.int .i64 i), (22, AV.bool false), (45, AV.bool (w == 0)), (62, AV.bool (decide (((List.length (List.map ndV l) : Nat) : Int) > 4)))], b := [], r := [], g := [], rd := [], wr := [] } else loopA (zBy F 6 2 N) (zDe 6 2) (zCt F 6 2 N 0) N { nt := 141, t := [(0, ndsV l), (2, AV.bool false), (3, AV.int .i64 w), (4, AV.sl 0 true []), (6, AV.int .i64 j), (7, AV.int .i64 0), (17, AV.bool false), (20, AV.int .i64 ((List.length (List.map ndV l) : Nat) : Int)), (21, AV.int .i64 i), (22, AV.bool false), (45, AV.bool (w == 0)), (62, AV.bool false)], b := [], r := [], g := [], rd := [], wr := [] } else bif w == 0 then bif decide (((List.length (List.map ndV l) : Nat) : Int) > 4) then loopA (zBy F 6 2 N) (zDe 6 2) (zCt F 6 2 N 0) N { nt := 141, t := [(0, ndsV l), (2, AV.bool false), (3, AV.int .i64 5), (4, AV.sl 0 true []), (6, AV.int .i64 j), (7, AV.int .i64 0), (17, AV.bool false), (20, AV.int .i64 ((List.length (List.map ndV l) : Nat) : Int)), (21, AV.int .i64 i), (22, AV.bool false), (45, AV.bool false), (62, AV.bool (decide (((List.length (List.map ndV l) : Nat) : Int) > 4)))], b := [], r := [], g := [], rd := [], wr := [] } else loopA (zBy F 6 2 N) (zDe 6 2) (zCt F 6 2 N 0) N { nt := 141, t := [(0, ndsV l), (2, AV.bool false), (3, AV.int .i64 w), (4, AV.sl 0 true []), (6, AV.int .i64 j), (7, AV.int .i64 0), (17, AV.bool false), (20, AV.int .i64 ((List.length (List.map ndV l) : Nat) : Int)), (21, AV.int .i64 i), (22, AV.bool false), (45, AV.bool false), (62, AV.bool (decide (((List.length (List.map ndV l) : Nat) : Int) > 4)))], b := [], r := [], g := [], rd := [], wr := [] } else loopA (zBy F 6 2 N) (zDe 6 2) (zCt F 6 2 N 0) N { nt := 141, t := [(0, ndsV l), (2, AV.bool false), (3, AV.int .i64 w), (4, AV.sl 0 true []), (6, AV.int .i64 j), (7, AV.int .i64 0), (17, AV.bool false), (20, AV.int .i64 ((List.length (List.map ndV l) : Nat) : Int)), (21, AV.int .i64 i), (22, AV.bool false), (45, AV.bool false), (62, AV.bool false)], b := [], r := [], g := [], rd := [], wr := [] } := by kernel_rfl
theorem c6b (F : Fns) (N : Nat) (l : List Nd) (w : Int) (ys : List AV) (i j : Int) (KN : St → Res) : zBy F 6 1 N (g7S l w (.tip 55 0 1 ys) i j) (brk (zCt F 6 1 N 0) KN) =
 bif decide (j < ((List.length (List.map ndV l) : Nat) : Int)) then bif w == 0 then bif decide (0 ≤ j) then zOp (List.map ndV l)[Int.toNat j]? fun x => zNd x fun n b b_1 n_1 m fl xs n_2 m_1 fl_1 xs_1 b_2 m_2 fl_2 xs_2 m_3 fl_3 xs_3 n_3 m_4 fl_4 xs_4 m_5 fl_5 xs_5 n_4 n_5 n_6 b_3 m_6 fl_6 xs_6 n_7 m_7 fl_7 xs_7 m_8 fl_8 xs_8 n_8 n_9 n_10 n_11 n_12 => (zRe (F 12 [AV.agg [AV.int .i64 n, AV.bool b, AV.bool b_1, AV.int .i64 n_1, AV.sl m fl xs, AV.int .i64 n_2, AV.sl m_1 fl_1 xs_1, AV.bool b_2, AV.sl m_2 fl_2 xs_2, AV.sl m_3 fl_3 xs_3, AV.int .i64 n_3, AV.sl m_4 fl_4 xs_4, AV.sl m_5 fl_5 xs_5, AV.int .i64 n_4, AV.int .i64 n_5, AV.int .i64 n_6, AV.bool b_3, AV.sl m_6 fl_6 xs_6, AV.int .i64 n_7, AV.sl m_7 fl_7 xs_7, AV.sl m_8 fl_8 xs_8, AV.int .i64 n_8, AV.int .i64 n_9, AV.int .i64 n_10, AV.int .i64 n_11, AV.int .i64 n_12]] []) fun v bs => zSt v fun s => zNi bs (bif decide (1 = 1 ∧ fitsB (List.length ys + List.length [AV.str s]) 16 = true ∧ List.length ys + List.length [AV.str s] ≤ 4611686018427387904) then KN { nt := 141, t := [(0, ndsV l), (2, AV.bool false), (3, AV.int .i64 w), (4, AV.tip 55 0 1 (ys ++ [AV.str s])), (6, AV.int .i64 (IntKind.wrap .i64 (j + 1))), (17, AV.bool false), (20, AV.int .i64 ((List.length (List.map ndV l) : Nat) : Int)), (21, AV.int .i64 i), (22, AV.bool false), (45, AV.bool (w == 0))], b := [], r := [], g := [], rd := [], wr := [] } else none)) else none else bif w == 0 then bif decide (((List.length (List.map ndV l) : Nat) : Int) > 4) then loopA (zBy F 6 2 N) (zDe 6 2) (zCt F 6 2 N 0) N { nt := 141, t := [(0, ndsV l), (2, AV.bool false), (3, AV.int .i64 5), (4, AV.tip 55 0 1 ys), (6, AV.int .i64 j), (7, AV.int .i64 0), (17, AV.bool false), (20, AV.int .i64 ((List.length (List.map ndV l) : Nat) : Int)), (21, AV.int .i64 i), (22, AV.bool false), (45, AV.bool (w == 0)), (62, AV.bool (decide (((List.length (List.map ndV l) : Nat) : Int) > 4)))], b := [], r := [], g := [], rd := [], wr := [] } else loopA (zBy F 6 2 N) (zDe 6 2) (zCt F 6 2 N 0) N { nt := 141, t := [(0, ndsV l), (2, AV.bool false), (3, AV.int .i64 w), (4, AV.tip 55 0 1 ys), (6, AV.int .i64 j), (7, AV.int .i64 0), (17, AV.bool false), (20, AV.int .i64 ((List.length (List.map ndV l) : Nat) : Int)), (21, AV.int .i64 i), (22, AV.bool false), (45, AV.bool (w == 0)), (62, AV.bool (decide (((List.length (List.map ndV l) : Nat) : Int) > 4)))], b := [], r := [], g := [], rd := [], wr := [] } else loopA (zBy F 6 2 N) (zDe 6 2) (zCt F 6 2 N 0) N { nt := 141, t := [(0, ndsV l), (2, AV.bool false), (3, AV.int .i64 w), (4, AV.tip 55 0 1 ys), (6, AV.int .i64 j), (7, AV.int .i64 0), (17, AV.bool false), (20, AV.int .i64 ((List.length (List.map ndV l) : Nat) : Int)), (21, AV.int .i64 i), (22, AV.bool false), (45, AV.bool (w == 0)), (62, AV.bool false)], b := [], r := [], g := [], rd := [], wr := [] } else bif w == 0 then bif decide (((List.length (List.map ndV l) : Nat) : Int) > 4) then loopA (zBy F 6 2 N) (zDe 6 2) (zCt F 6 2 N 0) N { nt := 141, t := [(0, ndsV l), (2, AV.bool false), (3, AV.int .i64 5), (4, AV.tip 55 0 1 ys), (6, AV.int .i64 j), (7, AV.int .i64 0), (17, AV.bool false), (20, AV.int .i64 ((List.length (List.map ndV l) : Nat) : Int)), (21, AV.int .i64 i), (22, AV.bool false), (45, AV.bool false), (62, AV.bool (decide (((List.length (List.map ndV l) : Nat) : Int) > 4)))], b := [], r := [], g := [], rd := [], wr := [] } else loopA (zBy F 6 2 N) (zDe 6 2) (zCt F 6 2 N 0) N { nt := 141, t := [(0, ndsV l), (2, AV.bool false), (3, AV.int .i64 w), (4, AV.tip 55 0 1 ys), (6, AV.int .i64 j), (7, AV.int .i64 0), (17, AV.bool false), (20, AV.int .i64 ((List.length (List.map ndV l) : Nat) : Int)), (21, AV.int .i64 i), (22, AV.bool false), (45, AV.bool false), (62, AV.bool (decide (((List.length (List.map ndV l) : Nat) : Int) > 4)))], b := [], r := [], g := [], rd := [], wr := [] } else loopA (zBy F 6 2 N) (zDe 6 2) (zCt F 6 2 N 0) N { nt := 141, t := [(0, ndsV l), (2, AV.bool false), (3, AV.int .i64 w), (4, AV.tip 55 0 1 ys), (6, AV.int .i64 j), (7, AV.int .i64 0), (17, AV.bool false), (20, AV.int .i64 ((List.length (List.map ndV l) : Nat) : Int)), (21, AV.int .i64 i), (22, AV.bool false), (45, AV.bool false), (62, AV.bool false)], b := [], r := [], g := [], rd := [], wr := [] } := by kernel_rfl
def g8S (l : List Nd) (w : Int) (v : AV) (i j q : Int) (b1 b2 : Bool) : St := ⟨141, [(0, ndsV l), (2, .bool false), (3, .int .i64 w), (4, v), (6, .int .i64 j), (7, .int .i64 q), (17, .bool false), (20, .int .i64 ((List.length (List.map ndV l) : Nat) : Int)), (21, .int .i64 i), (22, .bool false), (45, .bool b1), (62, .bool b2)], [], [], [], [], []⟩
theorem d6a (F : Fns) (N : Nat) (l : List Nd) (w i j q : Int) (b1 b2 : Bool) (KN : St → Res) : zBy F 6 2 N (g8S l w (.sl 0 true []) i j q b1 b2) (brk (zCt F 6 2 N 0) KN) =
 bif decide (q < ((List.length ([] : List AV) : Nat) : Int)) then bif w == 0 then none else zRe (F 17 [ndsV l] []) fun v bs => zTC v fun v r => zSt v fun s => zCo r fun v r => zIn .i64 v fun n => zNi r (zNi bs (bif w != 0 then bif s == [] then bif n == w then zRe (F 8 [] []) fun v bs => zBo v fun b => zNi bs (some (AV.bool b, [])) else some (AV.bool false, []) else some (AV.bool false, []) else zRe (F 18 [AV.sl 0 true []] []) fun v bs => zTC v fun v r => zSt v fun s_1 => zCo r fun v r => zIn .i64 v fun n_1 => zNi r (zNi bs (zRe (F 15 [AV.str s] []) fun v bs => zTC v fun v r => asSl v fun m fl xs => zCo r fun v r => zIn .i64 v fun n_2 => zNi r (zNi bs (bif !s == s_1 then some (AV.bool false, []) else bif n != 0 then some (AV.bool false, []) else bif (xs.length : Int) != ((List.length (List.map ndV l) : Nat) : Int) then some (AV.bool false, []) else bif n_2 != 0 then some (AV.bool false, []) else loopA (zBy F 6 3 N) (zDe 6 3) (zCt F 6 3 N 0) N { nt := 141, t := [(0, ndsV l), (2, AV.bool false), (3, AV.int .i64 w), (4, AV.sl 0 true []), (6, AV.int .i64 j), (7, AV.int .i64 q), (8, AV.str s), (9, AV.int .i64 n), (10, AV.str s_1), (12, AV.sl m fl xs), (13, AV.int .i64 n_2), (17, AV.bool false), (20, AV.int .i64 ((List.length (List.map ndV l) : Nat) : Int)), (21, AV.int .i64 i), (22, AV.bool false), (45, AV.bool b1), (62, AV.bool b2), (70, AV.bool (w == 0)), (85, AV.bool (w != 0)), (123, AV.bool (n_2 != 0)), (125, AV.int .i64 ((List.length (List.map ndV l) : Nat) : Int)), (126, AV.int .i64 0)], b := [], r := [], g := [], rd := [], wr := [] })))))) else zRe (F 17 [ndsV l] []) fun v bs => zTC v fun v r => zSt v fun s => zCo r fun v r => zIn .i64 v fun n => zNi r (zNi bs (bif w != 0 then bif s == [] then bif n == w then zRe (F 8 [] []) fun v bs => zBo v fun b => zNi bs (some (AV.bool b, [])) else some (AV.bool false, []) else some (AV.bool false, []) else zRe (F 18 [AV.sl 0 true []] []) fun v bs => zTC v fun v r => zSt v fun s_1 => zCo r fun v r => zIn .i64 v fun n_1 => zNi r (zNi bs (zRe (F 15 [AV.str s] []) fun v bs => zTC v fun v r => asSl v fun m fl xs => zCo r fun v r => zIn .i64 v fun n_2 => zNi r (zNi bs (bif !s == s_1 then some (AV.bool false, []) else bif n != 0 then some (AV.bool false, []) else bif (xs.length : Int) != ((List.length (List.map ndV l) : Nat) : Int) then some (AV.bool false, []) else bif n_2 != 0 then some (AV.bool false, []) else loopA (zBy F 6 3 N) (zDe 6 3) (zCt F 6 3 N 0) N { nt := 141, t := [(0, ndsV l), (2, AV.bool false), (3, AV.int .i64 w), (4, AV.sl 0 true []), (6, AV.int .i64 j), (7, AV.int .i64 q), (8, AV.str s), (9, AV.int .i64 n), (10, AV.str s_1), (12, AV.sl m fl xs), (13, AV.int .i64 n_2), (17, AV.bool false), (20, AV.int .i64 ((List.length (List.map ndV l) : Nat) : Int)), (21, AV.int .i64 i), (22, AV.bool false), (45, AV.bool b1), (62, AV.bool b2), (70, AV.bool false), (85, AV.bool (w != 0)), (123, AV.bool (n_2 != 0)), (125, AV.int .i64 ((List.length (List.map ndV l) : Nat) : Int)), (126, AV.int .i64 0)], b := [], r := [], g := [], rd := [], wr := [] })))))) := by kernel_rfl
theorem d6b (F : Fns) (N : Nat) (l : List Nd) (w : Int) (tx : List (List UInt8)) (i j q : Int) (b1 b2 : Bool) (KN : St → Res) : zBy F 6 2 N (g8S l w (.tip 55 0 1 (tx.map AV.str)) i j q b1 b2) (brk (zCt F 6 2 N 0) KN) =
 bif decide (q < ((List.length (List.map AV.str tx) : Nat) : Int)) then bif w == 0 then bif decide (0 ≤ q) then zOp (List.map AV.str tx)[Int.toNat q]? fun x => zSt x fun s => bif decide ((s.length : Int) > 65535) then KN { nt := 141, t := [(0, ndsV l), (2, AV.bool false), (3, AV.int .i64 5), (4, AV.tip 55 0 1 (List.map AV.str tx)), (6, AV.int .i64 j), (7, AV.int .i64 (IntKind.wrap .i64 (q + 1))), (17, AV.bool false), (20, AV.int .i64 ((List.length (List.map ndV l) : Nat) : Int)), (21, AV.int .i64 i), (22, AV.bool false), (45, AV.bool b1), (62, AV.bool b2), (70, AV.bool (w == 0)), (78, AV.bool (decide ((s.length : Int) > 65535)))], b := [], r := [], g := [], rd := [], wr := [] } else KN { nt := 141, t := [(0, ndsV l), (2, AV.bool false), (3, AV.int .i64 w), (4, AV.tip 55 0 1 (List.map AV.str tx)), (6, AV.int .i64 j), (7, AV.int .i64 (IntKind.wrap .i64 (q + 1))), (17, AV.bool false), (20, AV.int .i64 ((List.length (List.map ndV l) : Nat) : Int)), (21, AV.int .i64 i), (22, AV.bool false), (45, AV.bool b1), (62, AV.bool b2), (70, AV.bool (w == 0)), (78, AV.bool (decide ((s.length : Int) > 65535)))], b := [], r := [], g := [], rd := [], wr := [] } else none else zRe (F 17 [ndsV l] []) fun v bs => zTC v fun v r => zSt v fun s => zCo r fun v r => zIn .i64 v fun n => zNi r (zNi bs (bif w != 0 then bif s == [] then bif n == w then zRe (F 8 [] []) fun v bs => zBo v fun b => zNi bs (some (AV.bool b, [])) else some (AV.bool false, []) else some (AV.bool false, []) else zRe (F 18 [ssV tx] []) fun v bs => zTC v fun v r => zSt v fun s_1 => zCo r fun v r => zIn .i64 v fun n_1 => zNi r (zNi bs (zRe (F 15 [AV.str s] []) fun v bs => zTC v fun v r => asSl v fun m fl xs => zCo r fun v r => zIn .i64 v fun n_2 => zNi r (zNi bs (bif !s == s_1 then some (AV.bool false, []) else bif n != 0 then some (AV.bool false, []) else bif (xs.length : Int) != ((List.length (List.map ndV l) : Nat) : Int) then some (AV.bool false, []) else bif n_2 != 0 then some (AV.bool false, []) else loopA (zBy F 6 3 N) (zDe 6 3) (zCt F 6 3 N 0) N { nt := 141, t := [(0, ndsV l), (2, AV.bool false), (3, AV.int .i64 w), (4, AV.tip 55 0 1 (List.map AV.str tx)), (6, AV.int .i64 j), (7, AV.int .i64 q), (8, AV.str s), (9, AV.int .i64 n), (10, AV.str s_1), (12, AV.sl m fl xs), (13, AV.int .i64 n_2), (17, AV.bool false), (20, AV.int .i64 ((List.length (List.map ndV l) : Nat) : Int)), (21, AV.int .i64 i), (22, AV.bool false), (45, AV.bool b1), (62, AV.bool b2), (70, AV.bool (w == 0)), (85, AV.bool (w != 0)), (123, AV.bool (n_2 != 0)), (125, AV.int .i64 ((List.length (List.map ndV l) : Nat) : Int)), (126, AV.int .i64 0)], b := [], r := [], g := [], rd := [], wr := [] })))))) else zRe (F 17 [ndsV l] []) fun v bs => zTC v fun v r => zSt v fun s => zCo r fun v r => zIn .i64 v fun n => zNi r (zNi bs (bif w != 0 then bif s == [] then bif n == w then zRe (F 8 [] []) fun v bs => zBo v fun b => zNi bs (some (AV.bool b, [])) else some (AV.bool false, []) else some (AV.bool false, []) else zRe (F 18 [ssV tx] []) fun v bs => zTC v fun v r => zSt v fun s_1 => zCo r fun v r => zIn .i64 v fun n_1 => zNi r (zNi bs (zRe (F 15 [AV.str s] []) fun v bs => zTC v fun v r => asSl v fun m fl xs => zCo r fun v r => zIn .i64 v fun n_2 => zNi r (zNi bs (bif !s == s_1 then some (AV.bool false, []) else bif n != 0 then some (AV.bool false, []) else bif (xs.length : Int) != ((List.length (List.map ndV l) : Nat) : Int) then some (AV.bool false, []) else bif n_2 != 0 then some (AV.bool false, []) else loopA (zBy F 6 3 N) (zDe 6 3) (zCt F 6 3 N 0) N { nt := 141, t := [(0, ndsV l), (2, AV.bool false), (3, AV.int .i64 w), (4, AV.tip 55 0 1 (List.map AV.str tx)), (6, AV.int .i64 j), (7, AV.int .i64 q), (8, AV.str s), (9, AV.int .i64 n), (10, AV.str s_1), (12, AV.sl m fl xs), (13, AV.int .i64 n_2), (17, AV.bool false), (20, AV.int .i64 ((List.length (List.map ndV l) : Nat) : Int)), (21, AV.int .i64 i), (22, AV.bool false), (45, AV.bool b1), (62, AV.bool b2), (70, AV.bool false), (85, AV.bool (w != 0)), (123, AV.bool (n_2 != 0)), (125, AV.int .i64 ((List.length (List.map ndV l) : Nat) : Int)), (126, AV.int .i64 0)], b := [], r := [], g := [], rd := [], wr := [] })))))) := by kernel_rfl
def g9S (l m : List Nd) (v : AV) (i j q : Int) (b1 b2 b3 : Bool) (s s1 : List UInt8) (r : Int) : St := ⟨141, [(0, ndsV l), (2, .bool false), (3, .int .i64 0), (4, v), (6, .int .i64 j), (7, .int .i64 q), (8, .str s), (9, .int .i64 0), (10, .str s1), (12, ndsV m), (13, .int .i64 0), (17, .bool false), (20, .int .i64 ((List.length (List.map ndV l) : Nat) : Int)), (21, .int .i64 i), (22, .bool false), (45, .bool b1), (62, .bool b2), (70, .bool b3), (85, .bool false), (123, .bool false), (125, .int .i64 ((List.length (List.map ndV l) : Nat) : Int)), (126, .int .i64 r)], [], [], [], [], []⟩
theorem e6a (F : Fns) (N : Nat) (l m : List Nd) (i j q : Int) (b1 b2 b3 : Bool) (s s1 : List UInt8) (r : Int) (KN : St → Res) : zBy F 6 3 N (g9S l m (.sl 0 true []) i j q b1 b2 b3 s s1 r) (brk (zCt F 6 3 N 0) KN) =
 bif decide (r < ((List.length (List.map ndV l) : Nat) : Int)) then bif decide (0 ≤ r) then zOp (List.map ndV m)[Int.toNat r]? fun x => zNd x fun n b b_1 n_1 m_1 fl xs n_2 m_2 fl_1 xs_1 b_2 m_3 fl_2 xs_2 m_4 fl_3 xs_3 n_3 m_5 fl_4 xs_4 m_6 fl_5 xs_5 n_4 n_5 n_6 b_3 m_7 fl_6 xs_6 n_7 m_8 fl_7 xs_7 m_9 fl_8 xs_8 n_8 n_9 n_10 n_11 n_12 => (bif decide (0 ≤ r) then zOp (List.map ndV l)[Int.toNat r]? fun x => zNd x fun n_13 b_4 b_5 n_14 m_10 fl_9 xs_9 n_15 m_11 fl_10 xs_10 b_6 m_12 fl_11 xs_11 m_13 fl_12 xs_12 n_16 m_14 fl_13 xs_13 m_15 fl_14 xs_14 n_17 n_18 n_19 b_7 m_16 fl_15 xs_15 n_20 m_17 fl_16 xs_16 m_18 fl_17 xs_17 n_21 n_22 n_23 n_24 n_25 => (zRe (F 13 [AV.agg [AV.int .i64 n, AV.bool b, AV.bool b_1, AV.int .i64 n_1, AV.sl m_1 fl xs, AV.int .i64 n_2, AV.sl m_2 fl_1 xs_1, AV.bool b_2, AV.sl m_3 fl_2 xs_2, AV.sl m_4 fl_3 xs_3, AV.int .i64 n_3, AV.sl m_5 fl_4 xs_4, AV.sl m_6 fl_5 xs_5, AV.int .i64 n_4, AV.int .i64 n_5, AV.int .i64 n_6, AV.bool b_3, AV.sl m_7 fl_6 xs_6, AV.int .i64 n_7, AV.sl m_8 fl_7 xs_7, AV.sl m_9 fl_8 xs_8, AV.int .i64 n_8, AV.int .i64 n_9, AV.int .i64 n_10, AV.int .i64 n_11, AV.int .i64 n_12], AV.agg [AV.int .i64 n_13, AV.bool b_4, AV.bool b_5, AV.int .i64 n_14, AV.sl m_10 fl_9 xs_9, AV.int .i64 n_15, AV.sl m_11 fl_10 xs_10, AV.bool b_6, AV.sl m_12 fl_11 xs_11, AV.sl m_13 fl_12 xs_12, AV.int .i64 n_16, AV.sl m_14 fl_13 xs_13, AV.sl m_15 fl_14 xs_14, AV.int .i64 n_17, AV.int .i64 n_18, AV.int .i64 n_19, AV.bool b_7, AV.sl m_16 fl_15 xs_15, AV.int .i64 n_20, AV.sl m_17 fl_16 xs_16, AV.sl m_18 fl_17 xs_17, AV.int .i64 n_21, AV.int .i64 n_22, AV.int .i64 n_23, AV.int .i64 n_24, AV.int .i64 n_25]] []) fun v bs => zBo v fun b => zNi bs (bif !b then some (AV.bool false, []) else KN { nt := 141, t := [(0, ndsV l), (2, AV.bool false), (3, AV.int .i64 0), (4, AV.sl 0 true []), (6, AV.int .i64 j), (7, AV.int .i64 q), (8, AV.str s), (9, AV.int .i64 0), (10, AV.str s1), (12, ndsV m), (13, AV.int .i64 0), (14, AV.int .i64 r), (17, AV.bool false), (20, AV.int .i64 ((List.length (List.map ndV l) : Nat) : Int)), (21, AV.int .i64 i), (22, AV.bool false), (45, AV.bool b1), (62, AV.bool b2), (70, AV.bool b3), (85, AV.bool false), (123, AV.bool false), (125, AV.int .i64 ((List.length (List.map ndV l) : Nat) : Int)), (126, AV.int .i64 (IntKind.wrap .i64 (r + 1))), (127, AV.bool (decide (r < ((List.length (List.map ndV l) : Nat) : Int)))), (138, AV.bool !b)], b := [], r := [], g := [], rd := [], wr := [] })) else none) else none else zRe (F 8 [] []) fun v bs => zBo v fun b => zNi bs (some (AV.bool b, [])) := by kernel_rfl
theorem e6b (F : Fns) (N : Nat) (l m : List Nd) (ys : List AV) (i j q : Int) (b1 b2 b3 : Bool) (s s1 : List UInt8) (r : Int) (KN : St → Res) : zBy F 6 3 N (g9S l m (.tip 55 0 1 ys) i j q b1 b2 b3 s s1 r) (brk (zCt F 6 3 N 0) KN) =
 bif decide (r < ((List.length (List.map ndV l) : Nat) : Int)) then bif decide (0 ≤ r) then zOp (List.map ndV m)[Int.toNat r]? fun x => zNd x fun n b b_1 n_1 m_1 fl xs n_2 m_2 fl_1 xs_1 b_2 m_3 fl_2 xs_2 m_4 fl_3 xs_3 n_3 m_5 fl_4 xs_4 m_6 fl_5 xs_5 n_4 n_5 n_6 b_3 m_7 fl_6 xs_6 n_7 m_8 fl_7 xs_7 m_9 fl_8 xs_8 n_8 n_9 n_10 n_11 n_12 => (bif decide (0 ≤ r) then zOp (List.map ndV l)[Int.toNat r]? fun x => zNd x fun n_13 b_4 b_5 n_14 m_10 fl_9 xs_9 n_15 m_11 fl_10 xs_10 b_6 m_12 fl_11 xs_11 m_13 fl_12 xs_12 n_16 m_14 fl_13 xs_13 m_15 fl_14 xs_14 n_17 n_18 n_19 b_7 m_16 fl_15 xs_15 n_20 m_17 fl_16 xs_16 m_18 fl_17 xs_17 n_21 n_22 n_23 n_24 n_25 => (zRe (F 13 [AV.agg [AV.int .i64 n, AV.bool b, AV.bool b_1, AV.int .i64 n_1, AV.sl m_1 fl xs, AV.int .i64 n_2, AV.sl m_2 fl_1 xs_1, AV.bool b_2, AV.sl m_3 fl_2 xs_2, AV.sl m_4 fl_3 xs_3, AV.int .i64 n_3, AV.sl m_5 fl_4 xs_4, AV.sl m_6 fl_5 xs_5, AV.int .i64 n_4, AV.int .i64 n_5, AV.int .i64 n_6, AV.bool b_3, AV.sl m_7 fl_6 xs_6, AV.int .i64 n_7, AV.sl m_8 fl_7 xs_7, AV.sl m_9 fl_8 xs_8, AV.int .i64 n_8, AV.int .i64 n_9, AV.int .i64 n_10, AV.int .i64 n_11, AV.int .i64 n_12], AV.agg [AV.int .i64 n_13, AV.bool b_4, AV.bool b_5, AV.int .i64 n_14, AV.sl m_10 fl_9 xs_9, AV.int .i64 n_15, AV.sl m_11 fl_10 xs_10, AV.bool b_6, AV.sl m_12 fl_11 xs_11, AV.sl m_13 fl_12 xs_12, AV.int .i64 n_16, AV.sl m_14 fl_13 xs_13, AV.sl m_15 fl_14 xs_14, AV.int .i64 n_17, AV.int .i64 n_18, AV.int .i64 n_19, AV.bool b_7, AV.sl m_16 fl_15 xs_15, AV.int .i64 n_20, AV.sl m_17 fl_16 xs_16, AV.sl m_18 fl_17 xs_17, AV.int .i64 n_21, AV.int .i64 n_22, AV.int .i64 n_23, AV.int .i64 n_24, AV.int .i64 n_25]] []) fun v bs => zBo v fun b => zNi bs (bif !b then some (AV.bool false, []) else KN { nt := 141, t := [(0, ndsV l), (2, AV.bool false), (3, AV.int .i64 0), (4, AV.tip 55 0 1 ys), (6, AV.int .i64 j), (7, AV.int .i64 q), (8, AV.str s), (9, AV.int .i64 0), (10, AV.str s1), (12, ndsV m), (13, AV.int .i64 0), (14, AV.int .i64 r), (17, AV.bool false), (20, AV.int .i64 ((List.length (List.map ndV l) : Nat) : Int)), (21, AV.int .i64 i), (22, AV.bool false), (45, AV.bool b1), (62, AV.bool b2), (70, AV.bool b3), (85, AV.bool false), (123, AV.bool false), (125, AV.int .i64 ((List.length (List.map ndV l) : Nat) : Int)), (126, AV.int .i64 (IntKind.wrap .i64 (r + 1))), (127, AV.bool (decide (r < ((List.length (List.map ndV l) : Nat) : Int)))), (138, AV.bool !b)], b := [], r := [], g := [], rd := [], wr := [] })) else none) else none else zRe (F 8 [] []) fun v bs => zBo v fun b => zNi bs (some (AV.bool b, [])) := by kernel_rfl
def allOut (l : List Nd) : List UInt8 × Int := if l.any (fun n => !nodeOk n) then ([], 1) else if l.length > 4 then ([], 5) else listE (l.map nodeB)
theorem x66c (k : Nat) (hk : 66000 ≤ k) (l : List (List UInt8)) (h : l = []) : W k 66 [.sl 0 true []] [] = some (.tup [.str (listE l).1, .int .i64 (listE l).2], []) := by
 subst h
 exact W_arg (x66 k hk []) (by kernel_rfl)
theorem x18c (k : Nat) (hk : 66000 ≤ k) (l : List (List UInt8)) (h : l = []) : W k 18 [.sl 0 true []] [] = some (.tup [.str (listE l).1, .int .i64 (listE l).2], []) := by
 subst h
 exact W_arg (x18 k hk []) (by kernel_rfl)
theorem any_take {l : List Nd} {i : Nat} (hi : ¬ i < l.length) (h : (l.take i).any (fun n => !nodeOk n) = false) : l.any (fun n => !nodeOk n) = false := by
 rwa [List.take_of_length_le (by omega)] at h
theorem take_one {α : Type} {l : List α} {i : Nat} (hi : i < l.length) : l.take (i + 1) = l.take i ++ [l[i]] := by
 rw [List.take_add_one, List.getElem?_eq_getElem hi]
 rfl
theorem x17 (k : Nat) (hk : 71000 ≤ k) (l : List Nd) (hl : l.length ≤ 1000) (hB : ∀ n ∈ l, NdB n ∧ n.qs.length ≤ 65535) : W k 17 [ndsV l] [] = some (.tup [.str (allOut l).1, .int .i64 (allOut l).2], []) := by
 obtain ⟨k, rfl⟩ := succ1 (show 1 ≤ k by omega)
 refine (W_tree0 (t17 (W k) k l) (by kernel_rfl)).trans ?_
 refine loopA_ind (fun i : Nat => a7S l (gtV 26 1 (((l.take i).map nodeB).map AV.str)) i) (fun i => l.length - i) (fun i r => i ≤ l.length → (l.take i).any (fun n => !nodeOk n) = false → r = some (.tup [.str (allOut l).1, .int .i64 (allOut l).2], [])) (fun i m ih h0 hO => ?_) k 0 _ (by omega) (by kernel_rfl) (by omega) (by simp)
 have hw := wi (n := i) (by omega)
 have hgo : ∀ (st : St) (hi : i < l.length), nodeOk l[i] = true → st.clean (zDe 17 0) = a7S l (gtV 26 1 (((l.take i).map nodeB).map AV.str ++ [AV.str (nodeB l[i])])) ((i + 1 : Nat) : Int) → loopA (zBy (W k) 17 0 k) (zDe 17 0) (zCt (W k) 17 0 k 0) m st = some (.tup [.str (allOut l).1, .int .i64 (allOut l).2], []) := by
  intro st hi hok hst
  refine ih (i + 1) st (by omega) ?_ (by omega) ?_
  ·rw [take_one hi, List.map_append, List.map_append]
   exact hst
  ·rw [take_one hi, List.any_append, hO]
   simp [hok]
 have hbad : ∀ (hi : i < l.length), nodeOk l[i] = false → allOut l = ([], 1) := by
  intro hi hok
  unfold allOut
  rw [if_pos (List.any_eq_true.2 ⟨l[i], List.getElem_mem hi, by rw [hok]; rfl⟩)]
 have hend : ¬ i < l.length → allOut l = (if l.length > 4 then ([], 5) else listE (l.map nodeB)) := by
  intro hi
  unfold allOut
  rw [if_neg (by rw [any_take hi hO]; simp)]
 have hlen : ((l.take i).map nodeB).length = i := by rw [List.length_map, List.length_take]; omega
 have htk : ¬ i < l.length → (l.take i).map nodeB = l.map nodeB := fun hi => by rw [List.take_of_length_le (by omega)]
 clear ih
 generalize (l.take i).map nodeB = tx at *
 cases tx with
 | nil =>
  rw [List.map_nil, gtV, b17a]
  by_cases hi : i < l.length
  ·obtain ⟨g1, g2⟩ := hB _ (List.getElem_mem hi)
   refine qY (decide_eq_true (by rw [List.length_map]; omega)) ?_
   refine qY (decide_eq_true (by first | omega | (simp only [List.length_append, List.length_cons, List.length_nil, List.length_map]; omega))) ?_
   refine qP (getNd l i hi) ?_
   repeat with_reducible first|apply qT|apply qC|apply qN|apply qS|apply qB|apply qI|apply qA|apply qL
   cases hok : nodeOk l[i] with
   | false =>
    rw [hbad hi hok]
    refine qO (bad9 k (by omega) l[i] g1 hok) ?_
    repeat with_reducible first|apply qT|apply qC|apply qN|apply qS|apply qB|apply qI|apply qA|apply qL
    rfl
   | true =>
    refine qO (x9 k (by omega) l[i] g1 hok g2) ?_
    repeat with_reducible first|apply qT|apply qC|apply qN|apply qS|apply qB|apply qI|apply qA|apply qL
    refine qX rfl ?_
    rw [hw]
    exact hgo _ hi hok (by kernel_rfl)
  ·rw [hend hi]
   refine qX (decide_eq_false (by rw [List.length_map]; omega)) ?_
   by_cases h4 : l.length > 4
   ·refine qY (decide_eq_true (by rw [List.length_map]; omega)) ?_
    rw [if_pos h4]
   ·refine qX (decide_eq_false (by rw [List.length_map]; omega)) ?_
    rw [if_neg h4]
    refine qO (x66c k (by omega) (l.map nodeB) (htk hi).symm) ?_
    repeat with_reducible first|apply qT|apply qC|apply qN|apply qS|apply qB|apply qI|apply qA|apply qL
    rfl
 | cons y z =>
  rw [List.map_cons, gtV, b17]
  by_cases hi : i < l.length
  ·obtain ⟨g1, g2⟩ := hB _ (List.getElem_mem hi)
   refine qY (decide_eq_true (by rw [List.length_map]; omega)) ?_
   refine qY (decide_eq_true (by first | omega | (simp only [List.length_append, List.length_cons, List.length_nil, List.length_map]; omega))) ?_
   refine qP (getNd l i hi) ?_
   repeat with_reducible first|apply qT|apply qC|apply qN|apply qS|apply qB|apply qI|apply qA|apply qL
   cases hok : nodeOk l[i] with
   | false =>
    rw [hbad hi hok]
    refine qO (bad9 k (by omega) l[i] g1 hok) ?_
    repeat with_reducible first|apply qT|apply qC|apply qN|apply qS|apply qB|apply qI|apply qA|apply qL
    rfl
   | true =>
    refine qO (x9 k (by omega) l[i] g1 hok g2) ?_
    repeat with_reducible first|apply qT|apply qC|apply qN|apply qS|apply qB|apply qI|apply qA|apply qL
    refine qX rfl ?_
    simp only [List.length_cons] at hlen
    refine qY (decide_eq_true (by refine ⟨by first | rfl | exact .inr rfl, fitsB_small ?_, ?_⟩ <;> simp only [ofBytes, List.length_map, List.length_append, List.length_cons, List.length_nil] <;> omega)) ?_
    rw [hw]
    exact hgo _ hi hok (by kernel_rfl)
  ·rw [hend hi]
   refine qX (decide_eq_false (by rw [List.length_map]; omega)) ?_
   by_cases h4 : l.length > 4
   ·refine qY (decide_eq_true (by rw [List.length_map]; omega)) ?_
    rw [if_pos h4]
   ·refine qX (decide_eq_false (by rw [List.length_map]; omega)) ?_
    rw [if_neg h4, ← htk hi]
    refine qO (x66 k (by omega) (y :: z)) ?_
    repeat with_reducible first|apply qT|apply qC|apply qN|apply qS|apply qB|apply qI|apply qA|apply qL
    rfl
theorem small_C {n : Nd} (h : smallN n = true) : NdC n := by
 unfold smallN smallV smallQ at h
 simp only [Bool.and_eq_true, decide_eq_true_eq, List.all_eq_true] at h
 obtain ⟨⟨⟨⟨h1, h2, h3, h4, h5⟩, ⟨h6, h7⟩, h8⟩, ⟨h9, h10⟩, h11⟩, h12⟩ := h
 exact ⟨by omega, by omega, by omega, fun v hv => by have := h7 v hv; omega, by omega, by omega, by omega, fun s hs => by have := h12 s hs; omega, by omega, by omega, fun s hs => by have := h11 s hs; omega, by omega⟩
theorem x8t (k : Nat) (hk : 70800 ≤ k) : (zRe (W k 8 [] []) fun v bs => zBo v fun b => zNi bs (some (AV.bool b, []))) = some (.bool true, []) := by
 refine qO (x8 k hk) ?_
 repeat with_reducible first|apply qT|apply qC|apply qN|apply qS|apply qB|apply qI|apply qA|apply qL
 rfl
theorem lst_long : ∀ (tx : List (List UInt8)) (x : List UInt8), x ∈ tx → 65535 < x.length → lst tx = none
 | [], x, h, _ => by simp at h
 | s :: r, x, h, hl => by
  rw [lst]
  split
  ·rfl
  ·rename_i h1
   rcases List.mem_cons.1 h with rfl | h
   ·omega
   ·rw [lst_long r x h hl]
    rfl
theorem lst_all : ∀ (tx : List (List UInt8)), (∀ x ∈ tx, x.length ≤ 65535) → ∃ b, lst tx = some b
 | [], _ => ⟨[], rfl⟩
 | s :: r, h => by
  obtain ⟨b, hb⟩ := lst_all r fun x hx => h x (List.mem_cons_of_mem _ hx)
  have h1 := h s (List.mem_cons_self ..)
  exact ⟨_, by rw [lst, if_neg (by omega), hb]; rfl⟩
theorem allB_one : ∀ (tx : List (List UInt8)) (a b : List Nd), AllB tx a → AllB tx b → a = b
 | [], [], [], _, _ => rfl
 | s :: r, n :: ns, m :: ms, h1, h2 => by rw [isB_one h1.1 h2.1, allB_one r ns ms h1.2 h2.2]
 | [], _ :: _, _, h, _ => h.elim
 | [], [], _ :: _, _, h => h.elim
 | _ :: _, [], _, h, _ => h.elim
 | _ :: _, _ :: _, [], _, h => h.elim
theorem allB_of : ∀ (l : List Nd), (∀ n ∈ l, nodeOk n = true ∧ NdB n ∧ n.qs.length ≤ 65535) → AllB (l.map nodeB) l
 | [], _ => trivial
 | n :: r, h => ⟨⟨(h n (List.mem_cons_self ..)).1, (h n (List.mem_cons_self ..)).2.1, (h n (List.mem_cons_self ..)).2.2, rfl⟩, allB_of r fun m hm => h m (List.mem_cons_of_mem _ hm)⟩
theorem loop6e (k : Nat) (hk : 71100 ≤ k) (l : List Nd) (hl : l.length ≤ 1000) (hC : ∀ n ∈ l, NdC n) (ys : List AV) (i j q : Int) (b1 b2 b3 : Bool) (s s1 : List UInt8) (st : St) (hst : st.clean (zDe 6 3) = g9S l l (gtV 55 1 ys) i j q b1 b2 b3 s s1 (0 : Nat)) : loopA (zBy (W k) 6 3 k) (zDe 6 3) (zCt (W k) 6 3 k 0) k st = some (.bool true, []) := by
 refine loopA_ind (fun r : Nat => g9S l l (gtV 55 1 ys) i j q b1 b2 b3 s s1 r) (fun r => l.length - r) (fun r x => r ≤ l.length → x = some (.bool true, [])) (fun r m ih h0 => ?_) k 0 st (by omega) hst (by omega)
 have hw := wi (n := r) (by omega)
 have hgo : ∀ st, r < l.length → st.clean (zDe 6 3) = g9S l l (gtV 55 1 ys) i j q b1 b2 b3 s s1 ((r + 1 : Nat) : Int) → loopA (zBy (W k) 6 3 k) (zDe 6 3) (zCt (W k) 6 3 k 0) m st = some (.bool true, []) := fun st hr h => ih (r + 1) st (by omega) h (by omega)
 clear ih
 cases ys with
 | nil =>
  rw [gtV, e6a]
  by_cases hr : r < l.length
  ·refine qY (decide_eq_true (by rw [List.length_map]; omega)) ?_
   refine qY (decide_eq_true (by first | omega | (simp only [List.length_append, List.length_cons, List.length_nil, List.length_map]; omega))) ?_
   refine qP (getNd l r hr) ?_
   repeat with_reducible first|apply qT|apply qC|apply qN|apply qS|apply qB|apply qI|apply qA|apply qL
   refine qY (decide_eq_true (by first | omega | (simp only [List.length_append, List.length_cons, List.length_nil, List.length_map]; omega))) ?_
   refine qP (getNd l r hr) ?_
   repeat with_reducible first|apply qT|apply qC|apply qN|apply qS|apply qB|apply qI|apply qA|apply qL
   refine qO (x13s k (by omega) _ (hC _ (List.getElem_mem hr))) ?_
   repeat with_reducible first|apply qT|apply qC|apply qN|apply qS|apply qB|apply qI|apply qA|apply qL
   refine qX rfl ?_
   rw [hw]
   exact hgo _ hr (by kernel_rfl)
  ·refine qX (decide_eq_false (by rw [List.length_map]; omega)) ?_
   exact x8t k (by omega)
 | cons y z =>
  rw [gtV, e6b]
  by_cases hr : r < l.length
  ·refine qY (decide_eq_true (by rw [List.length_map]; omega)) ?_
   refine qY (decide_eq_true (by first | omega | (simp only [List.length_append, List.length_cons, List.length_nil, List.length_map]; omega))) ?_
   refine qP (getNd l r hr) ?_
   repeat with_reducible first|apply qT|apply qC|apply qN|apply qS|apply qB|apply qI|apply qA|apply qL
   refine qY (decide_eq_true (by first | omega | (simp only [List.length_append, List.length_cons, List.length_nil, List.length_map]; omega))) ?_
   refine qP (getNd l r hr) ?_
   repeat with_reducible first|apply qT|apply qC|apply qN|apply qS|apply qB|apply qI|apply qA|apply qL
   refine qO (x13s k (by omega) _ (hC _ (List.getElem_mem hr))) ?_
   repeat with_reducible first|apply qT|apply qC|apply qN|apply qS|apply qB|apply qI|apply qA|apply qL
   refine qX rfl ?_
   rw [hw]
   exact hgo _ hr (by kernel_rfl)
  ·refine qX (decide_eq_false (by rw [List.length_map]; omega)) ?_
   exact x8t k (by omega)
structure L6 (l : List Nd) : Prop where
 len : l.length ≤ 6
 nb : ∀ n ∈ l, NdB n ∧ n.qs.length ≤ 65535 ∧ NdC n
theorem fin6 (l : List Nd) (h : L6 l) (ho : l.any (fun n => !nodeOk n) = false) (h4 : l.length ≤ 4) (hs : ∀ x ∈ l.map nodeB, x.length ≤ 65535) : ∃ b, allOut l = (be 2 l.length ++ b, 0) ∧ listE (l.map nodeB) = (be 2 l.length ++ b, 0) ∧ EachB (be 2 l.length ++ b) l := by
 obtain ⟨b, hb⟩ := lst_all _ hs
 have e : listE (l.map nodeB) = (be 2 l.length ++ b, 0) := by
  rw [listE, if_neg (by rw [List.length_map]; omega), hb, List.length_map]
 refine ⟨b, ?_, e, l.map nodeB, ?_, by rw [List.length_map]; exact h4, allB_of l fun n hn => ⟨?_, (h.nb n hn).1, (h.nb n hn).2.1⟩⟩
 ·unfold allOut
  rw [if_neg (by rw [ho]; simp), if_neg (by omega), e]
 ·have := items_put (l.map nodeB) b [] (by rw [List.length_map]; omega) hb
  rwa [List.append_nil, List.length_map] at this
 ·cases hok : nodeOk n with
  | true => rfl
  | false =>
   have : l.any (fun n => !nodeOk n) = true := List.any_eq_true.2 ⟨n, hn, by rw [hok]; rfl⟩
   rw [ho] at this
   simp at this
theorem x15s (k : Nat) (hk : 70900 ≤ k) (s : List UInt8) (l : List Nd) (h : EachB s l) : W k 15 [.str s] [] = some (.tup [ndsV l, .int .i64 0], []) := by
 rcases x15 k hk s with ⟨ns, hn, h1⟩ | ⟨hn, h1⟩
 ·obtain ⟨tx, e1, e2, e3⟩ := h
  obtain ⟨tx', f1, f2, f3⟩ := hn
  rw [e1] at f1
  simp only [Option.some.injEq, Prod.mk.injEq, and_true] at f1
  subst f1
  obtain rfl := allB_one tx _ _ e3 f3
  exact h1
 ·exact absurd h (hn l)
theorem loop6c (k : Nat) (hk : 71200 ≤ k) (l : List Nd) (h : L6 l) (tx : List (List UInt8)) (w0 : Int) (hw0 : w0 = 0 → tx = l.map nodeB ∧ l.any (fun n => !nodeOk n) = false ∧ l.length ≤ 4) (hw1 : w0 ≠ 0 → allOut l = ([], w0)) (htl : tx.length ≤ 1000) (i j : Int) (b1 b2 : Bool) (st : St) (hst : st.clean (zDe 6 2) = g8S l w0 (gtV 55 1 (tx.map AV.str)) i j (0 : Nat) b1 b2) : loopA (zBy (W k) 6 2 k) (zDe 6 2) (zCt (W k) 6 2 k 0) k st = some (.bool true, []) := by
 refine loopA_ind (fun a : Nat × Int => g8S l a.2 (gtV 55 1 (tx.map AV.str)) i j a.1 b1 b2) (fun a => if a.2 = 0 then tx.length - a.1 + 1 else 0) (fun a x => a.1 ≤ tx.length → (a.2 = 0 → tx = l.map nodeB ∧ l.any (fun n => !nodeOk n) = false ∧ l.length ≤ 4 ∧ ∀ x ∈ tx.take a.1, x.length ≤ 65535) → (a.2 ≠ 0 → allOut l = ([], a.2)) → x = some (.bool true, [])) (fun a m ih h0 hz hn => ?_) k (0, w0) st (by simp only; split <;> omega) hst (by simp) (fun e => ⟨(hw0 e).1, (hw0 e).2.1, (hw0 e).2.2, by simp⟩) hw1
 obtain ⟨q, w⟩ := a
 simp only at ih h0 hz hn ⊢
 have hw := wi (n := q) (by omega)
 have h17 := x17 k (by omega) l (by have := h.len; omega) fun n hn => ⟨(h.nb n hn).1, (h.nb n hn).2.1⟩
 have hC : ∀ n ∈ l, NdC n := fun n hn => (h.nb n hn).2.2
 have hl := h.len
 have hgo5 : ∀ st, w = 0 → (∃ x ∈ tx, 65535 < x.length) → q < tx.length → st.clean (zDe 6 2) = g8S l 5 (gtV 55 1 (tx.map AV.str)) i j ((q + 1 : Nat) : Int) b1 b2 → loopA (zBy (W k) 6 2 k) (zDe 6 2) (zCt (W k) 6 2 k 0) m st = some (.bool true, []) := by
  intro st e ⟨x, hx, hxl⟩ hq hst
  subst e
  obtain ⟨e1, e2, e3, e4⟩ := hz rfl
  refine ih (q + 1, 5) st (by simp) hst (by simp only; omega) (by simp) fun _ => ?_
  unfold allOut
  rw [if_neg (by rw [e2]; simp), if_neg (by omega), ← e1, listE, if_neg (by omega), lst_long tx x hx hxl]
 have hgo : ∀ st, w = 0 → (hq : q < tx.length) → tx[q].length ≤ 65535 → st.clean (zDe 6 2) = g8S l 0 (gtV 55 1 (tx.map AV.str)) i j ((q + 1 : Nat) : Int) b1 b2 → loopA (zBy (W k) 6 2 k) (zDe 6 2) (zCt (W k) 6 2 k 0) m st = some (.bool true, []) := by
  intro st e hq hx hst
  subst e
  obtain ⟨e1, e2, e3, e4⟩ := hz rfl
  refine ih (q + 1, 0) st (by simp; omega) hst (by simp only; omega) (fun _ => ⟨e1, e2, e3, fun x hm => ?_⟩) fun e => absurd rfl e
  rw [take_one hq] at hm
  rcases List.mem_append.1 hm with hm | hm
  ·exact e4 x hm
  ·rw [List.mem_singleton] at hm
   rw [hm]
   exact hx
 have hfin : w = 0 → ¬ q < tx.length → ∃ b, allOut l = (be 2 l.length ++ b, 0) ∧ listE tx = (be 2 l.length ++ b, 0) ∧ EachB (be 2 l.length ++ b) l := by
  intro e hq
  obtain ⟨e1, e2, e3, e4⟩ := hz e
  rw [List.take_of_length_le (by omega)] at e4
  rw [e1] at e4
  obtain ⟨b, f1, f2, f3⟩ := fin6 l h e2 e3 e4
  exact ⟨b, f1, by rw [e1]; exact f2, f3⟩
 clear ih
 cases tx with
 | nil =>
  have hq : ¬ q < ([] : List (List UInt8)).length := by simp
  rw [List.map_nil, gtV, d6a]
  refine qX (decide_eq_false (by simp)) ?_
  by_cases e : w = 0
  ·subst e
   obtain ⟨b, f1, f2, f3⟩ := hfin rfl hq
   rw [f1] at h17
   refine qO h17 ?_
   repeat with_reducible first|apply qT|apply qC|apply qN|apply qS|apply qB|apply qI|apply qA|apply qL
   refine qX rfl ?_
   refine qO (v := .tup [.str (be 2 l.length ++ b), .int .i64 0]) (bs := []) (by have e := x18c k (by omega) [] rfl; rwa [f2] at e) ?_
   repeat with_reducible first|apply qT|apply qC|apply qN|apply qS|apply qB|apply qI|apply qA|apply qL
   refine qO (x15s k (by omega) _ l f3) ?_
   repeat with_reducible first|apply qT|apply qC|apply qN|apply qS|apply qB|apply qI|apply qA|apply qL
   refine qX (by simp) ?_
   refine qX rfl ?_
   refine qX (by simp) ?_
   refine qX rfl ?_
   exact loop6e k (by omega) l (by omega) hC [] i j q b1 b2 false (be 2 l.length ++ b) (be 2 l.length ++ b) _ (by kernel_rfl)
  ·rw [hn e] at h17
   refine qO h17 ?_
   repeat with_reducible first|apply qT|apply qC|apply qN|apply qS|apply qB|apply qI|apply qA|apply qL
   refine qY (by simpa using e) ?_
   refine qY rfl ?_
   refine qY (by simp) ?_
   exact x8t k (by omega)
 | cons y z =>
  have hd := d6b (W k) k l w (y :: z) i j q b1 b2 (fun st' => loopA (zBy (W k) 6 2 k) (zDe 6 2) (zCt (W k) 6 2 k 0) m st')
  rw [List.map_cons, gtV]
  refine hd.trans ?_
  by_cases hq : q < (y :: z).length
  ·refine qY (decide_eq_true (by rw [List.length_map]; omega)) ?_
   by_cases he : w = 0
   ·subst he
    refine qY rfl ?_
    refine qY (decide_eq_true (by first | omega | (simp only [List.length_append, List.length_cons, List.length_nil, List.length_map]; omega))) ?_
    refine qP (getTx (y :: z) q hq) ?_
    repeat with_reducible first|apply qT|apply qC|apply qN|apply qS|apply qB|apply qI|apply qA|apply qL
    rw [hw]
    by_cases hx : (y :: z)[q].length > 65535
    ·refine qY (decide_eq_true (by omega)) ?_
     exact hgo5 _ rfl ⟨_, List.getElem_mem hq, by omega⟩ hq (by kernel_rfl)
    ·refine qX (decide_eq_false (by omega)) ?_
     exact hgo _ rfl hq (by omega) (by kernel_rfl)
   ·refine qX (by simpa using he) ?_
    by_cases e : w = 0
    ·exact absurd e he
    ·rw [hn e] at h17
     refine qO h17 ?_
     repeat with_reducible first|apply qT|apply qC|apply qN|apply qS|apply qB|apply qI|apply qA|apply qL
     refine qY (by simpa using e) ?_
     refine qY rfl ?_
     refine qY (by simp) ?_
     exact x8t k (by omega)
  ·refine qX (decide_eq_false (by rw [List.length_map]; omega)) ?_
   by_cases e : w = 0
   ·subst e
    obtain ⟨b, f1, f2, f3⟩ := hfin rfl hq
    rw [f1] at h17
    refine qO h17 ?_
    repeat with_reducible first|apply qT|apply qC|apply qN|apply qS|apply qB|apply qI|apply qA|apply qL
    refine qX rfl ?_
    refine qO (v := .tup [.str (be 2 l.length ++ b), .int .i64 0]) (bs := []) (by have e := x18 k (by omega) (y :: z); rwa [f2] at e) ?_
    repeat with_reducible first|apply qT|apply qC|apply qN|apply qS|apply qB|apply qI|apply qA|apply qL
    refine qO (x15s k (by omega) _ l f3) ?_
    repeat with_reducible first|apply qT|apply qC|apply qN|apply qS|apply qB|apply qI|apply qA|apply qL
    refine qX (by simp) ?_
    refine qX rfl ?_
    refine qX (by simp) ?_
    refine qX rfl ?_
    exact loop6e k (by omega) l (by omega) hC (AV.str y :: z.map AV.str) i j q b1 b2 false (be 2 l.length ++ b) (be 2 l.length ++ b) _ (by kernel_rfl)
   ·rw [hn e] at h17
    refine qO h17 ?_
    repeat with_reducible first|apply qT|apply qC|apply qN|apply qS|apply qB|apply qI|apply qA|apply qL
    refine qY (by simpa using e) ?_
    refine qY rfl ?_
    refine qY (by simp) ?_
    exact x8t k (by omega)
theorem loop6b (k : Nat) (hk : 71300 ≤ k) (l : List Nd) (h : L6 l) (w : Int) (hw : w = if l.any (fun n => !nodeOk n) then 1 else 0) (i : Int) (st : St) (hst : st.clean (zDe 6 1) = g7S l w (.sl 0 true []) i (0 : Nat)) : loopA (zBy (W k) 6 1 k) (zDe 6 1) (zCt (W k) 6 1 k 0) k st = some (.bool true, []) := by
 have hl := h.len
 refine loopA_ind (fun j : Nat => g7S l w (gtV 55 1 (((l.take j).map nodeB).map AV.str)) i j) (fun j => l.length - j) (fun j x => j ≤ l.length → x = some (.bool true, [])) (fun j m ih h0 => ?_) k 0 st (by omega) hst (by omega)
 have hwj := wi (n := j) (by omega)
 have hgo : ∀ (st : St) (hj : j < l.length), st.clean (zDe 6 1) = g7S l w (gtV 55 1 (((l.take j).map nodeB).map AV.str ++ [AV.str (nodeB l[j])])) i ((j + 1 : Nat) : Int) → loopA (zBy (W k) 6 1 k) (zDe 6 1) (zCt (W k) 6 1 k 0) m st = some (.bool true, []) := by
  intro st hj hst
  refine ih (j + 1) st (by omega) ?_ (by omega)
  rw [take_one hj, List.map_append, List.map_append]
  exact hst
 have hlen : ((l.take j).map nodeB).length = j := by rw [List.length_map, List.length_take]; omega
 have htk : ¬ j < l.length → (l.take j).map nodeB = l.map nodeB := fun hi => by rw [List.take_of_length_le (by omega)]
 have hB : ∀ n ∈ l, w = 0 → nodeOk n = true ∧ NdB n := by
  intro n hn e
  refine ⟨?_, (h.nb n hn).1⟩
  cases hok : nodeOk n with
  | true => rfl
  | false =>
   have : l.any (fun n => !nodeOk n) = true := List.any_eq_true.2 ⟨n, hn, by rw [hok]; rfl⟩
   rw [this, if_pos rfl] at hw
   omega
 have h1 : w ≠ 0 → allOut l = ([], w) ∧ w = 1 := by
  intro e
  by_cases ha : l.any (fun n => !nodeOk n) = true
  ·rw [if_pos ha] at hw
   unfold allOut
   rw [if_pos ha, hw]
   exact ⟨rfl, rfl⟩
  ·rw [if_neg ha] at hw
   exact absurd hw e
 have h2 : w = 0 → l.any (fun n => !nodeOk n) = false := by
  intro e
  cases ha : l.any (fun n => !nodeOk n) with
  | false => rfl
  | true =>
   rw [ha, if_pos rfl] at hw
   omega
 have h5 : w = 0 → l.length > 4 → allOut l = ([], 5) := by
  intro e e4
  unfold allOut
  rw [if_neg (by rw [h2 e]; simp), if_pos e4]
 clear ih hw
 generalize (l.take j).map nodeB = tx at *
 cases tx with
 | nil =>
  rw [List.map_nil, gtV, c6a]
  by_cases hj : j < l.length
  ·refine qY (decide_eq_true (by rw [List.length_map]; omega)) ?_
   by_cases e : w = 0
   ·obtain ⟨g1, g2⟩ := hB _ (List.getElem_mem hj) e
    refine qY (by simpa using e) ?_
    refine qY (decide_eq_true (by first | omega | (simp only [List.length_append, List.length_cons, List.length_nil, List.length_map]; omega))) ?_
    refine qP (getNd l j hj) ?_
    repeat with_reducible first|apply qT|apply qC|apply qN|apply qS|apply qB|apply qI|apply qA|apply qL
    refine qO (x12 k (by omega) l[j] (rt_of g1 g2.cp) g2.um g2.qs) ?_
    repeat with_reducible first|apply qT|apply qC|apply qN|apply qS|apply qB|apply qI|apply qA|apply qL
    rw [hwj]
    exact hgo _ hj (by kernel_rfl)
   ·refine qX (by simpa using e) ?_
    refine qX (by simpa using e) ?_
    exact loop6c k (by omega) l h [] w (fun e' => absurd e' e) (fun _ => (h1 e).1) (by omega) i j (w == 0) false _ (by kernel_rfl)
  ·have hT := htk hj
   refine qX (decide_eq_false (by rw [List.length_map]; omega)) ?_
   by_cases e : w = 0
   ·refine qY (by simpa using e) ?_
    by_cases h4 : l.length > 4
    ·refine qY (decide_eq_true (by rw [List.length_map]; omega)) ?_
     exact loop6c k (by omega) l h [] 5 (by simp) (fun _ => h5 e h4) (by omega) i j false (decide ((((List.map ndV l).length : Nat) : Int) > 4)) _ (by kernel_rfl)
    ·refine qX (decide_eq_false (by rw [List.length_map]; omega)) ?_
     exact loop6c k (by omega) l h [] w (fun _ => ⟨hT, h2 e, by omega⟩) (fun e' => absurd e e') (by omega) i j false (decide ((((List.map ndV l).length : Nat) : Int) > 4)) _ (by kernel_rfl)
   ·refine qX (by simpa using e) ?_
    exact loop6c k (by omega) l h [] w (fun e' => absurd e' e) (fun _ => (h1 e).1) (by omega) i j false false _ (by kernel_rfl)
 | cons y z =>
  rw [List.map_cons, gtV, c6b]
  by_cases hj : j < l.length
  ·refine qY (decide_eq_true (by rw [List.length_map]; omega)) ?_
   by_cases e : w = 0
   ·obtain ⟨g1, g2⟩ := hB _ (List.getElem_mem hj) e
    refine qY (by simpa using e) ?_
    refine qY (decide_eq_true (by first | omega | (simp only [List.length_append, List.length_cons, List.length_nil, List.length_map]; omega))) ?_
    refine qP (getNd l j hj) ?_
    repeat with_reducible first|apply qT|apply qC|apply qN|apply qS|apply qB|apply qI|apply qA|apply qL
    refine qO (x12 k (by omega) l[j] (rt_of g1 g2.cp) g2.um g2.qs) ?_
    repeat with_reducible first|apply qT|apply qC|apply qN|apply qS|apply qB|apply qI|apply qA|apply qL
    simp only [List.length_cons] at hlen
    refine qY (decide_eq_true (by refine ⟨by first | rfl | exact .inr rfl, fitsB_small ?_, ?_⟩ <;> simp only [ofBytes, List.length_map, List.length_append, List.length_cons, List.length_nil] <;> omega)) ?_
    rw [hwj]
    exact hgo _ hj (by kernel_rfl)
   ·refine qX (by simpa using e) ?_
    refine qX (by simpa using e) ?_
    exact loop6c k (by omega) l h (y :: z) w (fun e' => absurd e' e) (fun _ => (h1 e).1) (by omega) i j (w == 0) false _ (by kernel_rfl)
  ·have hT := htk hj
   refine qX (decide_eq_false (by rw [List.length_map]; omega)) ?_
   by_cases e : w = 0
   ·refine qY (by simpa using e) ?_
    by_cases h4 : l.length > 4
    ·refine qY (decide_eq_true (by rw [List.length_map]; omega)) ?_
     exact loop6c k (by omega) l h (y :: z) 5 (by simp) (fun _ => h5 e h4) (by omega) i j false (decide ((((List.map ndV l).length : Nat) : Int) > 4)) _ (by kernel_rfl)
    ·refine qX (decide_eq_false (by rw [List.length_map]; omega)) ?_
     exact loop6c k (by omega) l h (y :: z) w (fun _ => ⟨hT, h2 e, by omega⟩) (fun e' => absurd e e') (by omega) i j false (decide ((((List.map ndV l).length : Nat) : Int) > 4)) _ (by kernel_rfl)
   ·refine qX (by simpa using e) ?_
    exact loop6c k (by omega) l h (y :: z) w (fun e' => absurd e' e) (fun _ => (h1 e).1) (by omega) i j false false _ (by kernel_rfl)
theorem loop6a (k : Nat) (hk : 71400 ≤ k) (l : List Nd) (hl : l.length ≤ 6) (hu : ∀ n ∈ l, UM n.ch) (st : St) (hst : st.clean (zDe 6 0) = g6S l 0 (0 : Nat)) : loopA (zBy (W k) 6 0 k) (zDe 6 0) (zCt (W k) 6 0 k 0) k st = some (.bool true, []) := by
 refine loopA_ind (fun a : Nat × Int => g6S l a.2 a.1) (fun a => l.length - a.1) (fun a x => a.1 ≤ l.length → (∀ n ∈ l.take a.1, smallN n = true) → (a.2 = if (l.take a.1).any (fun n => !nodeOk n) then 1 else 0) → x = some (.bool true, [])) (fun a m ih h0 hs hw => ?_) k (0, 0) st (by simp; omega) hst (by simp) (by simp) (by simp)
 obtain ⟨i, w⟩ := a
 simp only at ih h0 hs hw ⊢
 have hwi := wi (n := i) (by omega)
 rw [b6]
 by_cases hi : i < l.length
 ·refine qY (decide_eq_true (by rw [List.length_map]; omega)) ?_
  refine qY (decide_eq_true (by first | omega | (simp only [List.length_append, List.length_cons, List.length_nil, List.length_map]; omega))) ?_
  refine qP (getNd l i hi) ?_
  repeat with_reducible first|apply qT|apply qC|apply qN|apply qS|apply qB|apply qI|apply qA|apply qL
  refine qO (x7 k (by omega) l[i]) ?_
  repeat with_reducible first|apply qT|apply qC|apply qN|apply qS|apply qB|apply qI|apply qA|apply qL
  cases hsm : smallN l[i] with
  | false =>
   refine qY rfl ?_
   exact x8t k (by omega)
  | true =>
   have hB := small_B hsm (hu _ (List.getElem_mem hi))
   refine qX rfl ?_
   refine qY (decide_eq_true (by first | omega | (simp only [List.length_append, List.length_cons, List.length_nil, List.length_map]; omega))) ?_
   refine qP (getNd l i hi) ?_
   repeat with_reducible first|apply qT|apply qC|apply qN|apply qS|apply qB|apply qI|apply qA|apply qL
   refine qO (x10 k (by omega) l[i] hB) ?_
   repeat with_reducible first|apply qT|apply qC|apply qN|apply qS|apply qB|apply qI|apply qA|apply qL
   have hs2 : ∀ n ∈ l.take (i + 1), smallN n = true := by
    intro n hn
    rw [take_one hi] at hn
    rcases List.mem_append.1 hn with hn | hn
    ·exact hs n hn
    ·rw [List.mem_singleton] at hn
     rw [hn]
     exact hsm
   cases hok : nodeOk l[i] with
   | false =>
    refine qY rfl ?_
    rw [hwi]
    refine ih (i + 1, 1) _ (by simp; omega) (by kernel_rfl) (by simp only; omega) hs2 ?_
    rw [take_one hi, List.any_append]
    simp [hok]
   | true =>
    refine qX rfl ?_
    rw [hwi]
    refine ih (i + 1, w) _ (by simp; omega) (by kernel_rfl) (by simp only; omega) hs2 ?_
    rw [take_one hi, List.any_append, hw]
    simp [hok]
 ·rw [List.take_of_length_le (by omega)] at hs hw
  refine qX (decide_eq_false (by rw [List.length_map]; omega)) ?_
  rw [decide_eq_false (show ¬ (i : Int) < (((List.map ndV l).length : Nat) : Int) by rw [List.length_map]; omega)]
  refine loop6b k (by omega) l ⟨hl, fun n hn => ?_⟩ w hw i _ (by kernel_rfl)
  have hB := small_B (hs n hn) (hu n hn)
  have hsn := hs n hn
  have hq : n.qs.length ≤ 65535 := by
   unfold smallN smallQ at hsn
   simp only [Bool.and_eq_true, decide_eq_true_eq] at hsn
   omega
  exact ⟨hB, hq, small_C hsn⟩
theorem bookAll (k : Nat) (hk : 71500 ≤ k) (l : List Nd) (hu : ∀ n ∈ l, UM n.ch) : W k 6 [ndsV l] [] = some (.bool true, []) := by
 obtain ⟨k, rfl⟩ := succ1 (show 1 ≤ k by omega)
 refine (W_tree0 (t6 (W k) k l) (by kernel_rfl)).trans ?_
 by_cases hl : l.length > 6
 ·refine qY (decide_eq_true (by rw [List.length_map]; omega)) ?_
  exact x8t k (by omega)
 ·refine qX (decide_eq_false (by rw [List.length_map]; omega)) ?_
  rw [decide_eq_false (show ¬ (((List.map ndV l).length : Nat) : Int) > 6 by rw [List.length_map]; omega)]
  exact loop6a k (by omega) l (by omega) hu _ (by kernel_rfl)
theorem law_bookAll (avs : List AV) (h : WtArgs Tryz.prog 9 [46] avs) : ∃ k, W k 6 avs [] = some (.bool true, []) := by
 obtain ⟨x, r, rfl, h1, h2⟩ := h
 obtain rfl : r = [] := h2
 obtain ⟨l, rfl, hu, hl⟩ := wt_nodes h1
 exact ⟨71500, bookAll 71500 (by omega) l hu⟩
end Go.AM.YtnhfjkckgicidaaGreat
