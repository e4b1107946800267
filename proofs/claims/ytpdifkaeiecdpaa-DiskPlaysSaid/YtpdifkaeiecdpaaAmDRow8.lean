/- The law DiskPlays, as a row: for every input that the row lets in the call returns true, and each argument reads as it did. -/
import Derived.Test.YtpdifkaeiecdpaaRows
import Derived.Test.YtpdifkaeiecdpaaChecked
import Derived.Test.YtpdifkaeiecdpaaAm23
import Derived.WalkKit
import Derived.ProofKit
import Derived.OpenShut
import Derived.ShutString
import Derived.ChangeOld
import Derived.Below
import Derived.SizedLaws
namespace Go.AM.Ytpdifkaeiecdpaa
open Go.AM Go.Proofs Go
set_option maxRecDepth 100000 in
theorem wt30 {n : Nat} {y : T30} (h : Wt Try.prog (n + 2) 30 (cel 30 y)) : inR y = true := by
  unfold Wt at h
  rw [Try.underlying30] at h
  have h : WtFs Try.prog (n + 1) [3, 3, 3, 9, 23] [.int .i64 y.kind, .int .i64 y.at_, .int .i64 y.n, .str y.data, .sl 4 false y.keep] := h
  have c3 : Try.prog.cellsOf 3 = 1 := by kernel_rfl
  unfold WtFs at h
  obtain ⟨a1, b1, e1, l1, w1, h⟩ := h
  rw [c3] at l1
  match a1, l1 with
  | [q1], _ =>
    simp only [List.cons_append, List.nil_append, List.cons.injEq] at e1
    obtain ⟨_, e1⟩ := e1
    unfold WtFs at h
    obtain ⟨a2, b2, e2, l2, w2, h⟩ := h
    rw [c3] at l2
    match a2, l2 with
    | [q2], _ =>
      rw [← e1] at e2
      simp only [List.cons_append, List.nil_append, List.cons.injEq] at e2
      obtain ⟨_, e2⟩ := e2
      unfold WtFs at h
      obtain ⟨a3, b3, e3, l3, w3, h⟩ := h
      rw [c3] at l3
      match a3, l3 with
      | [q3], _ =>
        rw [← e2] at e3
        simp only [List.cons_append, List.nil_append, List.cons.injEq] at e3
        obtain ⟨e3, _⟩ := e3
        subst e3
        unfold Wt at w3
        rw [Try.underlying3] at w3
        obtain ⟨m, w4, w5⟩ := w3
        simp only [List.cons.injEq, AV.int.injEq, true_and, and_true] at w4
        subst w4
        obtain ⟨r1, r2⟩ := wt_int w5
        unfold inR
        rw [decide_eq_true r1, decide_eq_true r2]
        rfl
theorem law_diskPlays (avs : List AV) (h : WtArgs Try.prog 6 [3, 22] avs) : (o8 avs []).val = some (.bool true, []) := by
  obtain ⟨x0, r0, rfl, h0, g0⟩ := h
  obtain ⟨x1, r1, rfl, h1, rfl⟩ := g0
  obtain ⟨y0, rfl, w0⟩ := wtv_int Try.underlying3 h0
  obtain ⟨y1, rfl, w1⟩ := wtv_sl Try.underlying22 h1
  have hl : y1.all inR = true := List.all_eq_true.2 fun y hy => wt30 (w1.2 y hy)
  unfold o8
  simp only
  rw [hl]
  rfl
end Go.AM.Ytpdifkaeiecdpaa
namespace Go.Proofs.Ytpdifkaeiecdpaa.diskPlays
open Go.ChangeShapes Go.WideShapes Go.ChangeAt Go.RowKit
open Go.ChangeMaps (open_string shut_string)
set_option linter.unusedVariables false
theorem own : ownKnob Try.prog.godebug = none := by kernel_rfl
theorem laidOut : laidOutB Try.prog = true := by kernel_rfl
set_option maxRecDepth 100000 in
theorem lifted (os : Os) (started : os.Started) (H : Type) (enc : TypeId × Value → H) :
    ReturnsInHanded {} Try.checked os 8 .any (Rows.diskPlaysSpec.pre6 enc Try.prog Try.f8 Rows.diskPlaysRow.domain false) (Rows.diskPlaysSpec.post enc Try.prog Try.f8 false true false false) := by
  refine returnsInHanded_of_change_sized (C := Try.checked) own started (by kernel_rfl) Try.func8
    (ChangeSpec.witness6 (enc := enc) (C := Try.checked) false ⟨#[], #[.int .i64 0, .slice none 0 0], []⟩ 8 (by kernel_rfl) (by kernel_rfl) (by kernel_rfl) (by kernel_rfl)) ?_
  intro W base args ds gs before hval0 hW hcnd hsz0 _
  have hsz : (DataW.weightsEach Try.prog (Try.f8.params.toList ++ Rows.diskPlaysSpec.plain.varTypes Try.prog) (ds ++ gs)).all (· ≤ reachBytes) = true := hsz0
  have hval : ∀ (j : Nat) t v, Try.f8.params[j]? = some t → args[j]? = some v → Value.okWide Try.prog W .any base t v := hval0
  have hW' := hW
  obtain ⟨p, q, hA0, hV, rfl, hfz, hnd⟩ := hW
  have hA : DataW.TrodAll enc Try.prog W 0 (fun _ => true) true Try.f8.params.toList args.toList ds p := hA0
  rw [Try.params8] at hA hval hsz
  obtain ⟨rfl, rfl⟩ := trodVars_none hV
  have ev : Rows.diskPlaysSpec.plain.varTypes Try.prog = [] := by kernel_rfl
  rw [ev, List.append_nil, List.append_nil] at hsz
  have hC := AM.law_calls AM.Ytpdifkaeiecdpaa.p8 (n := 6) (ts := [3, 22]) (by kernel_rfl) (fun j t v ht hv => hval j t v (by simpa using ht) hv) hA hsz AM.Ytpdifkaeiecdpaa.law_diskPlays
  obtain ⟨v0, vs0, d0, ds0, p0, q0, hargs, rfl, rfl, h0, r0⟩ := trodAll_cons hA
  obtain ⟨v1, vs1, d1, ds1, p1, q1, rfl, rfl, rfl, h1, r1⟩ := trodAll_cons r0
  obtain ⟨rfl, rfl, rfl⟩ := trodAll_nil r1
  obtain rfl : args = #[v0, v1] := by cases args; simp_all
  have lt0 : ∀ x ∈ p0, x.block < W.heap.size := by obtain ⟨m, hm⟩ := h0; exact DataW.trod_lt m _ _ _ hm
  have lt1 : ∀ x ∈ p1, x.block < W.heap.size := by obtain ⟨m, hm⟩ := h1; exact DataW.trod_lt m _ _ _ hm
  clear hA0 hval0 hsz0 hsz
  refine hC.mono fun e W' ⟨he, bel⟩ => ?_
  subst he
  exact ⟨_, rfl, _, _, _, [], _, [], hW', trodAll_mk1 (shut_bool Try.underlying4 _), (trodAll_cons_mk (Below.trod laidOut (by kernel_rfl) (of_decide_eq_true (by kernel_rfl)) h0 bel lt0) (trodAll_cons_mk (Below.trod laidOut (by kernel_rfl) (of_decide_eq_true (by kernel_rfl)) h1 bel lt1) trodAll_mk0)), rfl, bel.frame _, fun h => by cases h⟩
theorem over : Rows.diskPlaysRow.holds Try.pinned (OpenSpec.ofChange Rows.diskPlaysSpec) :=
  OpenClaim.holds_of_wide 8 Try.f8 rfl rfl rfl rfl rfl rfl rfl ⟨rfl, rfl, rfl, rfl, rfl⟩ rfl rfl rfl rfl rfl (by kernel_rfl) Try.func8 (by kernel_rfl)
    (of_decide_eq_true (by kernel_rfl)) (by unfold Func.isWrapper; first | (rw [if_pos (by decide +kernel)]; kernel_rfl) | (rw [if_neg (by decide +kernel)]; exact ⟨rfl, rfl⟩))
    (fun os started H enc _ => lifted os started H enc)
theorem proved : Rows.DiskPlaysSaid := over
#print axioms proved
end Go.Proofs.Ytpdifkaeiecdpaa.diskPlays
namespace Go.Proofs.Ytpdifkaeiecdpaa
/-- The row, under a short name, for the claim. -/
theorem diskPlays_holds : Rows.DiskPlaysSaid := diskPlays.proved
end Go.Proofs.Ytpdifkaeiecdpaa
