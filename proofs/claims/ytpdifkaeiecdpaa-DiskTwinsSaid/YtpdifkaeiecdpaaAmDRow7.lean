/- The law DiskTwins, as a row: for every input that the row lets in the call returns true, and each argument reads as it did. -/
import Derived.Test.YtpdifkaeiecdpaaRows
import Derived.Test.YtpdifkaeiecdpaaChecked
import Derived.Test.YtpdifkaeiecdpaaAmDr
import Derived.WalkKit
import Derived.ProofKit
import Derived.OpenShut
import Derived.ShutString
import Derived.ChangeOld
import Derived.Below
import Derived.SizedLaws
namespace Go.AM.Ytpdifkaeiecdpaa
open Go.AM Go.Proofs Go
theorem wtv_sl {P : Program} {n t e : Nat} {x : AV} (hu : P.underlying t = some (.slice e)) (h : WtV P (n + 1) t x) : ∃ xs : List (R e), x = .sl e false xs ∧ xs.length * P.bytesOf e ≤ reachBytes ∧ ∀ y ∈ xs, Wt P n e (cel e y) := by
  obtain ⟨h1, h2⟩ := h
  unfold Wt at h1
  rw [hu] at h1 h2
  obtain ⟨xs, hx, h3⟩ := h1
  have hna : ∀ l, x ≠ .agg l := fun l e => by
    obtain ⟨fs, hf⟩ := h2.1 ⟨l, e⟩
    simp at hf
  refine ⟨xs, ?_, h3⟩
  cases x <;> first | exact absurd rfl (hna _) | exact (List.cons.inj hx).1
theorem law_diskTwins (avs : List AV) (h : WtArgs Try.prog 6 [22] avs) : (o7 avs []).val = some (.bool true, []) := by
  obtain ⟨x, r, rfl, h1, rfl⟩ := h
  obtain ⟨xs, rfl, _⟩ := wtv_sl Try.underlying22 h1
  rfl
end Go.AM.Ytpdifkaeiecdpaa
namespace Go.Proofs.Ytpdifkaeiecdpaa.diskTwins
open Go.ChangeShapes Go.WideShapes Go.ChangeAt Go.RowKit
open Go.ChangeMaps (open_string shut_string)
set_option linter.unusedVariables false
theorem own : ownKnob Try.prog.godebug = none := by kernel_rfl
theorem laidOut : laidOutB Try.prog = true := by kernel_rfl
set_option maxRecDepth 100000 in
theorem lifted (os : Os) (started : os.Started) (H : Type) (enc : TypeId × Value → H) :
    ReturnsInHanded {} Try.checked os 7 .any (Rows.diskTwinsSpec.pre6 enc Try.prog Try.f7 Rows.diskTwinsRow.domain false) (Rows.diskTwinsSpec.post enc Try.prog Try.f7 false true false false) := by
  refine returnsInHanded_of_change_sized (C := Try.checked) own started (by kernel_rfl) Try.func7
    (ChangeSpec.witness6 (enc := enc) (C := Try.checked) false ⟨#[], #[.slice none 0 0], []⟩ 8 (by kernel_rfl) (by kernel_rfl) (by kernel_rfl) (by kernel_rfl)) ?_
  intro W base args ds gs before hval0 hW hcnd hsz0 _
  have hsz : (DataW.weightsEach Try.prog (Try.f7.params.toList ++ Rows.diskTwinsSpec.plain.varTypes Try.prog) (ds ++ gs)).all (· ≤ reachBytes) = true := hsz0
  have hval : ∀ (j : Nat) t v, Try.f7.params[j]? = some t → args[j]? = some v → Value.okWide Try.prog W .any base t v := hval0
  have hW' := hW
  obtain ⟨p, q, hA0, hV, rfl, hfz, hnd⟩ := hW
  have hA : DataW.TrodAll enc Try.prog W 0 (fun _ => true) true Try.f7.params.toList args.toList ds p := hA0
  rw [Try.params7] at hA hval hsz
  obtain ⟨rfl, rfl⟩ := trodVars_none hV
  have ev : Rows.diskTwinsSpec.plain.varTypes Try.prog = [] := by kernel_rfl
  rw [ev, List.append_nil, List.append_nil] at hsz
  have hC := AM.law_calls AM.Ytpdifkaeiecdpaa.twins (n := 6) (ts := [22]) (by kernel_rfl) (fun j t v ht hv => hval j t v (by simpa using ht) hv) hA hsz AM.Ytpdifkaeiecdpaa.law_diskTwins
  obtain ⟨v0, vs0, d0, ds0, p0, q0, hargs, rfl, rfl, h0, r0⟩ := trodAll_cons hA
  obtain ⟨rfl, rfl, rfl⟩ := trodAll_nil r0
  obtain rfl : args = #[v0] := by cases args; simp_all
  have lt0 : ∀ x ∈ p0, x.block < W.heap.size := by obtain ⟨m, hm⟩ := h0; exact DataW.trod_lt m _ _ _ hm
  clear hA0 hval0 hsz0 hsz
  refine hC.mono fun e W' ⟨he, bel⟩ => ?_
  subst he
  exact ⟨_, rfl, _, _, _, [], _, [], hW', trodAll_mk1 (shut_bool Try.underlying4 _), (trodAll_cons_mk (Below.trod laidOut (by kernel_rfl) (of_decide_eq_true (by kernel_rfl)) h0 bel lt0) trodAll_mk0), rfl, bel.frame _, fun h => by cases h⟩
theorem over : Rows.diskTwinsRow.holds Try.pinned (OpenSpec.ofChange Rows.diskTwinsSpec) :=
  OpenClaim.holds_of_wide 7 Try.f7 rfl rfl rfl rfl rfl rfl rfl ⟨rfl, rfl, rfl, rfl, rfl⟩ rfl rfl rfl rfl rfl (by kernel_rfl) Try.func7 (by kernel_rfl)
    (of_decide_eq_true (by kernel_rfl)) (by unfold Func.isWrapper; first | (rw [if_pos (by decide +kernel)]; kernel_rfl) | (rw [if_neg (by decide +kernel)]; exact ⟨rfl, rfl⟩))
    (fun os started H enc _ => lifted os started H enc)
theorem proved : Rows.DiskTwinsSaid := over
#print axioms proved
end Go.Proofs.Ytpdifkaeiecdpaa.diskTwins
namespace Go.Proofs.Ytpdifkaeiecdpaa
/-- The row, under a short name, for the claim. -/
theorem diskTwins_holds : Rows.DiskTwinsSaid := diskTwins.proved
end Go.Proofs.Ytpdifkaeiecdpaa
