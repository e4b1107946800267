/- The disk: its calls (2). -/
import Derived.Test.YtpdifkaeiecdpaaAmD2
set_option linter.unusedVariables false
set_option maxRecDepth 100000
namespace Go.AM.Ytpdifkaeiecdpaa
open Go.AM Go.Proofs Go
theorem F0_ok : SoundF Try.prog (tabF []) := SoundF.tab (by simp)
theorem p34 : OverOk Try.prog 34 o34 := OverOk.of F0_ok tb_ok ok34 fun vs os r h => by
  unfold o34 at h
  split at h
  · rename_i l a d f p
    refine ⟨0, (t34 l a d f p).trans (Eq.trans ?_ h)⟩
    have e2 : (l == 0) = decide (l = 0) := by rw [Bool.eq_iff_iff]; simp
    rw [e2]
    by_cases e : l = 0 <;> cases a <;> simp [Q.val, Q.run, dB, e]
  · cases h
theorem p20 : OverOk Try.prog 20 o20 := OverOk.of F0_ok tb_ok ok20 fun vs os r h => by
  unfold o20 at h
  split at h
  · exact ⟨0, Eq.trans (by kernel_rfl) h⟩
  · rename_i l a d f p
    exact ⟨0, (t20 l a d f p).trans h⟩
  · cases h
end Go.AM.Ytpdifkaeiecdpaa
