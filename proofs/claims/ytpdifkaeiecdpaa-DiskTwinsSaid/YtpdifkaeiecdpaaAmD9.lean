/- The disk: all its calls as answers. -/
import Derived.Test.YtpdifkaeiecdpaaAmD8
set_option linter.unusedVariables false
set_option maxRecDepth 100000
namespace Go.AM.Ytpdifkaeiecdpaa
open Go.AM Go.Proofs Go
def okD (x : Dk) : Bool := x.p.all (fun y => decide (0 ≤ y.at_) && decide (y.at_ < (x.f.length : Int))) && decide (x.p.length < 1000000)
theorem okD_spec {x : Dk} (h : okD x = true) : (∀ y ∈ x.p, 0 ≤ y.at_ ∧ y.at_ < (x.f.length : Int)) ∧ x.p.length < 1000000 := by
  simp only [okD, Bool.and_eq_true, List.all_eq_true, decide_eq_true_eq] at h
  exact h
def flushM (x : Dk) : Int × Dk := bif x.d then (7, x) else bif x.a && decide (x.l = 0) then (7, { x with d := true }) else (0, { x with l := bif x.a then IntKind.wrap .i64 (x.l - 1) else x.l, f := x.p.foldl setF x.f, p := [] })
def crashM (x : Dk) (ks : List Bool) : Dk := ⟨0, false, false, crF x.p ks x.f, []⟩
def armM (x : Dk) (n : Int) : Dk := { x with l := n, a := decide (n ≥ 0) }
def newM (n : Nat) : Dk := ⟨0, false, false, List.replicate n (pad 32), []⟩
def o13 : Over := fun vs os => match vs, os with
  | [.nilp], [] => .ret (.int .i64 7, [])
  | [.ptr 0 0], [.box [.int .i64 l, .bool a, .bool d, .ow 9 f, .ow 77 p]] => .ask (okD ⟨l, a, d, f, p⟩) (.ret (.int .i64 (flushM ⟨l, a, d, f, p⟩).1, dO (flushM ⟨l, a, d, f, p⟩).2))
  | _, _ => .fail
def o16 : Over := fun vs os => match vs, os with
  | [.ptr 0 0, .sl 4 false ks], [.box [.int .i64 l, .bool a, .bool d, .ow 9 f, .ow 77 p]] => .ask (okD ⟨l, a, d, f, p⟩) (.ret (.tup [], dO (crashM ⟨l, a, d, f, p⟩ ks)))
  | _, _ => .fail
def o19 : Over := fun vs os => match vs, os with
  | [.ptr 0 0, .int .i64 n], [.box [.int .i64 l, .bool a, .bool d, .ow 9 f, .ow 77 p]] => .ret (.tup [], dO (armM ⟨l, a, d, f, p⟩ n))
  | _, _ => .fail
def o14 : Over := fun vs os => match vs, os with
  | [.nilp], [] => .ret (.int .i64 0, [])
  | [.ptr 0 0], [.box [.int .i64 l, .bool a, .bool d, .ow 9 f, .ow 77 p]] => .ret (.int .i64 ((p.length : Nat) : Int), dB l a d f p)
  | _, _ => .fail
def o21 : Over := fun vs os => match vs, os with
  | [.nilp], [] => .ret (.int .i64 0, [])
  | [.ptr 0 0], [.box [.int .i64 l, .bool a, .bool d, .ow 9 f, .ow 77 p]] => .ret (.int .i64 ((f.length : Nat) : Int), dB l a d f p)
  | _, _ => .fail
def o10 : Over := fun vs os => match vs, os with
  | [.int .i64 n], [] => .br (decide (n < 1)) (.ret (.nilp, [])) (.br (decide (n > 4096)) (.ret (.nilp, [])) (.ret (.ptr 0 0, dO (newM n.toNat))))
  | _, _ => .fail
theorem e13 (x : Dk) (ho : okD x = true) : evFn F1 tb fx13 (x.p.length + 1) [.ptr 0 0] (dO x) = some (.int .i64 (flushM x).1, dO (flushM x).2) := by
  obtain ⟨h1, h2⟩ := okD_spec ho
  obtain ⟨l, a, d, f, p⟩ := x
  simp only at h1 h2
  refine (t13 (p.length + 1) l a d f p).trans ?_
  unfold flushM
  simp only
  cases d
  · cases hc : a && decide (l = 0)
    · exact l13 (p.length + 1) _ a false p h2 p 0 (p.length + 1) f _ rfl (by omega) h1 (by kernel_rfl)
    · rfl
  · rfl
theorem p13 (h33 : OverOk Try.prog 33 o33) : OverOk Try.prog 13 o13 := OverOk.of (F1_ok h33) tb_ok ok13 fun vs os r h => by
  unfold o13 at h
  split at h
  · exact ⟨0, Eq.trans (by kernel_rfl) h⟩
  · rename_i l a d f p
    obtain ⟨ho, h⟩ := Q.val_ask h
    exact ⟨_, (e13 ⟨l, a, d, f, p⟩ ho).trans h⟩
  · cases h
theorem e16 (x : Dk) (ks : List Bool) (ho : okD x = true) : evFn F1 tb fx16 (x.p.length + 1) [.ptr 0 0, .sl 4 false ks] (dO x) = some (.tup [], dO (crashM x ks)) := by
  obtain ⟨h1, h2⟩ := okD_spec ho
  obtain ⟨l, a, d, f, p⟩ := x
  simp only at h1 h2
  exact (t16 (p.length + 1) l a d f p ks).trans (l16 (p.length + 1) l a d p ks h2 p ks 0 (p.length + 1) f _ rfl rfl (by omega) h1 (by kernel_rfl))
theorem p16 (h33 : OverOk Try.prog 33 o33) : OverOk Try.prog 16 o16 := OverOk.of (F1_ok h33) tb_ok ok16 fun vs os r h => by
  unfold o16 at h
  split at h
  · rename_i ks l a d f p
    obtain ⟨ho, h⟩ := Q.val_ask h
    exact ⟨_, (e16 ⟨l, a, d, f, p⟩ ks ho).trans h⟩
  · cases h
theorem p19 (h33 : OverOk Try.prog 33 o33) : OverOk Try.prog 19 o19 := OverOk.of (F1_ok h33) tb_ok ok19 fun vs os r h => by
  unfold o19 at h
  split at h
  · rename_i n l a d f p
    exact ⟨0, (t19 n l a d f p).trans h⟩
  · cases h
theorem p14 (h33 : OverOk Try.prog 33 o33) : OverOk Try.prog 14 o14 := OverOk.of (F1_ok h33) tb_ok ok14 fun vs os r h => by
  unfold o14 at h
  split at h
  · exact ⟨0, Eq.trans (by kernel_rfl) h⟩
  · rename_i l a d f p
    exact ⟨0, (t14 l a d f p).trans h⟩
  · cases h
theorem p21 (h33 : OverOk Try.prog 33 o33) : OverOk Try.prog 21 o21 := OverOk.of (F1_ok h33) tb_ok ok21 fun vs os r h => by
  unfold o21 at h
  split at h
  · exact ⟨0, Eq.trans (by kernel_rfl) h⟩
  · rename_i l a d f p
    exact ⟨0, (t21 l a d f p).trans h⟩
  · cases h
theorem p10 (h33 : OverOk Try.prog 33 o33) : OverOk Try.prog 10 o10 := OverOk.of (F1_ok h33) tb_ok ok10 fun vs os r h => by
  unfold o10 at h
  split at h
  · rename_i n
    refine ⟨n.toNat + 1, (t10 (n.toNat + 1) n).trans (Eq.trans ?_ h)⟩
    cases h1 : decide (n < 1)
    · cases h2 : decide (n > 4096)
      · have h1 := of_decide_eq_false h1
        have h2' := of_decide_eq_false h2
        obtain ⟨m, rfl⟩ : ∃ m : Nat, n = m := ⟨n.toNat, by omega⟩
        refine (l10 (m + 1) m (by omega) m 0 (m + 1) _ (by omega) (by omega) ?_)
        unfold s10
        rw [h2]
        kernel_rfl
      · rfl
    · rfl
  · cases h
end Go.AM.Ytpdifkaeiecdpaa
