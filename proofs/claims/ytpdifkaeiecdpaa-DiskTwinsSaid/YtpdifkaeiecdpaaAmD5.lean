/- The disk: Read, Write as answers. -/
import Derived.Test.YtpdifkaeiecdpaaAmD4
set_option linter.unusedVariables false
set_option maxRecDepth 100000
namespace Go.AM.Ytpdifkaeiecdpaa
open Go.AM Go.Proofs Go
structure Dk where (l : Int) (a d : Bool) (f : List (List UInt8)) (p : List T77)
def dO (x : Dk) : List Ob := dB x.l x.a x.d x.f x.p
def readM (x : Dk) (i : Int) : List UInt8 × Int := bif x.d then ([], 7) else bif decide (i < 0) then ([], 1) else bif decide (i ≥ ((x.f.length : Nat) : Int)) then ([], 1) else (rdN x.p i (x.f[i.toNat]?.getD []) x.p.length, 0)
def writeM (x : Dk) (i : Int) (s : List UInt8) : Int × Dk := bif x.d then (7, x) else bif decide (i < 0) then (1, x) else bif decide (i ≥ ((x.f.length : Nat) : Int)) then (1, x) else bif decide (((s.length : Nat) : Int) > 32) then (5, x) else bif x.a && decide (x.l = 0) then (7, { x with d := true }) else (0, { x with l := bif x.a then IntKind.wrap .i64 (x.l - 1) else x.l, p := x.p ++ [⟨i, s ++ pad (32 - s.length)⟩] })
def o15 : Over := fun vs os => match vs, os with
  | [.nilp, .int .i64 i], [] => .ret (.tup [.str [], .int .i64 7], [])
  | [.ptr 0 0, .int .i64 i], [.box [.int .i64 l, .bool a, .bool d, .ow 9 f, .ow 77 p]] => .ask (decide (p.length < 4611686018427387904)) (.ret (.tup [.str (readM ⟨l, a, d, f, p⟩ i).1, .int .i64 (readM ⟨l, a, d, f, p⟩ i).2], dB l a d f p))
  | _, _ => .fail
def o12 : Over := fun vs os => match vs, os with
  | [.nilp, .int .i64 i, .str s], [] => .ret (.int .i64 7, [])
  | [.ptr 0 0, .int .i64 i, .str s], [.box [.int .i64 l, .bool a, .bool d, .ow 9 f, .ow 77 p]] => .ask (decide (p.length < 1000000)) (.ret (.int .i64 (writeM ⟨l, a, d, f, p⟩ i s).1, dO (writeM ⟨l, a, d, f, p⟩ i s).2))
  | _, _ => .fail
theorem F1_ok (h : OverOk Try.prog 33 o33) : SoundF Try.prog F1 := SoundF.tab (by
  intro p hp
  simp only [List.mem_cons, List.not_mem_nil, or_false] at hp
  rcases hp with rfl | rfl | rfl
  · exact p34
  · exact p20
  · exact h)
theorem e15 (x : Dk) (i : Int) (hp : x.p.length < 4611686018427387904) : evFn F1 tb fx15 (x.p.length + 1) [.ptr 0 0, .int .i64 i] (dO x) = some (.tup [.str (readM x i).1, .int .i64 (readM x i).2], dO x) := by
  obtain ⟨l, a, d, f, p⟩ := x
  refine (t15 (p.length + 1) i l a d f p).trans ?_
  unfold readM
  simp only at hp ⊢
  cases d
  · cases h1 : decide (i < 0)
    · cases h2 : decide (i ≥ ((f.length : Nat) : Int))
      · have h1 := of_decide_eq_false h1
        have h2' := of_decide_eq_false h2
        have hlt : i.toNat < f.length := by omega
        have hs := List.getElem?_eq_getElem hlt
        simp only [cond_false]
        rw [l15 (p.length + 1) l i a false f p hp (by omega) _ hs p.length (p.length + 1) _ (Nat.le_refl _) (by omega) (by
          rw [wrap_id (by omega) (by omega)]
          unfold sR
          rw [h2]
          kernel_rfl)]
        rw [hs]
        rfl
      · rfl
    · rfl
  · rfl
theorem p15 (h33 : OverOk Try.prog 33 o33) : OverOk Try.prog 15 o15 := OverOk.of (F1_ok h33) tb_ok ok15 fun vs os r h => by
  unfold o15 at h
  split at h
  · rename_i i
    exact ⟨0, Eq.trans (by kernel_rfl) h⟩
  · rename_i i l a d f p
    obtain ⟨hp, h⟩ := Q.val_ask h
    exact ⟨_, (e15 ⟨l, a, d, f, p⟩ i (of_decide_eq_true hp)).trans h⟩
  · cases h
theorem e12 (x : Dk) (i : Int) (s : List UInt8) (hp : x.p.length < 1000000) : evFn F1 tb fx12 0 [.ptr 0 0, .int .i64 i, .str s] (dO x) = some (.int .i64 (writeM x i s).1, dO (writeM x i s).2) := by
  obtain ⟨l, a, d, f, p⟩ := x
  refine (t12 i l s a d f p).trans ?_
  unfold writeM
  simp only at hp ⊢
  cases d
  · cases h1 : decide (i < 0)
    · cases h2 : decide (i ≥ ((f.length : Nat) : Int))
      · cases h3 : decide (((s.length : Nat) : Int) > 32)
        · have h3 := of_decide_eq_false h3
          have e1 : (IntKind.wrap .i64 (32 - ((s.length : Nat) : Int))).toNat = 32 - s.length := by rw [wrap_id (by omega) (by omega)]; omega
          have e2 : (pad (32 - s.length)).length = 32 - s.length := by simp [pad]
          have e3 : ∀ x : T77, fitsB (p.length + [x].length) 24 = true := fun x => decide_eq_true (by simp only [List.length_singleton, roomB]; omega)
          simp only [cond_false]
          rw [decide_eq_true (show 0 ≤ IntKind.wrap .i64 (32 - ((s.length : Nat) : Int)) ∧ IntKind.wrap .i64 (32 - ((s.length : Nat) : Int)) ≤ 32 by rw [wrap_id (by omega) (by omega)]; omega)]
          simp only [cond_true]
          rw [e1, e2, e3, decide_eq_true (show s.length + (32 - s.length) ≤ big62 by unfold big62; omega)]
          simp only [List.length_singleton]
          rw [decide_eq_true (show p.length + 1 ≤ big62 by unfold big62; omega)]
          cases (a && decide (l = 0)) <;> rfl
        · rfl
      · rfl
    · rfl
  · rfl
theorem p12 (h33 : OverOk Try.prog 33 o33) : OverOk Try.prog 12 o12 := OverOk.of (F1_ok h33) tb_ok ok12 fun vs os r h => by
  unfold o12 at h
  split at h
  · rename_i i s
    exact ⟨0, Eq.trans (by kernel_rfl) h⟩
  · rename_i i s l a d f p
    obtain ⟨hp, h⟩ := Q.val_ask h
    exact ⟨0, (e12 ⟨l, a, d, f, p⟩ i s (of_decide_eq_true hp)).trans h⟩
  · cases h
end Go.AM.Ytpdifkaeiecdpaa
