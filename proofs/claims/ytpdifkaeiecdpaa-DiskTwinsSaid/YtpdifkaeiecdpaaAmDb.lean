/- The law DiskTwins. -/
import Derived.Test.YtpdifkaeiecdpaaAmDa
set_option linter.unusedVariables false
set_option maxRecDepth 100000
namespace Go.AM.Ytpdifkaeiecdpaa
open Go.AM Go.Proofs Go
theorem okD_mk {x : Dk} (h1 : ∀ y ∈ x.p, 0 ≤ y.at_ ∧ y.at_ < (x.f.length : Int)) (h2 : x.p.length < 1000000) : okD x = true := by
  simp only [okD, Bool.and_eq_true, List.all_eq_true, decide_eq_true_eq]
  exact ⟨h1, h2⟩
theorem okD_flush {x : Dk} {k : Nat} (h : okD x = true) (hk : x.p.length ≤ k) : okD (flushM x).2 = true ∧ (flushM x).2.p.length ≤ k := by
  unfold flushM
  cases x.d
  · cases x.a && decide (x.l = 0)
    · exact ⟨okD_mk (by simp) (by simp), by simp⟩
    · exact ⟨h, hk⟩
  · exact ⟨h, hk⟩
theorem okD_write {x : Dk} {k : Nat} (i : Int) (s : List UInt8) (h : okD x = true) (hk : x.p.length ≤ k) (hb : k < 999999) : okD (writeM x i s).2 = true ∧ (writeM x i s).2.p.length ≤ k + 1 := by
  unfold writeM
  cases x.d
  · cases h1 : decide (i < 0)
    · cases h2 : decide (i ≥ ((x.f.length : Nat) : Int))
      · cases decide (((s.length : Nat) : Int) > 32)
        · cases x.a && decide (x.l = 0)
          · have h1 := of_decide_eq_false h1
            have h2 := of_decide_eq_false h2
            obtain ⟨g1, g2⟩ := okD_spec h
            simp only [cond_false]
            refine ⟨okD_mk (fun y hy => ?_) (by simp; omega), by simp; omega⟩
            simp only [List.mem_append, List.mem_singleton] at hy
            rcases hy with hy | rfl
            · exact g1 y hy
            · exact ⟨by simp only; omega, by simp only; omega⟩
          · exact ⟨h, by simp only [cond_false, cond_true]; omega⟩
        · exact ⟨h, by simp only [cond_false, cond_true]; omega⟩
      · exact ⟨h, by simp only [cond_false, cond_true]; omega⟩
    · exact ⟨h, by simp only [cond_false, cond_true]; omega⟩
  · exact ⟨h, by simp only [cond_true]; omega⟩
theorem l7 (N : Nat) (l : List T30) : ∀ (r k m : Nat) (x : Dk) (st : St), k + r = 40 → r < m → okD x = true → x.p.length ≤ k → st.clean (fx7.deadAt (loopAt fx7 0)) = s7 k l x x →
    loopF F3 tb fx7 0 N (contF F3 tb fx7 N 0 0) m st = some (.bool true, []) := by
  intro r
  induction r with
  | zero =>
    intro k m x st hk hm ho hp hst
    obtain ⟨m, rfl⟩ : ∃ m', m = m' + 1 := ⟨m - 1, by omega⟩
    rw [loopF_succ, hst, b7, decide_eq_false (show ¬ ((k : Int) < 40) by omega)]
    cases decide ((k : Int) < ((l.length : Nat) : Int)) <;> rfl
  | succ r ih =>
    intro k m x st hk hm ho hp hst
    obtain ⟨m, rfl⟩ : ∃ m', m = m' + 1 := ⟨m - 1, by omega⟩
    rw [loopF_succ, hst, b7]
    cases hl : decide ((k : Int) < ((l.length : Nat) : Int))
    · rfl
    · have hl := of_decide_eq_true hl
      rw [decide_eq_true (show (k : Int) < 40 by omega), decide_eq_true (show 0 ≤ (k : Int) by omega)]
      have hx := List.getElem?_eq_getElem (show k < l.length by omega)
      generalize l[k] = y at hx
      simp only [cond_true, Int.toNat_natCast, hx, getO, ho, bne_self_eq_false, beq_self_eq_true, Bool.not_true, cond_false]
      rw [wrap_id (show -9223372036854775808 ≤ (k : Int) + 1 by omega) (by omega)]
      cases hkp : decide (((y.keep.length : Nat) : Int) > 100)
      · simp only [cond_false]
        cases k3 : kindM y == 3
        · simp only [cond_false]
          cases k5 : kindM y == 5
          · simp only [cond_false]
            cases k6 : kindM y == 6
            · simp only [cond_false]
              obtain ⟨g1, g2⟩ := okD_write y.at_ y.data ho hp (by omega)
              have := (okD_spec ho).2
              rw [decide_eq_true (show x.p.length < 1000000 by omega), decide_eq_true (show (writeM x y.at_ y.data).2.p.length < 4611686018427387904 by omega)]
              simp only [cond_true]
              exact ih (k + 1) m _ _ (by omega) (by omega) g1 g2 (by kernel_rfl)
            · simp only [cond_true]
              exact ih (k + 1) m (crashM x y.keep) _ (by omega) (by omega) (okD_mk (by simp [crashM]) (by simp [crashM])) (by simp [crashM]) (by kernel_rfl)
          · simp only [cond_true]
            have := (okD_spec ho).2
            rw [decide_eq_true (show (armM x y.n).p.length < 4611686018427387904 by simp only [armM]; omega)]
            simp only [cond_true]
            exact ih (k + 1) m (armM x y.n) _ (by omega) (by omega) (okD_mk (okD_spec ho).1 (okD_spec ho).2) (by simp only [armM]; omega) (by kernel_rfl)
        · simp only [cond_true]
          obtain ⟨g1, g2⟩ := okD_flush ho hp
          rw [decide_eq_true (show (flushM x).2.p.length < 4611686018427387904 by omega)]
          simp only [cond_true]
          exact ih (k + 1) m _ _ (by omega) (by omega) g1 (by omega) (by kernel_rfl)
      · rfl
theorem e7 (l : List T30) : evFn F3 tb fx7 41 [.sl 30 false l] [] = some (.bool true, []) :=
  (t7 41 l).trans (l7 41 l 40 0 41 (newM 5) _ rfl (by omega) (by kernel_rfl) (Nat.le_refl 0) (by kernel_rfl))
def o7 : Over := fun vs os => match vs, os with
  | [.sl 30 false l], [] => .ret (.bool true, [])
  | _, _ => .fail
theorem p17 (h33 : OverOk Try.prog 33 o33) : OverOk Try.prog 17 o17 := OverOk.of (F1_ok h33) tb_ok ok17 fun vs os r h => by
  unfold o17 at h
  split at h
  · rename_i k a n s ks
    exact ⟨0, (t17 ⟨k, a, n, s, ks⟩).trans h⟩
  · cases h
theorem F2_ok (h33 : OverOk Try.prog 33 o33) : SoundF Try.prog F2 := SoundF.tab (by
  intro p hp
  simp only [List.mem_cons, List.not_mem_nil, or_false] at hp
  rcases hp with rfl | rfl | rfl | rfl | rfl | rfl | rfl | rfl | rfl | rfl
  · exact p10 h33
  · exact p12 h33
  · exact p13 h33
  · exact p14 h33
  · exact p15 h33
  · exact p16 h33
  · exact p19 h33
  · exact p20
  · exact p21 h33
  · exact p17 h33)
theorem p11 (h33 : OverOk Try.prog 33 o33) : OverOk Try.prog 11 o11 := OverOk.of (F2_ok h33) tb_ok ok11 fun vs os r h => by
  unfold o11 at h
  split at h
  · exact ⟨0, t11.trans h⟩
  · cases h
theorem F3_ok (h33 : OverOk Try.prog 33 o33) : SoundF Try.prog F3 := SoundF.tab (by
  intro p hp
  simp only [List.mem_cons, List.not_mem_nil, or_false] at hp
  rcases hp with rfl | rfl | rfl | rfl | rfl | rfl | rfl | rfl | rfl | rfl | rfl
  · exact p10 h33
  · exact p12 h33
  · exact p13 h33
  · exact p14 h33
  · exact p15 h33
  · exact p16 h33
  · exact p19 h33
  · exact p20
  · exact p21 h33
  · exact p17 h33
  · exact p11 h33)
theorem p7 (h33 : OverOk Try.prog 33 o33) : OverOk Try.prog 7 o7 := OverOk.of (F3_ok h33) tb_ok ok7 fun vs os r h => by
  unfold o7 at h
  split at h
  · rename_i l
    exact ⟨41, (e7 l).trans h⟩
  · cases h
end Go.AM.Ytpdifkaeiecdpaa
