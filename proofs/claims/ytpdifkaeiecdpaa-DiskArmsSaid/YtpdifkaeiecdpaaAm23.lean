/- A part of the proof: machine and program. -/
import Derived.Test.YtpdifkaeiecdpaaAm22
import Derived.Test.YtpdifkaeiecdpaaAm19
set_option linter.unusedVariables false
set_option maxRecDepth 100000
namespace Go.AM.Ytpdifkaeiecdpaa
open Go.AM Go.Proofs Go
theorem kindM_rng (a : T30) : 0 ≤ kindM a ∧ kindM a < 7 := by
  have h0 : 0 ≤ IntKind.wrap .u64 a.kind := by
    simp [IntKind.wrap, IntKind.bits, IntKind.signed]
    omega
  have h1 := Int.tmod_nonneg 7 h0
  have h2 := Int.tmod_lt_of_pos (IntKind.wrap .u64 a.kind) (show (0 : Int) < 7 by omega)
  unfold kindM
  rw [wrap_id (by omega) (by omega)]
  exact ⟨h1, h2⟩
theorem beq_dec (a b : Int) : (a == b) = decide (a = b) := by rw [Bool.eq_iff_iff]; simp
theorem set_other {f : List (List UInt8)} {a i : Int} (ha : 0 ≤ a) (hi : 0 ≤ i) (h : a ≠ i) (s : List UInt8) : (f.set a.toNat s)[i.toNat]? = f[i.toNat]? := List.getElem?_set_ne (by omega)
theorem fold_other {i : Int} (hi : 0 ≤ i) : ∀ {p : List T77} {f : List (List UInt8)}, (∀ y ∈ p, 0 ≤ y.at_ ∧ y.at_ ≠ i) → (p.foldl setF f)[i.toNat]? = f[i.toNat]? ∧ (p.foldl setF f).length = f.length
  | [], f, _ => ⟨rfl, rfl⟩
  | y :: p, f, h => by
    obtain ⟨g1, g2⟩ := fold_other hi (p := p) (f := setF f y) fun z hz => h z (by simp [hz])
    obtain ⟨h1, h2⟩ := h y (by simp)
    exact ⟨g1.trans (set_other h1 hi h2 _), g2.trans (by simp [setF])⟩
theorem crF_other {i : Int} (hi : 0 ≤ i) : ∀ {p : List T77} {ks : List Bool} {f : List (List UInt8)}, (∀ y ∈ p, 0 ≤ y.at_ ∧ y.at_ ≠ i) → (crF p ks f)[i.toNat]? = f[i.toNat]? ∧ (crF p ks f).length = f.length
  | [], ks, f, _ => ⟨rfl, rfl⟩
  | y :: p, [], f, _ => ⟨rfl, rfl⟩
  | y :: p, b :: ks, f, h => by
    obtain ⟨h1, h2⟩ := h y (by simp)
    have hp : ∀ z ∈ p, 0 ≤ z.at_ ∧ z.at_ ≠ i := fun z hz => h z (by simp [hz])
    cases b
    · exact crF_other hi (p := p) (ks := ks) (f := f) hp
    · obtain ⟨g1, g2⟩ := crF_other hi (p := p) (ks := ks) (f := setF f y) hp
      exact ⟨g1.trans (set_other h1 hi h2 _), g2.trans (by simp [setF])⟩
structure I5 (x : Dk) (k : Nat) (i : Int) (w : List UInt8) : Prop where
  ok : okD x = true
  len : x.p.length ≤ k
  fl : x.f.length = 8
  at_ : x.f[i.toNat]? = some w
  ne : ∀ y ∈ x.p, y.at_ ≠ i
theorem I5.oth {x : Dk} {k : Nat} {i : Int} {w : List UInt8} (h : I5 x k i w) : ∀ y ∈ x.p, 0 ≤ y.at_ ∧ y.at_ ≠ i := fun y hy => ⟨((okD_spec h.ok).1 y hy).1, h.ne y hy⟩
theorem I5.act {x : Dk} {k : Nat} {i : Int} {w : List UInt8} (h : I5 x k i w) (hi : 0 ≤ i) (hk : k < 40) (a : T30) (ha : decide (kindM a < 3) = true → a.at_ ≠ i) : I5 (actM x Y0 a).2.2 (k + 1) i w := by
  obtain ⟨r1, r2⟩ := kindM_rng a
  have hl := h.len
  unfold actM
  rw [beq_dec (kindM a) 3, beq_dec (kindM a) 4, beq_dec (kindM a) 5, beq_dec (kindM a) 6]
  cases h3 : decide (kindM a = 3)
  · cases h4 : decide (kindM a = 4)
    · cases h5 : decide (kindM a = 5)
      · cases h6 : decide (kindM a = 6)
        · have h3 := of_decide_eq_false h3
          have h4 := of_decide_eq_false h4
          have h5 := of_decide_eq_false h5
          have h6 := of_decide_eq_false h6
          have hne := ha (decide_eq_true (by omega))
          obtain ⟨g1, g2⟩ := okD_write a.at_ a.data h.ok hl (by omega)
          have hf : (writeM x a.at_ a.data).2.f = x.f ∧ ∀ y ∈ (writeM x a.at_ a.data).2.p, y.at_ ≠ i := by
            unfold writeM
            cases x.d
            · cases decide (a.at_ < 0)
              · cases decide (a.at_ ≥ ((x.f.length : Nat) : Int))
                · cases decide (((a.data.length : Nat) : Int) > 32)
                  · cases x.a && decide (x.l = 0)
                    · refine ⟨rfl, fun y hy => ?_⟩
                      simp only [cond_false, List.mem_append, List.mem_singleton] at hy
                      rcases hy with hy | rfl
                      · exact h.ne y hy
                      · exact hne
                    · exact ⟨rfl, h.ne⟩
                  · exact ⟨rfl, h.ne⟩
                · exact ⟨rfl, h.ne⟩
              · exact ⟨rfl, h.ne⟩
            · exact ⟨rfl, h.ne⟩
          exact ⟨g1, g2, by simp only [cond_false]; rw [hf.1]; exact h.fl, by simp only [cond_false]; rw [hf.1]; exact h.at_, hf.2⟩
        · obtain ⟨g1, g2⟩ := crF_other (ks := a.keep) (f := x.f) hi h.oth
          exact ⟨okD_mk (by simp [crashM]) (by simp [crashM]), by simp [crashM], g2.trans h.fl, g1.trans h.at_, by simp [crashM]⟩
      · exact ⟨okD_mk (okD_spec h.ok).1 (okD_spec h.ok).2, Nat.le_succ_of_le hl, h.fl, h.at_, h.ne⟩
    · exact ⟨h.ok, Nat.le_succ_of_le hl, h.fl, h.at_, h.ne⟩
  · simp only [cond_true]
    unfold flushM
    cases x.d
    · cases x.a && decide (x.l = 0)
      · obtain ⟨g1, g2⟩ := fold_other (f := x.f) hi h.oth
        exact ⟨okD_mk (by simp) (by simp), by simp, g2.trans h.fl, g1.trans h.at_, by simp⟩
      · exact ⟨h.ok, Nat.le_succ_of_le hl, h.fl, h.at_, h.ne⟩
    · exact ⟨h.ok, Nat.le_succ_of_le hl, h.fl, h.at_, h.ne⟩
theorem I5.end_ {x : Dk} {k : Nat} {i : Int} {w : List UInt8} (h : I5 x k i w) (h0 : 0 ≤ i) (h7 : i ≤ 7) : readM (crashM x []) i = (w, 0) := by
  have hn : ∀ p : List T77, ∀ f, crF p [] f = f := fun p f => by cases p <;> rfl
  have hl := h.fl
  unfold readM crashM
  simp only [hn, cond_false]
  rw [decide_eq_false (by omega), decide_eq_false (by omega), h.at_]
  rfl
theorem l5 (N : Nat) (i : Int) (s w : List UInt8) (l : List T30) (h0 : 0 ≤ i) (h7 : i ≤ 7) (hw : w.length = 32) (hs : s.length ≤ 32) (hws : w.take s.length = s) : ∀ (r k m : Nat) (x : Dk) (st : St), k + r = 40 → r < m → I5 x k i w → st.clean (fx5.deadAt (loopAt fx5 0)) = s5 i k s w l x →
    loopF F7 tb fx5 0 N (contF F7 tb fx5 N 0 0) m st = some (.bool true, []) := by
  have fin : ∀ {x : Dk} {k : Nat}, I5 x k i w → (bif okD x then bif (readM (crashM x []) i).fst == w then bif (((readM (crashM x []) i).fst.length : Nat) : Int) == 32 then bif decide ((0 : Int) ≤ 0 ∧ 0 ≤ ((s.length : Nat) : Int) ∧ ((s.length : Nat) : Int) ≤ (((readM (crashM x []) i).fst.length : Nat) : Int)) then bif List.drop (Int.toNat 0) (List.take (((s.length : Nat) : Int)).toNat (readM (crashM x []) i).fst) == s then bif (readM (crashM x []) i).snd == 0 then some (AV.bool true, ([] : List Ob)) else some (AV.bool false, []) else some (AV.bool false, []) else none else some (AV.bool false, []) else some (AV.bool false, []) else none) = some (.bool true, []) := fun {x k} h => by
    rw [h.ok, h.end_ h0 h7]
    simp only [hw, cond_true, Int.toNat_natCast, hws, beq_self_eq_true]
    rw [decide_eq_true (by omega)]
    simp only [show Int.toNat 0 = 0 from rfl, List.drop_zero, beq_self_eq_true, cond_true]
    rfl
  intro r
  induction r with
  | zero =>
    intro k m x st hk hm hI hst
    obtain ⟨m, rfl⟩ : ∃ m', m = m' + 1 := ⟨m - 1, by omega⟩
    rw [loopF_succ, hst, b5, decide_eq_false (show ¬ ((k : Int) < 40) by omega), fin hI]
    cases decide ((k : Int) < ((l.length : Nat) : Int)) <;> rfl
  | succ r ih =>
    intro k m x st hk hm hI hst
    obtain ⟨m, rfl⟩ : ∃ m', m = m' + 1 := ⟨m - 1, by omega⟩
    rw [loopF_succ, hst, b5, fin hI]
    cases hl : decide ((k : Int) < ((l.length : Nat) : Int))
    · rfl
    · have hl := of_decide_eq_true hl
      rw [decide_eq_true (show (k : Int) < 40 by omega), decide_eq_true (show 0 ≤ (k : Int) by omega)]
      have hx := List.getElem?_eq_getElem (show k < l.length by omega)
      generalize l[k] = y at hx
      simp only [cond_true, Int.toNat_natCast, hx, getO, hI.ok, Bool.true_and]
      rw [wrap_id (show -9223372036854775808 ≤ (k : Int) + 1 by omega) (by omega)]
      have same : I5 x (k + 1) i w := ⟨hI.ok, Nat.le_succ_of_le hI.len, hI.fl, hI.at_, hI.ne⟩
      cases hkp : decide (((y.keep.length : Nat) : Int) > 100)
      · simp only [cond_false]
        cases h3 : decide (kindM y < 3)
        · exact ih (k + 1) m _ _ (by omega) (by omega) (hI.act h0 (by omega) y fun h => by rw [h3] at h; cases h) (by kernel_rfl)
        · simp only [cond_true]
          cases hat : y.at_ == i
          · exact ih (k + 1) m _ _ (by omega) (by omega) (hI.act h0 (by omega) y fun _ e => by rw [e] at hat; simp at hat) (by kernel_rfl)
          · exact ih (k + 1) m x _ (by omega) (by omega) same (by kernel_rfl)
      · exact ih (k + 1) m x _ (by omega) (by omega) same (by kernel_rfl)
theorem e5 (i : Int) (s : List UInt8) (l : List T30) : evFn F7 tb fx5 41 [.int .i64 i, .str s, .sl 30 false l] [] = some (.bool true, []) := by
  refine (t5 41 i s l).trans ?_
  cases h1 : decide (i < 0)
  · cases h2 : decide (i > 7)
    · cases h3 : decide (((s.length : Nat) : Int) > 32)
      · have h1 := of_decide_eq_false h1
        have h2 := of_decide_eq_false h2
        have h3' := of_decide_eq_false h3
        have hW : writeM (newM (Int.toNat 8)) i s = (0, ⟨0, false, false, List.replicate 8 (pad 32), [⟨i, s ++ pad (32 - s.length)⟩]⟩) := by
          unfold writeM
          simp only [newM, cond_false, List.length_replicate]
          rw [decide_eq_false (by omega), decide_eq_false (show ¬ i ≥ ((Int.toNat 8 : Nat) : Int) by simp; omega), h3]
          rfl
        have hF : flushM (writeM (newM (Int.toNat 8)) i s).2 = (0, ⟨0, false, false, (List.replicate 8 (pad 32)).set i.toNat (s ++ pad (32 - s.length)), []⟩) := by rw [hW]; rfl
        have hg : ((List.replicate 8 (pad 32)).set i.toNat (s ++ pad (32 - s.length)))[i.toNat]? = some (s ++ pad (32 - s.length)) := by
          rw [List.getElem?_set_self (by simp; omega)]
        have hR : readM (flushM (writeM (newM (Int.toNat 8)) i s).2).2 i = (s ++ pad (32 - s.length), 0) := by
          rw [hF]
          unfold readM
          simp only [cond_false, List.length_set, List.length_replicate]
          rw [decide_eq_false (by omega), decide_eq_false (by omega), hg]
          rfl
        have hok : okD (writeM (newM (Int.toNat 8)) i s).2 = true := by
          rw [hW]
          exact okD_mk (fun y hy => by simp at hy; subst hy; simp; omega) (by simp)
        rw [hok, hR, hF, hW]
        simp only [cond_false, cond_true]
        refine l5 41 i s (s ++ pad (32 - s.length)) l (by omega) (by omega) (by simp [pad]; omega) (by omega) (by simp) 40 0 41 _ _ (by omega) (by omega) (?_ : I5 ⟨0, false, false, (List.replicate 8 (pad 32)).set i.toNat (s ++ pad (32 - s.length)), []⟩ 0 i (s ++ pad (32 - s.length))) (by
          unfold s5
          rw [h3]
          kernel_rfl)
        exact ⟨okD_mk (by simp) (by simp), by simp, by simp, hg, by simp⟩
      · rfl
    · rfl
  · rfl
def o5 : Over := fun vs os => match vs, os with
  | [.int .i64 i, .str s, .sl 30 false l], [] => .ret (.bool true, [])
  | _, _ => .fail
theorem p5 : OverOk Try.prog 5 o5 := OverOk.of F7_ok tb_ok ok5 fun vs os r h => by
  unfold o5 at h
  split at h
  · rename_i i s l
    exact ⟨41, (e5 i s l).trans h⟩
  · cases h
end Go.AM.Ytpdifkaeiecdpaa
set_option linter.unusedVariables false
set_option maxRecDepth 100000
namespace Go.AM.Ytpdifkaeiecdpaa
open Go.AM Go.Proofs Go
/-- Behind so many calls that were done of n. -/
structure J6 (n : Int) (x : Dk) (k : Nat) (c : Int) : Prop where
  ok : okD x = true
  len : x.p.length ≤ k
  fl : x.f.length = 5
  arm : x.a = true
  lo : 0 ≤ c ∧ c ≤ k
  hi : c ≤ n
  st : (x.d = false ∧ x.l = n - c) ∨ (x.d = true ∧ c = n)
/-- One call: its answer, and the disk. -/
def Step6 (n : Int) (k : Nat) (c : Int) (e : Int) (y : Dk) : Prop :=
  (e = 0 ∧ y.d = false ∧ c + 1 ≤ n ∧ J6 n y (k + 1) (c + 1)) ∨ (e ≠ 0 ∧ e ≠ 7 ∧ y.d = false ∧ J6 n y (k + 1) c) ∨ (e = 7 ∧ y.d = true ∧ c = n ∧ J6 n y (k + 1) c)
theorem J6.next {n : Int} {x : Dk} {k : Nat} {c : Int} (h : J6 n x k c) : J6 n x (k + 1) c := ⟨h.ok, Nat.le_succ_of_le h.len, h.fl, h.arm, ⟨h.lo.1, by have := h.lo.2; omega⟩, h.hi, h.st⟩
theorem J6.write {n : Int} {x : Dk} {k : Nat} {c : Int} (h : J6 n x k c) (hn : n ≤ 40) (hk : k < 40) (i : Int) (s : List UInt8) : Step6 n k c (writeM x i s).1 (writeM x i s).2 := by
  have hl := h.len
  obtain ⟨g1, g2⟩ := okD_write i s h.ok hl (by omega)
  obtain ⟨hl0, hl1⟩ := h.lo
  have hhi := h.hi
  have harm := h.arm
  revert g1 g2
  unfold writeM
  rcases h.st with ⟨hd, hx⟩ | ⟨hd, hc⟩
  · rw [hd, harm]
    cases decide (i < 0)
    · cases decide (i ≥ ((x.f.length : Nat) : Int))
      · cases decide (((s.length : Nat) : Int) > 32)
        · simp only [cond_false, cond_true, Bool.true_and]
          cases h0 : decide (x.l = 0)
          · have h0 := of_decide_eq_false h0
            intro g1 g2
            refine .inl ⟨rfl, rfl, by omega, ⟨g1, g2, h.fl, rfl, by omega, by omega, .inl ⟨rfl, ?_⟩⟩⟩
            simp only [cond_false]
            rw [wrap_id (by omega) (by omega)]
            omega
          · have h0 := of_decide_eq_true h0
            intro g1 g2
            exact .inr (.inr ⟨rfl, rfl, by omega, ⟨g1, Nat.le_succ_of_le hl, h.fl, rfl, by omega, hhi, .inr ⟨rfl, by omega⟩⟩⟩)
        · intro g1 g2
          exact .inr (.inl ⟨by simp, by simp, hd, h.next⟩)
      · intro g1 g2
        exact .inr (.inl ⟨by simp, by simp, hd, h.next⟩)
    · intro g1 g2
      exact .inr (.inl ⟨by simp, by simp, hd, h.next⟩)
  · rw [hd]
    intro g1 g2
    exact .inr (.inr ⟨rfl, hd, hc, h.next⟩)
theorem fold_len : ∀ (p : List T77) (f : List (List UInt8)), (p.foldl setF f).length = f.length
  | [], f => rfl
  | y :: p, f => (fold_len p (setF f y)).trans (by simp [setF])
theorem J6.flush {n : Int} {x : Dk} {k : Nat} {c : Int} (h : J6 n x k c) (hn : n ≤ 40) (hk : k < 40) : Step6 n k c (flushM x).1 (flushM x).2 := by
  have hl := h.len
  obtain ⟨g1, g2⟩ := okD_flush h.ok hl
  obtain ⟨hl0, hl1⟩ := h.lo
  have hhi := h.hi
  have harm := h.arm
  revert g1 g2
  unfold flushM
  rcases h.st with ⟨hd, hx⟩ | ⟨hd, hc⟩
  · rw [hd, harm]
    simp only [cond_false, cond_true, Bool.true_and]
    cases h0 : decide (x.l = 0)
    · have h0 := of_decide_eq_false h0
      intro g1 g2
      refine .inl ⟨rfl, rfl, by omega, ⟨g1, by simp, (fold_len _ _).trans h.fl, rfl, by omega, by omega, .inl ⟨rfl, ?_⟩⟩⟩
      simp only [cond_false]
      rw [wrap_id (by omega) (by omega)]
      omega
    · have h0 := of_decide_eq_true h0
      intro g1 g2
      exact .inr (.inr ⟨rfl, rfl, by omega, ⟨g1, Nat.le_succ_of_le g2, h.fl, rfl, by omega, hhi, .inr ⟨rfl, by omega⟩⟩⟩)
  · rw [hd]
    intro g1 g2
    exact .inr (.inr ⟨rfl, hd, hc, h.next⟩)
theorem J6.end_ {n : Int} {x : Dk} {k : Nat} {c : Int} (h : J6 n x k c) : (crashM x []).d = false ∧ (crashM x []).p.length < 1000000 ∧ (writeM (crashM x []) 0 [120]).1 = 0 ∧ okD (writeM (crashM x []) 0 [120]).2 = true ∧ (flushM (writeM (crashM x []) 0 [120]).2).1 = 0 := by
  have hn : ∀ p : List T77, ∀ f, crF p [] f = f := fun p f => by cases p <;> rfl
  have hl := h.fl
  have e : crashM x [] = ⟨0, false, false, x.f, []⟩ := by unfold crashM; rw [hn]
  have hW : writeM (crashM x []) 0 [120] = (0, ⟨0, false, false, x.f, [⟨0, [120] ++ pad 31⟩]⟩) := by
    rw [e]
    unfold writeM
    simp only [cond_false]
    rw [decide_eq_false (by omega), decide_eq_false (by omega)]
    rfl
  rw [hW, e]
  exact ⟨rfl, by simp, rfl, okD_mk (fun y hy => by simp at hy; subst hy; simp; omega) (by simp), rfl⟩
theorem J6.fin {n : Int} {x : Dk} {k : Nat} {c : Int} (h : J6 n x k c) : (bif okD x then bif (writeM (crashM x []) 0 { data := #[120] : ByteArray }.data.toList).fst == 0 then bif okD (writeM (crashM x []) 0 { data := #[120] : ByteArray }.data.toList).snd then bif (flushM (writeM (crashM x []) 0 { data := #[120] : ByteArray }.data.toList).snd).fst == 0 then some (AV.bool true, ([] : List Ob)) else some (AV.bool false, []) else none else some (AV.bool false, []) else none) = some (.bool true, []) := by
  obtain ⟨q1, q2, q3, q4, q5⟩ := h.end_
  show (bif okD x then bif (writeM (crashM x []) 0 [120]).fst == 0 then bif okD (writeM (crashM x []) 0 [120]).snd then bif (flushM (writeM (crashM x []) 0 [120]).snd).fst == 0 then some (AV.bool true, ([] : List Ob)) else some (AV.bool false, []) else none else some (AV.bool false, []) else none) = some (.bool true, [])
  rw [h.ok, q3, q4, q5]
  rfl
theorem l6 (N : Nat) (n : Int) (l : List T30) (h0 : 0 ≤ n) (hn : n ≤ 40) : ∀ (r k m : Nat) (c : Int) (x : Dk) (st : St), k + r = 40 → r < m → J6 n x k c → st.clean (fx6.deadAt (loopAt fx6 0)) = s6 n k c l x →
    loopF F7 tb fx6 0 N (contF F7 tb fx6 N 0 0) m st = some (.bool true, []) := by
  intro r
  induction r with
  | zero =>
    intro k m c x st hk hm hI hst
    obtain ⟨m, rfl⟩ : ∃ m', m = m' + 1 := ⟨m - 1, by omega⟩
    rw [loopF_succ, hst, b6, decide_eq_false (show ¬ ((k : Int) < 40) by omega), hI.fin]
    cases decide ((k : Int) < ((l.length : Nat) : Int)) <;> rfl
  | succ r ih =>
    intro k m c x st hk hm hI hst
    obtain ⟨m, rfl⟩ : ∃ m', m = m' + 1 := ⟨m - 1, by omega⟩
    obtain ⟨c0, c1⟩ := hI.lo
    have chi := hI.hi
    have hp := hI.len
    rw [loopF_succ, hst, b6, hI.fin]
    cases hl : decide ((k : Int) < ((l.length : Nat) : Int))
    · rfl
    · have hl := of_decide_eq_true hl
      rw [decide_eq_true (show (k : Int) < 40 by omega), decide_eq_true (show 0 ≤ (k : Int) by omega), hI.ok]
      have hx := List.getElem?_eq_getElem (show k < l.length by omega)
      generalize l[k] = y at hx
      simp only [cond_true, Int.toNat_natCast, hx, getO]
      rw [wrap_id (show -9223372036854775808 ≤ (k : Int) + 1 by omega) (by omega), wrap_id (show -9223372036854775808 ≤ c + 1 by omega) (by omega), decide_eq_true (show x.p.length < 1000000 by omega)]
      simp only [cond_true]
      have hw := hI.write hn (by omega) y.at_ y.data
      have hf := hI.flush hn (by omega)
      have hcn : decide (c > n) = false := decide_eq_false (by omega)
      have e07 : ((0 : Int) == 7) = false := rfl
      have e77 : ((7 : Int) == 7) = true := rfl
      have e70 : ((7 : Int) == 0) = false := rfl
      have fin : ∀ {e : Int} {y : Dk} {K1 K2 K3 K4 : Option Ret}, Step6 n k c e y → (J6 n y (k + 1) (c + 1) → K2 = some (.bool true, [])) → (J6 n y (k + 1) c → K3 = some (.bool true, []) ∧ K4 = some (.bool true, [])) →
          (bif e == 0 then bif decide (c + 1 > n) then some (AV.bool false, []) else bif !y.d == (e == 7) then some (AV.bool false, []) else bif e == 7 then bif c + 1 != n then some (AV.bool false, []) else K1 else K2 else bif decide (c > n) then some (AV.bool false, []) else bif !y.d == (e == 7) then some (AV.bool false, []) else bif e == 7 then bif c != n then some (AV.bool false, []) else K3 else K4) = some (.bool true, []) := by
        intro e y K1 K2 K3 K4 hs h2 h34
        rcases hs with ⟨rfl, hd, hc, hJ⟩ | ⟨he0, he7, hd, hJ⟩ | ⟨rfl, hd, hc, hJ⟩
        · rw [hd, e07, decide_eq_false (show ¬ c + 1 > n by omega)]
          exact h2 hJ
        · rw [hd, hcn, show (e == 0) = false by simpa using he0, show (e == 7) = false by simpa using he7]
          exact (h34 hJ).2
        · rw [hd, hcn, e77, e70, hc]
          simp only [bne_self_eq_false]
          exact (h34 hJ).1
      cases h3 : kindM y == 3
      · cases k0 : kindM y == 0
        · cases k1 : kindM y == 1
          · cases k2 : kindM y == 2
            · exact ih (k + 1) m c x _ (by omega) (by omega) hI.next (by kernel_rfl)
            · exact fin hw (fun hJ => ih (k + 1) m _ _ _ (by omega) (by omega) hJ (by kernel_rfl)) fun hJ => ⟨ih (k + 1) m _ _ _ (by omega) (by omega) hJ (by kernel_rfl), ih (k + 1) m _ _ _ (by omega) (by omega) hJ (by kernel_rfl)⟩
          · exact fin hw (fun hJ => ih (k + 1) m _ _ _ (by omega) (by omega) hJ (by kernel_rfl)) fun hJ => ⟨ih (k + 1) m _ _ _ (by omega) (by omega) hJ (by kernel_rfl), ih (k + 1) m _ _ _ (by omega) (by omega) hJ (by kernel_rfl)⟩
        · exact fin hw (fun hJ => ih (k + 1) m _ _ _ (by omega) (by omega) hJ (by kernel_rfl)) fun hJ => ⟨ih (k + 1) m _ _ _ (by omega) (by omega) hJ (by kernel_rfl), ih (k + 1) m _ _ _ (by omega) (by omega) hJ (by kernel_rfl)⟩
      · have k3 : kindM y = 3 := by simpa using h3
        rw [k3]
        exact fin hf (fun hJ => ih (k + 1) m _ _ _ (by omega) (by omega) hJ (by kernel_rfl)) fun hJ => ⟨ih (k + 1) m _ _ _ (by omega) (by omega) hJ (by kernel_rfl), ih (k + 1) m _ _ _ (by omega) (by omega) hJ (by kernel_rfl)⟩
theorem e6 (N : Nat) (hN : 41 ≤ N) (n : Int) (l : List T30) : evFn F7 tb fx6 N [.int .i64 n, .sl 30 false l] [] = some (.bool true, []) := by
  refine (t6 N n l).trans ?_
  cases h1 : decide (n < 0)
  · cases h2 : decide (n > 40)
    · have h1 := of_decide_eq_false h1
      have h2' := of_decide_eq_false h2
      simp only [cond_false]
      refine l6 N n l (by omega) (by omega) 40 0 N 0 (armM (newM (Int.toNat 5)) n) _ (by omega) (by omega) ?_ (by
        unfold s6
        rw [h2]
        kernel_rfl)
      exact ⟨okD_mk (by simp [armM, newM]) (by simp [armM, newM]), by simp [armM, newM], by simp [armM, newM], decide_eq_true (by omega), by omega, by omega, .inl ⟨rfl, by simp [armM]⟩⟩
    · rfl
  · rfl
def o6 : Over := fun vs os => match vs, os with
  | [.int .i64 n, .sl 30 false l], [] => .ret (.bool true, [])
  | _, _ => .fail
theorem p6 : OverOk Try.prog 6 o6 := OverOk.of F7_ok tb_ok ok6 fun vs os r h => by
  unfold o6 at h
  split at h
  · rename_i n l
    exact ⟨41, (e6 41 (Nat.le_refl _) n l).trans h⟩
  · cases h
end Go.AM.Ytpdifkaeiecdpaa
namespace Go.AM
open Go.RowKit Go.Lib
section
variable [Reg] {P : Program} {n t : Nat} {x : AV}
theorem wtv_one {c : AV} (hna : ∀ l, x ≠ .agg l) (hx : x.cells = [c]) : x = c := by
  cases x <;> first | exact absurd rfl (hna _) | exact (List.cons.inj hx).1
theorem wtv_na {d : TypeDesc} (hu : P.underlying t = some d) (hd : ∀ fs, d ≠ .struct fs) (h : WtV P n t x) : ∀ l, x ≠ .agg l := fun l e => by
  obtain ⟨fs, hf⟩ := h.2.1 ⟨l, e⟩
  rw [hu] at hf
  exact hd fs (Option.some.inj hf)
theorem wtv_sl {e : Nat} (hu : P.underlying t = some (.slice e)) (h : WtV P (n + 1) t x) : ∃ xs : List (R e), x = .sl e false xs ∧ xs.length * P.bytesOf e ≤ reachBytes ∧ ∀ y ∈ xs, Wt P n e (cel e y) := by
  have hna := wtv_na hu (fun fs e => by cases e) h
  obtain ⟨h1, _⟩ := h
  unfold Wt at h1
  rw [hu] at h1
  obtain ⟨xs, hx, h3⟩ := h1
  exact ⟨xs, wtv_one hna hx, h3⟩
theorem wtv_int {k : IntKind} (hu : P.underlying t = some (.int k)) (h : WtV P (n + 1) t x) : ∃ m : Int, x = .int k m ∧ (Lit.int k m).wf = true := by
  have hna := wtv_na hu (fun fs e => by cases e) h
  obtain ⟨h1, _⟩ := h
  unfold Wt at h1
  rw [hu] at h1
  obtain ⟨m, hx, h3⟩ := h1
  exact ⟨m, wtv_one hna hx, h3⟩
theorem wtv_str (hu : P.underlying t = some .string) (h : WtV P (n + 1) t x) : ∃ l : List UInt8, x = .str l ∧ l.length ≤ reachBytes := by
  have hna := wtv_na hu (fun fs e => by cases e) h
  obtain ⟨h1, _⟩ := h
  unfold Wt at h1
  rw [hu] at h1
  obtain ⟨m, hx, h3⟩ := h1
  exact ⟨m, wtv_one hna hx, h3⟩
theorem wtv_bool (hu : P.underlying t = some .bool) (h : WtV P (n + 1) t x) : ∃ b : Bool, x = .bool b := by
  have hna := wtv_na hu (fun fs e => by cases e) h
  obtain ⟨h1, _⟩ := h
  unfold Wt at h1
  rw [hu] at h1
  obtain ⟨m, hx⟩ := h1
  exact ⟨m, wtv_one hna hx⟩
omit [Reg] in
theorem wt_int {m : Int} (h : (Lit.int .i64 m).wf = true) : -9223372036854775808 ≤ m ∧ m < 9223372036854775808 := by
  simp [Lit.wf, IntKind.min, IntKind.max, IntKind.bits, IntKind.signed] at h
  omega
end
end Go.AM
