/- A part of the proof: machine and program. -/
import Derived.Test.YtpdifkaeiecdpaaAm22
import Derived.Test.YtpdifkaeiecdpaaAm19
set_option linter.unusedVariables false
set_option maxRecDepth 100000
namespace Go.AM.Ytpdifkaeiecdpaa
open Go.AM Go.Proofs Go
theorem kindM_rng (a : T30) : 0 ≤ kindM a ∧ kindM a < 7 := by
  have h0 : 0 ≤ IntKind.wrap .u64 a.kind := by
    simp [IntKind.wrap, IntKind.bits, IntKind.signed]
    omega
  have h1 := Int.tmod_nonneg 7 h0
  have h2 := Int.tmod_lt_of_pos (IntKind.wrap .u64 a.kind) (show (0 : Int) < 7 by omega)
  unfold kindM
  rw [wrap_id (by omega) (by omega)]
  exact ⟨h1, h2⟩
theorem beq_dec (a b : Int) : (a == b) = decide (a = b) := by rw [Bool.eq_iff_iff]; simp
theorem set_other {f : List (List UInt8)} {a i : Int} (ha : 0 ≤ a) (hi : 0 ≤ i) (h : a ≠ i) (s : List UInt8) : (f.set a.toNat s)[i.toNat]? = f[i.toNat]? := List.getElem?_set_ne (by omega)
theorem fold_other {i : Int} (hi : 0 ≤ i) : ∀ {p : List T77} {f : List (List UInt8)}, (∀ y ∈ p, 0 ≤ y.at_ ∧ y.at_ ≠ i) → (p.foldl setF f)[i.toNat]? = f[i.toNat]? ∧ (p.foldl setF f).length = f.length
  | [], f, _ => ⟨rfl, rfl⟩
  | y :: p, f, h => by
    obtain ⟨g1, g2⟩ := fold_other hi (p := p) (f := setF f y) fun z hz => h z (by simp [hz])
    obtain ⟨h1, h2⟩ := h y (by simp)
    exact ⟨g1.trans (set_other h1 hi h2 _), g2.trans (by simp [setF])⟩
theorem crF_other {i : Int} (hi : 0 ≤ i) : ∀ {p : List T77} {ks : List Bool} {f : List (List UInt8)}, (∀ y ∈ p, 0 ≤ y.at_ ∧ y.at_ ≠ i) → (crF p ks f)[i.toNat]? = f[i.toNat]? ∧ (crF p ks f).length = f.length
  | [], ks, f, _ => ⟨rfl, rfl⟩
  | y :: p, [], f, _ => ⟨rfl, rfl⟩
  | y :: p, b :: ks, f, h => by
    obtain ⟨h1, h2⟩ := h y (by simp)
    have hp : ∀ z ∈ p, 0 ≤ z.at_ ∧ z.at_ ≠ i := fun z hz => h z (by simp [hz])
    cases b
    · exact crF_other hi (p := p) (ks := ks) (f := f) hp
    · obtain ⟨g1, g2⟩ := crF_other hi (p := p) (ks := ks) (f := setF f y) hp
      exact ⟨g1.trans (set_other h1 hi h2 _), g2.trans (by simp [setF])⟩
structure I5 (x : Dk) (k : Nat) (i : Int) (w : List UInt8) : Prop where
  ok : okD x = true
  len : x.p.length ≤ k
  fl : x.f.length = 8
  at_ : x.f[i.toNat]? = some w
  ne : ∀ y ∈ x.p, y.at_ ≠ i
theorem I5.oth {x : Dk} {k : Nat} {i : Int} {w : List UInt8} (h : I5 x k i w) : ∀ y ∈ x.p, 0 ≤ y.at_ ∧ y.at_ ≠ i := fun y hy => ⟨((okD_spec h.ok).1 y hy).1, h.ne y hy⟩
theorem I5.act {x : Dk} {k : Nat} {i : Int} {w : List UInt8} (h : I5 x k i w) (hi : 0 ≤ i) (hk : k < 40) (a : T30) (ha : decide (kindM a < 3) = true → a.at_ ≠ i) : I5 (actM x Y0 a).2.2 (k + 1) i w := by
  obtain ⟨r1, r2⟩ := kindM_rng a
  have hl := h.len
  unfold actM
  rw [beq_dec (kindM a) 3, beq_dec (kindM a) 4, beq_dec (kindM a) 5, beq_dec (kindM a) 6]
  cases h3 : decide (kindM a = 3)
  · cases h4 : decide (kindM a = 4)
    · cases h5 : decide (kindM a = 5)
      · cases h6 : decide (kindM a = 6)
        · have h3 := of_decide_eq_false h3
          have h4 := of_decide_eq_false h4
          have h5 := of_decide_eq_false h5
          have h6 := of_decide_eq_false h6
          have hne := ha (decide_eq_true (by omega))
          obtain ⟨g1, g2⟩ := okD_write a.at_ a.data h.ok hl (by omega)
          have hf : (writeM x a.at_ a.data).2.f = x.f ∧ ∀ y ∈ (writeM x a.at_ a.data).2.p, y.at_ ≠ i := by
            unfold writeM
            cases x.d
            · cases decide (a.at_ < 0)
              · cases decide (a.at_ ≥ ((x.f.length : Nat) : Int))
                · cases decide (((a.data.length : Nat) : Int) > 32)
                  · cases x.a && decide (x.l = 0)
                    · refine ⟨rfl, fun y hy => ?_⟩
                      simp only [cond_false, List.mem_append, List.mem_singleton] at hy
                      rcases hy with hy | rfl
                      · exact h.ne y hy
                      · exact hne
                    · exact ⟨rfl, h.ne⟩
                  · exact ⟨rfl, h.ne⟩
                · exact ⟨rfl, h.ne⟩
              · exact ⟨rfl, h.ne⟩
            · exact ⟨rfl, h.ne⟩
          exact ⟨g1, g2, by simp only [cond_false]; rw [hf.1]; exact h.fl, by simp only [cond_false]; rw [hf.1]; exact h.at_, hf.2⟩
        · obtain ⟨g1, g2⟩ := crF_other (ks := a.keep) (f := x.f) hi h.oth
          exact ⟨okD_mk (by simp [crashM]) (by simp [crashM]), by simp [crashM], g2.trans h.fl, g1.trans h.at_, by simp [crashM]⟩
      · exact ⟨okD_mk (okD_spec h.ok).1 (okD_spec h.ok).2, Nat.le_succ_of_le hl, h.fl, h.at_, h.ne⟩
    · exact ⟨h.ok, Nat.le_succ_of_le hl, h.fl, h.at_, h.ne⟩
  · simp only [cond_true]
    unfold flushM
    cases x.d
    · cases x.a && decide (x.l = 0)
      · obtain ⟨g1, g2⟩ := fold_other (f := x.f) hi h.oth
        exact ⟨okD_mk (by simp) (by simp), by simp, g2.trans h.fl, g1.trans h.at_, by simp⟩
      · exact ⟨h.ok, Nat.le_succ_of_le hl, h.fl, h.at_, h.ne⟩
    · exact ⟨h.ok, Nat.le_succ_of_le hl, h.fl, h.at_, h.ne⟩
theorem I5.end_ {x : Dk} {k : Nat} {i : Int} {w : List UInt8} (h : I5 x k i w) (h0 : 0 ≤ i) (h7 : i ≤ 7) : readM (crashM x []) i = (w, 0) := by
  have hn : ∀ p : List T77, ∀ f, crF p [] f = f := fun p f => by cases p <;> rfl
  have hl := h.fl
  unfold readM crashM
  simp only [hn, cond_false]
  rw [decide_eq_false (by omega), decide_eq_false (by omega), h.at_]
  rfl
theorem l5 (N : Nat) (i : Int) (s w : List UInt8) (l : List T30) (h0 : 0 ≤ i) (h7 : i ≤ 7) (hw : w.length = 32) (hs : s.length ≤ 32) (hws : w.take s.length = s) : ∀ (r k m : Nat) (x : Dk) (st : St), k + r = 40 → r < m → I5 x k i w → st.clean (fx5.deadAt (loopAt fx5 0)) = s5 i k s w l x →
    loopF F7 tb fx5 0 N (contF F7 tb fx5 N 0 0) m st = some (.bool true, []) := by
  have fin : ∀ {x : Dk} {k : Nat}, I5 x k i w → (bif okD x then bif (readM (crashM x []) i).fst == w then bif (((readM (crashM x []) i).fst.length : Nat) : Int) == 32 then bif decide ((0 : Int) ≤ 0 ∧ 0 ≤ ((s.length : Nat) : Int) ∧ ((s.length : Nat) : Int) ≤ (((readM (crashM x []) i).fst.length : Nat) : Int)) then bif List.drop (Int.toNat 0) (List.take (((s.length : Nat) : Int)).toNat (readM (crashM x []) i).fst) == s then bif (readM (crashM x []) i).snd == 0 then some (AV.bool true, ([] : List Ob)) else some (AV.bool false, []) else some (AV.bool false, []) else none else some (AV.bool false, []) else some (AV.bool false, []) else none) = some (.bool true, []) := fun {x k} h => by
    rw [h.ok, h.end_ h0 h7]
    simp only [hw, cond_true, Int.toNat_natCast, hws, beq_self_eq_true]
    rw [decide_eq_true (by omega)]
    simp only [show Int.toNat 0 = 0 from rfl, List.drop_zero, beq_self_eq_true, cond_true]
    rfl
  intro r
  induction r with
  | zero =>
    intro k m x st hk hm hI hst
    obtain ⟨m, rfl⟩ : ∃ m', m = m' + 1 := ⟨m - 1, by omega⟩
    rw [loopF_succ, hst, b5, decide_eq_false (show ¬ ((k : Int) < 40) by omega), fin hI]
    cases decide ((k : Int) < ((l.length : Nat) : Int)) <;> rfl
  | succ r ih =>
    intro k m x st hk hm hI hst
    obtain ⟨m, rfl⟩ : ∃ m', m = m' + 1 := ⟨m - 1, by omega⟩
    rw [loopF_succ, hst, b5, fin hI]
    cases hl : decide ((k : Int) < ((l.length : Nat) : Int))
    · rfl
    · have hl := of_decide_eq_true hl
      rw [decide_eq_true (show (k : Int) < 40 by omega), decide_eq_true (show 0 ≤ (k : Int) by omega)]
      have hx := List.getElem?_eq_getElem (show k < l.length by omega)
      generalize l[k] = y at hx
      simp only [cond_true, Int.toNat_natCast, hx, getO, hI.ok, Bool.true_and]
      rw [wrap_id (show -9223372036854775808 ≤ (k : Int) + 1 by omega) (by omega)]
      have same : I5 x (k + 1) i w := ⟨hI.ok, Nat.le_succ_of_le hI.len, hI.fl, hI.at_, hI.ne⟩
      cases hkp : decide (((y.keep.length : Nat) : Int) > 100)
      · simp only [cond_false]
        cases h3 : decide (kindM y < 3)
        · exact ih (k + 1) m _ _ (by omega) (by omega) (hI.act h0 (by omega) y fun h => by rw [h3] at h; cases h) (by kernel_rfl)
        · simp only [cond_true]
          cases hat : y.at_ == i
          · exact ih (k + 1) m _ _ (by omega) (by omega) (hI.act h0 (by omega) y fun _ e => by rw [e] at hat; simp at hat) (by kernel_rfl)
          · exact ih (k + 1) m x _ (by omega) (by omega) same (by kernel_rfl)
      · exact ih (k + 1) m x _ (by omega) (by omega) same (by kernel_rfl)
theorem e5 (i : Int) (s : List UInt8) (l : List T30) : evFn F7 tb fx5 41 [.int .i64 i, .str s, .sl 30 false l] [] = some (.bool true, []) := by
  refine (t5 41 i s l).trans ?_
  cases h1 : decide (i < 0)
  · cases h2 : decide (i > 7)
    · cases h3 : decide (((s.length : Nat) : Int) > 32)
      · have h1 := of_decide_eq_false h1
        have h2 := of_decide_eq_false h2
        have h3' := of_decide_eq_false h3
        have hW : writeM (newM (Int.toNat 8)) i s = (0, ⟨0, false, false, List.replicate 8 (pad 32), [⟨i, s ++ pad (32 - s.length)⟩]⟩) := by
          unfold writeM
          simp only [newM, cond_false, List.length_replicate]
          rw [decide_eq_false (by omega), decide_eq_false (show ¬ i ≥ ((Int.toNat 8 : Nat) : Int) by simp; omega), h3]
          rfl
        have hF : flushM (writeM (newM (Int.toNat 8)) i s).2 = (0, ⟨0, false, false, (List.replicate 8 (pad 32)).set i.toNat (s ++ pad (32 - s.length)), []⟩) := by rw [hW]; rfl
        have hg : ((List.replicate 8 (pad 32)).set i.toNat (s ++ pad (32 - s.length)))[i.toNat]? = some (s ++ pad (32 - s.length)) := by
          rw [List.getElem?_set_self (by simp; omega)]
        have hR : readM (flushM (writeM (newM (Int.toNat 8)) i s).2).2 i = (s ++ pad (32 - s.length), 0) := by
          rw [hF]
          unfold readM
          simp only [cond_false, List.length_set, List.length_replicate]
          rw [decide_eq_false (by omega), decide_eq_false (by omega), hg]
          rfl
        have hok : okD (writeM (newM (Int.toNat 8)) i s).2 = true := by
          rw [hW]
          exact okD_mk (fun y hy => by simp at hy; subst hy; simp; omega) (by simp)
        rw [hok, hR, hF, hW]
        simp only [cond_false, cond_true]
        refine l5 41 i s (s ++ pad (32 - s.length)) l (by omega) (by omega) (by simp [pad]; omega) (by omega) (by simp) 40 0 41 _ _ (by omega) (by omega) (?_ : I5 ⟨0, false, false, (List.replicate 8 (pad 32)).set i.toNat (s ++ pad (32 - s.length)), []⟩ 0 i (s ++ pad (32 - s.length))) (by
          unfold s5
          rw [h3]
          kernel_rfl)
        exact ⟨okD_mk (by simp) (by simp), by simp, by simp, hg, by simp⟩
      · rfl
    · rfl
  · rfl
def o5 : Over := fun vs os => match vs, os with
  | [.int .i64 i, .str s, .sl 30 false l], [] => .ret (.bool true, [])
  | _, _ => .fail
theorem p5 : OverOk Try.prog 5 o5 := OverOk.of F7_ok tb_ok ok5 fun vs os r h => by
  unfold o5 at h
  split at h
  · rename_i i s l
    exact ⟨41, (e5 i s l).trans h⟩
  · cases h
end Go.AM.Ytpdifkaeiecdpaa
namespace Go.AM
open Go.RowKit Go.Lib
section
variable [Reg] {P : Program} {n t : Nat} {x : AV}
theorem wtv_one {c : AV} (hna : ∀ l, x ≠ .agg l) (hx : x.cells = [c]) : x = c := by
  cases x <;> first | exact absurd rfl (hna _) | exact (List.cons.inj hx).1
theorem wtv_na {d : TypeDesc} (hu : P.underlying t = some d) (hd : ∀ fs, d ≠ .struct fs) (h : WtV P n t x) : ∀ l, x ≠ .agg l := fun l e => by
  obtain ⟨fs, hf⟩ := h.2.1 ⟨l, e⟩
  rw [hu] at hf
  exact hd fs (Option.some.inj hf)
theorem wtv_sl {e : Nat} (hu : P.underlying t = some (.slice e)) (h : WtV P (n + 1) t x) : ∃ xs : List (R e), x = .sl e false xs ∧ xs.length * P.bytesOf e ≤ reachBytes ∧ ∀ y ∈ xs, Wt P n e (cel e y) := by
  have hna := wtv_na hu (fun fs e => by cases e) h
  obtain ⟨h1, _⟩ := h
  unfold Wt at h1
  rw [hu] at h1
  obtain ⟨xs, hx, h3⟩ := h1
  exact ⟨xs, wtv_one hna hx, h3⟩
theorem wtv_int {k : IntKind} (hu : P.underlying t = some (.int k)) (h : WtV P (n + 1) t x) : ∃ m : Int, x = .int k m ∧ (Lit.int k m).wf = true := by
  have hna := wtv_na hu (fun fs e => by cases e) h
  obtain ⟨h1, _⟩ := h
  unfold Wt at h1
  rw [hu] at h1
  obtain ⟨m, hx, h3⟩ := h1
  exact ⟨m, wtv_one hna hx, h3⟩
theorem wtv_str (hu : P.underlying t = some .string) (h : WtV P (n + 1) t x) : ∃ l : List UInt8, x = .str l ∧ l.length ≤ reachBytes := by
  have hna := wtv_na hu (fun fs e => by cases e) h
  obtain ⟨h1, _⟩ := h
  unfold Wt at h1
  rw [hu] at h1
  obtain ⟨m, hx, h3⟩ := h1
  exact ⟨m, wtv_one hna hx, h3⟩
theorem wtv_bool (hu : P.underlying t = some .bool) (h : WtV P (n + 1) t x) : ∃ b : Bool, x = .bool b := by
  have hna := wtv_na hu (fun fs e => by cases e) h
  obtain ⟨h1, _⟩ := h
  unfold Wt at h1
  rw [hu] at h1
  obtain ⟨m, hx⟩ := h1
  exact ⟨m, wtv_one hna hx⟩
omit [Reg] in
theorem wt_int {m : Int} (h : (Lit.int .i64 m).wf = true) : -9223372036854775808 ≤ m ∧ m < 9223372036854775808 := by
  simp [Lit.wf, IntKind.min, IntKind.max, IntKind.bits, IntKind.signed] at h
  omega
end
end Go.AM
