/- A part of the proof: machine and program. -/
import Derived.Test.YtpdifkaeiecdpaaAm22
import Derived.Test.YtpdifkaeiecdpaaAm19
set_option linter.unusedVariables false
set_option maxRecDepth 100000
namespace Go.AM.Ytpdifkaeiecdpaa
open Go.AM Go.Proofs Go
theorem kindM_rng (a : T30) : 0 ≤ kindM a ∧ kindM a < 7 := by
  have h0 : 0 ≤ IntKind.wrap .u64 a.kind := by
    simp [IntKind.wrap, IntKind.bits, IntKind.signed]
    omega
  have h1 := Int.tmod_nonneg 7 h0
  have h2 := Int.tmod_lt_of_pos (IntKind.wrap .u64 a.kind) (show (0 : Int) < 7 by omega)
  unfold kindM
  rw [wrap_id (by omega) (by omega)]
  exact ⟨h1, h2⟩
theorem beq_dec (a b : Int) : (a == b) = decide (a = b) := by rw [Bool.eq_iff_iff]; simp
theorem set_other {f : List (List UInt8)} {a i : Int} (ha : 0 ≤ a) (hi : 0 ≤ i) (h : a ≠ i) (s : List UInt8) : (f.set a.toNat s)[i.toNat]? = f[i.toNat]? := List.getElem?_set_ne (by omega)
theorem fold_other {i : Int} (hi : 0 ≤ i) : ∀ {p : List T77} {f : List (List UInt8)}, (∀ y ∈ p, 0 ≤ y.at_ ∧ y.at_ ≠ i) → (p.foldl setF f)[i.toNat]? = f[i.toNat]? ∧ (p.foldl setF f).length = f.length
  | [], f, _ => ⟨rfl, rfl⟩
  | y :: p, f, h => by
    obtain ⟨g1, g2⟩ := fold_other hi (p := p) (f := setF f y) fun z hz => h z (by simp [hz])
    obtain ⟨h1, h2⟩ := h y (by simp)
    exact ⟨g1.trans (set_other h1 hi h2 _), g2.trans (by simp [setF])⟩
theorem crF_other {i : Int} (hi : 0 ≤ i) : ∀ {p : List T77} {ks : List Bool} {f : List (List UInt8)}, (∀ y ∈ p, 0 ≤ y.at_ ∧ y.at_ ≠ i) → (crF p ks f)[i.toNat]? = f[i.toNat]? ∧ (crF p ks f).length = f.length
  | [], ks, f, _ => ⟨rfl, rfl⟩
  | y :: p, [], f, _ => ⟨rfl, rfl⟩
  | y :: p, b :: ks, f, h => by
    obtain ⟨h1, h2⟩ := h y (by simp)
    have hp : ∀ z ∈ p, 0 ≤ z.at_ ∧ z.at_ ≠ i := fun z hz => h z (by simp [hz])
    cases b
    · exact crF_other hi (p := p) (ks := ks) (f := f) hp
    · obtain ⟨g1, g2⟩ := crF_other hi (p := p) (ks := ks) (f := setF f y) hp
      exact ⟨g1.trans (set_other h1 hi h2 _), g2.trans (by simp [setF])⟩
structure I5 (x : Dk) (k : Nat) (i : Int) (w : List UInt8) : Prop where
  ok : okD x = true
  len : x.p.length ≤ k
  fl : x.f.length = 8
  at_ : x.f[i.toNat]? = some w
  ne : ∀ y ∈ x.p, y.at_ ≠ i
theorem I5.oth {x : Dk} {k : Nat} {i : Int} {w : List UInt8} (h : I5 x k i w) : ∀ y ∈ x.p, 0 ≤ y.at_ ∧ y.at_ ≠ i := fun y hy => ⟨((okD_spec h.ok).1 y hy).1, h.ne y hy⟩
theorem I5.act {x : Dk} {k : Nat} {i : Int} {w : List UInt8} (h : I5 x k i w) (hi : 0 ≤ i) (hk : k < 40) (a : T30) (ha : decide (kindM a < 3) = true → a.at_ ≠ i) : I5 (actM x Y0 a).2.2 (k + 1) i w := by
  obtain ⟨r1, r2⟩ := kindM_rng a
  have hl := h.len
  unfold actM
  rw [beq_dec (kindM a) 3, beq_dec (kindM a) 4, beq_dec (kindM a) 5, beq_dec (kindM a) 6]
  cases h3 : decide (kindM a = 3)
  · cases h4 : decide (kindM a = 4)
    · cases h5 : decide (kindM a = 5)
      · cases h6 : decide (kindM a = 6)
        · have h3 := of_decide_eq_false h3
          have h4 := of_decide_eq_false h4
          have h5 := of_decide_eq_false h5
          have h6 := of_decide_eq_false h6
          have hne := ha (decide_eq_true (by omega))
          obtain ⟨g1, g2⟩ := okD_write a.at_ a.data h.ok hl (by omega)
          have hf : (writeM x a.at_ a.data).2.f = x.f ∧ ∀ y ∈ (writeM x a.at_ a.data).2.p, y.at_ ≠ i := by
            unfold writeM
            cases x.d
            · cases decide (a.at_ < 0)
              · cases decide (a.at_ ≥ ((x.f.length : Nat) : Int))
                · cases decide (((a.data.length : Nat) : Int) > 32)
                  · cases x.a && decide (x.l = 0)
                    · refine ⟨rfl, fun y hy => ?_⟩
                      simp only [cond_false, List.mem_append, List.mem_singleton] at hy
                      rcases hy with hy | rfl
                      · exact h.ne y hy
                      · exact hne
                    · exact ⟨rfl, h.ne⟩
                  · exact ⟨rfl, h.ne⟩
                · exact ⟨rfl, h.ne⟩
              · exact ⟨rfl, h.ne⟩
            · exact ⟨rfl, h.ne⟩
          exact ⟨g1, g2, by simp only [cond_false]; rw [hf.1]; exact h.fl, by simp only [cond_false]; rw [hf.1]; exact h.at_, hf.2⟩
        · obtain ⟨g1, g2⟩ := crF_other (ks := a.keep) (f := x.f) hi h.oth
          exact ⟨okD_mk (by simp [crashM]) (by simp [crashM]), by simp [crashM], g2.trans h.fl, g1.trans h.at_, by simp [crashM]⟩
      · exact ⟨okD_mk (okD_spec h.ok).1 (okD_spec h.ok).2, Nat.le_succ_of_le hl, h.fl, h.at_, h.ne⟩
    · exact ⟨h.ok, Nat.le_succ_of_le hl, h.fl, h.at_, h.ne⟩
  · simp only [cond_true]
    unfold flushM
    cases x.d
    · cases x.a && decide (x.l = 0)
      · obtain ⟨g1, g2⟩ := fold_other (f := x.f) hi h.oth
        exact ⟨okD_mk (by simp) (by simp), by simp, g2.trans h.fl, g1.trans h.at_, by simp⟩
      · exact ⟨h.ok, Nat.le_succ_of_le hl, h.fl, h.at_, h.ne⟩
    · exact ⟨h.ok, Nat.le_succ_of_le hl, h.fl, h.at_, h.ne⟩
theorem I5.end_ {x : Dk} {k : Nat} {i : Int} {w : List UInt8} (h : I5 x k i w) (h0 : 0 ≤ i) (h7 : i ≤ 7) : readM (crashM x []) i = (w, 0) := by
  have hn : ∀ p : List T77, ∀ f, crF p [] f = f := fun p f => by cases p <;> rfl
  have hl := h.fl
  unfold readM crashM
  simp only [hn, cond_false]
  rw [decide_eq_false (by omega), decide_eq_false (by omega), h.at_]
  rfl
theorem l5 (N : Nat) (i : Int) (s w : List UInt8) (l : List T30) (h0 : 0 ≤ i) (h7 : i ≤ 7) (hw : w.length = 32) (hs : s.length ≤ 32) (hws : w.take s.length = s) : ∀ (r k m : Nat) (x : Dk) (st : St), k + r = 40 → r < m → I5 x k i w → st.clean (fx5.deadAt (loopAt fx5 0)) = s5 i k s w l x →
    loopF F7 tb fx5 0 N (contF F7 tb fx5 N 0 0) m st = some (.bool true, []) := by
  have fin : ∀ {x : Dk} {k : Nat}, I5 x k i w → (bif okD x then bif (readM (crashM x []) i).fst == w then bif (((readM (crashM x []) i).fst.length : Nat) : Int) == 32 then bif decide ((0 : Int) ≤ 0 ∧ 0 ≤ ((s.length : Nat) : Int) ∧ ((s.length : Nat) : Int) ≤ (((readM (crashM x []) i).fst.length : Nat) : Int)) then bif List.drop (Int.toNat 0) (List.take (((s.length : Nat) : Int)).toNat (readM (crashM x []) i).fst) == s then bif (readM (crashM x []) i).snd == 0 then some (AV.bool true, ([] : List Ob)) else some (AV.bool false, []) else some (AV.bool false, []) else none else some (AV.bool false, []) else some (AV.bool false, []) else none) = some (.bool true, []) := fun {x k} h => by
    rw [h.ok, h.end_ h0 h7]
    simp only [hw, cond_true, Int.toNat_natCast, hws, beq_self_eq_true]
    rw [decide_eq_true (by omega)]
    simp only [show Int.toNat 0 = 0 from rfl, List.drop_zero, beq_self_eq_true, cond_true]
    rfl
  intro r
  induction r with
  | zero =>
    intro k m x st hk hm hI hst
    obtain ⟨m, rfl⟩ : ∃ m', m = m' + 1 := ⟨m - 1, by omega⟩
    rw [loopF_succ, hst, b5, decide_eq_false (show ¬ ((k : Int) < 40) by omega), fin hI]
    cases decide ((k : Int) < ((l.length : Nat) : Int)) <;> rfl
  | succ r ih =>
    intro k m x st hk hm hI hst
    obtain ⟨m, rfl⟩ : ∃ m', m = m' + 1 := ⟨m - 1, by omega⟩
    rw [loopF_succ, hst, b5, fin hI]
    cases hl : decide ((k : Int) < ((l.length : Nat) : Int))
    · rfl
    · have hl := of_decide_eq_true hl
      rw [decide_eq_true (show (k : Int) < 40 by omega), decide_eq_true (show 0 ≤ (k : Int) by omega)]
      have hx := List.getElem?_eq_getElem (show k < l.length by omega)
      generalize l[k] = y at hx
      simp only [cond_true, Int.toNat_natCast, hx, getO, hI.ok, Bool.true_and]
      rw [wrap_id (show -9223372036854775808 ≤ (k : Int) + 1 by omega) (by omega)]
      have same : I5 x (k + 1) i w := ⟨hI.ok, Nat.le_succ_of_le hI.len, hI.fl, hI.at_, hI.ne⟩
      cases hkp : decide (((y.keep.length : Nat) : Int) > 100)
      · simp only [cond_false]
        cases h3 : decide (kindM y < 3)
        · exact ih (k + 1) m _ _ (by omega) (by omega) (hI.act h0 (by omega) y fun h => by rw [h3] at h; cases h) (by kernel_rfl)
        · simp only [cond_true]
          cases hat : y.at_ == i
          · exact ih (k + 1) m _ _ (by omega) (by omega) (hI.act h0 (by omega) y fun _ e => by rw [e] at hat; simp at hat) (by kernel_rfl)
          · exact ih (k + 1) m x _ (by omega) (by omega) same (by kernel_rfl)
      · exact ih (k + 1) m x _ (by omega) (by omega) same (by kernel_rfl)
theorem e5 (i : Int) (s : List UInt8) (l : List T30) : evFn F7 tb fx5 41 [.int .i64 i, .str s, .sl 30 false l] [] = some (.bool true, []) := by
  refine (t5 41 i s l).trans ?_
  cases h1 : decide (i < 0)
  · cases h2 : decide (i > 7)
    · cases h3 : decide (((s.length : Nat) : Int) > 32)
      · have h1 := of_decide_eq_false h1
        have h2 := of_decide_eq_false h2
        have h3' := of_decide_eq_false h3
        have hW : writeM (newM (Int.toNat 8)) i s = (0, ⟨0, false, false, List.replicate 8 (pad 32), [⟨i, s ++ pad (32 - s.length)⟩]⟩) := by
          unfold writeM
          simp only [newM, cond_false, List.length_replicate]
          rw [decide_eq_false (by omega), decide_eq_false (show ¬ i ≥ ((Int.toNat 8 : Nat) : Int) by simp; omega), h3]
          rfl
        have hF : flushM (writeM (newM (Int.toNat 8)) i s).2 = (0, ⟨0, false, false, (List.replicate 8 (pad 32)).set i.toNat (s ++ pad (32 - s.length)), []⟩) := by rw [hW]; rfl
        have hg : ((List.replicate 8 (pad 32)).set i.toNat (s ++ pad (32 - s.length)))[i.toNat]? = some (s ++ pad (32 - s.length)) := by
          rw [List.getElem?_set_self (by simp; omega)]
        have hR : readM (flushM (writeM (newM (Int.toNat 8)) i s).2).2 i = (s ++ pad (32 - s.length), 0) := by
          rw [hF]
          unfold readM
          simp only [cond_false, List.length_set, List.length_replicate]
          rw [decide_eq_false (by omega), decide_eq_false (by omega), hg]
          rfl
        have hok : okD (writeM (newM (Int.toNat 8)) i s).2 = true := by
          rw [hW]
          exact okD_mk (fun y hy => by simp at hy; subst hy; simp; omega) (by simp)
        rw [hok, hR, hF, hW]
        simp only [cond_false, cond_true]
        refine l5 41 i s (s ++ pad (32 - s.length)) l (by omega) (by omega) (by simp [pad]; omega) (by omega) (by simp) 40 0 41 _ _ (by omega) (by omega) (?_ : I5 ⟨0, false, false, (List.replicate 8 (pad 32)).set i.toNat (s ++ pad (32 - s.length)), []⟩ 0 i (s ++ pad (32 - s.length))) (by
          unfold s5
          rw [h3]
          kernel_rfl)
        exact ⟨okD_mk (by simp) (by simp), by simp, by simp, hg, by simp⟩
      · rfl
    · rfl
  · rfl
def o5 : Over := fun vs os => match vs, os with
  | [.int .i64 i, .str s, .sl 30 false l], [] => .ret (.bool true, [])
  | _, _ => .fail
theorem p5 : OverOk Try.prog 5 o5 := OverOk.of F7_ok tb_ok ok5 fun vs os r h => by
  unfold o5 at h
  split at h
  · rename_i i s l
    exact ⟨41, (e5 i s l).trans h⟩
  · cases h
end Go.AM.Ytpdifkaeiecdpaa
set_option linter.unusedVariables false
set_option maxRecDepth 100000
namespace Go.AM.Ytpdifkaeiecdpaa
open Go.AM Go.Proofs Go
theorem t8 (N : Nat) (n : Int) (l : List T30) : evFn F7 tb fx8 N [.int .i64 n, .sl 30 false l] [] =
  bif decide (n > 24) then bif decide (n ≤ 4096) then some (AV.bool true, []) else bif decide (n < 1) then bif (((newT n).firm.length : Nat) : Int) == 0 then some (AV.bool true, []) else some (AV.bool false, []) else bif decide (n > 4096) then bif (((newT n).firm.length : Nat) : Int) == 0 then some (AV.bool true, []) else some (AV.bool false, []) else bif (((newT n).firm.length : Nat) : Int) == 0 then some (AV.bool false, []) else bif (((newM n.toNat).f.length : Nat) : Int) != n then some (AV.bool false, []) else loopF F7 tb fx8 0 N (contF F7 tb fx8 N 0 0) N { nt := 150, t := [(0, AV.int IntKind.i64 n), (1, AV.sl 30 false l), (4, AV.bool false), (5, AV.nilp), (7, AV.int IntKind.i64 7), (8, AV.ptr 1950272 0), (9, AV.ptr 1147456 0), (10, AV.int IntKind.i64 0), (49, AV.bool (0 != 0)), (55, AV.bool (decide (n ≤ 4096))), (64, AV.bool ((((newT n).firm.length : Nat) : Int) == 0)), (77, AV.bool ((((newM n.toNat).f.length : Nat) : Int) != n))], h := [(1147456, Ob.box [AV.sl 9 false (newT n).firm, AV.sl 3 false (newT n).at_, AV.sl 9 false (newT n).what, AV.int IntKind.i64 (newT n).left, AV.bool (newT n).gone]), (1950272, Ob.box [AV.int IntKind.i64 (newM n.toNat).l, AV.bool (newM n.toNat).a, AV.bool (newM n.toNat).d, AV.vw 2212547 9, AV.vw 2212548 77]), (2212547, Ob.row 9 (newM n.toNat).f), (2212548, Ob.row 77 (newM n.toNat).p)], u := [2212547, 2212548, 1147456, 1950272, 1950403, 1950404] : St } else bif decide (n < 1) then bif (((newT n).firm.length : Nat) : Int) == 0 then some (AV.bool true, []) else some (AV.bool false, []) else bif decide (n > 4096) then bif (((newT n).firm.length : Nat) : Int) == 0 then some (AV.bool true, []) else some (AV.bool false, []) else bif (((newT n).firm.length : Nat) : Int) == 0 then some (AV.bool false, []) else bif (((newM n.toNat).f.length : Nat) : Int) != n then some (AV.bool false, []) else loopF F7 tb fx8 0 N (contF F7 tb fx8 N 0 0) N { nt := 150, t := [(0, AV.int IntKind.i64 n), (1, AV.sl 30 false l), (4, AV.bool false), (5, AV.nilp), (7, AV.int IntKind.i64 7), (8, AV.ptr 1950272 0), (9, AV.ptr 1147456 0), (10, AV.int IntKind.i64 0), (49, AV.bool (0 != 0)), (55, AV.bool false), (64, AV.bool ((((newT n).firm.length : Nat) : Int) == 0)), (77, AV.bool ((((newM n.toNat).f.length : Nat) : Int) != n))], h := [(1147456, Ob.box [AV.sl 9 false (newT n).firm, AV.sl 3 false (newT n).at_, AV.sl 9 false (newT n).what, AV.int IntKind.i64 (newT n).left, AV.bool (newT n).gone]), (1950272, Ob.box [AV.int IntKind.i64 (newM n.toNat).l, AV.bool (newM n.toNat).a, AV.bool (newM n.toNat).d, AV.vw 2212547 9, AV.vw 2212548 77]), (2212547, Ob.row 9 (newM n.toNat).f), (2212548, Ob.row 77 (newM n.toNat).p)], u := [2212547, 2212548, 1147456, 1950272, 1950403, 1950404] : St } := by kernel_rfl
def s8 (n k : Int) (l : List T30) (x : Dk) (y : T44) : St := ⟨150, [(0, .int .i64 n), (1, .sl 30 false l), (4, .bool false), (5, .nilp), (7, .int .i64 7), (8, .ptr 100000 0), (9, .ptr 100001 0), (10, .int .i64 k), (49, .bool false), (55, .bool false), (64, .bool false), (77, .bool false)], [(100000, .box [.int .i64 x.l, .bool x.a, .bool x.d, .vw 100002 9, .vw 100003 77]), (100001, .box [.sl 9 false y.firm, .sl 3 false y.at_, .sl 9 false y.what, .int .i64 y.left, .bool y.gone]), (100002, .row 9 x.f), (100003, .row 77 x.p)], [100000, 100001, 100002, 100003]⟩
theorem b8 (N : Nat) (n k : Int) (l : List T30) (x : Dk) (y : T44) (KN : St → Option Ret) : bodyF F7 tb fx8 N 0 (s8 n k l x y) (brk (contF F7 tb fx8 N 0 0) KN) =
  bif decide (k < ((l.length : Nat) : Int)) then bif decide (k < 60) then bif decide (0 ≤ k) then getO l[k.toNat]? fun x_1 => bif decide (((x_1.keep.length : Nat) : Int) > 100) then some (AV.bool true, []) else bif decide (0 ≤ k) then getO l[k.toNat]? fun x_2 => bif okD x && okT y then bif !(actM x y x_2).snd.fst then some (AV.bool false, []) else bif !(actM x y x_2).snd.snd.d == (actM x y x_2).fst.gone then some (AV.bool false, []) else bif (((actM x y x_2).snd.snd.p.length : Nat) : Int) != (((actM x y x_2).fst.at_.length : Nat) : Int) then some (AV.bool false, []) else KN { nt := 150, t := [(0, AV.int IntKind.i64 n), (1, AV.sl 30 false l), (4, AV.bool false), (5, AV.nilp), (7, AV.int IntKind.i64 7), (8, AV.ptr 100000 0), (9, AV.ptr 100001 0), (10, AV.int IntKind.i64 (IntKind.i64.wrap (k + 1))), (11, AV.ptr 1180224 0), (12, AV.bool (actM x y x_2).snd.fst), (49, AV.bool false), (55, AV.bool false), (64, AV.bool false), (77, AV.bool false), (85, AV.bool (decide (k < 60))), (94, AV.bool (decide (((x_1.keep.length : Nat) : Int) > 100))), (123, AV.bool ((((actM x y x_2).snd.snd.p.length : Nat) : Int) != (((actM x y x_2).fst.at_.length : Nat) : Int)))], h := [(100000, Ob.box [AV.int IntKind.i64 (actM x y x_2).snd.snd.l, AV.bool (actM x y x_2).snd.snd.a, AV.bool (actM x y x_2).snd.snd.d, AV.vw 2933443 9, AV.vw 2933444 77]), (100001, Ob.box [AV.sl 9 false (actM x y x_2).fst.firm, AV.sl 3 false (actM x y x_2).fst.at_, AV.sl 9 false (actM x y x_2).fst.what, AV.int IntKind.i64 (actM x y x_2).fst.left, AV.bool (actM x y x_2).fst.gone]), (1180224, Ob.box [AV.sl 9 false (actM x y x_2).fst.firm, AV.sl 3 false (actM x y x_2).fst.at_, AV.sl 9 false (actM x y x_2).fst.what, AV.int IntKind.i64 (actM x y x_2).fst.left, AV.bool (actM x y x_2).fst.gone]), (2933443, Ob.row 9 (actM x y x_2).snd.snd.f), (2933444, Ob.row 77 (actM x y x_2).snd.snd.p)], u := [2933443, 2933444, 2818755, 2818756, 1180224, 2687683, 2687684, 100000, 100001, 100002, 100003] : St } else none else none else none else loopF F7 tb fx8 1 N (contF F7 tb fx8 N 1 0) N { nt := 150, t := [(0, AV.int IntKind.i64 n), (1, AV.sl 30 false l), (4, AV.bool false), (5, AV.nilp), (7, AV.int IntKind.i64 7), (8, AV.ptr 100000 0), (9, AV.ptr 100001 0), (10, AV.int IntKind.i64 k), (13, AV.int IntKind.i64 0), (49, AV.bool false), (55, AV.bool false), (64, AV.bool false), (77, AV.bool false), (85, AV.bool (decide (k < 60)))], h := [(100000, Ob.box [AV.int IntKind.i64 x.l, AV.bool x.a, AV.bool x.d, AV.vw 100002 9, AV.vw 100003 77]), (100001, Ob.box [AV.sl 9 false y.firm, AV.sl 3 false y.at_, AV.sl 9 false y.what, AV.int IntKind.i64 y.left, AV.bool y.gone]), (100002, Ob.row 9 x.f), (100003, Ob.row 77 x.p)], u := [100000, 100001, 100002, 100003] : St } else loopF F7 tb fx8 1 N (contF F7 tb fx8 N 1 0) N { nt := 150, t := [(0, AV.int IntKind.i64 n), (1, AV.sl 30 false l), (4, AV.bool false), (5, AV.nilp), (7, AV.int IntKind.i64 7), (8, AV.ptr 100000 0), (9, AV.ptr 100001 0), (10, AV.int IntKind.i64 k), (13, AV.int IntKind.i64 0), (49, AV.bool false), (55, AV.bool false), (64, AV.bool false), (77, AV.bool false), (85, AV.bool false)], h := [(100000, Ob.box [AV.int IntKind.i64 x.l, AV.bool x.a, AV.bool x.d, AV.vw 100002 9, AV.vw 100003 77]), (100001, Ob.box [AV.sl 9 false y.firm, AV.sl 3 false y.at_, AV.sl 9 false y.what, AV.int IntKind.i64 y.left, AV.bool y.gone]), (100002, Ob.row 9 x.f), (100003, Ob.row 77 x.p)], u := [100000, 100001, 100002, 100003] : St } := by kernel_rfl
end Go.AM.Ytpdifkaeiecdpaa
set_option linter.unusedVariables false
set_option maxRecDepth 100000
namespace Go.AM.Ytpdifkaeiecdpaa
open Go.AM Go.Proofs Go
theorem fold_len8 : ∀ (p : List T77) (f : List (List UInt8)), (p.foldl setF f).length = f.length
  | [], f => rfl
  | y :: p, f => (fold_len8 p (setF f y)).trans (by simp [setF])
theorem rdL_append (i : Int) : ∀ (al : List Int) (ws : List (List UInt8)) (a : Int) (w s : List UInt8), al.length = ws.length → rdL (al ++ [a]) (ws ++ [w]) i s = bif a == i then w else rdL al ws i s
  | [], [], a, w, s, _ => by simp [rdL]
  | [], _ :: _, _, _, _, h => by simp at h
  | _ :: _, [], _, _, _, h => by simp at h
  | b :: al, v :: ws, a, w, s, h => by
    simp only [List.cons_append, rdL]
    exact rdL_append i al ws a w _ (by simpa using h)
theorem rdN_append (i : Int) (s : List UInt8) (p : List T77) (y : T77) : ∀ n, n ≤ p.length → rdN (p ++ [y]) i s n = rdN p i s n
  | 0, _ => rfl
  | n + 1, h => by
    unfold rdN
    rw [List.getElem?_append_left (by omega), rdN_append i s p y n (by omega)]
theorem rd_eq (i : Int) (s : List UInt8) (p : List T77) : rdL (p.map T77.at_) (p.map T77.s) i s = rdN p i s p.length := by
  suffices h : ∀ q : List T77, rdL (q.reverse.map T77.at_) (q.reverse.map T77.s) i s = rdN q.reverse i s q.reverse.length by simpa using h p.reverse
  intro q
  induction q with
  | nil => rfl
  | cons y q ih =>
    simp only [List.reverse_cons, List.map_append, List.map_cons, List.map_nil, List.length_append, List.length_singleton]
    rw [rdL_append _ _ _ _ _ _ (by simp), ih]
    show _ = rdN (q.reverse ++ [y]) i s (q.reverse.length + 1)
    conv => rhs; unfold rdN
    rw [List.getElem?_append_right (Nat.le_refl _), Nat.sub_self]
    simp only [List.getElem?_cons_zero]
    rw [rdN_append _ _ _ _ _ (Nat.le_refl _)]
theorem cr_eq : ∀ (p : List T77) (ks : List Bool) (f : List (List UInt8)), crL (p.map T77.at_) (p.map T77.s) ks f = crF p ks f
  | [], ks, f => by cases ks <;> rfl
  | y :: p, [], f => rfl
  | y :: p, b :: ks, f => cr_eq p ks _
theorem cr_all : ∀ (p : List T77) (f : List (List UInt8)), crF p (List.replicate p.length true) f = p.foldl setF f
  | [], f => rfl
  | y :: p, f => cr_all p (setF f y)
/-- The disk, and the document's. -/
structure R8 (n : Nat) (x : Dk) (y : T44) (k : Nat) : Prop where
  ok : okD x = true
  len : x.p.length ≤ k
  fl : x.f.length = n
  firm : y.firm = x.f
  at_ : y.at_ = x.p.map T77.at_
  what : y.what = x.p.map T77.s
  gone : y.gone = x.d
  on : x.a = true → y.left = x.l ∧ 0 ≤ x.l ∧ x.l < 9223372036854775808
  off : x.a = false → y.left = -1
theorem R8.okT {n : Nat} {x : Dk} {y : T44} {k : Nat} (h : R8 n x y k) (hn : n ≤ 24) (hk : k < 1000) : okT y = true := by
  have h1 := h.len
  have h2 := h.fl
  unfold AM.Ytpdifkaeiecdpaa.okT smT
  simp only [Bool.and_eq_true, decide_eq_true_eq, List.all_eq_true, h.firm, h.at_, h.what, List.length_map, List.mem_map]
  refine ⟨⟨by omega, by omega, by omega⟩, trivial, ?_⟩
  rintro a ⟨z, hz, rfl⟩
  exact (okD_spec h.ok).1 z hz
theorem R8.read {n : Nat} {x : Dk} {y : T44} {k : Nat} (h : R8 n x y k) (hn : 0 < n) (i : Int) : readT y i = readM x i := by
  have h2 := h.fl
  unfold readT readM
  rw [h.gone, h.firm, h.at_, h.what, rd_eq]
  have : (((x.f.length : Nat) : Int) == 0) = false := by rw [h2]; simp; omega
  rw [this]
  rfl
/-- Is there power, and what is left? -/
theorem R8.spend {n : Nat} {x : Dk} {y : T44} {k : Nat} (h : R8 n x y k) (hd : x.d = false) : (!(spendT y).2) = (x.a && decide (x.l = 0)) ∧ ((x.a && decide (x.l = 0)) = true → (spendT y).1.left = y.left ∧ (spendT y).1.gone = true) ∧
    ((x.a && decide (x.l = 0)) = false → (spendT y).1.gone = false ∧ (x.a = true → (spendT y).1.left = IntKind.wrap .i64 (x.l - 1) ∧ 0 ≤ IntKind.wrap .i64 (x.l - 1) ∧ IntKind.wrap .i64 (x.l - 1) < 9223372036854775808) ∧ (x.a = false → (spendT y).1.left = -1)) := by
  have hg := h.gone
  rw [hd] at hg
  unfold spendT
  rw [beq_dec]
  cases ha : x.a
  · have hl := h.off ha
    rw [hl]
    refine ⟨rfl, fun h => by simp at h, fun _ => ⟨hg, fun h => by simp at h, fun _ => hl⟩⟩
  · obtain ⟨hl, h0, h1⟩ := h.on ha
    rw [hl]
    simp only [Bool.true_and]
    cases hz : decide (x.l = 0)
    · have hz := of_decide_eq_false hz
      rw [decide_eq_true (show x.l > 0 by omega), wrap_id (by omega) (by omega)]
      exact ⟨rfl, fun h => by simp at h, fun _ => ⟨hg, fun _ => ⟨rfl, by omega, by omega⟩, fun h => by simp at h⟩⟩
    · exact ⟨rfl, fun _ => ⟨rfl, rfl⟩, fun h => by simp at h⟩
def inR (a : T30) : Bool := decide (-9223372036854775808 ≤ a.n) && decide (a.n < 9223372036854775808)
theorem R8.act {n : Nat} {x : Dk} {y : T44} {k : Nat} (h : R8 n x y k) (hn : 0 < n) (hk : k < 1000) (a : T30) (ha : inR a = true) : (actM x y a).2.1 = true ∧ R8 n (actM x y a).2.2 (actM x y a).1 (k + 1) := by
  have hlen := h.len
  have hfl := h.fl
  have h00 : (((x.f.length : Nat) : Int) == 0) = false := by rw [hfl]; simp; omega
  have next : R8 n x y (k + 1) := ⟨h.ok, Nat.le_succ_of_le h.len, h.fl, h.firm, h.at_, h.what, h.gone, h.on, h.off⟩
  unfold actM
  cases kindM a == 3
  · cases kindM a == 4
    · cases kindM a == 5
      · cases kindM a == 6
        · simp only [cond_false]
          obtain ⟨g1, g2⟩ := okD_write a.at_ a.data h.ok hlen (by omega)
          revert g1 g2
          unfold writeT writeM
          rw [h.gone, h.firm, h00]
          cases hd : x.d
          · cases h1 : decide (a.at_ < 0)
            · cases h2 : decide (a.at_ ≥ ((x.f.length : Nat) : Int))
              · cases h3 : decide (((a.data.length : Nat) : Int) > 32)
                · obtain ⟨s1, s2, s3⟩ := h.spend hd
                  rw [s1]
                  cases hc : x.a && decide (x.l = 0)
                  · obtain ⟨q1, q2, q3⟩ := s3 hc
                    intro g1 g2
                    refine ⟨rfl, g1, g2, h.fl, rfl, ?_, ?_, q1, fun e => ?_, fun e => q3 e⟩
                    · simp only [cond_false, h.at_, List.map_append, List.map_cons, List.map_nil]
                    · simp only [cond_false, h.what, List.map_append, List.map_cons, List.map_nil, padM, pad]
                    · simp only [cond_false] at e ⊢
                      rw [e]
                      exact q2 e
                  · obtain ⟨q1, q2⟩ := s2 hc
                    intro g1 g2
                    exact ⟨rfl, g1, Nat.le_succ_of_le hlen, h.fl, rfl, h.at_, h.what, q2, fun e => by have := h.on e; exact ⟨q1.trans this.1, this.2⟩, fun e => q1.trans (h.off e)⟩
                · intro g1 g2; exact ⟨rfl, next⟩
              · intro g1 g2; exact ⟨rfl, next⟩
            · intro g1 g2; exact ⟨rfl, next⟩
          · intro g1 g2; exact ⟨rfl, next⟩
        · refine ⟨rfl, okD_mk (by simp [crashM]) (by simp [crashM]), by simp [crashM], ?_, ?_, rfl, rfl, rfl, fun e => by simp [crashM] at e, fun _ => rfl⟩
          · show (crF x.p a.keep x.f).length = n
            have : ∀ (p : List T77) (ks : List Bool) (f : List (List UInt8)), (crF p ks f).length = f.length := fun p => by
              induction p with
              | nil => intro ks f; cases ks <;> rfl
              | cons z p ih =>
                intro ks f
                cases ks with
                | nil => rfl
                | cons b ks => cases b <;> simp [crF, ih, setF]
            rw [this]
            exact hfl
          · show crL y.at_ y.what a.keep y.firm = crF x.p a.keep x.f
            rw [h.at_, h.what, h.firm, cr_eq]
      · unfold inR at ha
        simp only [Bool.and_eq_true, decide_eq_true_eq] at ha
        refine ⟨rfl, okD_mk (okD_spec h.ok).1 (okD_spec h.ok).2, Nat.le_succ_of_le hlen, hfl, ?_, ?_, ?_, ?_, fun e => ?_, fun e => ?_⟩
        · show (armT y a.n).firm = x.f
          unfold armT
          cases decide (a.n < 0) <;> exact h.firm
        · show (armT y a.n).at_ = _
          unfold armT
          cases decide (a.n < 0) <;> exact h.at_
        · show (armT y a.n).what = _
          unfold armT
          cases decide (a.n < 0) <;> exact h.what
        · show (armT y a.n).gone = _
          unfold armT
          cases decide (a.n < 0) <;> exact h.gone
        · have e : decide (a.n ≥ 0) = true := e
          have e := of_decide_eq_true e
          show (armT y a.n).left = a.n ∧ 0 ≤ a.n ∧ a.n < _
          unfold armT
          rw [decide_eq_false (show ¬ a.n < 0 by omega)]
          exact ⟨rfl, by omega, ha.2⟩
        · have e : decide (a.n ≥ 0) = false := e
          have e := of_decide_eq_false e
          show (armT y a.n).left = -1
          unfold armT
          rw [decide_eq_true (show a.n < 0 by omega)]
          rfl
    · simp only [cond_true, cond_false]
      rw [h.read hn]
      refine ⟨?_, next⟩
      simp
  · simp only [cond_true]
    obtain ⟨g1, g2⟩ := okD_flush h.ok hlen
    revert g1 g2
    unfold flushT flushM
    rw [h.gone, h.firm, h00]
    cases hd : x.d
    · obtain ⟨s1, s2, s3⟩ := h.spend hd
      rw [s1]
      cases hc : x.a && decide (x.l = 0)
      · obtain ⟨q1, q2, q3⟩ := s3 hc
        intro g1 g2
        refine ⟨rfl, g1, by simp, (fold_len8 _ _).trans hfl, ?_, rfl, rfl, rfl, fun e => ?_, fun e => q3 e⟩
        · show crL y.at_ y.what (List.replicate y.at_.length true) y.firm = x.p.foldl setF x.f
          rw [h.at_, h.what, h.firm, cr_eq, List.length_map, cr_all]
        · simp only [cond_false] at e ⊢
          rw [e]
          exact q2 e
      · obtain ⟨q1, q2⟩ := s2 hc
        intro g1 g2
        exact ⟨rfl, g1, Nat.le_succ_of_le g2, hfl, rfl, h.at_, h.what, q2, fun e => by have := h.on e; exact ⟨q1.trans this.1, this.2⟩, fun e => q1.trans (h.off e)⟩
    · intro g1 g2
      exact ⟨rfl, next⟩
end Go.AM.Ytpdifkaeiecdpaa
set_option linter.unusedVariables false
set_option maxRecDepth 100000
namespace Go.AM.Ytpdifkaeiecdpaa
open Go.AM Go.Proofs Go
def s8b (n k i : Int) (l : List T30) (x : Dk) (y : T44) : St := ⟨150, [(0, .int .i64 n), (1, .sl 30 false l), (4, .bool false), (5, .nilp), (7, .int .i64 7), (8, .ptr 100000 0), (9, .ptr 100001 0), (10, .int .i64 k), (13, .int .i64 i), (49, .bool false), (55, .bool false), (64, .bool false), (77, .bool false), (85, .bool false)], [(100000, .box [.int .i64 x.l, .bool x.a, .bool x.d, .vw 100002 9, .vw 100003 77]), (100001, .box [.sl 9 false y.firm, .sl 3 false y.at_, .sl 9 false y.what, .int .i64 y.left, .bool y.gone]), (100002, .row 9 x.f), (100003, .row 77 x.p)], [100000, 100001, 100002, 100003]⟩
theorem c8 (N : Nat) (n k i : Int) (l : List T30) (x : Dk) (y : T44) (KN : St → Option Ret) : bodyF F7 tb fx8 N 1 (s8b n k i l x y) (brk (contF F7 tb fx8 N 1 0) KN) =
  bif decide (i < n) then bif decide (x.p.length < 4611686018427387904) then bif okT y then bif !(readM x i).fst == (readT y i).fst then some (AV.bool false, []) else bif (readM x i).snd != (readT y i).snd then some (AV.bool false, []) else KN { nt := 150, t := [(0, AV.int IntKind.i64 n), (1, AV.sl 30 false l), (4, AV.bool false), (5, AV.nilp), (7, AV.int IntKind.i64 7), (8, AV.ptr 100000 0), (9, AV.ptr 100001 0), (10, AV.int IntKind.i64 k), (13, AV.int IntKind.i64 (IntKind.i64.wrap (i + 1))), (14, AV.str (readM x i).fst), (15, AV.int IntKind.i64 (readM x i).snd), (16, AV.str (readT y i).fst), (17, AV.int IntKind.i64 (readT y i).snd), (49, AV.bool false), (55, AV.bool false), (64, AV.bool false), (77, AV.bool false), (85, AV.bool false), (126, AV.bool (decide (i < n))), (148, AV.bool ((readM x i).snd != (readT y i).snd))], h := [(100000, Ob.box [AV.int IntKind.i64 x.l, AV.bool x.a, AV.bool x.d, AV.vw 3162819 9, AV.vw 3162820 77]), (100001, Ob.box [AV.sl 9 false y.firm, AV.sl 3 false y.at_, AV.sl 9 false y.what, AV.int IntKind.i64 y.left, AV.bool y.gone]), (3162819, Ob.row 9 x.f), (3162820, Ob.row 77 x.p)], u := [3162819, 3162820, 100000, 100001, 100002, 100003] : St } else none else none else some (AV.bool true, []) := by kernel_rfl
theorem l8b (N : Nat) (n : Nat) (k : Int) (l : List T30) (x : Dk) (y : T44) {j : Nat} (h : R8 n x y j) (hj : j < 1000) (hn : 0 < n) (hn2 : n ≤ 24) : ∀ (r i m : Nat) (st : St), i + r = n → r < m → st.clean (fx8.deadAt (loopAt fx8 1)) = s8b n k i l x y →
    loopF F7 tb fx8 1 N (contF F7 tb fx8 N 1 0) m st = some (.bool true, []) := by
  have hlen := h.len
  intro r
  induction r with
  | zero =>
    intro i m st hi hm hst
    obtain ⟨m, rfl⟩ : ∃ m', m = m' + 1 := ⟨m - 1, by omega⟩
    rw [loopF_succ, hst, c8, decide_eq_false (by omega)]
    rfl
  | succ r ih =>
    intro i m st hi hm hst
    obtain ⟨m, rfl⟩ : ∃ m', m = m' + 1 := ⟨m - 1, by omega⟩
    rw [loopF_succ, hst, c8, decide_eq_true (show (i : Int) < (n : Int) by omega), h.okT hn2 hj, decide_eq_true (show x.p.length < 4611686018427387904 by omega), h.read hn]
    simp only [cond_true, bne_self_eq_false, beq_self_eq_true, Bool.not_true, cond_false]
    rw [wrap_id (by omega) (by omega)]
    exact ih (i + 1) m _ (by omega) (by omega) (by kernel_rfl)
theorem l8 (N : Nat) (hN : 100 ≤ N) (n : Nat) (l : List T30) (hl : l.all inR = true) (hn : 0 < n) (hn2 : n ≤ 24) : ∀ (r k m : Nat) (x : Dk) (y : T44) (st : St), k + r = 60 → r < m → R8 n x y k → st.clean (fx8.deadAt (loopAt fx8 0)) = s8 n k l x y →
    loopF F7 tb fx8 0 N (contF F7 tb fx8 N 0 0) m st = some (.bool true, []) := by
  intro r
  induction r with
  | zero =>
    intro k m x y st hk hm h hst
    obtain ⟨m, rfl⟩ : ∃ m', m = m' + 1 := ⟨m - 1, by omega⟩
    rw [loopF_succ, hst, b8, decide_eq_false (show ¬ ((k : Int) < 60) by omega)]
    have key := fun st e => l8b N n k l x y h (by omega) hn hn2 n 0 N st (by omega) (by omega) e
    cases decide ((k : Int) < ((l.length : Nat) : Int))
    · simp only [cond_false]
      exact key _ (by kernel_rfl)
    · simp only [cond_true, cond_false]
      exact key _ (by kernel_rfl)
  | succ r ih =>
    intro k m x y st hk hm h hst
    obtain ⟨m, rfl⟩ : ∃ m', m = m' + 1 := ⟨m - 1, by omega⟩
    rw [loopF_succ, hst, b8]
    cases hlt : decide ((k : Int) < ((l.length : Nat) : Int))
    · simp only [cond_false]
      exact l8b N n k l x y h (by omega) hn hn2 n 0 N _ (by omega) (by omega) (by kernel_rfl)
    · have hlt := of_decide_eq_true hlt
      have hx := List.getElem?_eq_getElem (show k < l.length by omega)
      have hin : inR l[k] = true := List.all_eq_true.1 hl _ (List.getElem_mem _)
      generalize l[k] = a at hx hin
      obtain ⟨h1, h2⟩ := h.act hn (by omega) a hin
      have c1 : (!(actM x y a).snd.snd.d == (actM x y a).fst.gone) = false := by rw [h2.gone]; simp
      have c2 : ((((actM x y a).snd.snd.p.length : Nat) : Int) != (((actM x y a).fst.at_.length : Nat) : Int)) = false := by rw [h2.at_]; simp
      rw [decide_eq_true (show (k : Int) < 60 by omega), decide_eq_true (show 0 ≤ (k : Int) by omega)]
      simp only [cond_true, Int.toNat_natCast, hx, getO]
      rw [h.ok, h.okT hn2 (by omega), h1, c1, c2]
      simp only [cond_true, cond_false, Bool.true_and, Bool.not_true]
      rw [wrap_id (show -9223372036854775808 ≤ (k : Int) + 1 by omega) (by omega)]
      cases hkp : decide (((a.keep.length : Nat) : Int) > 100)
      · simp only [cond_false]
        exact ih (k + 1) m (actM x y a).2.2 (actM x y a).1 _ (by omega) (by omega) h2 (by kernel_rfl)
      · rfl
theorem e8 (N : Nat) (hN : 100 ≤ N) (n : Int) (l : List T30) (hl : l.all inR = true) : evFn F7 tb fx8 N [.int .i64 n, .sl 30 false l] [] = some (.bool true, []) := by
  refine (t8 N n l).trans ?_
  have small : decide (n < 1) = true → ((((newT n).firm.length : Nat) : Int) == 0) = true := fun h => by unfold newT; rw [h]; rfl
  have big : decide (n < 1) = false → decide (n > 4096) = true → ((((newT n).firm.length : Nat) : Int) == 0) = true := fun h h' => by unfold newT; rw [h, h']; rfl
  cases h24 : decide (n > 24)
  · cases h1 : decide (n < 1)
    · have g24 := of_decide_eq_false h24
      have g1 := of_decide_eq_false h1
      obtain ⟨k, rfl⟩ : ∃ k : Nat, n = (k : Int) := ⟨n.toNat, by omega⟩
      have e1 : newT (k : Int) = ⟨List.replicate k (pad 32), [], [], -1, false⟩ := by
        unfold newT
        rw [h1, decide_eq_false (show ¬ (k : Int) > 4096 by omega)]
        rfl
      have e2 : newM ((k : Int).toNat) = ⟨0, false, false, List.replicate k (pad 32), []⟩ := rfl
      have e0 : ((((List.replicate k (pad 32)).length : Nat) : Int) == 0) = false := by simp; omega
      rw [e1, e2, decide_eq_false (show ¬ (k : Int) > 4096 by omega)]
      simp only [cond_false, e0]
      have e3 : ((((List.replicate k (pad 32)).length : Nat) : Int) != (k : Int)) = false := by simp
      rw [e3]
      simp only [cond_false]
      refine l8 N hN k l hl (by omega) (by omega) 60 0 N ⟨0, false, false, List.replicate k (pad 32), []⟩ ⟨List.replicate k (pad 32), [], [], -1, false⟩ _ (by omega) (by omega) ?_ (by kernel_rfl)
      exact ⟨okD_mk (by simp) (by simp), by simp, by simp, rfl, rfl, rfl, rfl, fun e => by simp at e, fun _ => rfl⟩
    · rw [small h1]
      rfl
  · cases h40 : decide (n ≤ 4096)
    · have g40 := of_decide_eq_false h40
      have h1 : decide (n < 1) = false := decide_eq_false (by omega)
      have h4 : decide (n > 4096) = true := decide_eq_true (by omega)
      rw [big h1 h4, h1, h4]
      rfl
    · rfl
def o8 : Over := fun vs os => match vs, os with
  | [.int .i64 n, .sl 30 false l], [] => .ask (l.all inR) (.ret (.bool true, []))
  | _, _ => .fail
theorem p8 : OverOk Try.prog 8 o8 := OverOk.of F7_ok tb_ok ok8 fun vs os r h => by
  unfold o8 at h
  split at h
  · rename_i n l
    obtain ⟨hl, h⟩ := Q.val_ask h
    exact ⟨100, (e8 100 (Nat.le_refl _) n l hl).trans h⟩
  · cases h
end Go.AM.Ytpdifkaeiecdpaa
namespace Go.AM
open Go.RowKit Go.Lib
section
variable [Reg] {P : Program} {n t : Nat} {x : AV}
theorem wtv_one {c : AV} (hna : ∀ l, x ≠ .agg l) (hx : x.cells = [c]) : x = c := by
  cases x <;> first | exact absurd rfl (hna _) | exact (List.cons.inj hx).1
theorem wtv_na {d : TypeDesc} (hu : P.underlying t = some d) (hd : ∀ fs, d ≠ .struct fs) (h : WtV P n t x) : ∀ l, x ≠ .agg l := fun l e => by
  obtain ⟨fs, hf⟩ := h.2.1 ⟨l, e⟩
  rw [hu] at hf
  exact hd fs (Option.some.inj hf)
theorem wtv_sl {e : Nat} (hu : P.underlying t = some (.slice e)) (h : WtV P (n + 1) t x) : ∃ xs : List (R e), x = .sl e false xs ∧ xs.length * P.bytesOf e ≤ reachBytes ∧ ∀ y ∈ xs, Wt P n e (cel e y) := by
  have hna := wtv_na hu (fun fs e => by cases e) h
  obtain ⟨h1, _⟩ := h
  unfold Wt at h1
  rw [hu] at h1
  obtain ⟨xs, hx, h3⟩ := h1
  exact ⟨xs, wtv_one hna hx, h3⟩
theorem wtv_int {k : IntKind} (hu : P.underlying t = some (.int k)) (h : WtV P (n + 1) t x) : ∃ m : Int, x = .int k m ∧ (Lit.int k m).wf = true := by
  have hna := wtv_na hu (fun fs e => by cases e) h
  obtain ⟨h1, _⟩ := h
  unfold Wt at h1
  rw [hu] at h1
  obtain ⟨m, hx, h3⟩ := h1
  exact ⟨m, wtv_one hna hx, h3⟩
theorem wtv_str (hu : P.underlying t = some .string) (h : WtV P (n + 1) t x) : ∃ l : List UInt8, x = .str l ∧ l.length ≤ reachBytes := by
  have hna := wtv_na hu (fun fs e => by cases e) h
  obtain ⟨h1, _⟩ := h
  unfold Wt at h1
  rw [hu] at h1
  obtain ⟨m, hx, h3⟩ := h1
  exact ⟨m, wtv_one hna hx, h3⟩
theorem wtv_bool (hu : P.underlying t = some .bool) (h : WtV P (n + 1) t x) : ∃ b : Bool, x = .bool b := by
  have hna := wtv_na hu (fun fs e => by cases e) h
  obtain ⟨h1, _⟩ := h
  unfold Wt at h1
  rw [hu] at h1
  obtain ⟨m, hx⟩ := h1
  exact ⟨m, wtv_one hna hx⟩
omit [Reg] in
theorem wt_int {m : Int} (h : (Lit.int .i64 m).wf = true) : -9223372036854775808 ≤ m ∧ m < 9223372036854775808 := by
  simp [Lit.wf, IntKind.min, IntKind.max, IntKind.bits, IntKind.signed] at h
  omega
end
end Go.AM
