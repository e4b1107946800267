/- A part of the proof: machine and program. -/
import Derived.Test.YtpdifkaeiecdpaaAm19
set_option linter.unusedVariables false
set_option maxRecDepth 100000
namespace Go.AM.Ytpdifkaeiecdpaa
open Go.AM Go.Proofs Go
def kindM (x : T30) : Int := IntKind.i64.wrap ((IntKind.u64.wrap x.kind).tmod 7)
def o17 : Over := fun vs os => match vs, os with | [.agg [.int .i64 k, .int .i64 a, .int .i64 n, .str s, .sl 4 false ks]], [] => .ret (.int .i64 (kindM ⟨k, a, n, s, ks⟩), []) | _, _ => .fail
def F2 : Fns := tabF [(10, o10), (12, o12), (13, o13), (14, o14), (15, o15), (16, o16), (19, o19), (20, o20), (21, o21), (17, o17)]
theorem t11 : evFn F2 tb fx11 0 [] [] = some (.bool true, []) := by kernel_rfl
def o11 : Over := fun vs os => match vs, os with | [], [] => .ret (.bool true, []) | _, _ => .fail
def F3 : Fns := tabF [(10, o10), (12, o12), (13, o13), (14, o14), (15, o15), (16, o16), (19, o19), (20, o20), (21, o21), (17, o17), (11, o11)]
theorem t7 (N : Nat) (l : List T30) : evFn F3 tb fx7 N [.sl 30 false l] [] =
  loopF F3 tb fx7 0 N (contF F3 tb fx7 N 0 0) N { nt := 117, t := [(0, AV.sl 30 false l), (2, AV.bool false), (3, AV.ptr 1180224 0), (4, AV.ptr 1196608 0), (5, AV.int IntKind.i64 0), (18, AV.bool false)], h := [(1180224, Ob.box [AV.int IntKind.i64 (newM (Int.toNat 5)).l, AV.bool (newM (Int.toNat 5)).a, AV.bool (newM (Int.toNat 5)).d, AV.vw 1180355 9, AV.vw 1180356 77]), (1180355, Ob.row 9 (newM (Int.toNat 5)).f), (1180356, Ob.row 77 (newM (Int.toNat 5)).p), (1196608, Ob.box [AV.int IntKind.i64 (newM (Int.toNat 5)).l, AV.bool (newM (Int.toNat 5)).a, AV.bool (newM (Int.toNat 5)).d, AV.vw 1196739 9, AV.vw 1196740 77]), (1196739, Ob.row 9 (newM (Int.toNat 5)).f), (1196740, Ob.row 77 (newM (Int.toNat 5)).p)], u := [1196608, 1196739, 1196740, 1180224, 1180355, 1180356] : St } := by kernel_rfl
def s7 (k : Int) (l : List T30) (x y : Dk) : St := ⟨117, [(0, .sl 30 false l), (2, .bool false), (3, .ptr 100000 0), (4, .ptr 100001 0), (5, .int .i64 k), (18, .bool false)], [(100000, .box [.int .i64 x.l, .bool x.a, .bool x.d, .vw 100002 9, .vw 100003 77]), (100001, .box [.int .i64 y.l, .bool y.a, .bool y.d, .vw 100004 9, .vw 100005 77]), (100002, .row 9 x.f), (100003, .row 77 x.p), (100004, .row 9 y.f), (100005, .row 77 y.p)], [100000, 100001, 100002, 100003, 100004, 100005]⟩
theorem b7 (N : Nat) (k : Int) (l : List T30) (x : Dk) (KN : St → Option Ret) : bodyF F3 tb fx7 N 0 (s7 k l x x) (brk (contF F3 tb fx7 N 0 0) KN) =
  bif decide (k < ((l.length : Nat) : Int)) then bif decide (k < 40) then bif decide (0 ≤ k) then getO l[k.toNat]? fun x_1 => bif decide (((x_1.keep.length : Nat) : Int) > 100) then some (AV.bool true, []) else bif kindM x_1 == 3 then bif okD x then bif okD x then bif (flushM x).fst != (flushM x).fst then some (AV.bool false, []) else bif decide ((flushM x).snd.p.length < 4611686018427387904) then bif decide ((flushM x).snd.p.length < 4611686018427387904) then bif !(readM (flushM x).snd x_1.at_).fst == (readM (flushM x).snd x_1.at_).fst then some (AV.bool false, []) else bif (readM (flushM x).snd x_1.at_).snd != (readM (flushM x).snd x_1.at_).snd then some (AV.bool false, []) else bif (((flushM x).snd.p.length : Nat) : Int) != (((flushM x).snd.p.length : Nat) : Int) then some (AV.bool false, []) else bif !(flushM x).snd.d == (flushM x).snd.d then some (AV.bool false, []) else KN { nt := 117, t := [(0, AV.sl 30 false l), (2, AV.bool false), (3, AV.ptr 100000 0), (4, AV.ptr 100001 0), (5, AV.int IntKind.i64 (IntKind.i64.wrap (k + 1))), (6, AV.ptr 1098304 0), (7, AV.str (readM (flushM x).snd x_1.at_).fst), (8, AV.int IntKind.i64 (readM (flushM x).snd x_1.at_).snd), (9, AV.str (readM (flushM x).snd x_1.at_).fst), (10, AV.int IntKind.i64 (readM (flushM x).snd x_1.at_).snd), (18, AV.bool false), (26, AV.bool (decide (k < 40))), (36, AV.bool (decide (((x_1.keep.length : Nat) : Int) > 100))), (39, AV.int IntKind.i64 (kindM x_1)), (53, AV.bool (kindM x_1 == 3)), (59, AV.bool ((flushM x).fst != (flushM x).fst)), (115, AV.bool !(flushM x).snd.d == (flushM x).snd.d)], h := [(100000, Ob.box [AV.int IntKind.i64 (flushM x).snd.l, AV.bool (flushM x).snd.a, AV.bool (flushM x).snd.d, AV.vw 2818755 9, AV.vw 2818756 77]), (100001, Ob.box [AV.int IntKind.i64 (flushM x).snd.l, AV.bool (flushM x).snd.a, AV.bool (flushM x).snd.d, AV.vw 2851523 9, AV.vw 2851524 77]), (1098304, Ob.box [AV.int IntKind.i64 x_1.kind, AV.int IntKind.i64 x_1.at_, AV.int IntKind.i64 x_1.n, AV.str x_1.data, AV.sl 4 false x_1.keep]), (2818755, Ob.row 9 (flushM x).snd.f), (2818756, Ob.row 77 (flushM x).snd.p), (2851523, Ob.row 9 (flushM x).snd.f), (2851524, Ob.row 77 (flushM x).snd.p)], u := [2851523, 2851524, 2818755, 2818756, 2736835, 2736836, 2704067, 2704068, 2491075, 2491076, 2376387, 2376388, 1950403, 1950404, 1917635, 1917636, 1098304, 100000, 100001, 100002, 100003, 100004, 100005] : St } else none else none else none else none else bif kindM x_1 == 5 then bif decide ((armM x x_1.n).p.length < 4611686018427387904) then bif decide ((armM x x_1.n).p.length < 4611686018427387904) then bif !(readM (armM x x_1.n) x_1.at_).fst == (readM (armM x x_1.n) x_1.at_).fst then some (AV.bool false, []) else bif (readM (armM x x_1.n) x_1.at_).snd != (readM (armM x x_1.n) x_1.at_).snd then some (AV.bool false, []) else bif (((armM x x_1.n).p.length : Nat) : Int) != (((armM x x_1.n).p.length : Nat) : Int) then some (AV.bool false, []) else bif !(armM x x_1.n).d == (armM x x_1.n).d then some (AV.bool false, []) else KN { nt := 117, t := [(0, AV.sl 30 false l), (2, AV.bool false), (3, AV.ptr 100000 0), (4, AV.ptr 100001 0), (5, AV.int IntKind.i64 (IntKind.i64.wrap (k + 1))), (6, AV.ptr 1098304 0), (7, AV.str (readM (armM x x_1.n) x_1.at_).fst), (8, AV.int IntKind.i64 (readM (armM x x_1.n) x_1.at_).snd), (9, AV.str (readM (armM x x_1.n) x_1.at_).fst), (10, AV.int IntKind.i64 (readM (armM x x_1.n) x_1.at_).snd), (18, AV.bool false), (26, AV.bool (decide (k < 40))), (36, AV.bool (decide (((x_1.keep.length : Nat) : Int) > 100))), (39, AV.int IntKind.i64 (kindM x_1)), (53, AV.bool (kindM x_1 == 3)), (60, AV.bool (kindM x_1 == 5)), (115, AV.bool !(armM x x_1.n).d == (armM x x_1.n).d)], h := [(100000, Ob.box [AV.int IntKind.i64 (armM x x_1.n).l, AV.bool (armM x x_1.n).a, AV.bool (armM x x_1.n).d, AV.vw 2818755 9, AV.vw 2818756 77]), (100001, Ob.box [AV.int IntKind.i64 (armM x x_1.n).l, AV.bool (armM x x_1.n).a, AV.bool (armM x x_1.n).d, AV.vw 2851523 9, AV.vw 2851524 77]), (1098304, Ob.box [AV.int IntKind.i64 x_1.kind, AV.int IntKind.i64 x_1.at_, AV.int IntKind.i64 x_1.n, AV.str x_1.data, AV.sl 4 false x_1.keep]), (2818755, Ob.row 9 (armM x x_1.n).f), (2818756, Ob.row 77 (armM x x_1.n).p), (2851523, Ob.row 9 (armM x x_1.n).f), (2851524, Ob.row 77 (armM x x_1.n).p)], u := [2851523, 2851524, 2818755, 2818756, 2736835, 2736836, 2704067, 2704068, 2491075, 2491076, 2376387, 2376388, 2130627, 2130628, 2065091, 2065092, 1098304, 100000, 100001, 100002, 100003, 100004, 100005] : St } else none else none else bif kindM x_1 == 6 then bif okD x then bif okD x then bif !(readM (crashM x x_1.keep) x_1.at_).fst == (readM (crashM x x_1.keep) x_1.at_).fst then some (AV.bool false, []) else bif (readM (crashM x x_1.keep) x_1.at_).snd != (readM (crashM x x_1.keep) x_1.at_).snd then some (AV.bool false, []) else KN { nt := 117, t := [(0, AV.sl 30 false l), (2, AV.bool false), (3, AV.ptr 100000 0), (4, AV.ptr 100001 0), (5, AV.int IntKind.i64 (IntKind.i64.wrap (k + 1))), (6, AV.ptr 1098304 0), (7, AV.str (readM (crashM x x_1.keep) x_1.at_).fst), (8, AV.int IntKind.i64 (readM (crashM x x_1.keep) x_1.at_).snd), (9, AV.str (readM (crashM x x_1.keep) x_1.at_).fst), (10, AV.int IntKind.i64 (readM (crashM x x_1.keep) x_1.at_).snd), (18, AV.bool false), (26, AV.bool (decide (k < 40))), (36, AV.bool (decide (((x_1.keep.length : Nat) : Int) > 100))), (39, AV.int IntKind.i64 (kindM x_1)), (53, AV.bool (kindM x_1 == 3)), (60, AV.bool (kindM x_1 == 5)), (70, AV.bool (kindM x_1 == 6)), (115, AV.bool !(crashM x x_1.keep).d == (crashM x x_1.keep).d)], h := [(100000, Ob.box [AV.int IntKind.i64 (crashM x x_1.keep).l, AV.bool (crashM x x_1.keep).a, AV.bool (crashM x x_1.keep).d, AV.vw 2818755 9, AV.vw 2818756 77]), (100001, Ob.box [AV.int IntKind.i64 (crashM x x_1.keep).l, AV.bool (crashM x x_1.keep).a, AV.bool (crashM x x_1.keep).d, AV.vw 2851523 9, AV.vw 2851524 77]), (1098304, Ob.box [AV.int IntKind.i64 x_1.kind, AV.int IntKind.i64 x_1.at_, AV.int IntKind.i64 x_1.n, AV.str x_1.data, AV.sl 4 false x_1.keep]), (2818755, Ob.row 9 (crashM x x_1.keep).f), (2818756, Ob.row 77 (crashM x x_1.keep).p), (2851523, Ob.row 9 (crashM x x_1.keep).f), (2851524, Ob.row 77 (crashM x x_1.keep).p)], u := [2851523, 2851524, 2818755, 2818756, 2736835, 2736836, 2704067, 2704068, 2491075, 2491076, 2376387, 2376388, 2294467, 2294468, 2228931, 2228932, 1098304, 100000, 100001, 100002, 100003, 100004, 100005] : St } else none else none else bif decide (x.p.length < 1000000) then bif decide (x.p.length < 1000000) then bif (writeM x x_1.at_ x_1.data).fst != (writeM x x_1.at_ x_1.data).fst then some (AV.bool false, []) else bif decide ((writeM x x_1.at_ x_1.data).snd.p.length < 4611686018427387904) then bif decide ((writeM x x_1.at_ x_1.data).snd.p.length < 4611686018427387904) then bif !(readM (writeM x x_1.at_ x_1.data).snd x_1.at_).fst == (readM (writeM x x_1.at_ x_1.data).snd x_1.at_).fst then some (AV.bool false, []) else bif (readM (writeM x x_1.at_ x_1.data).snd x_1.at_).snd != (readM (writeM x x_1.at_ x_1.data).snd x_1.at_).snd then some (AV.bool false, []) else bif (((writeM x x_1.at_ x_1.data).snd.p.length : Nat) : Int) != (((writeM x x_1.at_ x_1.data).snd.p.length : Nat) : Int) then some (AV.bool false, []) else bif !(writeM x x_1.at_ x_1.data).snd.d == (writeM x x_1.at_ x_1.data).snd.d then some (AV.bool false, []) else KN { nt := 117, t := [(0, AV.sl 30 false l), (2, AV.bool false), (3, AV.ptr 100000 0), (4, AV.ptr 100001 0), (5, AV.int IntKind.i64 (IntKind.i64.wrap (k + 1))), (6, AV.ptr 1098304 0), (7, AV.str (readM (writeM x x_1.at_ x_1.data).snd x_1.at_).fst), (8, AV.int IntKind.i64 (readM (writeM x x_1.at_ x_1.data).snd x_1.at_).snd), (9, AV.str (readM (writeM x x_1.at_ x_1.data).snd x_1.at_).fst), (10, AV.int IntKind.i64 (readM (writeM x x_1.at_ x_1.data).snd x_1.at_).snd), (18, AV.bool false), (26, AV.bool (decide (k < 40))), (36, AV.bool (decide (((x_1.keep.length : Nat) : Int) > 100))), (39, AV.int IntKind.i64 (kindM x_1)), (52, AV.bool ((writeM x x_1.at_ x_1.data).fst != (writeM x x_1.at_ x_1.data).fst)), (53, AV.bool (kindM x_1 == 3)), (60, AV.bool (kindM x_1 == 5)), (70, AV.bool (kindM x_1 == 6)), (115, AV.bool !(writeM x x_1.at_ x_1.data).snd.d == (writeM x x_1.at_ x_1.data).snd.d)], h := [(100000, Ob.box [AV.int IntKind.i64 (writeM x x_1.at_ x_1.data).snd.l, AV.bool (writeM x x_1.at_ x_1.data).snd.a, AV.bool (writeM x x_1.at_ x_1.data).snd.d, AV.vw 2818755 9, AV.vw 2818756 77]), (100001, Ob.box [AV.int IntKind.i64 (writeM x x_1.at_ x_1.data).snd.l, AV.bool (writeM x x_1.at_ x_1.data).snd.a, AV.bool (writeM x x_1.at_ x_1.data).snd.d, AV.vw 2851523 9, AV.vw 2851524 77]), (1098304, Ob.box [AV.int IntKind.i64 x_1.kind, AV.int IntKind.i64 x_1.at_, AV.int IntKind.i64 x_1.n, AV.str x_1.data, AV.sl 4 false x_1.keep]), (2818755, Ob.row 9 (writeM x x_1.at_ x_1.data).snd.f), (2818756, Ob.row 77 (writeM x x_1.at_ x_1.data).snd.p), (2851523, Ob.row 9 (writeM x x_1.at_ x_1.data).snd.f), (2851524, Ob.row 77 (writeM x x_1.at_ x_1.data).snd.p)], u := [2851523, 2851524, 2818755, 2818756, 2736835, 2736836, 2704067, 2704068, 2491075, 2491076, 2376387, 2376388, 1835715, 1835716, 1737411, 1737412, 1098304, 100000, 100001, 100002, 100003, 100004, 100005] : St } else none else none else none else none else none else some (AV.bool true, []) else some (AV.bool true, []) := by kernel_rfl
end Go.AM.Ytpdifkaeiecdpaa
set_option linter.unusedVariables false
set_option maxRecDepth 100000
namespace Go.AM.Ytpdifkaeiecdpaa
open Go.AM Go.Proofs Go
theorem okD_mk {x : Dk} (h1 : ∀ y ∈ x.p, 0 ≤ y.at_ ∧ y.at_ < (x.f.length : Int)) (h2 : x.p.length < 1000000) : okD x = true := by
  simp only [okD, Bool.and_eq_true, List.all_eq_true, decide_eq_true_eq]
  exact ⟨h1, h2⟩
theorem okD_flush {x : Dk} {k : Nat} (h : okD x = true) (hk : x.p.length ≤ k) : okD (flushM x).2 = true ∧ (flushM x).2.p.length ≤ k := by
  unfold flushM
  cases x.d
  · cases x.a && decide (x.l = 0)
    · exact ⟨okD_mk (by simp) (by simp), by simp⟩
    · exact ⟨h, hk⟩
  · exact ⟨h, hk⟩
theorem okD_write {x : Dk} {k : Nat} (i : Int) (s : List UInt8) (h : okD x = true) (hk : x.p.length ≤ k) (hb : k < 999999) : okD (writeM x i s).2 = true ∧ (writeM x i s).2.p.length ≤ k + 1 := by
  unfold writeM
  cases x.d
  · cases h1 : decide (i < 0)
    · cases h2 : decide (i ≥ ((x.f.length : Nat) : Int))
      · cases decide (((s.length : Nat) : Int) > 32)
        · cases x.a && decide (x.l = 0)
          · have h1 := of_decide_eq_false h1
            have h2 := of_decide_eq_false h2
            obtain ⟨g1, g2⟩ := okD_spec h
            simp only [cond_false]
            refine ⟨okD_mk (fun y hy => ?_) (by simp; omega), by simp; omega⟩
            simp only [List.mem_append, List.mem_singleton] at hy
            rcases hy with hy | rfl
            · exact g1 y hy
            · exact ⟨by simp only; omega, by simp only; omega⟩
          · exact ⟨h, by simp only [cond_false, cond_true]; omega⟩
        · exact ⟨h, by simp only [cond_false, cond_true]; omega⟩
      · exact ⟨h, by simp only [cond_false, cond_true]; omega⟩
    · exact ⟨h, by simp only [cond_false, cond_true]; omega⟩
  · exact ⟨h, by simp only [cond_true]; omega⟩
theorem l7 (N : Nat) (l : List T30) : ∀ (r k m : Nat) (x : Dk) (st : St), k + r = 40 → r < m → okD x = true → x.p.length ≤ k → st.clean (fx7.deadAt (loopAt fx7 0)) = s7 k l x x →
    loopF F3 tb fx7 0 N (contF F3 tb fx7 N 0 0) m st = some (.bool true, []) := by
  intro r
  induction r with
  | zero =>
    intro k m x st hk hm ho hp hst
    obtain ⟨m, rfl⟩ : ∃ m', m = m' + 1 := ⟨m - 1, by omega⟩
    rw [loopF_succ, hst, b7, decide_eq_false (show ¬ ((k : Int) < 40) by omega)]
    cases decide ((k : Int) < ((l.length : Nat) : Int)) <;> rfl
  | succ r ih =>
    intro k m x st hk hm ho hp hst
    obtain ⟨m, rfl⟩ : ∃ m', m = m' + 1 := ⟨m - 1, by omega⟩
    rw [loopF_succ, hst, b7]
    cases hl : decide ((k : Int) < ((l.length : Nat) : Int))
    · rfl
    · have hl := of_decide_eq_true hl
      rw [decide_eq_true (show (k : Int) < 40 by omega), decide_eq_true (show 0 ≤ (k : Int) by omega)]
      have hx := List.getElem?_eq_getElem (show k < l.length by omega)
      generalize l[k] = y at hx
      simp only [cond_true, Int.toNat_natCast, hx, getO, ho, bne_self_eq_false, beq_self_eq_true, Bool.not_true, cond_false]
      rw [wrap_id (show -9223372036854775808 ≤ (k : Int) + 1 by omega) (by omega)]
      cases hkp : decide (((y.keep.length : Nat) : Int) > 100)
      · simp only [cond_false]
        cases k3 : kindM y == 3
        · simp only [cond_false]
          cases k5 : kindM y == 5
          · simp only [cond_false]
            cases k6 : kindM y == 6
            · simp only [cond_false]
              obtain ⟨g1, g2⟩ := okD_write y.at_ y.data ho hp (by omega)
              have := (okD_spec ho).2
              rw [decide_eq_true (show x.p.length < 1000000 by omega), decide_eq_true (show (writeM x y.at_ y.data).2.p.length < 4611686018427387904 by omega)]
              simp only [cond_true]
              exact ih (k + 1) m _ _ (by omega) (by omega) g1 g2 (by kernel_rfl)
            · simp only [cond_true]
              exact ih (k + 1) m (crashM x y.keep) _ (by omega) (by omega) (okD_mk (by simp [crashM]) (by simp [crashM])) (by simp [crashM]) (by kernel_rfl)
          · simp only [cond_true]
            have := (okD_spec ho).2
            rw [decide_eq_true (show (armM x y.n).p.length < 4611686018427387904 by simp only [armM]; omega)]
            simp only [cond_true]
            exact ih (k + 1) m (armM x y.n) _ (by omega) (by omega) (okD_mk (okD_spec ho).1 (okD_spec ho).2) (by simp only [armM]; omega) (by kernel_rfl)
        · simp only [cond_true]
          obtain ⟨g1, g2⟩ := okD_flush ho hp
          rw [decide_eq_true (show (flushM x).2.p.length < 4611686018427387904 by omega)]
          simp only [cond_true]
          exact ih (k + 1) m _ _ (by omega) (by omega) g1 (by omega) (by kernel_rfl)
      · rfl
theorem e7 (l : List T30) : evFn F3 tb fx7 41 [.sl 30 false l] [] = some (.bool true, []) :=
  (t7 41 l).trans (l7 41 l 40 0 41 (newM 5) _ rfl (by omega) (by kernel_rfl) (Nat.le_refl 0) (by kernel_rfl))
def o7 : Over := fun vs os => match vs, os with
  | [.sl 30 false l], [] => .ret (.bool true, [])
  | _, _ => .fail
theorem p17 (h33 : OverOk Try.prog 33 o33) : OverOk Try.prog 17 o17 := OverOk.of (F1_ok h33) tb_ok ok17 fun vs os r h => by
  unfold o17 at h
  split at h
  · rename_i k a n s ks
    exact ⟨0, (t17 ⟨k, a, n, s, ks⟩).trans h⟩
  · cases h
theorem F2_ok (h33 : OverOk Try.prog 33 o33) : SoundF Try.prog F2 := SoundF.tab (by
  intro p hp
  simp only [List.mem_cons, List.not_mem_nil, or_false] at hp
  rcases hp with rfl | rfl | rfl | rfl | rfl | rfl | rfl | rfl | rfl | rfl
  · exact p10 h33
  · exact p12 h33
  · exact p13 h33
  · exact p14 h33
  · exact p15 h33
  · exact p16 h33
  · exact p19 h33
  · exact p20
  · exact p21 h33
  · exact p17 h33)
theorem p11 (h33 : OverOk Try.prog 33 o33) : OverOk Try.prog 11 o11 := OverOk.of (F2_ok h33) tb_ok ok11 fun vs os r h => by
  unfold o11 at h
  split at h
  · exact ⟨0, t11.trans h⟩
  · cases h
theorem F3_ok (h33 : OverOk Try.prog 33 o33) : SoundF Try.prog F3 := SoundF.tab (by
  intro p hp
  simp only [List.mem_cons, List.not_mem_nil, or_false] at hp
  rcases hp with rfl | rfl | rfl | rfl | rfl | rfl | rfl | rfl | rfl | rfl | rfl
  · exact p10 h33
  · exact p12 h33
  · exact p13 h33
  · exact p14 h33
  · exact p15 h33
  · exact p16 h33
  · exact p19 h33
  · exact p20
  · exact p21 h33
  · exact p17 h33
  · exact p11 h33)
theorem p7 (h33 : OverOk Try.prog 33 o33) : OverOk Try.prog 7 o7 := OverOk.of (F3_ok h33) tb_ok ok7 fun vs os r h => by
  unfold o7 at h
  split at h
  · rename_i l
    exact ⟨41, (e7 l).trans h⟩
  · cases h
end Go.AM.Ytpdifkaeiecdpaa
namespace Go.AM
open Go.RowKit Go.Lib
section
variable [Reg]
/-- What a value is. -/
inductive Sh where
  | int (k : IntKind)
  | bool
  | str
  | sl (e : Nat)
  | st (t : Nat)
  | fn (f : Nat)
abbrev Sh.den : Sh → Type
  | .int _ => Int
  | .bool => Bool
  | .str => List UInt8
  | .sl e => List (R e)
  | .st t => R t
  | .fn _ => Unit
def isAggV : AV → Bool
  | .agg _ => true
  | _ => false
def Sh.up : (s : Sh) → s.den → AV
  | .int k, n => .int k n
  | .bool, b => .bool b
  | .str, s => .str s
  | .sl e, xs => .sl e false xs
  | .st t, x => AM.up t x
  | .fn f, _ => .fn f []
def Sh.dn : (s : Sh) → AV → Option s.den
  | .int k, v => CK.dn (.int k) v
  | .bool, v => CK.dn .bool v
  | .str, v => CK.dn .str v
  | .sl e, v => CK.dn (.sl e) v
  | .st t, v => match Reg.ent t with | some e => bif isAggV v == e.agg then dnc t v.cells else none | none => none
  | .fn f, v => match v with | .fn g [] => if g = f then some () else none | _ => none
def HS : List Sh → Type
  | [] => Unit
  | s :: r => s.den × HS r
def upS : (ss : List Sh) → HS ss → List AV
  | [], _ => []
  | s :: r, x => s.up x.1 :: upS r x.2
def dnS : (ss : List Sh) → List AV → Option (HS ss)
  | [], [] => some ()
  | s :: r, v :: vs => match s.dn v, dnS r vs with | some x, some y => some (x, y) | _, _ => none
  | _, _ => none
/-- A result's values. -/
def dnR (rs : List Sh) (v : AV) : Option (HS rs) := match v with
  | .tup vs => bif Nat.beq vs.length 1 then none else dnS rs vs
  | v => dnS rs [v]
def outS (rs : List Sh) (v : AV) : Option (HS rs) := bif resOk v then dnR rs v else none
/-- A function of values. -/
def tyO (ps rs : List Sh) (g : HS ps → Q (HS rs)) : Over := fun vs os => match os with
  | [] => .get (dnS ps vs) fun x => (g x).bind fun y => .ret (tupOf (upS rs y), [])
  | _ => .fail
/-- Some arguments in the one form that they have. -/
def canA : List (Option Sh) → List AV → Option (List AV)
  | [], [] => some []
  | none :: r, v :: vs => (match canA r vs with | some l => some (v :: l) | none => none)
  | some s :: r, v :: vs => (match s.dn v, canA r vs with | some x, some l => some (s.up x :: l) | _, _ => none)
  | _, _ => none
def preO (ss : List (Option Sh)) (g : Over) : Over := fun vs os => .get (canA ss vs) fun vs' => g vs' os
/-- .. whose answer is as it stands. -/
def tyB (ps : List Sh) (g : HS ps → Q Ret) : Over := fun vs os => match os with
  | [] => .get (dnS ps vs) g
  | _ => .fail

section
variable {P : Program} {tb : Tb} {γ : Gh} {h : Heap} {u : List Nat} {w : World} {D : Dead} {bid rid : Nat → Nat}
theorem in0_dn {k : CK} {c : AV} {x : k.den Reg.T} (hx : k.dn c = some x) (rid : Nat) : k.dn (in0 bid rid c) = some x := by
  cases c <;> first | exact hx | (cases k <;> first | exact hx | (simp [CK.dn] at hx))
theorem inCs_dns : ∀ {ks : List CK} {cs : List AV} {x : HL Reg.T ks} (i : Nat), dns ks cs = some x → dns ks (inCs bid rid i cs) = some x
  | [], [], _, _, h => h
  | [], _ :: _, _, _, h => by cases h
  | k :: r, [], _, _, h => by cases h
  | k :: r, c :: cs, x, i, h => by
    unfold dns at h
    split at h
    · rename_i y z hy hz
      show dns (k :: r) (in0 bid (rid i) c :: inCs bid rid (i + 1) cs) = _
      unfold dns
      rw [in0_dn hy, inCs_dns (i + 1) hz]
      exact h
    · cases h
theorem inCs_dnc {t : Nat} {cs : List AV} {x : R t} (i : Nat) (h : dnc t cs = some x) : dnc t (inCs bid rid i cs) = some x := by
  unfold dnc at h ⊢
  split at h
  · rename_i e he
    split at h
    · rename_i y hy
      rw [inCs_dns i hy]
      exact h
    · cases h
  · cases h
theorem ck_rep {k : CK} {c : AV} {x : k.den Reg.T} (hx : k.dn c = some x) {v : Value} (hv : RepC γ h u w D c v) : RepD w D (k.up x) v := by
  have := (dns_rep (γ := γ) (h := h) (u := u) (w := w) (D := D) (ks := [k]) (cs := [c]) (x := (x, ())) (by unfold dns; rw [hx]; rfl)).2 0 c _ rfl rfl
  exact this.2 v hv
theorem ck_one {k : CK} {c : AV} {x : k.den Reg.T} (hx : k.dn c = some x) : c.cell1 = true :=
  ((dns_rep (γ := ⟨fun _ => (0, 0), fun _ => none⟩) (h := []) (u := []) (w := default) (D := fun _ _ => False) (ks := [k]) (cs := [c]) (x := (x, ())) (by unfold dns; rw [hx]; rfl)).2 0 c _ rfl rfl).1
theorem up_ent {t : Nat} {e : Ent Reg.T t} (he : Reg.ent t = some e) (x : R t) : up t x = ofCells e.agg (cel t x) := by
  unfold up cel
  rw [he]
theorem fn_dn {f : Nat} {a : AV} {x : Unit} (hx : (Sh.fn f).dn a = some x) : a = .fn f [] := by
  have key : (match a with | .fn g [] => if g = f then some () else none | _ => (none : Option Unit)) = some x := by cases a <;> first | exact hx | (rename_i g cs; cases cs <;> exact hx)
  split at key
  · rename_i g
    split at key
    · rename_i e; rw [e]
    · cases key
  · cases key
/-- One form of a value. -/
theorem sh_rep {s : Sh} {a : AV} {x : s.den} (hx : s.dn a = some x) {v : Value} (hv : RepB γ h u w D a v) : RepB γ h u w D (s.up x) v := by
  cases s with
  | st t =>
    unfold Sh.dn at hx
    simp only at hx
    split at hx
    · rename_i e he
      cases ha : isAggV a == e.agg with
      | false => rw [ha] at hx; cases hx
      | true =>
        rw [ha] at hx
        simp only [cond_true] at hx
        obtain ⟨h1, h2⟩ := dnc_rep (γ := γ) (h := h) (u := u) (w := w) (D := D) hx
        show RepB γ h u w D (AM.up t x) v
        rw [up_ent he]
        have ha := eq_of_beq ha
        cases hg : e.agg with
        | true =>
          rw [hg] at ha
          cases a <;> first | cases ha | skip
          rename_i cs
          obtain ⟨vs, e1, e2, e3⟩ := hv
          refine ⟨vs, e1, by rw [e2, cel_len]; exact h1, fun i c y hc hy => ?_⟩
          have hi : i < cs.length := by
            have h3 : cs.length = szR t := h1
            have := (List.getElem?_eq_some_iff.1 hc).1
            rw [cel_len] at this
            omega
          have := h2 i _ c (List.getElem?_eq_getElem hi) hc
          exact ⟨(this.2 y (e3 i _ y (List.getElem?_eq_getElem hi) hy).1).c, .inr (cel_one t x c (List.mem_of_getElem? hc))⟩
        | false =>
          rw [hg] at ha
          have hcells : a.cells = [a] := by cases a <;> first | rfl | cases ha
          rw [hcells] at h1 h2
          have hl := cel_len t x
          rw [← h1] at hl
          have hone : ∃ c, cel t x = [c] := by
            generalize cel t x = l at hl
            match l, hl with
            | [c], _ => exact ⟨c, rfl⟩
          obtain ⟨c, hc⟩ := hone
          rw [hc] at h2 ⊢
          obtain ⟨g1, g2⟩ := h2 0 a c rfl rfl
          exact (g2 v (hv.toC (.inr g1))).c.b
    · cases hx
  | int k => exact (ck_rep (k := .int k) hx (hv.toC (.inr (ck_one (k := .int k) hx)))).c.b
  | bool => exact (ck_rep (k := .bool) hx (hv.toC (.inr (ck_one (k := .bool) hx)))).c.b
  | str => exact (ck_rep (k := .str) hx (hv.toC (.inr (ck_one (k := .str) hx)))).c.b
  | sl e => exact (ck_rep (k := .sl e) hx (hv.toC (.inr (ck_one (k := .sl e) hx)))).c.b
  | fn f => show RepB γ h u w D (.fn f []) v; rw [← fn_dn hx]; exact hv
theorem dns_rows {rid : Nat → Nat} : ∀ {ks : List CK} {cs : List AV} {x : HL Reg.T ks} (i : Nat), dns ks cs = some x → rowsCs rid i cs = []
  | [], [], _, _, _ => rfl
  | [], _ :: _, _, _, h => by cases h
  | k :: r, [], _, _, h => by cases h
  | k :: r, c :: cs, x, i, h => by
    unfold dns at h
    split at h
    · rename_i y z hy hz
      have ih := dns_rows (rid := rid) (i + 1) hz
      cases c <;> first | exact ih | (cases k <;> (simp [CK.dn] at hy))
    · cases h
theorem dnc_rows {rid : Nat → Nat} {t : Nat} {cs : List AV} {x : R t} (i : Nat) (h : dnc t cs = some x) : rowsCs rid i cs = [] := by
  unfold dnc at h
  split at h
  · split at h
    · rename_i y hy
      exact dns_rows i hy
    · cases h
  · cases h
theorem ck_rows {rid : Nat → Nat} {k : CK} {c : AV} {x : k.den Reg.T} (i : Nat) (h : k.dn c = some x) : rowsCs rid i [c] = [] :=
  dns_rows (ks := [k]) (x := (x, ())) i (by unfold dns; rw [h]; rfl)
theorem ck_cells {k : CK} {c : AV} {x : k.den Reg.T} (h : k.dn c = some x) : c.cells = [c] := by
  cases c <;> first | rfl | (cases k <;> (simp [CK.dn] at h))
theorem sh_rows {rid : Nat → Nat} {s : Sh} {a : AV} {x : s.den} (hx : s.dn a = some x) : rowsCs rid 0 a.cells = [] := by
  have key : ∀ {k : CK} {x : k.den Reg.T}, k.dn a = some x → rowsCs rid 0 a.cells = [] := fun {k x} h => by rw [ck_cells h]; exact ck_rows 0 h
  cases s with
  | st t =>
    unfold Sh.dn at hx
    simp only at hx
    split at hx
    · rename_i e he
      generalize (isAggV a == e.agg) = b at hx
      cases b
      · cases hx
      · exact dnc_rows 0 hx
    · cases hx
  | int k => exact key (k := .int k) hx
  | bool => exact key (k := .bool) hx
  | str => exact key (k := .str) hx
  | sl e => exact key (k := .sl e) hx
  | fn f => rw [fn_dn hx]; rfl
theorem inV_dn {s : Sh} {a : AV} {x : s.den} (hx : s.dn a = some x) : s.dn (inV bid (fun i => rid i) a) = some x := by
  have key : ∀ {k : CK} {x : k.den Reg.T}, k.dn a = some x → k.dn (inV bid rid a) = some x := fun {k x} h => by
    have h2 := in0_dn (bid := bid) h (rid 0)
    cases a <;> first | exact h2 | (cases k <;> (simp [CK.dn] at h))
  cases s with
  | st t =>
    unfold Sh.dn at hx ⊢
    simp only at hx ⊢
    split at hx
    · rename_i e he
      have ha : isAggV (inV bid rid a) = isAggV a := by cases a <;> rfl
      rw [ha]
      generalize (isAggV a == e.agg) = b at hx
      cases b
      · cases hx
      · simp only [cond_true] at hx ⊢
        have : (inV bid rid a).cells = inCs bid rid 0 a.cells := by cases a <;> rfl
        rw [this]
        exact inCs_dnc 0 hx
    · cases hx
  | int k => exact key (k := .int k) hx
  | bool => exact key (k := .bool) hx
  | str => exact key (k := .str) hx
  | sl e => exact key (k := .sl e) hx
  | fn f => rw [fn_dn hx]; exact if_pos rfl
theorem in0_up (rid : Nat) (k : CK) (x : k.den Reg.T) : in0 bid rid (k.up x) = k.up x := by cases k <;> rfl
theorem inCs_ups : ∀ (ks : List CK) (x : HL Reg.T ks) (i : Nat), inCs bid rid i (ups ks x) = ups ks x
  | [], _, _ => rfl
  | k :: r, x, i => by
    show in0 bid (rid i) (k.up x.1) :: inCs bid rid (i + 1) (ups r x.2) = _
    rw [in0_up, inCs_ups r x.2 (i + 1)]
    rfl
theorem inV_up {s : Sh} {a : AV} {x : s.den} (hx : s.dn a = some x) : inV bid rid (s.up x) = s.up x := by
  cases s with
  | st t =>
    unfold Sh.dn at hx
    simp only at hx
    split at hx
    · rename_i e he
      show inV bid rid (AM.up t x) = AM.up t x
      rw [up_ent he]
      have hcel : cel t x = ups e.ks (e.to x) := by unfold cel; rw [he]
      cases hg : e.agg with
      | true =>
        show AV.agg (inCs bid rid 0 (cel t x)) = AV.agg (cel t x)
        rw [hcel, inCs_ups]
      | false =>
        rw [hcel]
        generalize e.ks = ks, e.to x = y
        match ks, y with
        | [], y => rfl
        | [k], y =>
          show inV bid rid (k.up y.1) = k.up y.1
          cases k <;> rfl
        | _ :: _ :: _, y => rfl
    · cases hx
  | int k => rfl
  | bool => rfl
  | str => rfl
  | sl e => rfl
  | fn f => rfl
theorem dnS_get : ∀ {ss : List Sh} {vs : List AV} {x : HS ss}, dnS ss vs = some x → vs.length = (upS ss x).length ∧ ∀ (i : Nat) (a b : AV), vs[i]? = some a → (upS ss x)[i]? = some b → ∃ (s : Sh) (y : s.den), s.dn a = some y ∧ b = s.up y
  | [], [], _, _ => ⟨rfl, fun i a b h => by simp at h⟩
  | [], _ :: _, _, h => by cases h
  | s :: r, [], _, h => by cases h
  | s :: r, v :: vs, x, h => by
    unfold dnS at h
    split at h
    · rename_i y z hy hz
      cases h
      obtain ⟨h1, h2⟩ := dnS_get hz
      refine ⟨by simp [upS, h1], fun i a b ha hb => ?_⟩
      cases i with
      | zero =>
        simp only [List.getElem?_cons_zero, Option.some.injEq] at ha
        simp only [upS, List.getElem?_cons_zero, Option.some.injEq] at hb
        subst ha
        subst hb
        exact ⟨s, y, hy, rfl⟩
      | succ i => exact h2 i a b (by simpa using ha) (by simpa [upS] using hb)
    · cases h
theorem dnS_rows {rid : Nat → Nat → Nat} : ∀ {ss : List Sh} {vs : List AV} {x : HS ss} (j : Nat), dnS ss vs = some x → rowsVs rid j vs = []
  | [], [], _, _, _ => rfl
  | [], _ :: _, _, _, h => by cases h
  | s :: r, [], _, _, h => by cases h
  | s :: r, v :: vs, x, j, h => by
    unfold dnS at h
    split at h
    · rename_i y z hy hz
      show rowsCs (rid j) 0 v.cells ++ rowsVs rid (j + 1) vs = []
      rw [sh_rows hy, dnS_rows (j + 1) hz]
      rfl
    · cases h
theorem sh_up_dn {s : Sh} {a : AV} {x : s.den} (hx : s.dn a = some x) : rowsCs (fun _ => 0) 0 (s.up x).cells = [] ∧ ∀ rid : Nat → Nat, rowsCs rid 0 (s.up x).cells = [] := by
  have key : ∀ (rid : Nat → Nat) (ks : List CK) (x : HL Reg.T ks) (i : Nat), rowsCs rid i (ups ks x) = [] := fun rid ks => by
    induction ks with
    | nil => intro _ _; rfl
    | cons k r ih =>
      intro x i
      have := ih x.2 (i + 1)
      cases k <;> exact this
  have all : ∀ rid : Nat → Nat, rowsCs rid 0 (s.up x).cells = [] := fun rid => by
    cases s with
    | st t =>
      unfold Sh.dn at hx
      simp only at hx
      split at hx
      · rename_i e he
        show rowsCs rid 0 (AM.up t x).cells = []
        rw [up_ent he]
        have hcel : cel t x = ups e.ks (e.to x) := by unfold cel; rw [he]
        cases hg : e.agg with
        | true =>
          show rowsCs rid 0 (cel t x) = []
          rw [hcel]
          exact key _ _ _ _
        | false =>
          rw [hcel]
          generalize e.ks = ks, e.to x = y
          match ks, y with
          | [], y => rfl
          | [k], y => cases k <;> rfl
          | _ :: _ :: _, y => rfl
      · cases hx
    | int k => rfl
    | bool => rfl
    | str => rfl
    | sl e => rfl
    | fn f => rfl
  exact ⟨all _, all⟩
theorem upS_rows {rid : Nat → Nat → Nat} : ∀ {ss : List Sh} {vs : List AV} {x : HS ss} (j : Nat), dnS ss vs = some x → rowsVs rid j (upS ss x) = []
  | [], [], _, _, _ => rfl
  | [], _ :: _, _, _, h => by cases h
  | s :: r, [], _, _, h => by cases h
  | s :: r, v :: vs, x, j, h => by
    unfold dnS at h
    split at h
    · rename_i y z hy hz
      cases h
      show rowsCs (rid j) 0 (s.up y).cells ++ rowsVs rid (j + 1) (upS r z) = []
      rw [(sh_up_dn hy).2, upS_rows (j + 1) hz]
      rfl
    · cases h
theorem notTup_up {s : Sh} {a : AV} {x : s.den} (hx : s.dn a = some x) : ∀ vs, s.up x ≠ .tup vs := by
  intro vs h
  have := inV_up (bid := fun n => n) (rid := fun n => n) hx
  cases s with
  | st t =>
    unfold Sh.dn at hx
    simp only at hx
    split at hx
    · rename_i e he
      have h2 : AM.up t x = .tup vs := h
      rw [up_ent he] at h2
      have hcel : cel t x = ups e.ks (e.to x) := by unfold cel; rw [he]
      rw [hcel] at h2
      generalize e.ks = ks, e.to x = y at h2
      cases hg : e.agg with
      | true => rw [hg] at h2; cases h2
      | false =>
        rw [hg] at h2
        match ks, y with
        | [], y => cases h2
        | [k], y => cases k <;> cases h2
        | _ :: _ :: _, y => cases h2
    · cases hx
  | _ => cases h
theorem Pre.ty {c : Ctx} {ps : List Sh} {vs : List AV} {x : HS ps} {os : List Ob} {args : Array Value} (hx : dnS ps vs = some x) (hp : Pre c vs os args) : Pre c (upS ps x) os args := by
  obtain ⟨h1, h2⟩ := dnS_get hx
  refine ⟨hp.hd, hp.nd, hp.nt, hp.ok, hp.dl, by rw [hp.size, h1], fun i b cv hb hcv => ?_⟩
  have hi : i < vs.length := by rw [h1]; exact (List.getElem?_eq_some_iff.1 hb).1
  obtain ⟨s, y, g1, rfl⟩ := h2 i _ b (List.getElem?_eq_getElem hi) hb
  exact sh_rep g1 (hp.args i _ cv (List.getElem?_eq_getElem hi) hcv)
theorem Post.ty {c : Ctx} {rs : List Sh} {v : AV} {y : HS rs} {m : Nat} {e : Ending} {w : World} (hy : outS rs v = some y) (hp : Post c m v [] e w) : Post c m (tupOf (upS rs y)) [] e w := by
  unfold outS at hy
  cases hr : resOk v with
  | false => rw [hr] at hy; cases hy
  | true =>
    rw [hr] at hy
    simp only [cond_true] at hy
    obtain ⟨cv, γ, D, h1, h2⟩ := hp
    refine ⟨cv, γ, D, h1, fun _ _ _ => ?_⟩
    by_cases ht : ∃ vs, v = .tup vs
    · obtain ⟨vs, rfl⟩ := ht
      unfold dnR at hy
      simp only at hy
      cases hl : Nat.beq vs.length 1 with
      | true => rw [hl] at hy; cases hy
      | false =>
        rw [hl] at hy
        simp only [cond_false] at hy
        obtain ⟨g1, g2⟩ := dnS_get hy
        have hlen : (upS rs y).length ≠ 1 := by rw [← g1]; intro h; rw [h] at hl; cases hl
        have htu : tupOf (upS rs y) = .tup (upS rs y) := by
          generalize upS rs y = l at hlen
          match l, hlen with
          | [], _ => rfl
          | [_], h => exact absurd rfl h
          | _ :: _ :: _, _ => rfl
        rw [htu]
        have e1 : heapR (.tup vs) [] = [] := by show [] ++ rowsVs rrd0 0 vs = []; rw [dnS_rows 0 hy]; rfl
        have e2 : heapR (.tup (upS rs y)) [] = [] := by show [] ++ rowsVs rrd0 0 (upS rs y) = []; rw [upS_rows 0 hy]; rfl
        rw [e2]
        rw [e1] at h2
        obtain ⟨h3, h4, h5⟩ := h2 rfl hr (by simp)
        refine ⟨h3, ?_, h5⟩
        obtain ⟨arr, k1, k2, k3⟩ := (show RepV γ [] (keys []) w D (.tup (inVs (fun n => n) rrd0 0 vs)) cv from h4)
        refine ⟨arr, k1, by rw [k2, inVs_len, inVs_len, g1], fun i b z hb hz => ?_⟩
        rw [inVs_get, Option.map_eq_some_iff] at hb
        obtain ⟨b, hb, rfl⟩ := hb
        have hi : i < vs.length := by rw [g1]; exact (List.getElem?_eq_some_iff.1 hb).1
        obtain ⟨s, z', g3, rfl⟩ := g2 i _ b (List.getElem?_eq_getElem hi) hb
        rw [inV_up g3]
        exact sh_rep (inV_dn g3) (k3 i _ z (by rw [inVs_get, List.getElem?_eq_getElem hi]; rfl) hz)
    · have hd : dnS rs [v] = some y := by
        unfold dnR at hy
        cases v <;> first | exact hy | exact absurd ⟨_, rfl⟩ ht
      obtain ⟨g1, g2⟩ := dnS_get hd
      have : ∃ b, upS rs y = [b] := by
        generalize upS rs y = l at g1
        match l, g1 with
        | [b], _ => exact ⟨b, rfl⟩
      obtain ⟨b, hb⟩ := this
      have e2' := upS_rows (rid := rrd0) 0 hd
      rw [hb] at g2 e2' ⊢
      obtain ⟨s, z, g3, rfl⟩ := g2 0 v b rfl rfl
      show HOk γ (heapR (s.up z) []) _ w D ∧ _
      have hp1 : parts v = [v] := by cases v <;> first | rfl | exact absurd ⟨_, rfl⟩ ht
      have hp2 : parts (s.up z) = [s.up z] := by
        have := notTup_up g3
        generalize s.up z = q at this
        cases q <;> first | rfl | exact absurd rfl (this _)
      have e1 : heapR v [] = [] := by unfold heapR; rw [hp1, dnS_rows 0 hd]; rfl
      have e2 : heapR (s.up z) [] = [] := by unfold heapR; rw [hp2, e2']; rfl
      show HOk γ (heapR (s.up z) []) (keys (heapR (s.up z) [])) w D ∧ RepV γ (heapR (s.up z) []) (keys (heapR (s.up z) [])) w D (inR (fun n => n) rrd0 (s.up z)) cv ∧ Fr c m γ D (heapR (s.up z) []) w
      rw [e2]
      rw [e1] at h2
      obtain ⟨h3, h4, h5⟩ := h2 rfl hr (by simp)
      refine ⟨h3, ?_, h5⟩
      have i1 : inR (fun n => n) rrd0 v = inV (fun n => n) (rrd0 0) v := by cases v <;> first | rfl | exact absurd ⟨_, rfl⟩ ht
      have i2 : inR (fun n => n) rrd0 (s.up z) = inV (fun n => n) (rrd0 0) (s.up z) := by
        have := notTup_up g3
        generalize s.up z = q at this
        cases q <;> first | rfl | exact absurd rfl (this _)
      rw [i2, inV_up g3]
      rw [i1] at h4
      have hb4 : RepB γ [] (keys []) w D (inV (fun n => n) (rrd0 0) v) cv := h4.toB fun vs => by
        cases v <;> first | (intro h; cases h; done) | exact absurd ⟨_, rfl⟩ ht
      exact (sh_rep (inV_dn g3) hb4).v
def outR (rs : List Sh) (o : Option Ret) : Option (HS rs) := match o with
  | some (v, []) => outS rs v
  | _ => none
omit [Reg] in
theorem val_get {α : Type} {o : Option α} {a : α} (h : (Q.get o .ret).val = some a) : o = some a := by
  cases o with
  | none => cases h
  | some x => exact h
/-- A function of values, once shown for one form of them. -/
theorem OverOk.ty {F : Fns} (hF : SoundF P F) (hT : TbOk P tb) {f : Nat} {fx : Fx} (hfx : FnOk P tb f fx) {ps rs : List Sh} {g : HS ps → Q (HS rs)} (h : ∀ x y, (g x).val = some y → ∃ n, outR rs (evFn F tb fx n (upS ps x) []) = some y) : OverOk P f (tyO ps rs g) := by
  intro vs os r os' hg
  unfold tyO at hg
  split at hg
  · obtain ⟨x, hx, hg⟩ := Q.val_get hg
    obtain ⟨y, hy, hg⟩ := Q.val_bind hg
    cases hg
    obtain ⟨n, h2⟩ := h x y hy
    unfold outR at h2
    split at h2
    · rename_i v h1
      obtain ⟨h3, h4⟩ := evFn_sound hF hT hfx h1
      exact ⟨h3, fun c args hp => (h4 c args (hp.ty hx)).mono fun e w he => he.ty h2⟩
    · cases h2
  · cases hg
theorem OverOk.tyB {F : Fns} (hF : SoundF P F) (hT : TbOk P tb) {f : Nat} {fx : Fx} (hfx : FnOk P tb f fx) {ps : List Sh} {g : HS ps → Q Ret} (h : ∀ x r, (g x).val = some r → ∃ n, evFn F tb fx n (upS ps x) [] = some r) : OverOk P f (AM.tyB ps g) := by
  intro vs os r os' hg
  unfold AM.tyB at hg
  split at hg
  · obtain ⟨x, hx, hg⟩ := Q.val_get hg
    obtain ⟨n, h1⟩ := h x _ hg
    obtain ⟨h3, h4⟩ := evFn_sound hF hT hfx h1
    exact ⟨h3, fun c args hp => h4 c args (hp.ty hx)⟩
  · cases hg
theorem canA_get : ∀ {ss : List (Option Sh)} {vs l : List AV}, canA ss vs = some l → vs.length = l.length ∧ ∀ (i : Nat) (a b : AV), vs[i]? = some a → l[i]? = some b → b = a ∨ ∃ (s : Sh) (y : s.den), s.dn a = some y ∧ b = s.up y
  | [], [], l, h => by cases h; exact ⟨rfl, fun i a b h => by simp at h⟩
  | [], _ :: _, _, h => by cases h
  | none :: r, [], _, h => by cases h
  | some s :: r, [], _, h => by cases h
  | none :: r, v :: vs, l, h => by
    unfold canA at h
    split at h
    · rename_i l' hl
      cases h
      obtain ⟨h1, h2⟩ := canA_get hl
      refine ⟨by simp [h1], fun i a b ha hb => ?_⟩
      cases i with
      | zero =>
        simp only [List.getElem?_cons_zero, Option.some.injEq] at ha hb
        exact .inl (hb.symm.trans ha)
      | succ i => exact h2 i a b (by simpa using ha) (by simpa using hb)
    · cases h
  | some s :: r, v :: vs, l, h => by
    unfold canA at h
    split at h
    · rename_i x l' hx hl
      cases h
      obtain ⟨h1, h2⟩ := canA_get hl
      refine ⟨by simp [h1], fun i a b ha hb => ?_⟩
      cases i with
      | zero =>
        simp only [List.getElem?_cons_zero, Option.some.injEq] at ha hb
        subst ha
        exact .inr ⟨s, x, hx, hb.symm⟩
      | succ i => exact h2 i a b (by simpa using ha) (by simpa using hb)
    · cases h
theorem OverOk.pre {f : Nat} {ss : List (Option Sh)} {g : Over} (h : OverOk P f g) : OverOk P f (preO ss g) := by
  intro vs os r os' hg
  obtain ⟨l, hl, hg⟩ := Q.val_get (show (Q.get (canA ss vs) fun vs' => g vs' os).val = _ from hg)
  obtain ⟨h3, h4⟩ := h l os r os' hg
  obtain ⟨h1, h2⟩ := canA_get hl
  refine ⟨h3, fun c args hp => h4 c args ⟨hp.hd, hp.nd, hp.nt, hp.ok, hp.dl, by rw [hp.size, h1], fun i b cv hb hcv => ?_⟩⟩
  have hi : i < vs.length := by rw [h1]; exact (List.getElem?_eq_some_iff.1 hb).1
  have ha := hp.args i _ cv (List.getElem?_eq_getElem hi) hcv
  rcases h2 i _ b (List.getElem?_eq_getElem hi) hb with rfl | ⟨s, y, g1, rfl⟩
  · exact ha
  · exact sh_rep g1 ha
end
end
end Go.AM
