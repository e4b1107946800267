/- The laws MsgBytes and MsgApart, plain. -/
import Derived.Test.YtnhfjkckgicidaaAmNK
set_option linter.unusedVariables false
set_option linter.unusedSimpArgs false
namespace Go.AM.Ytnhfjkckgicidaa
open Go.AM Go.Proofs Go

theorem awakeTr : Tr (onRes (evF pr 69999 10 [] []) fun v bs => asBool v fun b => asNil bs (some (AV.bool b, []))) := pt_on e10b (pt_bool (pt_nil rfl))
theorem mB_length {m : Ms} (h : OkP m) : (mB m).length ≤ 200000 := by
  have h1 := ok_lengths h
  have h2 := h.sz
  have g1 := be8s_length [m.ep]
  have g2 := be8s_length [m.sq, m.nn, m.fo]
  have g3 := be8s_length [m.asq]
  have g4 := be8s_length [m.fr, m.to]
  simp only [List.length_cons, List.length_nil] at g1 g2 g3 g4
  unfold mB mBw szB
  simp only [List.length_append, List.length_cons, List.length_nil, List.length_map]
  omega
theorem small_parts {m : Ms} (h : smallM m = true) : m.ln.length ≤ 100 ∧ m.an.length ≤ 100 ∧ m.bt.length ≤ 300 ∧ m.sz.length ≤ 100 ∧ m.wr.length ≤ 200 := of_decide_eq_true h
theorem mB_inj {a b : Ms} (ha : okM a = true) (hb : okM b = true) (ua : UM a.bt) (ub : UM b.bt) (h : mB a = mB b) : a = b := by
  have h1 := parseM_put a [] ha ua
  have h2 := parseM_put b [] hb ub
  rw [List.append_nil, if_pos rfl] at h1 h2
  rw [h, h2] at h1
  exact (Option.some.inj h1).symm
theorem msgBytes {x : AV} {m : Ms} (h : IsM x m) (hu : UM m.bt) : Tr (evF pr 70000 7 [x] []) := by
  obtain ⟨v1, v2, v3, v4, v5, rfl, h1, h2, h3, h4, h5⟩ := h
  have hM : IsM (msV m v1 v2 v3 v4 v5) m := ⟨v1, v2, v3, v4, v5, rfl, h1, h2, h3, h4, h5⟩
  obtain ⟨a1, f1, l, rfl, _⟩ := h1.sl
  obtain ⟨a2, f2, an, rfl, _⟩ := h2.sl
  obtain ⟨a3, f3, bt, rfl, _⟩ := h3.sl
  obtain ⟨a4, f4, sz, rfl, _⟩ := h4.sl
  obtain ⟨a5, f5, wr, rfl, _⟩ := h5.sl
  rw [ev_step _ _ _ _ (by kernel_rfl)]
  refine (congrArg Tr (lbytes_tree (evF pr 69999) 69999 m.kd m.ep l m.sq m.nn m.fo m.fu an m.asq bt sz m.fr m.to wr f1 f2 f3 f4 f5 a1 a2 a3 a4 a5)).mpr ?_
  refine pt_on (e26 69999 (by omega) hM) (pt_bool (pt_nil ?_))
  refine pt_if (fun _ => awakeTr) (fun hs => ?_)
  have hs : smallM m = true := by simpa using hs
  obtain ⟨s1, s2, s3, s4, s5⟩ := small_parts hs
  have E27 := e27 69999 (by omega) hM (by omega) hu
  have E28 := e28 69999 (by omega) hM (by omega)
  have E29 := e29 69999 (by omega) hM (by omega)
  cases hok : okM m with
  | false =>
    rw [hok] at E27 E28 E29
    refine pt_on E27 (pt_tup (pt_cons (pt_str (pt_cons (pt_int (pt_nil (pt_nil ?_)))))))
    refine pt_on E28 (pt_bool (pt_nil ?_))
    refine pt_on E29 (pt_bool (pt_nil ?_))
    exact pt_no rfl (pt_yes rfl (pt_yes rfl (pt_yes rfl awakeTr)))
  | true =>
    rw [hok] at E27 E28 E29
    have E23 := e23 69999 (by omega) (mB m)
    have hpp := parseM_put m [] hok hu
    rw [List.append_nil, if_pos rfl] at hpp
    rw [hpp] at E23
    obtain ⟨y, hy, E23⟩ := E23
    have hy' := hy
    obtain ⟨w1, w2, w3, w4, w5, rfl, i1, i2, i3, i4, i5⟩ := hy
    obtain ⟨b1, g1, l', rfl, _⟩ := i1.sl
    obtain ⟨b2, g2, an', rfl, _⟩ := i2.sl
    obtain ⟨b3, g3, bt', rfl, _⟩ := i3.sl
    obtain ⟨b4, g4, sz', rfl, _⟩ := i4.sl
    obtain ⟨b5, g5, wr', rfl, _⟩ := i5.sl
    refine pt_on E27 (pt_tup (pt_cons (pt_str (pt_cons (pt_int (pt_nil (pt_nil ?_)))))))
    refine pt_on E28 (pt_bool (pt_nil ?_))
    refine pt_on E29 (pt_bool (pt_nil ?_))
    refine pt_no rfl (pt_no rfl ?_)
    refine pt_on E23 (pt_tup (pt_cons (pt_agg (pt_cons (pt_int (pt_cons (pt_int (pt_cons (pt_sl (pt_cons (pt_int (pt_cons (pt_int (pt_cons (pt_int (pt_cons (pt_bool (pt_cons (pt_sl (pt_cons (pt_int (pt_cons (pt_sl (pt_cons (pt_sl (pt_cons (pt_int (pt_cons (pt_int (pt_cons (pt_sl (pt_nil (pt_cons (pt_int (pt_nil (pt_nil ?_))))))))))))))))))))))))))))))))))))
    refine pt_on (e30 69999 (by omega) hM hu hok) (pt_str (pt_nil ?_))
    refine pt_yes (beq_self_eq_true _) (pt_yes rfl ?_)
    refine pt_on (e25 69999 hy' hM (by omega) (by omega) (by omega)) (pt_bool (pt_nil ?_))
    exact pt_yes ((eqM_iff m m).2 rfl) (pt_yes rfl awakeTr)
theorem msgApart {x x' : AV} {m m' : Ms} (h : IsM x m) (h' : IsM x' m') (hu : UM m.bt) (hu' : UM m'.bt) (s : List UInt8) (hs : s.length ≤ 140737488351232) : Tr (evF pr 70000 8 [x, x', .str s] []) := by
  obtain ⟨v1, v2, v3, v4, v5, rfl, h1, h2, h3, h4, h5⟩ := h
  have hM : IsM (msV m v1 v2 v3 v4 v5) m := ⟨v1, v2, v3, v4, v5, rfl, h1, h2, h3, h4, h5⟩
  obtain ⟨a1, f1, l, rfl, _⟩ := h1.sl
  obtain ⟨a2, f2, an, rfl, _⟩ := h2.sl
  obtain ⟨a3, f3, bt, rfl, _⟩ := h3.sl
  obtain ⟨a4, f4, sz, rfl, _⟩ := h4.sl
  obtain ⟨a5, f5, wr, rfl, _⟩ := h5.sl
  obtain ⟨w1, w2, w3, w4, w5, rfl, i1, i2, i3, i4, i5⟩ := h'
  have hM' : IsM (msV m' w1 w2 w3 w4 w5) m' := ⟨w1, w2, w3, w4, w5, rfl, i1, i2, i3, i4, i5⟩
  obtain ⟨b1, g1, l', rfl, _⟩ := i1.sl
  obtain ⟨b2, g2, an', rfl, _⟩ := i2.sl
  obtain ⟨b3, g3, bt', rfl, _⟩ := i3.sl
  obtain ⟨b4, g4, sz', rfl, _⟩ := i4.sl
  obtain ⟨b5, g5, wr', rfl, _⟩ := i5.sl
  rw [ev_step _ _ _ _ (by kernel_rfl)]
  refine (congrArg Tr (lapart_tree (evF pr 69999) 69999 m.kd m.ep l m.sq m.nn m.fo m.fu an m.asq bt sz m.fr m.to wr f1 f2 f3 f4 f5 a1 a2 a3 a4 a5 m'.kd m'.ep l' m'.sq m'.nn m'.fo m'.fu an' m'.asq bt' sz' m'.fr m'.to wr' g1 g2 g3 g4 g5 b1 b2 b3 b4 b5 s)).mpr ?_
  refine pt_on (e26 69999 (by omega) hM) (pt_bool (pt_nil ?_))
  refine pt_if (fun _ => awakeTr) (fun hs1 => ?_)
  refine pt_on (e26 69999 (by omega) hM') (pt_bool (pt_nil ?_))
  refine pt_if (fun _ => awakeTr) (fun hs2 => ?_)
  have hs1 : smallM m = true := by simpa using hs1
  have hs2 : smallM m' = true := by simpa using hs2
  obtain ⟨s1, s2, s3, s4, s5⟩ := small_parts hs1
  obtain ⟨t1, t2, t3, t4, t5⟩ := small_parts hs2
  have E27 := e27 69999 (by omega) hM (by omega) hu
  have E27' := e27 69999 (by omega) hM' (by omega) hu'
  cases hok : okM m with
  | false =>
    rw [hok] at E27
    refine pt_on E27 (pt_tup (pt_cons (pt_str (pt_cons (pt_int (pt_nil (pt_nil ?_)))))))
    cases hok' : okM m' with
    | false =>
      rw [hok'] at E27'
      exact pt_on E27' (pt_tup (pt_cons (pt_str (pt_cons (pt_int (pt_nil (pt_nil (pt_yes rfl awakeTr)))))))) 
    | true =>
      rw [hok'] at E27'
      exact pt_on E27' (pt_tup (pt_cons (pt_str (pt_cons (pt_int (pt_nil (pt_nil (pt_yes rfl awakeTr))))))))
  | true =>
    rw [hok] at E27
    refine pt_on E27 (pt_tup (pt_cons (pt_str (pt_cons (pt_int (pt_nil (pt_nil ?_)))))))
    cases hok' : okM m' with
    | false =>
      rw [hok'] at E27'
      exact pt_on E27' (pt_tup (pt_cons (pt_str (pt_cons (pt_int (pt_nil (pt_nil (pt_no rfl (pt_yes rfl awakeTr)))))))))
    | true =>
      rw [hok'] at E27'
      refine pt_on E27' (pt_tup (pt_cons (pt_str (pt_cons (pt_int (pt_nil (pt_nil (pt_no rfl (pt_no rfl ?_)))))))))
      have hlen := mB_length (okM_parts hok)
      refine pt_yes (decide_eq_true (by omega)) ?_
      have hEq : (mB m == mB m') = eqM m m' := by
        by_cases he : m = m'
        · subst he
          rw [(eqM_iff m m).2 rfl, beq_self_eq_true]
        · have e1 : eqM m m' = false := by
            cases hc : eqM m m' with
            | false => rfl
            | true => exact absurd ((eqM_iff m m').1 hc) he
          rw [e1, beq_eq_false_iff_ne]
          exact fun hb => he (mB_inj hok hok' hu hu' hb)
      have E23 := e23 69999 (by omega) (mB m ++ s)
      rw [parseM_put m s hok hu] at E23
      have E25 := e25 69999 hM hM' (by omega) (by omega) (by omega)
      by_cases hm : s = []
      · rw [if_pos hm] at E23
        obtain ⟨y, hy, E23⟩ := E23
        obtain ⟨u1, u2, u3, u4, u5, rfl, j1, j2, j3, j4, j5⟩ := hy
        obtain ⟨c1, q1, l2, rfl, _⟩ := j1.sl
        obtain ⟨c2, q2, an2, rfl, _⟩ := j2.sl
        obtain ⟨c3, q3, bt2, rfl, _⟩ := j3.sl
        obtain ⟨c4, q4, sz2, rfl, _⟩ := j4.sl
        obtain ⟨c5, q5, wr2, rfl, _⟩ := j5.sl
        refine pt_on E23 (pt_tup (pt_cons (pt_agg (pt_cons (pt_int (pt_cons (pt_int (pt_cons (pt_sl (pt_cons (pt_int (pt_cons (pt_int (pt_cons (pt_int (pt_cons (pt_bool (pt_cons (pt_sl (pt_cons (pt_int (pt_cons (pt_sl (pt_cons (pt_sl (pt_cons (pt_int (pt_cons (pt_int (pt_cons (pt_sl (pt_nil (pt_cons (pt_int (pt_nil (pt_nil ?_))))))))))))))))))))))))))))))))))))
        refine pt_on E25 (pt_bool (pt_nil ?_))
        refine pt_yes (by rw [hEq]; exact beq_self_eq_true _) ?_
        refine pt_yes ?_ awakeTr
        rw [hm]
        rfl
      · rw [if_neg hm] at E23
        have E23 : _ = some (AV.tup [zM, .int .i64 3], []) := E23
        refine pt_on E23 (pt_tup (pt_cons (pt_agg (pt_cons (pt_int (pt_cons (pt_int (pt_cons (pt_sl (pt_cons (pt_int (pt_cons (pt_int (pt_cons (pt_int (pt_cons (pt_bool (pt_cons (pt_sl (pt_cons (pt_int (pt_cons (pt_sl (pt_cons (pt_sl (pt_cons (pt_int (pt_cons (pt_int (pt_cons (pt_sl (pt_nil (pt_cons (pt_int (pt_nil (pt_nil ?_))))))))))))))))))))))))))))))))))))
        refine pt_on E25 (pt_bool (pt_nil ?_))
        refine pt_yes (by rw [hEq]; exact beq_self_eq_true _) ?_
        refine pt_yes ?_ awakeTr
        have : (s == ([] : List UInt8)) = false := by simpa using hm
        exact (congrArg (fun b => ((3 : Int) == 0) == b) this).trans rfl

end Go.AM.Ytnhfjkckgicidaa
