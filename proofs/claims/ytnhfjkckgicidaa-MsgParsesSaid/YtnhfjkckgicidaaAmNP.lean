/- The law MsgParses, plain. -/
import Derived.Test.YtnhfjkckgicidaaAmNO
set_option linter.unusedVariables false
set_option linter.unusedSimpArgs false
namespace Go.AM.Ytnhfjkckgicidaa
open Go.AM Go.Proofs Go

theorem drop_step {s a b : List UInt8} {n m k : Nat} (h : s.drop n = a ++ b) (hm : a.length = m) (hk : k = n + m) : s.drop k = b := by
  rw [hk, ← List.drop_drop, h, List.drop_append_of_le_length (by omega), List.drop_eq_nil_of_le (by omega), List.nil_append]
theorem numN_be {s b : List UInt8} {w v : Nat} {n : Nat} (h : s.drop n = be w v ++ b) (h1 : v < 256 ^ w) (h2 : v < 9223372036854775808) : numN w (s.drop n) = v := by
  rw [h]
  exact (num_at (num_be w v b h1 h2)).2.1
theorem getD_at {s b : List UInt8} {n v : Nat} (h : s.drop n = be 1 v ++ b) (h1 : v < 256) : (s.getD n 0).toNat = v := by
  rw [be1 v h1] at h
  have h3 : s[n]? = some (UInt8.ofNat v) := by
    have := congrArg (·[0]?) h
    simpa using this
  rw [List.getD_eq_getElem?_getD, h3, Option.getD_some]
  simp
  omega
theorem brs_len (l : List (Int × Int)) (h : Fit l) : (l.flatMap brB).length = 16 * l.length := by
  induction l with
  | nil => rfl
  | cons b r ih =>
    obtain ⟨h1, h2, h3, h4⟩ := h b (List.mem_cons_self ..)
    have h5 := ih fun c hc => h c (List.mem_cons_of_mem _ hc)
    obtain ⟨x, y⟩ := b
    simp only at h1 h2 h3 h4
    obtain ⟨x, rfl⟩ : ∃ n : Nat, x = n := ⟨x.toNat, by omega⟩
    obtain ⟨y, rfl⟩ : ∃ n : Nat, y = n := ⟨y.toNat, by omega⟩
    have hb : (brB ((x : Int), (y : Int))).length = 16 := by
      rw [brB, be8_nat x (by omega), be8_nat y (by omega), List.length_append, be_length, be_length]
    rw [List.flatMap_cons, List.length_append, hb, h5, List.length_cons]
    omega
theorem putL_len {l : List (Int × Int)} (h : lined l = true) : (putL l).length = 1 + 16 * l.length := by
  rw [putL, List.length_cons, brs_len l (lined_parts h).2]
  omega
theorem lineAt_put {s t : List UInt8} {p : Nat} {l : List (Int × Int)} (h : s.drop p = putL l ++ t) (hl : lined l = true) : lineAt p s = some (l, p + 1 + 16 * l.length) := by
  obtain ⟨h1, h2⟩ := lined_parts hl
  have e : putL l ++ t = be 1 l.length ++ (l.flatMap brB ++ t) := by
    rw [be1 _ (by omega), putL, List.cons_append, List.singleton_append]
  unfold lineAt
  rw [h, e, num_be 1 _ _ (by omega) (by omega)]
  simp only
  rw [brs_put l t h2]
  simp only [hl, if_true]
theorem wrsAt_put {s : List UInt8} {p : Nat} {l : List Wr} (h : s.drop p = putW l) (hl : wOk l = true) : wrsAt p s = some (l, s.length) := by
  obtain ⟨h1, h2, h3⟩ := wOk_parts hl
  have hp := wrs_put l [] h3
  rw [List.append_nil] at hp
  unfold wrsAt
  rw [h, putW, num_be 2 _ _ (by omega) (by omega)]
  simp only
  rw [hp]
  simp only [hl, if_true, List.length_nil, Nat.sub_zero]
theorem szs_put (l : List Int) (v : Nat) (t : List UInt8) (h : ∀ n ∈ l, 1 ≤ n ∧ n ≤ 255) : szs l.length (be 1 v ++ (l.map byteI ++ t)) = l := by
  have e : ((be 1 v ++ (l.map byteI ++ t)).drop 1).take l.length = l.map byteI := by
    rw [List.drop_append_of_le_length (by rw [be_length]; omega), List.drop_eq_nil_of_le (by rw [be_length]; omega), List.nil_append, List.take_append_of_le_length (by rw [List.length_map]; omega), List.take_of_length_le (by rw [List.length_map]; omega)]
  rw [szs, e, List.map_map]
  have : ∀ n ∈ l, ((fun b : UInt8 => ((b.toNat : Nat) : Int)) ∘ byteI) n = n := by
    intro n hn
    obtain ⟨g1, g2⟩ := h n hn
    simp only [Function.comp, byteI, UInt8.toNat_ofNat']
    omega
  rw [List.map_congr_left this]
  simp
theorem cand_put (m : Ms) (hok : okM m = true) (hu : UM m.bt) : cand (mB m) = some m := by
  have hp := okM_parts hok
  have n8 : ∀ z : Int, 0 ≤ z ∧ z ≤ 1099511627776 → ∃ v : Nat, z = v ∧ be8 z = be 8 v ∧ v < 256 ^ 8 ∧ v < 9223372036854775808 := by
    intro z hz
    refine ⟨z.toNat, by omega, ?_, by omega, by omega⟩
    rw [← be8_nat z.toNat (by omega), show ((z.toNat : Nat) : Int) = z by omega]
  obtain ⟨v1, e1, -⟩ : ∃ v : Nat, m.kd = v ∧ True := ⟨m.kd.toNat, by have := hp.kd; omega, trivial⟩
  obtain ⟨v2, e2, b2, l2, l2'⟩ := n8 _ hp.ep
  obtain ⟨v4, e4, b4, l4, l4'⟩ := n8 _ hp.sq
  obtain ⟨v5, e5, b5, l5, l5'⟩ := n8 _ hp.nn
  obtain ⟨v6, e6, b6, l6, l6'⟩ := n8 _ hp.fo
  obtain ⟨v9, e9, b9, l9, l9'⟩ := n8 _ hp.asq
  obtain ⟨v13, e13, b13, l13, l13'⟩ := n8 _ hp.fr
  obtain ⟨v14, e14, b14, l14, l14'⟩ := n8 _ hp.to
  have hkd := hp.kd
  have hsz := hp.sz
  obtain ⟨s, hs⟩ : ∃ s, s = mB m := ⟨_, rfl⟩
  obtain ⟨rest, hrest⟩ : ∃ r, r = be 1 m.sz.length ++ (m.sz.map byteI ++ (be 8 v13 ++ (be 8 v14 ++ (putW m.wr)))) := ⟨_, rfl⟩
  have d0 : s.drop 0 = be 1 v1 ++ (be 8 v2 ++ (putL m.ln ++ (be 8 v4 ++ (be 8 v5 ++ (be 8 v6 ++ (be 1 (if m.fu then 1 else 0) ++ (putL m.an ++ (be 8 v9 ++ (putB m.bt ++ rest))))))))) := by
    rw [hs, hrest, be1 v1 (by omega), be1 m.sz.length (by omega), be1 _ (by split <;> omega), ← b2, ← b4, ← b5, ← b6, ← b9, ← b13, ← b14]
    have hf : fullB m.fu = UInt8.ofNat (if m.fu then 1 else 0) := by cases m.fu <;> rfl
    simp [mB, mBw, szB, hf, byteI, e1, List.append_assoc]
  have d1 := drop_step (k := 1) d0 (be_length 1 v1) rfl
  have d9 := drop_step (k := 9) d1 (be_length 8 v2) rfl
  obtain ⟨p, hpd⟩ : ∃ p, p = 9 + 1 + 16 * m.ln.length := ⟨_, rfl⟩
  have dp := drop_step (k := p) d9 (putL_len hp.ln) (by omega)
  have dp8 := drop_step (k := p + 8) dp (be_length 8 v4) rfl
  have dp16 := drop_step (k := p + 16) dp8 (be_length 8 v5) rfl
  have dp24 := drop_step (k := p + 24) dp16 (be_length 8 v6) rfl
  have dp25 := drop_step (k := p + 25) dp24 (be_length 1 _) rfl
  obtain ⟨q, hqd⟩ : ∃ q, q = p + 25 + 1 + 16 * m.an.length := ⟨_, rfl⟩
  have dq := drop_step (k := q) dp25 (putL_len hp.an) (by omega)
  have dq8 := drop_step (k := q + 8) dq (be_length 8 v9) rfl
  have g1 := lineAt_put d9 hp.ln
  have g2 := lineAt_put dp25 hp.an
  rw [← hpd] at g1
  rw [← hqd] at g2
  have hlen : ¬ s.length < q + 8 := by
    have := congrArg List.length dq8
    rw [List.length_drop, List.length_append, putB, List.length_cons] at this
    omega
  have g3 := parseB_put m.bt rest hp.bt hu
  rw [← dq8] at g3
  have r0 : rest.drop 0 = be 1 m.sz.length ++ (m.sz.map byteI ++ (be 8 v13 ++ (be 8 v14 ++ (putW m.wr)))) := by rw [List.drop_zero]; exact hrest
  have r1 := drop_step (k := 1) r0 (be_length 1 _) rfl
  have r2 := drop_step (k := 1 + m.sz.length) r1 (List.length_map ..) rfl
  have r3 := drop_step (k := 9 + m.sz.length) r2 (be_length 8 _) (by omega)
  have r4 := drop_step (k := 17 + m.sz.length) r3 (be_length 8 _) (by omega)
  have hne : rest ≠ [] := by
    intro h
    have := congrArg List.length r0
    rw [h] at this
    simp [be_length] at this
    omega
  have hn := getD_at r0 (by omega)
  have g4 := wrsAt_put r4 hp.wr
  have hsz2 : szs m.sz.length rest = m.sz := by rw [hrest]; exact szs_put _ _ _ hsz.2
  rw [← hs, cand, g1, Option.bind_some, g2, Option.bind_some, if_neg hlen, g3, Option.bind_some, if_neg hne]
  simp only [hn]
  rw [g4, Option.bind_some, if_pos rfl, hsz2, mkM, getD_at d0 (by omega), numN_be d1 l2 l2', numN_be dp l4 l4', numN_be dp8 l5 l5', numN_be dp16 l6 l6', getD_at dp24 (by split <;> omega), numN_be dq l9 l9', numN_be r2 l13 l13', numN_be r3 l14 l14']
  have hfu : (((((if m.fu then 1 else 0 : Nat)) : Int)) == 1) = m.fu := by cases m.fu <;> rfl
  rw [hfu, ← e1, ← e2, ← e4, ← e5, ← e6, ← e9, ← e13, ← e14]
theorem cand_um {s : List UInt8} {m : Ms} (h : cand s = some m) : UM m.bt := by
  simp only [cand, Option.bind_eq_some_iff] at h
  obtain ⟨a, g1, b, g2, h⟩ := h
  split at h
  · simp at h
  · simp only [Option.bind_eq_some_iff] at h
    obtain ⟨⟨bt, rest⟩, g3, h⟩ := h
    split at h
    · simp at h
    · simp only [Option.bind_eq_some_iff] at h
      obtain ⟨w, g4, h⟩ := h
      split at h
      · simp only [Option.some.injEq] at h
        subst h
        exact (parseB_back g3).2.1
      · simp at h
/-- What the reference answers is what parseM says. -/
theorem e24' (k : Nat) (hk : 66100 ≤ k) (s : List UInt8) (hs : s.length ≤ 100000) : match parseM s with
    | none => evF pr k 24 [.str s] [] = some (.tup [zM, .bool false], [])
    | some m => ∃ y, IsM y m ∧ evF pr k 24 [.str s] [] = some (.tup [y, .bool true], []) := by
  have h := e24 k hk s hs
  cases hp : parseM s with
  | none =>
    show evF pr k 24 [.str s] [] = some (.tup [zM, .bool false], [])
    cases hc : cand s with
    | none => rw [hc] at h; exact h
    | some m =>
      rw [hc] at h
      refine h.2 fun hm => ?_
      have := parseM_put m [] hm.1 (cand_um hc)
      rw [List.append_nil, hm.2, if_pos rfl, hp] at this
      simp at this
  | some m =>
    show ∃ y, IsM y m ∧ evF pr k 24 [.str s] [] = some (.tup [y, .bool true], [])
    obtain ⟨h1, h2, h3⟩ := parseM_back hp
    have hc := cand_put m h1 h3
    rw [h2] at hc
    rw [hc] at h
    exact h.1 ⟨h1, h2⟩
def zeroM : Ms := ⟨0, 0, [], 0, 0, 0, false, [], 0, [], [], 0, 0, []⟩
theorem zM_is : IsM zM zeroM := ⟨_, _, _, _, _, rfl, .inr ⟨rfl, 0, true, rfl⟩, .inr ⟨rfl, 0, true, rfl⟩, .inr ⟨rfl, 0, true, rfl⟩, .inr ⟨rfl, 0, true, rfl⟩, .inr ⟨rfl, 0, true, rfl⟩⟩
theorem lparses_tree (F : Fns) (N : Nat) (s : List UInt8) : runOf F 6 N [.str s] [] =
  bif decide (((List.length s : Nat) : Int) > 8192) then onRes (F 10 [] []) fun v bs => AM.asBool v fun b => asNil bs (some (AV.bool b, [])) else onRes (F 23 [AV.str s] []) fun v bs => asTup v fun cs => asCons cs fun v r => AM.asAgg v fun cs => asCons cs fun v r_1 => AM.asInt IntKind.i64 v fun n => asCons r_1 fun v r_2 => AM.asInt IntKind.i64 v fun n_1 => asCons r_2 fun v r_3 => asSl v fun m fl xs => asCons r_3 fun v r_4 => AM.asInt IntKind.i64 v fun n_2 => asCons r_4 fun v r_5 => AM.asInt IntKind.i64 v fun n_3 => asCons r_5 fun v r_6 => AM.asInt IntKind.i64 v fun n_4 => asCons r_6 fun v r_7 => AM.asBool v fun b => asCons r_7 fun v r_8 => asSl v fun m_1 fl_1 xs_1 => asCons r_8 fun v r_9 => AM.asInt IntKind.i64 v fun n_5 => asCons r_9 fun v r_10 => asSl v fun m_2 fl_2 xs_2 => asCons r_10 fun v r_11 => asSl v fun m_3 fl_3 xs_3 => asCons r_11 fun v r_12 => AM.asInt IntKind.i64 v fun n_6 => asCons r_12 fun v r_13 => AM.asInt IntKind.i64 v fun n_7 => asCons r_13 fun v r_14 => asSl v fun m_4 fl_4 xs_4 => asNil r_14 (asCons r fun v r => AM.asInt IntKind.i64 v fun n_8 => asNil r (asNil bs (onRes (F 24 [AV.str s] []) fun v bs => asTup v fun cs => asCons cs fun v r => AM.asAgg v fun cs => asCons cs fun v r_15 => AM.asInt IntKind.i64 v fun n_9 => asCons r_15 fun v r_16 => AM.asInt IntKind.i64 v fun n_10 => asCons r_16 fun v r_17 => asSl v fun m_5 fl_5 xs_5 => asCons r_17 fun v r_18 => AM.asInt IntKind.i64 v fun n_11 => asCons r_18 fun v r_19 => AM.asInt IntKind.i64 v fun n_12 => asCons r_19 fun v r_20 => AM.asInt IntKind.i64 v fun n_13 => asCons r_20 fun v r_21 => AM.asBool v fun b_1 => asCons r_21 fun v r_22 => asSl v fun m_6 fl_6 xs_6 => asCons r_22 fun v r_23 => AM.asInt IntKind.i64 v fun n_14 => asCons r_23 fun v r_24 => asSl v fun m_7 fl_7 xs_7 => asCons r_24 fun v r_25 => asSl v fun m_8 fl_8 xs_8 => asCons r_25 fun v r_26 => AM.asInt IntKind.i64 v fun n_15 => asCons r_26 fun v r_27 => AM.asInt IntKind.i64 v fun n_16 => asCons r_27 fun v r_28 => asSl v fun m_9 fl_9 xs_9 => asNil r_28 (asCons r fun v r => AM.asBool v fun b_2 => asNil r (asNil bs (bif !b_2 then onRes (F 25 [AV.agg [AV.int IntKind.i64 n, AV.int IntKind.i64 n_1, AV.sl m fl xs, AV.int IntKind.i64 n_2, AV.int IntKind.i64 n_3, AV.int IntKind.i64 n_4, AV.bool b, AV.sl m_1 fl_1 xs_1, AV.int IntKind.i64 n_5, AV.sl m_2 fl_2 xs_2, AV.sl m_3 fl_3 xs_3, AV.int IntKind.i64 n_6, AV.int IntKind.i64 n_7, AV.sl m_4 fl_4 xs_4], AV.agg [AV.int IntKind.i64 0, AV.int IntKind.i64 0, AV.sl 0 true [], AV.int IntKind.i64 0, AV.int IntKind.i64 0, AV.int IntKind.i64 0, AV.bool false, AV.sl 0 true [], AV.int IntKind.i64 0, AV.sl 0 true [], AV.sl 0 true [], AV.int IntKind.i64 0, AV.int IntKind.i64 0, AV.sl 0 true []]] []) fun v bs => AM.asBool v fun b => asNil bs (bif b then bif n_8 == 3 then onRes (F 10 [] []) fun v bs => AM.asBool v fun b => asNil bs (some (AV.bool b, [])) else some (AV.bool false, []) else some (AV.bool false, [])) else onRes (F 25 [AV.agg [AV.int IntKind.i64 n, AV.int IntKind.i64 n_1, AV.sl m fl xs, AV.int IntKind.i64 n_2, AV.int IntKind.i64 n_3, AV.int IntKind.i64 n_4, AV.bool b, AV.sl m_1 fl_1 xs_1, AV.int IntKind.i64 n_5, AV.sl m_2 fl_2 xs_2, AV.sl m_3 fl_3 xs_3, AV.int IntKind.i64 n_6, AV.int IntKind.i64 n_7, AV.sl m_4 fl_4 xs_4], AV.agg [AV.int IntKind.i64 n_9, AV.int IntKind.i64 n_10, AV.sl m_5 fl_5 xs_5, AV.int IntKind.i64 n_11, AV.int IntKind.i64 n_12, AV.int IntKind.i64 n_13, AV.bool b_1, AV.sl m_6 fl_6 xs_6, AV.int IntKind.i64 n_14, AV.sl m_7 fl_7 xs_7, AV.sl m_8 fl_8 xs_8, AV.int IntKind.i64 n_15, AV.int IntKind.i64 n_16, AV.sl m_9 fl_9 xs_9]] []) fun v bs => AM.asBool v fun b => asNil bs (bif b then bif n_8 == 0 then onRes (F 10 [] []) fun v bs => AM.asBool v fun b => asNil bs (some (AV.bool b, [])) else some (AV.bool false, []) else some (AV.bool false, [])))))))) := by kernel_rfl
theorem msgParses (s : List UInt8) : Tr (evF pr 70000 6 [.str s] []) := by
  rw [ev_step _ _ _ _ (by kernel_rfl), lparses_tree]
  refine pt_if (fun _ => awakeTr) (fun hl => ?_)
  have hl : s.length ≤ 8192 := by
    have := of_decide_eq_false hl
    omega
  have E23 := e23 69999 (by omega) s
  have E24 := e24' 69999 (by omega) s (by omega)
  cases hp : parseM s with
  | none =>
    rw [hp] at E23 E24
    have E23 : _ = some (AV.tup [zM, .int .i64 3], []) := E23
    have E24 : evF pr 69999 24 [.str s] [] = some (AV.tup [zM, .bool false], []) := E24
    refine pt_on E23 (pt_tup (pt_cons (pt_agg (pt_cons (pt_int (pt_cons (pt_int (pt_cons (pt_sl (pt_cons (pt_int (pt_cons (pt_int (pt_cons (pt_int (pt_cons (pt_bool (pt_cons (pt_sl (pt_cons (pt_int (pt_cons (pt_sl (pt_cons (pt_sl (pt_cons (pt_int (pt_cons (pt_int (pt_cons (pt_sl (pt_nil (pt_cons (pt_int (pt_nil (pt_nil ?_))))))))))))))))))))))))))))))))))))
    refine pt_on E24 (pt_tup (pt_cons (pt_agg (pt_cons (pt_int (pt_cons (pt_int (pt_cons (pt_sl (pt_cons (pt_int (pt_cons (pt_int (pt_cons (pt_int (pt_cons (pt_bool (pt_cons (pt_sl (pt_cons (pt_int (pt_cons (pt_sl (pt_cons (pt_sl (pt_cons (pt_int (pt_cons (pt_int (pt_cons (pt_sl (pt_nil (pt_cons (pt_bool (pt_nil (pt_nil ?_))))))))))))))))))))))))))))))))))))
    refine pt_yes rfl ?_
    refine pt_on (e25 69999 zM_is zM_is (by simp [zeroM]) (by simp [zeroM]) (by simp [zeroM])) (pt_bool (pt_nil ?_))
    exact pt_yes ((eqM_iff _ _).2 rfl) (pt_yes rfl awakeTr)
  | some m =>
    rw [hp] at E23 E24
    obtain ⟨hok, hb, hu⟩ := parseM_back hp
    obtain ⟨l1, l2, l3, l4, l5⟩ : m.ln.length ≤ 64 ∧ m.an.length ≤ 64 ∧ m.bt.length ≤ 300 ∧ m.sz.length ≤ 8 ∧ m.wr.length ≤ 128 := ⟨(lined_parts (okM_parts hok).ln).1, (lined_parts (okM_parts hok).an).1, by have := bOk_length (okM_parts hok).bt; omega, (okM_parts hok).sz.1, (wOk_parts (okM_parts hok).wr).1⟩
    obtain ⟨y, hy, E23⟩ := E23
    obtain ⟨y', hy', E24⟩ := E24
    have E25 := e25 69999 hy hy' (by omega) (by omega) (by omega)
    obtain ⟨w1, w2, w3, w4, w5, rfl, i1, i2, i3, i4, i5⟩ := hy
    obtain ⟨b1, g1, l', rfl, _⟩ := i1.sl
    obtain ⟨b2, g2, an', rfl, _⟩ := i2.sl
    obtain ⟨b3, g3, bt', rfl, _⟩ := i3.sl
    obtain ⟨b4, g4, sz', rfl, _⟩ := i4.sl
    obtain ⟨b5, g5, wr', rfl, _⟩ := i5.sl
    obtain ⟨u1, u2, u3, u4, u5, rfl, j1, j2, j3, j4, j5⟩ := hy'
    obtain ⟨c1, q1, l2, rfl, _⟩ := j1.sl
    obtain ⟨c2, q2, an2, rfl, _⟩ := j2.sl
    obtain ⟨c3, q3, bt2, rfl, _⟩ := j3.sl
    obtain ⟨c4, q4, sz2, rfl, _⟩ := j4.sl
    obtain ⟨c5, q5, wr2, rfl, _⟩ := j5.sl
    refine pt_on E23 (pt_tup (pt_cons (pt_agg (pt_cons (pt_int (pt_cons (pt_int (pt_cons (pt_sl (pt_cons (pt_int (pt_cons (pt_int (pt_cons (pt_int (pt_cons (pt_bool (pt_cons (pt_sl (pt_cons (pt_int (pt_cons (pt_sl (pt_cons (pt_sl (pt_cons (pt_int (pt_cons (pt_int (pt_cons (pt_sl (pt_nil (pt_cons (pt_int (pt_nil (pt_nil ?_))))))))))))))))))))))))))))))))))))
    refine pt_on E24 (pt_tup (pt_cons (pt_agg (pt_cons (pt_int (pt_cons (pt_int (pt_cons (pt_sl (pt_cons (pt_int (pt_cons (pt_int (pt_cons (pt_int (pt_cons (pt_bool (pt_cons (pt_sl (pt_cons (pt_int (pt_cons (pt_sl (pt_cons (pt_sl (pt_cons (pt_int (pt_cons (pt_int (pt_cons (pt_sl (pt_nil (pt_cons (pt_bool (pt_nil (pt_nil ?_))))))))))))))))))))))))))))))))))))
    refine pt_no rfl ?_
    refine pt_on E25 (pt_bool (pt_nil ?_))
    exact pt_yes ((eqM_iff _ _).2 rfl) (pt_yes rfl awakeTr)

end Go.AM.Ytnhfjkckgicidaa
