/- The rest of book: awake, the laws' trees. -/
import Derived.Test.YtnhfjkckgicidaaGreatAmP08
import Derived.Test.YtnhfjkckgicidaaGreatChecked
set_option linter.unusedVariables false
set_option linter.unusedSimpArgs false
set_option linter.unusedVariables false
set_option linter.unusedSimpArgs false
namespace Go.AM.YtnhfjkckgicidaaGreat
open Go.AM Go.Proofs Go
theorem t21 (F : Fns) (N : Nat) : runOf F 21 N [] [] =
  some (AV.agg [AV.int .i64 2, AV.bool false, AV.bool false, AV.int .i64 0, AV.sl 0 true [], AV.int .i64 0, AV.sl 0 true [], AV.bool false, AV.sl 0 true [], AV.sl 0 true [], AV.int .i64 0, AV.sl 0 true [], AV.sl 0 true [], AV.int .i64 0, AV.int .i64 0, AV.int .i64 0, AV.bool false, AV.sl 0 true [], AV.int .i64 0, AV.sl 0 true [], AV.sl 0 true [], AV.int .i64 0, AV.int .i64 0, AV.int .i64 0, AV.int .i64 0, AV.int .i64 0], []) := by kernel_rfl
theorem t8 (F : Fns) (N : Nat) : runOf F 8 N [] [] =
  onRes (F 21 [] []) fun v bs => asAgg v fun cs => asCons cs fun v r => asInt .i64 v fun n => asCons r fun v r => asBool v fun b => asCons r fun v r => asBool v fun b_1 => asCons r fun v r => asInt .i64 v fun n_1 => asCons r fun v r => asSl v fun m fl xs => asCons r fun v r => asInt .i64 v fun n_2 => asCons r fun v r => asSl v fun m_1 fl_1 xs_1 => asCons r fun v r => asBool v fun b_2 => asCons r fun v r => asSl v fun m_2 fl_2 xs_2 => asCons r fun v r => asSl v fun m_3 fl_3 xs_3 => asCons r fun v r => asInt .i64 v fun n_3 => asCons r fun v r => asSl v fun m_4 fl_4 xs_4 => asCons r fun v r => asSl v fun m_5 fl_5 xs_5 => asCons r fun v r => asInt .i64 v fun n_4 => asCons r fun v r => asInt .i64 v fun n_5 => asCons r fun v r => asInt .i64 v fun n_6 => asCons r fun v r => asBool v fun b_3 => asCons r fun v r => asSl v fun m_6 fl_6 xs_6 => asCons r fun v r => asInt .i64 v fun n_7 => asCons r fun v r => asSl v fun m_7 fl_7 xs_7 => asCons r fun v r => asSl v fun m_8 fl_8 xs_8 => asCons r fun v r => asInt .i64 v fun n_8 => asCons r fun v r => asInt .i64 v fun n_9 => asCons r fun v r => asInt .i64 v fun n_10 => asCons r fun v r => asInt .i64 v fun n_11 => asCons r fun v r => asInt .i64 v fun n_12 => asNil r (asNil bs (onRes (F 9 [AV.agg [AV.int .i64 n, AV.bool b, AV.bool b_1, AV.int .i64 n_1, AV.sl m fl xs, AV.int .i64 n_2, AV.sl m_1 fl_1 xs_1, AV.bool b_2, AV.sl m_2 fl_2 xs_2, AV.sl m_3 fl_3 xs_3, AV.int .i64 n_3, AV.sl m_4 fl_4 xs_4, AV.sl m_5 fl_5 xs_5, AV.int .i64 n_4, AV.int .i64 n_5, AV.int .i64 n_6, AV.bool b_3, AV.sl m_6 fl_6 xs_6, AV.int .i64 n_7, AV.sl m_7 fl_7 xs_7, AV.sl m_8 fl_8 xs_8, AV.int .i64 n_8, AV.int .i64 n_9, AV.int .i64 n_10, AV.int .i64 n_11, AV.int .i64 n_12]] []) fun v bs => asTup v fun cs => asCons cs fun v r => asStr v fun s => asCons r fun v r => asInt .i64 v fun n => asNil r (asNil bs (onRes (F 11 [AV.str s] []) fun v bs => asTup v fun cs => asCons cs fun v r => asAgg v fun cs => asCons cs fun v r_1 => asInt .i64 v fun n_13 => asCons r_1 fun v r_2 => asBool v fun b => asCons r_2 fun v r_3 => asBool v fun b => asCons r_3 fun v r_4 => asInt .i64 v fun n_14 => asCons r_4 fun v r_5 => asSl v fun m fl xs => asCons r_5 fun v r_6 => asInt .i64 v fun n_15 => asCons r_6 fun v r_7 => asSl v fun m fl xs => asCons r_7 fun v r_8 => asBool v fun b => asCons r_8 fun v r_9 => asSl v fun m fl xs => asCons r_9 fun v r_10 => asSl v fun m fl xs => asCons r_10 fun v r_11 => asInt .i64 v fun n_16 => asCons r_11 fun v r_12 => asSl v fun m fl xs => asCons r_12 fun v r_13 => asSl v fun m fl xs => asCons r_13 fun v r_14 => asInt .i64 v fun n_17 => asCons r_14 fun v r_15 => asInt .i64 v fun n_18 => asCons r_15 fun v r_16 => asInt .i64 v fun n_19 => asCons r_16 fun v r_17 => asBool v fun b => asCons r_17 fun v r_18 => asSl v fun m fl xs => asCons r_18 fun v r_19 => asInt .i64 v fun n_20 => asCons r_19 fun v r_20 => asSl v fun m fl xs => asCons r_20 fun v r_21 => asSl v fun m fl xs => asCons r_21 fun v r_22 => asInt .i64 v fun n_21 => asCons r_22 fun v r_23 => asInt .i64 v fun n_22 => asCons r_23 fun v r_24 => asInt .i64 v fun n_23 => asCons r_24 fun v r_25 => asInt .i64 v fun n_24 => asCons r_25 fun v r_26 => asInt .i64 v fun n_25 => asNil r_26 (asCons r fun v r => asInt .i64 v fun n_26 => asNil r (asNil bs (bif ((List.length s : Nat) : Int) == 107 then bif n == 0 then bif n_13 == 2 then some (AV.bool (n_26 == 0), []) else some (AV.bool false, []) else some (AV.bool false, []) else some (AV.bool false, [])))))))) := by kernel_rfl
theorem t3 (F : Fns) (N : Nat) (n : Nd) : runOf F 3 N [.agg (ndL n)] [] =
  onRes (F 7 [AV.agg (ndL n)] []) fun v bs => asBool v fun b => asNil bs (bif !b then onRes (F 8 [] []) fun v bs => asBool v fun b => asNil bs (some (AV.bool b, [])) else onRes (F 9 [AV.agg (ndL n)] []) fun v bs => asTup v fun cs => asCons cs fun v r => asStr v fun s => asCons r fun v r => asInt .i64 v fun n_1 => asNil r (asNil bs (onRes (F 10 [AV.agg (ndL n)] []) fun v bs => asBool v fun b => asNil bs (bif !b then bif s == [] then bif n_1 == 1 then onRes (F 8 [] []) fun v bs => asBool v fun b => asNil bs (some (AV.bool b, [])) else some (AV.bool false, []) else some (AV.bool false, []) else onRes (F 11 [AV.str s] []) fun v bs => asTup v fun cs => asCons cs fun v r => asAgg v fun cs => asCons cs fun v r_1 => asInt .i64 v fun n_2 => asCons r_1 fun v r_2 => asBool v fun b => asCons r_2 fun v r_3 => asBool v fun b_1 => asCons r_3 fun v r_4 => asInt .i64 v fun n_3 => asCons r_4 fun v r_5 => asSl v fun m fl xs => asCons r_5 fun v r_6 => asInt .i64 v fun n_4 => asCons r_6 fun v r_7 => asSl v fun m_1 fl_1 xs_1 => asCons r_7 fun v r_8 => asBool v fun b_2 => asCons r_8 fun v r_9 => asSl v fun m_2 fl_2 xs_2 => asCons r_9 fun v r_10 => asSl v fun m_3 fl_3 xs_3 => asCons r_10 fun v r_11 => asInt .i64 v fun n_5 => asCons r_11 fun v r_12 => asSl v fun m_4 fl_4 xs_4 => asCons r_12 fun v r_13 => asSl v fun m_5 fl_5 xs_5 => asCons r_13 fun v r_14 => asInt .i64 v fun n_6 => asCons r_14 fun v r_15 => asInt .i64 v fun n_7 => asCons r_15 fun v r_16 => asInt .i64 v fun n_8 => asCons r_16 fun v r_17 => asBool v fun b_3 => asCons r_17 fun v r_18 => asSl v fun m_6 fl_6 xs_6 => asCons r_18 fun v r_19 => asInt .i64 v fun n_9 => asCons r_19 fun v r_20 => asSl v fun m_7 fl_7 xs_7 => asCons r_20 fun v r_21 => asSl v fun m_8 fl_8 xs_8 => asCons r_21 fun v r_22 => asInt .i64 v fun n_10 => asCons r_22 fun v r_23 => asInt .i64 v fun n_11 => asCons r_23 fun v r_24 => asInt .i64 v fun n_12 => asCons r_24 fun v r_25 => asInt .i64 v fun n_13 => asCons r_25 fun v r_26 => asInt .i64 v fun n_14 => asNil r_26 (asCons r fun v r => asInt .i64 v fun n_15 => asNil r (asNil bs (onRes (F 12 [AV.agg (ndL n)] []) fun v bs => asStr v fun s_1 => asNil bs (bif s == s_1 then bif n_1 == 0 then onRes (F 13 [AV.agg [AV.int .i64 n_2, AV.bool b, AV.bool b_1, AV.int .i64 n_3, AV.sl m fl xs, AV.int .i64 n_4, AV.sl m_1 fl_1 xs_1, AV.bool b_2, AV.sl m_2 fl_2 xs_2, AV.sl m_3 fl_3 xs_3, AV.int .i64 n_5, AV.sl m_4 fl_4 xs_4, AV.sl m_5 fl_5 xs_5, AV.int .i64 n_6, AV.int .i64 n_7, AV.int .i64 n_8, AV.bool b_3, AV.sl m_6 fl_6 xs_6, AV.int .i64 n_9, AV.sl m_7 fl_7 xs_7, AV.sl m_8 fl_8 xs_8, AV.int .i64 n_10, AV.int .i64 n_11, AV.int .i64 n_12, AV.int .i64 n_13, AV.int .i64 n_14], AV.agg (ndL n)] []) fun v bs => asBool v fun b => asNil bs (bif b then bif n_15 == 0 then onRes (F 8 [] []) fun v bs => asBool v fun b => asNil bs (some (AV.bool b, [])) else some (AV.bool false, []) else some (AV.bool false, [])) else some (AV.bool false, []) else some (AV.bool false, []))))))))) := by kernel_rfl
theorem t4 (F : Fns) (N : Nat) (s : List UInt8) : runOf F 4 N [.str s] [] =
  bif decide (((List.length s : Nat) : Int) > 8192) then onRes (F 8 [] []) fun v bs => asBool v fun b => asNil bs (some (AV.bool b, [])) else onRes (F 11 [AV.str s] []) fun v bs => asTup v fun cs => asCons cs fun v r => asAgg v fun cs => asCons cs fun v r_1 => asInt .i64 v fun n => asCons r_1 fun v r_2 => asBool v fun b => asCons r_2 fun v r_3 => asBool v fun b_1 => asCons r_3 fun v r_4 => asInt .i64 v fun n_1 => asCons r_4 fun v r_5 => asSl v fun m fl xs => asCons r_5 fun v r_6 => asInt .i64 v fun n_2 => asCons r_6 fun v r_7 => asSl v fun m_1 fl_1 xs_1 => asCons r_7 fun v r_8 => asBool v fun b_2 => asCons r_8 fun v r_9 => asSl v fun m_2 fl_2 xs_2 => asCons r_9 fun v r_10 => asSl v fun m_3 fl_3 xs_3 => asCons r_10 fun v r_11 => asInt .i64 v fun n_3 => asCons r_11 fun v r_12 => asSl v fun m_4 fl_4 xs_4 => asCons r_12 fun v r_13 => asSl v fun m_5 fl_5 xs_5 => asCons r_13 fun v r_14 => asInt .i64 v fun n_4 => asCons r_14 fun v r_15 => asInt .i64 v fun n_5 => asCons r_15 fun v r_16 => asInt .i64 v fun n_6 => asCons r_16 fun v r_17 => asBool v fun b_3 => asCons r_17 fun v r_18 => asSl v fun m_6 fl_6 xs_6 => asCons r_18 fun v r_19 => asInt .i64 v fun n_7 => asCons r_19 fun v r_20 => asSl v fun m_7 fl_7 xs_7 => asCons r_20 fun v r_21 => asSl v fun m_8 fl_8 xs_8 => asCons r_21 fun v r_22 => asInt .i64 v fun n_8 => asCons r_22 fun v r_23 => asInt .i64 v fun n_9 => asCons r_23 fun v r_24 => asInt .i64 v fun n_10 => asCons r_24 fun v r_25 => asInt .i64 v fun n_11 => asCons r_25 fun v r_26 => asInt .i64 v fun n_12 => asNil r_26 (asCons r fun v r => asInt .i64 v fun n_13 => asNil r (asNil bs (onRes (F 14 [AV.str s] []) fun v bs => asTup v fun cs => asCons cs fun v r => asAgg v fun cs => asCons cs fun v r_27 => asInt .i64 v fun n_14 => asCons r_27 fun v r_28 => asBool v fun b_4 => asCons r_28 fun v r_29 => asBool v fun b_5 => asCons r_29 fun v r_30 => asInt .i64 v fun n_15 => asCons r_30 fun v r_31 => asSl v fun m_9 fl_9 xs_9 => asCons r_31 fun v r_32 => asInt .i64 v fun n_16 => asCons r_32 fun v r_33 => asSl v fun m_10 fl_10 xs_10 => asCons r_33 fun v r_34 => asBool v fun b_6 => asCons r_34 fun v r_35 => asSl v fun m_11 fl_11 xs_11 => asCons r_35 fun v r_36 => asSl v fun m_12 fl_12 xs_12 => asCons r_36 fun v r_37 => asInt .i64 v fun n_17 => asCons r_37 fun v r_38 => asSl v fun m_13 fl_13 xs_13 => asCons r_38 fun v r_39 => asSl v fun m_14 fl_14 xs_14 => asCons r_39 fun v r_40 => asInt .i64 v fun n_18 => asCons r_40 fun v r_41 => asInt .i64 v fun n_19 => asCons r_41 fun v r_42 => asInt .i64 v fun n_20 => asCons r_42 fun v r_43 => asBool v fun b_7 => asCons r_43 fun v r_44 => asSl v fun m_15 fl_15 xs_15 => asCons r_44 fun v r_45 => asInt .i64 v fun n_21 => asCons r_45 fun v r_46 => asSl v fun m_16 fl_16 xs_16 => asCons r_46 fun v r_47 => asSl v fun m_17 fl_17 xs_17 => asCons r_47 fun v r_48 => asInt .i64 v fun n_22 => asCons r_48 fun v r_49 => asInt .i64 v fun n_23 => asCons r_49 fun v r_50 => asInt .i64 v fun n_24 => asCons r_50 fun v r_51 => asInt .i64 v fun n_25 => asCons r_51 fun v r_52 => asInt .i64 v fun n_26 => asNil r_52 (asCons r fun v r => asBool v fun b_8 => asNil r (asNil bs (bif !b_8 then onRes (F 13 [AV.agg [AV.int .i64 n, AV.bool b, AV.bool b_1, AV.int .i64 n_1, AV.sl m fl xs, AV.int .i64 n_2, AV.sl m_1 fl_1 xs_1, AV.bool b_2, AV.sl m_2 fl_2 xs_2, AV.sl m_3 fl_3 xs_3, AV.int .i64 n_3, AV.sl m_4 fl_4 xs_4, AV.sl m_5 fl_5 xs_5, AV.int .i64 n_4, AV.int .i64 n_5, AV.int .i64 n_6, AV.bool b_3, AV.sl m_6 fl_6 xs_6, AV.int .i64 n_7, AV.sl m_7 fl_7 xs_7, AV.sl m_8 fl_8 xs_8, AV.int .i64 n_8, AV.int .i64 n_9, AV.int .i64 n_10, AV.int .i64 n_11, AV.int .i64 n_12], AV.agg zdL] []) fun v bs => asBool v fun b => asNil bs (bif b then bif n_13 == 3 then onRes (F 8 [] []) fun v bs => asBool v fun b => asNil bs (some (AV.bool b, [])) else some (AV.bool false, []) else some (AV.bool false, [])) else onRes (F 13 [AV.agg [AV.int .i64 n, AV.bool b, AV.bool b_1, AV.int .i64 n_1, AV.sl m fl xs, AV.int .i64 n_2, AV.sl m_1 fl_1 xs_1, AV.bool b_2, AV.sl m_2 fl_2 xs_2, AV.sl m_3 fl_3 xs_3, AV.int .i64 n_3, AV.sl m_4 fl_4 xs_4, AV.sl m_5 fl_5 xs_5, AV.int .i64 n_4, AV.int .i64 n_5, AV.int .i64 n_6, AV.bool b_3, AV.sl m_6 fl_6 xs_6, AV.int .i64 n_7, AV.sl m_7 fl_7 xs_7, AV.sl m_8 fl_8 xs_8, AV.int .i64 n_8, AV.int .i64 n_9, AV.int .i64 n_10, AV.int .i64 n_11, AV.int .i64 n_12], AV.agg [AV.int .i64 n_14, AV.bool b_4, AV.bool b_5, AV.int .i64 n_15, AV.sl m_9 fl_9 xs_9, AV.int .i64 n_16, AV.sl m_10 fl_10 xs_10, AV.bool b_6, AV.sl m_11 fl_11 xs_11, AV.sl m_12 fl_12 xs_12, AV.int .i64 n_17, AV.sl m_13 fl_13 xs_13, AV.sl m_14 fl_14 xs_14, AV.int .i64 n_18, AV.int .i64 n_19, AV.int .i64 n_20, AV.bool b_7, AV.sl m_15 fl_15 xs_15, AV.int .i64 n_21, AV.sl m_16 fl_16 xs_16, AV.sl m_17 fl_17 xs_17, AV.int .i64 n_22, AV.int .i64 n_23, AV.int .i64 n_24, AV.int .i64 n_25, AV.int .i64 n_26]] []) fun v bs => asBool v fun b => asNil bs (bif b then bif n_13 == 0 then onRes (F 8 [] []) fun v bs => asBool v fun b => asNil bs (some (AV.bool b, [])) else some (AV.bool false, []) else some (AV.bool false, [])))))))) := by kernel_rfl
def nA : Nd := { zN with ro := 2 }
theorem nA_ok : nodeOk nA = true := (by kernel_rfl)
theorem nA_len : (nodeB nA).length = 107 := (by kernel_rfl)
theorem nA_B : NdB nA := ⟨by decide, by decide, by decide, by decide, by decide, by simp [UM, nA, zN], by decide, by simp [nA, zN], by decide, by decide, by simp [nA, zN], by decide, by decide⟩
theorem nA_is : IsB (nodeB nA) nA := ⟨nA_ok, nA_B, by decide, rfl⟩
theorem x21 (k : Nat) (hk : 1 ≤ k) : W k 21 [] [] = some (.agg (ndL nA), []) := by
  obtain ⟨k, rfl⟩ := succ1 (show 1 ≤ k by omega)
  exact (W_tree (t21 (W k) k) (by kernel_rfl)).trans (by kernel_rfl)
theorem x11ok (k : Nat) (hk : 70700 ≤ k) {s : List UInt8} {n : Nd} (h : IsB s n) : W k 11 [.str s] [] = okB n := by
  obtain ⟨m, r, hd, hw⟩ := x11 k hk s
  obtain ⟨h1, h2, h3, rfl⟩ := h
  obtain ⟨rfl, rfl⟩ := dec_put (rt_of h1 h2.cp) h2.um h3 hd
  rw [hw fun _ _ => h2]
  unfold outC
  rw [if_pos ⟨rfl, rfl, h1⟩]
theorem x8 (k : Nat) (hk : 70800 ≤ k) : W k 8 [] [] = some (.bool true, []) := by
  obtain ⟨k, rfl⟩ := succ1 (show 1 ≤ k by omega)
  refine (W_tree0 (t8 (W k) k) (by kernel_rfl)).trans ?_
  refine q_on (x21 k (by omega)) ?_
  repeat first | with_reducible refine q_tup ?_ | with_reducible refine q_cons ?_ | with_reducible refine q_nil ?_ | with_reducible refine q_str ?_ | with_reducible refine q_bool ?_ | with_reducible refine q_int ?_ | with_reducible refine q_agg ?_ | with_reducible refine q_sl ?_
  refine q_on (x9 k (by omega) nA nA_B nA_ok (by decide)) ?_
  repeat first | with_reducible refine q_tup ?_ | with_reducible refine q_cons ?_ | with_reducible refine q_nil ?_ | with_reducible refine q_str ?_ | with_reducible refine q_bool ?_ | with_reducible refine q_int ?_ | with_reducible refine q_agg ?_ | with_reducible refine q_sl ?_
  refine q_on (x11ok k (by omega) nA_is) ?_
  repeat first | with_reducible refine q_tup ?_ | with_reducible refine q_cons ?_ | with_reducible refine q_nil ?_ | with_reducible refine q_str ?_ | with_reducible refine q_bool ?_ | with_reducible refine q_int ?_ | with_reducible refine q_agg ?_ | with_reducible refine q_sl ?_
  refine q_yes (by rw [nA_len]; rfl) ?_
  rfl
theorem small_B {n : Nd} (h : smallN n = true) (hu : UM n.ch) : NdB n := by
  unfold smallN smallV smallQ at h
  simp only [Bool.and_eq_true, decide_eq_true_eq, List.all_eq_true] at h
  obtain ⟨⟨⟨⟨h1, h2, h3, h4, h5⟩, ⟨h6, h7⟩, h8⟩, ⟨h9, h10⟩, h11⟩, h12⟩ := h
  refine ⟨by omega, by omega, by omega, by omega, by omega, hu, by omega, fun s hs => h12 s hs, by omega, by omega, fun s hs => by have := h11 s hs; omega, by omega, ?_⟩
  have e : ∀ l : List Shot, (∀ s ∈ l, s.2.2.length ≤ 60) → (l.flatMap fun s => s.2.2).length ≤ 60 * l.length := by
    intro l
    induction l with
    | nil => simp
    | cons x r ih =>
      intro hl
      have e1 := ih fun s hs => hl s (List.mem_cons_of_mem _ hs)
      have e2 := hl x (List.mem_cons_self ..)
      rw [List.flatMap_cons, List.length_append, List.length_cons]
      omega
  have := e n.qs h11
  omega
theorem vsOk_blocks : ∀ (l : List Vol) (z : Int), vsOk z l = true → ∀ v ∈ l, v.2.length ≤ 32
  | [], z, _ => by simp
  | v :: r, z, h => by
    rw [vsOk, Bool.and_eq_true, Bool.and_eq_true, decide_eq_true_eq] at h
    obtain ⟨⟨h1, h2, h3, h4⟩, h5, h6⟩ := h
    intro u hu
    rcases List.mem_cons.1 hu with rfl | hu
    · exact h4
    · exact vsOk_blocks r v.1 h6 u hu
theorem isB_C {s : List UInt8} {n : Nd} (h : IsB s n) : NdC n := by
  obtain ⟨h1, h2, h3, h4⟩ := h
  have hr := rt_of h1 h2.cp
  have hv : ∀ v ∈ n.vs, v.2.length ≤ 32 := by
    have := hr.vs
    rw [vOk, Bool.and_eq_true] at this
    exact vsOk_blocks _ _ this.2
  exact ⟨h2.ln, h2.al, by have := h2.vs; omega, fun v h => by have := hv v h; omega, by have := h2.kp; omega, by have := h2.ch; omega, h2.ss, fun s h => by have := h2.sk s h; omega, by have := h2.cp; omega, h2.qs, fun s h => by have := h2.qk s h; omega, by have := h2.qo; omega⟩
theorem x13s (k : Nat) (hk : 70500 ≤ k) (n : Nd) (hc : NdC n) : W k 13 [.agg (ndL n), .agg (ndL n)] [] = some (.bool true, []) := by
  have h := x13 k hk n n hc
  rwa [(eqN_iff n n).2 rfl] at h
theorem bookEncodes (k : Nat) (hk : 71200 ≤ k) (n : Nd) (hu : UM n.ch) : W k 3 [.agg (ndL n)] [] = some (.bool true, []) := by
  obtain ⟨k, rfl⟩ := succ1 (show 1 ≤ k by omega)
  refine (W_tree0 (t3 (W k) k n) (by kernel_rfl)).trans ?_
  refine q_on (x7 k (by omega) n) ?_
  repeat first | with_reducible refine q_tup ?_ | with_reducible refine q_cons ?_ | with_reducible refine q_nil ?_ | with_reducible refine q_str ?_ | with_reducible refine q_bool ?_ | with_reducible refine q_int ?_ | with_reducible refine q_agg ?_ | with_reducible refine q_sl ?_
  cases hs : smallN n with
  | false =>
    refine q_yes rfl ?_
    refine q_on (x8 k (by omega)) ?_
    repeat first | with_reducible refine q_tup ?_ | with_reducible refine q_cons ?_ | with_reducible refine q_nil ?_ | with_reducible refine q_str ?_ | with_reducible refine q_bool ?_ | with_reducible refine q_int ?_ | with_reducible refine q_agg ?_ | with_reducible refine q_sl ?_
    rfl
  | true =>
    have hB := small_B hs hu
    have hq : n.qs.length ≤ 65535 := by
      unfold smallN smallQ at hs
      simp only [Bool.and_eq_true, decide_eq_true_eq] at hs
      omega
    refine q_no rfl ?_
    cases hok : nodeOk n with
    | false =>
      refine q_on (bad9 k (by omega) n hB hok) ?_
      repeat first | with_reducible refine q_tup ?_ | with_reducible refine q_cons ?_ | with_reducible refine q_nil ?_ | with_reducible refine q_str ?_ | with_reducible refine q_bool ?_ | with_reducible refine q_int ?_ | with_reducible refine q_agg ?_ | with_reducible refine q_sl ?_
      refine q_on (x10 k (by omega) n hB) ?_
      rw [hok]
      repeat first | with_reducible refine q_tup ?_ | with_reducible refine q_cons ?_ | with_reducible refine q_nil ?_ | with_reducible refine q_str ?_ | with_reducible refine q_bool ?_ | with_reducible refine q_int ?_ | with_reducible refine q_agg ?_ | with_reducible refine q_sl ?_
      refine q_yes rfl ?_
      refine q_yes rfl ?_
      refine q_yes rfl ?_
      refine q_on (x8 k (by omega)) ?_
      repeat first | with_reducible refine q_tup ?_ | with_reducible refine q_cons ?_ | with_reducible refine q_nil ?_ | with_reducible refine q_str ?_ | with_reducible refine q_bool ?_ | with_reducible refine q_int ?_ | with_reducible refine q_agg ?_ | with_reducible refine q_sl ?_
      rfl
    | true =>
      have hI : IsB (nodeB n) n := ⟨hok, hB, hq, rfl⟩
      refine q_on (x9 k (by omega) n hB hok hq) ?_
      repeat first | with_reducible refine q_tup ?_ | with_reducible refine q_cons ?_ | with_reducible refine q_nil ?_ | with_reducible refine q_str ?_ | with_reducible refine q_bool ?_ | with_reducible refine q_int ?_ | with_reducible refine q_agg ?_ | with_reducible refine q_sl ?_
      refine q_on (x10 k (by omega) n hB) ?_
      rw [hok]
      repeat first | with_reducible refine q_tup ?_ | with_reducible refine q_cons ?_ | with_reducible refine q_nil ?_ | with_reducible refine q_str ?_ | with_reducible refine q_bool ?_ | with_reducible refine q_int ?_ | with_reducible refine q_agg ?_ | with_reducible refine q_sl ?_
      refine q_no rfl ?_
      refine q_on (x11ok k (by omega) hI) ?_
      repeat first | with_reducible refine q_tup ?_ | with_reducible refine q_cons ?_ | with_reducible refine q_nil ?_ | with_reducible refine q_str ?_ | with_reducible refine q_bool ?_ | with_reducible refine q_int ?_ | with_reducible refine q_agg ?_ | with_reducible refine q_sl ?_
      refine q_on (x12 k (by omega) n (rt_of hok hB.cp) hB.um hB.qs) ?_
      repeat first | with_reducible refine q_tup ?_ | with_reducible refine q_cons ?_ | with_reducible refine q_nil ?_ | with_reducible refine q_str ?_ | with_reducible refine q_bool ?_ | with_reducible refine q_int ?_ | with_reducible refine q_agg ?_ | with_reducible refine q_sl ?_
      refine q_yes (by simp) ?_
      refine q_yes rfl ?_
      refine q_on (x13s k (by omega) n (isB_C hI)) ?_
      repeat first | with_reducible refine q_tup ?_ | with_reducible refine q_cons ?_ | with_reducible refine q_nil ?_ | with_reducible refine q_str ?_ | with_reducible refine q_bool ?_ | with_reducible refine q_int ?_ | with_reducible refine q_agg ?_ | with_reducible refine q_sl ?_
      refine q_yes rfl ?_
      refine q_yes rfl ?_
      refine q_on (x8 k (by omega)) ?_
      repeat first | with_reducible refine q_tup ?_ | with_reducible refine q_cons ?_ | with_reducible refine q_nil ?_ | with_reducible refine q_str ?_ | with_reducible refine q_bool ?_ | with_reducible refine q_int ?_ | with_reducible refine q_agg ?_ | with_reducible refine q_sl ?_
      rfl
end Go.AM.YtnhfjkckgicidaaGreat

set_option linter.unusedVariables false
namespace Go.AM.YtnhfjkckgicidaaGreat
open Go.AM Go.Proofs Go
section
variable {P : Program} {n t : Nat}
theorem Wt.int1 {k : IntKind} {l : List AV} (hu : P.underlying t = some (.int k)) (h : Wt P (n + 1) t l) : ∃ m, l = [.int k m] ∧ (Lit.int k m).wf = true := by
  unfold Wt at h
  rw [hu] at h
  exact h
theorem Wt.bool1 {l : List AV} (hu : P.underlying t = some .bool) (h : Wt P (n + 1) t l) : ∃ m, l = [.bool m] := by
  unfold Wt at h
  rw [hu] at h
  exact h
theorem Wt.str1 {l : List AV} (hu : P.underlying t = some .string) (h : Wt P (n + 1) t l) : ∃ s, l = [.str s] ∧ s.length ≤ reachBytes := by
  unfold Wt at h
  rw [hu] at h
  exact h
theorem Wt.sl1 {e : Nat} {l : List AV} (hu : P.underlying t = some (.slice e)) (h : Wt P (n + 1) t l) : ∃ xs, l = [.sl (P.cellsOf e) false xs] ∧ xs.length * P.bytesOf e ≤ reachBytes ∧ ∀ x ∈ xs, WtV P n e x := by
  unfold Wt at h
  rw [hu] at h
  exact h
theorem Wt.struct1 {fs : Array Field} {l : List AV} (hu : P.underlying t = some (.struct fs)) (h : Wt P (n + 1) t l) : WtFs P n (fs.toList.map (·.type)) l := by
  unfold Wt at h
  rw [hu] at h
  exact h
theorem WtV.int1 {k : IntKind} {x : AV} (hu : P.underlying t = some (.int k)) (h : WtV P (n + 1) t x) : ∃ m, x = .int k m ∧ (Lit.int k m).wf = true := by
  unfold WtV at h
  rw [hu] at h
  exact h.2
theorem WtV.str1 {x : AV} (hu : P.underlying t = some .string) (h : WtV P (n + 1) t x) : ∃ s, x = .str s ∧ s.length ≤ reachBytes := by
  unfold WtV at h
  rw [hu] at h
  exact h.2
theorem WtV.sl1 {e : Nat} {x : AV} (hu : P.underlying t = some (.slice e)) (h : WtV P (n + 1) t x) : ∃ xs, x = .sl (P.cellsOf e) false xs ∧ xs.length * P.bytesOf e ≤ reachBytes ∧ ∀ x ∈ xs, WtV P n e x := by
  unfold WtV at h
  rw [hu] at h
  exact h.2
theorem WtV.struct1 {fs : Array Field} {x : AV} (hu : P.underlying t = some (.struct fs)) (h : WtV P (n + 1) t x) : ∃ l, x = .agg l ∧ WtFs P n (fs.toList.map (·.type)) l := by
  unfold WtV at h
  rw [hu] at h
  exact h.2
theorem WtFs.cons1 {t : Nat} {ts : List TypeId} {l : List AV} (h : WtFs P n (t :: ts) l) : ∃ a b, l = a ++ b ∧ Wt P n t a ∧ WtFs P n ts b := by
  unfold WtFs at h
  obtain ⟨a, b, h1, _, h2, h3⟩ := h
  exact ⟨a, b, h1, h2, h3⟩
theorem WtFs.nil1 {l : List AV} (h : WtFs P n [] l) : l = [] := by
  unfold WtFs at h
  exact h
end
theorem all_map {α : Type} {f : α → AV} {p : AV → Prop} {q : α → Prop} (h : ∀ x, p x → ∃ a, x = f a ∧ q a) : ∀ xs : List AV, (∀ x ∈ xs, p x) → ∃ l : List α, xs = l.map f ∧ ∀ a ∈ l, q a := by
  intro xs
  induction xs with
  | nil => intro _; exact ⟨[], rfl, by simp⟩
  | cons x r ih =>
    intro hx
    obtain ⟨b, rfl, h1⟩ := h x (hx x (List.mem_cons_self ..))
    obtain ⟨l, rfl, h2⟩ := ih fun y hy => hx y (List.mem_cons_of_mem _ hy)
    exact ⟨b :: l, rfl, by
      intro c hc
      rcases List.mem_cons.1 hc with rfl | hc
      · exact h1
      · exact h2 c hc⟩
theorem wf_i64 {m : Int} (h : (Lit.int .i64 m).wf = true) : -9223372036854775808 ≤ m ∧ m < 9223372036854775808 := by
  have e1 : IntKind.min .i64 = -9223372036854775808 := by decide
  have e2 : IntKind.max .i64 = 9223372036854775807 := by decide
  simp only [Lit.wf, e1, e2, Bool.and_eq_true, decide_eq_true_eq] at h
  omega
theorem wf_u64 {m : Int} (h : (Lit.int .u64 m).wf = true) : 0 ≤ m ∧ m < 18446744073709551616 := by
  have e1 : IntKind.min .u64 = 0 := by decide
  have e2 : IntKind.max .u64 = 18446744073709551615 := by decide
  simp only [Lit.wf, e1, e2, Bool.and_eq_true, decide_eq_true_eq] at h
  omega
theorem wt_int {n : Nat} {l : List AV} (h : Wt Tryz.prog (n + 1) 3 l) : ∃ m, l = [.int .i64 m] ∧ -9223372036854775808 ≤ m ∧ m < 9223372036854775808 := by
  obtain ⟨m, h1, h2⟩ := Wt.int1 Tryz.underlying3 h
  exact ⟨m, h1, wf_i64 h2⟩
theorem wt_u64 {n : Nat} {l : List AV} (h : Wt Tryz.prog (n + 1) 112 l) : ∃ m, l = [.int .u64 m] ∧ 0 ≤ m ∧ m < 18446744073709551616 := by
  obtain ⟨m, h1, h2⟩ := Wt.int1 Tryz.underlying112 h
  exact ⟨m, h1, wf_u64 h2⟩
theorem wt_bool {n : Nat} {l : List AV} (h : Wt Tryz.prog (n + 1) 4 l) : ∃ m, l = [.bool m] := Wt.bool1 Tryz.underlying4 h
theorem wt_str {n : Nat} {x : AV} (h : WtV Tryz.prog (n + 1) 9 x) : ∃ s, x = .str s ∧ s.length ≤ 140737488351232 := WtV.str1 Tryz.underlying9 h
theorem wt_str' {n : Nat} {l : List AV} (h : Wt Tryz.prog (n + 1) 9 l) : ∃ s, l = [.str s] ∧ s.length ≤ 140737488351232 := Wt.str1 Tryz.underlying9 h
theorem wt_branch {n : Nat} {x : AV} (h : WtV Tryz.prog (n + 2) 120 x) : ∃ b : Int × Int, x = brV b ∧ True := by
  obtain ⟨l, rfl, hl⟩ := WtV.struct1 Tryz.underlying120 h
  obtain ⟨a, r, rfl, h1, h2⟩ := WtFs.cons1 hl
  obtain ⟨b, r, rfl, h3, h4⟩ := WtFs.cons1 h2
  obtain rfl := WtFs.nil1 h4
  obtain ⟨m, rfl, _, hm⟩ := wt_int h1
  obtain ⟨m', rfl, _, hm'⟩ := wt_int h3
  exact ⟨(m, m'), rfl, trivial⟩
theorem wt_line {n : Nat} {x : List AV} (h : Wt Tryz.prog (n + 3) 22 x) : ∃ l, x = [lnV l] := by
  obtain ⟨xs, rfl, hx, hall⟩ := Wt.sl1 Tryz.underlying22 h
  have hc : Tryz.prog.cellsOf 120 = 2 := by kernel_rfl
  rw [hc]
  obtain ⟨l, rfl, h1⟩ := all_map (fun x hx => wt_branch hx) xs hall
  exact ⟨l, rfl⟩
theorem wt_bit {n : Nat} {x : AV} (h : WtV Tryz.prog (n + 2) 114 x) : ∃ b : Int × Int, x = btV b ∧ (0 ≤ b.2 ∧ b.2 < 18446744073709551616) := by
  obtain ⟨l, rfl, hl⟩ := WtV.struct1 Tryz.underlying114 h
  obtain ⟨a, r, rfl, h1, h2⟩ := WtFs.cons1 hl
  obtain ⟨b, r, rfl, h3, h4⟩ := WtFs.cons1 h2
  obtain rfl := WtFs.nil1 h4
  obtain ⟨m, rfl, _, hm⟩ := wt_int h1
  obtain ⟨m', rfl, hm'⟩ := wt_u64 h3
  exact ⟨(m, m'), rfl, hm'⟩
theorem wt_bits {n : Nat} {x : List AV} (h : Wt Tryz.prog (n + 3) 27 x) : ∃ l, x = [btsV l] ∧ UM l := by
  obtain ⟨xs, rfl, hx, hall⟩ := Wt.sl1 Tryz.underlying27 h
  have hc : Tryz.prog.cellsOf 114 = 2 := by kernel_rfl
  rw [hc]
  obtain ⟨l, rfl, h1⟩ := all_map (fun x hx => wt_bit hx) xs hall
  exact ⟨l, rfl, h1⟩
theorem wt_write {n : Nat} {x : AV} (h : WtV Tryz.prog (n + 2) 147 x) : ∃ w : Wr, x = wrV w ∧ True := by
  obtain ⟨l, rfl, hl⟩ := WtV.struct1 Tryz.underlying147 h
  obtain ⟨a, r, rfl, h1, h2⟩ := WtFs.cons1 hl
  obtain ⟨b, r, rfl, h3, h4⟩ := WtFs.cons1 h2
  obtain ⟨c, r, rfl, h5, h6⟩ := WtFs.cons1 h4
  obtain rfl := WtFs.nil1 h6
  obtain ⟨m, rfl, _, hm⟩ := wt_int h1
  obtain ⟨m', rfl, _, hm'⟩ := wt_int h3
  obtain ⟨s, rfl, hs⟩ := wt_str' h5
  exact ⟨(m, m', s), rfl, trivial⟩
theorem wt_writes {n : Nat} {x : List AV} (h : Wt Tryz.prog (n + 3) 24 x) : ∃ l : List Wr, x = [wsV l] := by
  obtain ⟨xs, rfl, hx, hall⟩ := Wt.sl1 Tryz.underlying24 h
  have hc : Tryz.prog.cellsOf 147 = 3 := by kernel_rfl
  rw [hc]
  obtain ⟨l, rfl, h1⟩ := all_map (fun x hx => wt_write hx) xs hall
  exact ⟨l, rfl⟩
theorem wt_vol {n : Nat} {x : AV} (h : WtV Tryz.prog (n + 3) 103 x) : ∃ v : Vol, x = volV false v ∧ True := by
  obtain ⟨l, rfl, hl⟩ := WtV.struct1 Tryz.underlying103 h
  obtain ⟨a, r, rfl, h1, h2⟩ := WtFs.cons1 hl
  obtain ⟨b, r, rfl, h3, h4⟩ := WtFs.cons1 h2
  obtain rfl := WtFs.nil1 h4
  obtain ⟨m, rfl, _, hm⟩ := wt_int h1
  obtain ⟨xs, rfl, hx, hall⟩ := Wt.sl1 Tryz.underlying49 h3
  have hc : Tryz.prog.cellsOf 9 = 1 := by kernel_rfl
  rw [hc]
  obtain ⟨l, rfl, h1⟩ := all_map (fun x hx => wt_str hx) xs hall
  exact ⟨(m, l), rfl, trivial⟩
theorem wt_vols {n : Nat} {x : List AV} (h : Wt Tryz.prog (n + 4) 23 x) : ∃ l : List Vol, x = [vsV l] := by
  obtain ⟨xs, rfl, hx, hall⟩ := Wt.sl1 Tryz.underlying23 h
  have hc : Tryz.prog.cellsOf 103 = 2 := by kernel_rfl
  rw [hc]
  obtain ⟨l, rfl, h1⟩ := all_map (fun x hx => wt_vol hx) xs hall
  exact ⟨l, rfl⟩
theorem wt_fields {n : Nat} {l : List AV} (h : WtFs Tryz.prog (n + 3) [3, 3, 24] l) : ∃ s : Shot, l = [.int .i64 s.1, .int .i64 s.2.1, wsV s.2.2] := by
  obtain ⟨a, r, rfl, h1, h2⟩ := WtFs.cons1 h
  obtain ⟨b, r, rfl, h3, h4⟩ := WtFs.cons1 h2
  obtain ⟨c, r, rfl, h5, h6⟩ := WtFs.cons1 h4
  obtain rfl := WtFs.nil1 h6
  obtain ⟨m, rfl, _, hm⟩ := wt_int h1
  obtain ⟨m', rfl, _, hm'⟩ := wt_int h3
  obtain ⟨ws, rfl⟩ := wt_writes h5
  exact ⟨(m, m', ws), rfl⟩
theorem wt_shot {n : Nat} {x : AV} (h : WtV Tryz.prog (n + 4) 59 x) : ∃ v : Shot, x = shV v ∧ True := by
  obtain ⟨l, rfl, hl⟩ := WtV.struct1 Tryz.underlying59 h
  obtain ⟨s, rfl⟩ := wt_fields hl
  exact ⟨s, rfl, trivial⟩
theorem wt_set {n : Nat} {x : AV} (h : WtV Tryz.prog (n + 4) 70 x) : ∃ v : Shot, x = shV v ∧ True := by
  obtain ⟨l, rfl, hl⟩ := WtV.struct1 Tryz.underlying70 h
  obtain ⟨s, rfl⟩ := wt_fields hl
  exact ⟨s, rfl, trivial⟩
theorem wt_shots {n : Nat} {x : List AV} (h : Wt Tryz.prog (n + 5) 28 x) : ∃ l : List Shot, x = [shsV l] := by
  obtain ⟨xs, rfl, hx, hall⟩ := Wt.sl1 Tryz.underlying28 h
  have hc : Tryz.prog.cellsOf 59 = 3 := by kernel_rfl
  rw [hc]
  obtain ⟨l, rfl, h1⟩ := all_map (fun x hx => wt_shot hx) xs hall
  exact ⟨l, rfl⟩
theorem wt_sets {n : Nat} {x : List AV} (h : Wt Tryz.prog (n + 5) 29 x) : ∃ l : List Shot, x = [shsV l] := by
  obtain ⟨xs, rfl, hx, hall⟩ := Wt.sl1 Tryz.underlying29 h
  have hc : Tryz.prog.cellsOf 70 = 3 := by kernel_rfl
  rw [hc]
  obtain ⟨l, rfl, h1⟩ := all_map (fun x hx => wt_set hx) xs hall
  exact ⟨l, rfl⟩
theorem wt_pos {n : Nat} {x : List AV} (h : Wt Tryz.prog (n + 4) 26 x) : ∃ (l : List (Int × Int)) (z : Int), x = [lnV l, .int .i64 z] := by
  have h := Wt.struct1 Tryz.underlying26 h
  obtain ⟨a, r, rfl, h1, h2⟩ := WtFs.cons1 h
  obtain ⟨b, r, rfl, h3, h4⟩ := WtFs.cons1 h2
  obtain rfl := WtFs.nil1 h4
  obtain ⟨l, rfl⟩ := wt_line h1
  obtain ⟨m', rfl, _, hm'⟩ := wt_int h3
  exact ⟨l, m', rfl⟩
theorem wt_queue {n : Nat} {x : List AV} (h : Wt Tryz.prog (n + 6) 31 x) : ∃ (l : List Shot) (w : List Wr) (y z : Int), x = [shsV l, wsV w, .int .i64 y, .int .i64 z] := by
  have h := Wt.struct1 Tryz.underlying31 h
  obtain ⟨a, r, rfl, h1, h2⟩ := WtFs.cons1 h
  obtain ⟨b, r, rfl, h3, h4⟩ := WtFs.cons1 h2
  obtain ⟨c, r, rfl, h5, h6⟩ := WtFs.cons1 h4
  obtain ⟨d, r, rfl, h7, h8⟩ := WtFs.cons1 h6
  obtain rfl := WtFs.nil1 h8
  obtain ⟨l, rfl⟩ := wt_sets h1
  obtain ⟨w, rfl⟩ := wt_writes h3
  obtain ⟨m, rfl, _, _⟩ := wt_int h5
  obtain ⟨m', rfl, _, _⟩ := wt_int h7
  exact ⟨l, w, m, m', rfl⟩
theorem wt_node {n : Nat} {x : AV} (h : WtV Tryz.prog (n + 7) 33 x) : ∃ m : Nd, x = .agg (ndL m) ∧ UM m.ch := by
  obtain ⟨l, rfl, h0⟩ := WtV.struct1 Tryz.underlying33 h
  obtain ⟨a0, r, rfl, g0, h1⟩ := WtFs.cons1 h0
  obtain ⟨a1, r, rfl, g1, h2⟩ := WtFs.cons1 h1
  obtain ⟨a2, r, rfl, g2, h3⟩ := WtFs.cons1 h2
  obtain ⟨a3, r, rfl, g3, h4⟩ := WtFs.cons1 h3
  obtain ⟨a4, r, rfl, g4, h5⟩ := WtFs.cons1 h4
  obtain ⟨a5, r, rfl, g5, h6⟩ := WtFs.cons1 h5
  obtain ⟨a6, r, rfl, g6, h7⟩ := WtFs.cons1 h6
  obtain ⟨a7, r, rfl, g7, h8⟩ := WtFs.cons1 h7
  obtain ⟨a8, r, rfl, g8, h9⟩ := WtFs.cons1 h8
  obtain ⟨a9, r, rfl, g9, h10⟩ := WtFs.cons1 h9
  obtain ⟨a10, r, rfl, g10, h11⟩ := WtFs.cons1 h10
  obtain ⟨a11, r, rfl, g11, h12⟩ := WtFs.cons1 h11
  obtain ⟨a12, r, rfl, g12, h13⟩ := WtFs.cons1 h12
  obtain ⟨a13, r, rfl, g13, h14⟩ := WtFs.cons1 h13
  obtain ⟨a14, r, rfl, g14, h15⟩ := WtFs.cons1 h14
  obtain ⟨a15, r, rfl, g15, h16⟩ := WtFs.cons1 h15
  obtain ⟨a16, r, rfl, g16, h17⟩ := WtFs.cons1 h16
  obtain ⟨a17, r, rfl, g17, h18⟩ := WtFs.cons1 h17
  obtain ⟨a18, r, rfl, g18, h19⟩ := WtFs.cons1 h18
  obtain ⟨a19, r, rfl, g19, h20⟩ := WtFs.cons1 h19
  obtain ⟨a20, r, rfl, g20, h21⟩ := WtFs.cons1 h20
  obtain ⟨a21, r, rfl, g21, h22⟩ := WtFs.cons1 h21
  obtain rfl := WtFs.nil1 h22
  obtain ⟨v0, rfl, _, _⟩ := wt_int g0
  obtain ⟨v1, rfl⟩ := wt_bool g1
  obtain ⟨v2, rfl⟩ := wt_bool g2
  obtain ⟨v3, rfl, _, _⟩ := wt_int g3
  obtain ⟨v4, rfl⟩ := wt_line g4
  obtain ⟨v5, rfl, _, _⟩ := wt_int g5
  obtain ⟨v6, rfl⟩ := wt_vols g6
  obtain ⟨v7, rfl⟩ := wt_bool g7
  obtain ⟨v8, rfl⟩ := wt_writes g8
  obtain ⟨v9, w9, rfl⟩ := wt_pos g9
  obtain ⟨v10, rfl, hu⟩ := wt_bits g10
  obtain ⟨v11, rfl⟩ := wt_shots g11
  obtain ⟨v12, rfl, _, _⟩ := wt_int g12
  obtain ⟨v13, rfl, _, _⟩ := wt_int g13
  obtain ⟨v14, rfl, _, _⟩ := wt_int g14
  obtain ⟨v15, rfl⟩ := wt_bool g15
  obtain ⟨v16, rfl⟩ := wt_writes g16
  obtain ⟨v17, rfl, _, _⟩ := wt_int g17
  obtain ⟨v18, w18, x18, y18, rfl⟩ := wt_queue g18
  obtain ⟨v19, rfl, _, _⟩ := wt_int g19
  obtain ⟨v20, rfl, _, _⟩ := wt_int g20
  obtain ⟨v21, rfl, _, _⟩ := wt_int g21
  exact ⟨⟨v0, v1, v2, v3, v4, v5, v6, v7, v8, v9, w9, v10, v11, v12, v13, v14, v15, v16, v17, v18, w18, x18, y18, v19, v20, v21⟩, rfl, hu⟩
theorem noLs : ∀ f fx, pr.f f = some (.inl fx) → fx.ls = [] := by
  have e : fnl.all (fun p => p.2.ls.isEmpty) = true := by kernel_rfl
  intro f fx h
  have h1 : find f fnl = some fx := by
    have h : mkF fnl [] f = some (.inl fx) := h
    simp only [mkF, find] at h
    cases hf : find f fnl with
    | none => rw [hf] at h; simp at h
    | some g => rw [hf] at h; simp at h; rw [h]
  have h2 : ∀ (l : List (Nat × Fx)), find f l = some fx → ∃ m, (m, fx) ∈ l := by
    intro l
    induction l with
    | nil => simp [find]
    | cons p r ih =>
      obtain ⟨m, v⟩ := p
      intro h
      rw [find] at h
      split at h
      · simp only [Option.some.injEq] at h
        subst h
        exact ⟨m, List.mem_cons_self ..⟩
      · obtain ⟨m', hm⟩ := ih h
        exact ⟨m', List.mem_cons_of_mem _ hm⟩
  obtain ⟨m, hm⟩ := h2 fnl h1
  have := List.all_eq_true.1 e _ hm
  simpa using this
theorem W_sound (k : Nat) : SoundF Tryz.prog (W k) := evW_sound pr_ok noLs old ct k
theorem law_bookEncodes (avs : List AV) (h : WtArgs Tryz.prog 9 [33] avs) : ∃ k, W k 3 avs [] = some (.bool true, []) := by
  obtain ⟨x, r, rfl, h1, h2⟩ := h
  obtain rfl : r = [] := h2
  obtain ⟨m, rfl, hu⟩ := wt_node h1
  exact ⟨71200, bookEncodes 71200 (by omega) m hu⟩
end Go.AM.YtnhfjkckgicidaaGreat
