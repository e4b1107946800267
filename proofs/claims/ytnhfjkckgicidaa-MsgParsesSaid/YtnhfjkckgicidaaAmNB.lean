/- What is written is taken back; the law MsgKeeps, plain. -/
import Derived.Test.YtnhfjkckgicidaaAmNA
set_option linter.unusedVariables false
set_option linter.unusedSimpArgs false
namespace Go.AM.Ytnhfjkckgicidaa
open Go.AM Go.Proofs Go

theorem num_be (w n : Nat) (t : List UInt8) (h : n < 256 ^ w) (h2 : n < 9223372036854775808) : num w (be w n ++ t) = some (n, t) := by
  have hl : (be w n).length = w := be_length w n
  have ht : (be w n ++ t).take w = be w n := by rw [List.take_append_of_le_length (by omega), List.take_of_length_le (by omega)]
  have hd : (be w n ++ t).drop w = t := by rw [List.drop_append_of_le_length (by omega), List.drop_eq_nil_of_le (by omega), List.nil_append]
  have hu : unbe (be w n) 0 = n := by rw [unbe_be, Nat.zero_mul, Nat.zero_add, Nat.mod_eq_of_lt h]
  have he : numE w (be w n ++ t) = 0 := by
    unfold numE
    rw [if_neg (by rw [List.length_append]; omega), ht, hu, if_neg (by omega)]
  unfold num numN
  rw [if_pos he, if_pos he, ht, hd, hu]
theorem be8_nat (n : Nat) (h : n < 9223372036854775808) : be8 (n : Int) = be 8 n := by
  unfold be8
  rw [show (8 : Int) = ((8 : Nat) : Int) from rfl, putV_small n 8 (by omega) (by omega) (by omega)]
/-- Branches whose numbers may be written. -/
def Fit (l : List (Int × Int)) : Prop := ∀ b ∈ l, 0 ≤ b.1 ∧ b.1 < 9223372036854775808 ∧ 0 ≤ b.2 ∧ b.2 < 9223372036854775808
theorem brs_put : ∀ (l : List (Int × Int)) (t : List UInt8), Fit l → brs l.length (l.flatMap brB ++ t) = some (l, t)
  | [], t, _ => rfl
  | b :: r, t, h => by
    obtain ⟨h1, h2, h3, h4⟩ := h b (List.mem_cons_self ..)
    obtain ⟨e, a⟩ := b
    simp only at h1 h2 h3 h4
    obtain ⟨e, rfl⟩ : ∃ n : Nat, e = n := ⟨e.toNat, by omega⟩
    obtain ⟨a, rfl⟩ : ∃ n : Nat, a = n := ⟨a.toNat, by omega⟩
    have hr := brs_put r t fun c hc => h c (List.mem_cons_of_mem _ hc)
    rw [List.length_cons, List.flatMap_cons, brs, brB, be8_nat e (by omega), be8_nat a (by omega), List.append_assoc, List.append_assoc, num_be 8 e _ (by omega) (by omega)]
    simp only
    rw [num_be 8 a _ (by omega) (by omega)]
    simp only
    rw [hr]
theorem chain_fit : ∀ (l : List (Int × Int)) (e a : Int), 0 ≤ e → 0 ≤ a → chain e a l = true → Fit l
  | [], e, a, _, _, _ => by simp [Fit]
  | b :: r, e, a, he, ha, h => by
    rw [chain, Bool.and_eq_true, decide_eq_true_eq] at h
    obtain ⟨⟨h1, h2, h3, h4⟩, h5⟩ := h
    intro c hc
    rcases List.mem_cons.1 hc with rfl | hc
    · omega
    · exact chain_fit r b.1 b.2 (by omega) (by omega) h5 c hc
theorem lined_parts {l : List (Int × Int)} (h : lined l = true) : l.length ≤ 64 ∧ Fit l := by
  cases l with
  | nil => exact ⟨by simp, by simp [Fit]⟩
  | cons b r =>
    have h : lineOk (b :: r) = true := h
    rw [lineOk, Bool.and_eq_true, Bool.and_eq_true, decide_eq_true_eq] at h
    exact ⟨h.1, chain_fit _ 0 0 (by omega) (by omega) h.2.2⟩
theorem takeL_put (l : List (Int × Int)) (t : List UInt8) (h : lined l = true) : takeL (putL l ++ t) = some (l, t) := by
  obtain ⟨h1, h2⟩ := lined_parts h
  have hb : be 1 l.length = [UInt8.ofNat l.length] := by
    rw [be, be, List.nil_append, Nat.mod_eq_of_lt (by omega)]
  have hp : putL l ++ t = be 1 l.length ++ (l.flatMap brB ++ t) := by
    rw [hb, putL, List.cons_append, List.singleton_append]
  unfold takeL
  rw [hp, num_be 1 l.length _ (by omega) (by omega)]
  simp only
  rw [brs_put l t h2]
  simp only [h, if_true]
theorem be1 (n : Nat) (h : n < 256) : be 1 n = [UInt8.ofNat n] := by rw [be, be, List.nil_append, Nat.mod_eq_of_lt h]
theorem takeT_put (d t : List UInt8) (h : d.length < 65536) : takeT (be 2 d.length ++ d ++ t) = some (d, t) := by
  unfold takeT
  rw [List.append_assoc, num_be 2 d.length _ (by omega) (by omega)]
  simp only
  rw [if_neg (by rw [List.length_append]; omega), List.take_append_of_le_length (by omega), List.take_of_length_le (by omega), List.drop_append_of_le_length (by omega), List.drop_eq_nil_of_le (by omega), List.nil_append]
theorem wr1_put (w : Wr) (t : List UInt8) (h : badW w = false) : wr1 (wrB w ++ t) = some (w, t) := by
  obtain ⟨h1, h2, h3, h4, h5⟩ := badW_not h
  obtain ⟨v, b, d⟩ := w
  simp only at h1 h2 h3 h4 h5
  obtain ⟨v, rfl⟩ : ∃ n : Nat, v = n := ⟨v.toNat, by omega⟩
  obtain ⟨b, rfl⟩ : ∃ n : Nat, b = n := ⟨b.toNat, by omega⟩
  have hw : wrB ((v : Int), (b : Int), d) ++ t = be 1 v ++ (be 1 b ++ (be 2 d.length ++ d ++ t)) := by
    rw [be1 v (by omega), be1 b (by omega), wrB]
    simp
  unfold wr1
  rw [hw, num_be 1 v _ (by omega) (by omega)]
  simp only
  rw [num_be 1 b _ (by omega) (by omega)]
  simp only
  rw [takeT_put d t (by omega)]
theorem wrs_put : ∀ (l : List Wr) (t : List UInt8), l.any badW = false → wrs l.length (l.flatMap wrB ++ t) = some (l, t)
  | [], t, _ => rfl
  | w :: r, t, h => by
    rw [List.any_cons, Bool.or_eq_false_iff] at h
    have hr := wrs_put r t h.2
    rw [List.length_cons, List.flatMap_cons, wrs, List.append_assoc, wr1_put w _ h.1]
    simp only
    rw [hr]
theorem takeW_put (l : List Wr) (t : List UInt8) (h : wOk l = true) : takeW (putW l ++ t) = some (l, t) := by
  obtain ⟨h1, h2, h3⟩ := wOk_parts h
  unfold takeW putW
  rw [List.append_assoc, num_be 2 l.length _ (by omega) (by omega)]
  simp only
  rw [wrs_put l t h3]
  simp only [h, if_true]
theorem flatMap_length_le {α : Type} (f : α → List UInt8) (c : Nat) : ∀ l : List α, (∀ a ∈ l, (f a).length ≤ c) → (l.flatMap f).length ≤ c * l.length
  | [], h => by simp
  | a :: r, h => by
    have h1 := h a (List.mem_cons_self ..)
    have h2 := flatMap_length_le f c r fun b hb => h b (List.mem_cons_of_mem _ hb)
    rw [List.flatMap_cons, List.length_append, List.length_cons, Nat.mul_succ]
    omega
theorem putL_length (l : List (Int × Int)) : (putL l).length ≤ 1 + 16 * l.length := by
  have := flatMap_length_le brB 16 l fun b _ => brB_length b
  rw [putL, List.length_cons]
  omega
theorem putW_length {l : List Wr} (h : wOk l = true) : (putW l).length ≤ 2 + 12 * l.length := by
  obtain ⟨h1, h2, h3⟩ := wOk_parts h
  have := flatMap_length_le wrB 12 l fun w hw => wrB_length (by
    cases hc : badW w with
    | false => rfl
    | true =>
      have : l.any badW = true := List.any_eq_true.2 ⟨w, hw, hc⟩
      rw [h3] at this
      exact absurd this (by simp))
  rw [putW, List.length_append, be_length]
  omega

theorem keeps_tree (F : Fns) (N : Nat) (fl fl' : Bool) (xs ys : List AV) (s : List UInt8) : runOf F 5 N [.sl 2 fl xs, .sl 3 fl' ys, .str s] [] =
  bif decide (((List.length xs : Nat) : Int) > 100) then onRes (F 10 [] []) fun v bs => AM.asBool v fun b => asNil bs (some (AV.bool b, [])) else bif decide (((List.length ys : Nat) : Int) > 200) then onRes (F 10 [] []) fun v bs => AM.asBool v fun b => asNil bs (some (AV.bool b, [])) else bif decide (((List.length s : Nat) : Int) > 4096) then onRes (F 10 [] []) fun v bs => AM.asBool v fun b => asNil bs (some (AV.bool b, [])) else onRes (F 17 [AV.sl 2 fl xs] []) fun v bs => asTup v fun cs => asCons cs fun v r => asStr v fun s_1 => asCons r fun v r => AM.asInt IntKind.i64 v fun n => asNil r (asNil bs (bif n == 0 then bif decide (List.length s_1 + List.length s ≤ 4611686018427387904) then onRes (F 20 [AV.str (s_1 ++ s)] []) fun v bs => asTup v fun cs => asCons cs fun v r => asSl v fun m fl_1 xs_1 => asCons r fun v r => asStr v fun s_2 => asCons r fun v r => AM.asInt IntKind.i64 v fun n => asNil r (asNil bs (onRes (F 22 [AV.sl m fl_1 xs_1, AV.sl 2 fl xs] []) fun v bs => AM.asBool v fun b => asNil bs (bif !b then some (AV.bool false, []) else bif !s_2 == s then some (AV.bool false, []) else bif n != 0 then some (AV.bool false, []) else onRes (F 11 [AV.sl 3 fl' ys] []) fun v bs => asTup v fun cs => asCons cs fun v r => asStr v fun s_3 => asCons r fun v r => AM.asInt IntKind.i64 v fun n => asNil r (asNil bs (bif n == 0 then bif decide (List.length s_3 + List.length s ≤ 4611686018427387904) then onRes (F 14 [AV.str (s_3 ++ s)] []) fun v bs => asTup v fun cs => asCons cs fun v r => asSl v fun m fl xs => asCons r fun v r => asStr v fun s_4 => asCons r fun v r => AM.asInt IntKind.i64 v fun n => asNil r (asNil bs (onRes (F 16 [AV.sl m fl xs, AV.sl 3 fl' ys] []) fun v bs => AM.asBool v fun b => asNil bs (bif !b then some (AV.bool false, []) else bif !s_4 == s then some (AV.bool false, []) else bif n != 0 then some (AV.bool false, []) else onRes (F 10 [] []) fun v bs => AM.asBool v fun b => asNil bs (some (AV.bool b, []))))) else none else onRes (F 10 [] []) fun v bs => AM.asBool v fun b => asNil bs (some (AV.bool b, []))))))) else none else onRes (F 11 [AV.sl 3 fl' ys] []) fun v bs => asTup v fun cs => asCons cs fun v r => asStr v fun s_2 => asCons r fun v r => AM.asInt IntKind.i64 v fun n => asNil r (asNil bs (bif n == 0 then bif decide (List.length s_2 + List.length s ≤ 4611686018427387904) then onRes (F 14 [AV.str (s_2 ++ s)] []) fun v bs => asTup v fun cs => asCons cs fun v r => asSl v fun m fl xs => asCons r fun v r => asStr v fun s_3 => asCons r fun v r => AM.asInt IntKind.i64 v fun n => asNil r (asNil bs (onRes (F 16 [AV.sl m fl xs, AV.sl 3 fl' ys] []) fun v bs => AM.asBool v fun b => asNil bs (bif !b then some (AV.bool false, []) else bif !s_3 == s then some (AV.bool false, []) else bif n != 0 then some (AV.bool false, []) else onRes (F 10 [] []) fun v bs => AM.asBool v fun b => asNil bs (some (AV.bool b, []))))) else none else onRes (F 10 [] []) fun v bs => AM.asBool v fun b => asNil bs (some (AV.bool b, [])))))) := by kernel_rfl
theorem msgKeeps (fl fl' : Bool) (l : List (Int × Int)) (hs : Sm l) (ws : List Wr) (s : List UInt8) : evF pr 70000 5 [.sl 2 fl (l.map brV), .sl 3 fl' (ws.map wrV), .str s] [] = some (.bool true, []) := by
  rw [ev_step _ _ _ _ (by kernel_rfl), keeps_tree, List.length_map, List.length_map, e10b]
  by_cases h1 : l.length ≤ 100
  · by_cases h2 : ws.length ≤ 200
    · by_cases h3 : s.length ≤ 4096
      · rw [decide_eq_false (show ¬ ((l.length : Nat) : Int) > 100 by omega), decide_eq_false (show ¬ ((ws.length : Nat) : Int) > 200 by omega), decide_eq_false (show ¬ ((s.length : Nat) : Int) > 4096 by omega), e17 69999 fl l (by omega) hs (by omega), e11 69999 fl' ws (by omega)]
        have hw : wOk ws = true → ((putW ws).length + s.length ≤ 4611686018427387904 ∧ evF pr 69999 14 [.str (putW ws ++ s)] [] = some (.tup [slW ws, .str s, .int .i64 0], []) ∧ evF pr 69999 16 [slW ws, .sl 3 fl' (ws.map wrV)] [] = some (.bool true, [])) := by
          intro hok
          have := putW_length hok
          refine ⟨by omega, ?_, ?_⟩
          · rw [e14 69999 (by omega), takeW_put ws s hok]
            rfl
          · have he := e16' 69999 (IsW.slW ws) (.inl ⟨fl', rfl⟩ : IsW (.sl 3 fl' (ws.map wrV)) ws) (by omega) (by omega)
            rw [decide_eq_true rfl] at he
            exact he
        have hl : lined l = true → ((putL l).length + s.length ≤ 4611686018427387904 ∧ evF pr 69999 20 [.str (putL l ++ s)] [] = some (.tup [slB l, .str s, .int .i64 0], []) ∧ evF pr 69999 22 [slB l, .sl 2 fl (l.map brV)] [] = some (.bool true, [])) := by
          intro hok
          have := putL_length l
          refine ⟨by omega, ?_, ?_⟩
          · rw [e20 69999 (by omega), takeL_put l s hok]
            rfl
          · have he := e22' 69999 (IsL.slB l) (.inl ⟨fl, rfl⟩ : IsL (.sl 2 fl (l.map brV)) l) (by omega) (by omega)
            rw [decide_eq_true rfl] at he
            exact he
        obtain ⟨m1, f1, x1, q1, _⟩ := slB_sl l
        obtain ⟨m2, f2, x2, q2, _⟩ := slW_sl ws
        rw [q1] at hl
        rw [q2] at hw
        cases hok : lined l with
        | false =>
          cases hok2 : wOk ws with
          | false => rfl
          | true =>
            obtain ⟨a1, a2, a3⟩ := hw hok2
            simp only [Bool.false_eq_true, if_false, if_true, onRes, asTup, asCons, asStr, asInt, asNil, asBool, asSl, cond_false, cond_true, beq_self_eq_true, Bool.not_true, decide_eq_true a1, a2, a3, show ((1 : Int) == 0) = false from rfl, show ((0 : Int) != 0) = false from rfl]
        | true =>
          obtain ⟨b1, b2, b3⟩ := hl hok
          cases hok2 : wOk ws with
          | false =>
            simp only [Bool.false_eq_true, if_false, if_true, onRes, asTup, asCons, asStr, asInt, asNil, asBool, asSl, cond_false, cond_true, beq_self_eq_true, Bool.not_true, decide_eq_true b1, b2, b3, show ((1 : Int) == 0) = false from rfl, show ((0 : Int) != 0) = false from rfl]
          | true =>
            obtain ⟨a1, a2, a3⟩ := hw hok2
            simp only [Bool.false_eq_true, if_false, if_true, onRes, asTup, asCons, asStr, asInt, asNil, asBool, asSl, cond_false, cond_true, beq_self_eq_true, Bool.not_true, decide_eq_true b1, b2, b3, decide_eq_true a1, a2, a3, show ((1 : Int) == 0) = false from rfl, show ((0 : Int) != 0) = false from rfl]
      · rw [decide_eq_false (show ¬ ((l.length : Nat) : Int) > 100 by omega), decide_eq_false (show ¬ ((ws.length : Nat) : Int) > 200 by omega), decide_eq_true (show ((s.length : Nat) : Int) > 4096 by omega)]
        rfl
    · rw [decide_eq_false (show ¬ ((l.length : Nat) : Int) > 100 by omega), decide_eq_true (show ((ws.length : Nat) : Int) > 200 by omega)]
      rfl
  · rw [decide_eq_true (show ((l.length : Nat) : Int) > 100 by omega)]
    rfl

end Go.AM.Ytnhfjkckgicidaa
