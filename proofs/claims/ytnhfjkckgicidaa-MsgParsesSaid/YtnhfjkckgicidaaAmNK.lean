/- Messages: what is written is read back; the laws MsgBytes and MsgApart, plain. -/
import Derived.Test.YtnhfjkckgicidaaAmNJ
set_option linter.unusedVariables false
set_option linter.unusedSimpArgs false
namespace Go.AM.Ytnhfjkckgicidaa
open Go.AM Go.Proofs Go

theorem bt1_put (b : Int × Int) (t : List UInt8) (h : 1 ≤ b.1 ∧ b.1 ≤ 255 ∧ b.2 ≠ 0 ∧ b.2 < 4294967296) (h0 : 0 ≤ b.2) : bt1 (btB b ++ t) = b := by
  obtain ⟨v, m⟩ := b
  simp only at h h0
  obtain ⟨v, rfl⟩ : ∃ n : Nat, v = n := ⟨v.toNat, by omega⟩
  obtain ⟨m, rfl⟩ : ∃ n : Nat, m = n := ⟨m.toNat, by omega⟩
  have hl : (be 4 m).length = 4 := be_length 4 m
  have e1 : (btB ((v : Int), (m : Int)) ++ t) = UInt8.ofNat v :: (be 4 m ++ t) := by
    rw [btB, Int.toNat_natCast, Int.toNat_natCast, List.cons_append]
  rw [e1, bt1]
  have e2 : ((UInt8.ofNat v :: (be 4 m ++ t)).drop 1).take 4 = be 4 m := by
    rw [List.drop_succ_cons, List.drop_zero, List.take_append_of_le_length (by omega), List.take_of_length_le (by omega)]
  rw [e2, unbe_be, Nat.zero_mul, Nat.zero_add, Nat.mod_eq_of_lt (by omega)]
  have e3 : ((UInt8.ofNat v :: (be 4 m ++ t)).getD 0 0).toNat = v := by
    rw [List.getD_cons_zero]
    simp
    omega
  rw [e3]
theorem bts_put : ∀ (l : List (Int × Int)) (t : List UInt8), (∀ b ∈ l, 1 ≤ b.1 ∧ b.1 ≤ 255 ∧ b.2 ≠ 0 ∧ b.2 < 4294967296) → UM l → bts l.length (l.flatMap btB ++ t) = l ∧ (l.flatMap btB ++ t).drop (5 * l.length) = t ∧ 5 * l.length ≤ (l.flatMap btB ++ t).length
  | [], t, _, _ => ⟨rfl, rfl, by simp⟩
  | b :: r, t, hp, hu => by
    have hl := btB_length b
    obtain ⟨h1, h2, h3⟩ := bts_put r t (fun c hc => hp c (List.mem_cons_of_mem _ hc)) (fun c hc => hu c (List.mem_cons_of_mem _ hc))
    have hd : (btB b ++ (r.flatMap btB ++ t)).drop 5 = r.flatMap btB ++ t := by
      rw [List.drop_append_of_le_length (by omega), List.drop_eq_nil_of_le (by omega), List.nil_append]
    rw [List.flatMap_cons, List.append_assoc, List.length_cons, bts, hd, h1, bt1_put b _ (hp b (List.mem_cons_self ..)) (hu b (List.mem_cons_self ..)).1]
    refine ⟨rfl, ?_, ?_⟩
    · rw [show 5 * (r.length + 1) = 5 + 5 * r.length by omega, ← List.drop_drop, hd, h2]
    · rw [List.length_append]
      omega
theorem parseB_put (l : List (Int × Int)) (t : List UInt8) (hok : bOk l = true) (hu : UM l) : parseB (putB l ++ t) = some (l, t) := by
  have hl := bOk_length hok
  have hp := bitsOk_parts l 0 (by omega) hok
  obtain ⟨h1, h2, h3⟩ := bts_put l t hp hu
  have e : putB l ++ t = be 1 l.length ++ (l.flatMap btB ++ t) := by
    rw [be1 _ (by omega), putB, List.cons_append, List.singleton_append]
  unfold parseB
  rw [e, num_be 1 _ _ (by omega) (by omega)]
  simp only
  rw [if_neg (by omega), h1, h2, if_pos hok]
theorem zs_put : ∀ (l : List Int) (t : List UInt8), (∀ n ∈ l, 1 ≤ n ∧ n ≤ 255) → zs l.length (l.map byteI ++ t) = some (l, t)
  | [], t, _ => rfl
  | n :: r, t, h => by
    have hn := h n (List.mem_cons_self ..)
    obtain ⟨v, rfl⟩ : ∃ v : Nat, n = v := ⟨n.toNat, by omega⟩
    have hr := zs_put r t fun m hm => h m (List.mem_cons_of_mem _ hm)
    have e : ((v : Int) :: r).map byteI ++ t = be 1 v ++ (r.map byteI ++ t) := by
      rw [be1 _ (by omega), List.map_cons, byteI, Int.toNat_natCast, List.cons_append, List.singleton_append]
    rw [List.length_cons, zs, e, num_be 1 v _ (by omega) (by omega)]
    simp only [Option.bind_some]
    rw [hr]
    rfl
/-- What a message's bytes are read as, whatever stands behind them. -/
theorem parseM_put (m : Ms) (more : List UInt8) (hok : okM m = true) (hu : UM m.bt) : parseM (mB m ++ more) = if more = [] then some m else none := by
  have hp := okM_parts hok
  have n8 : ∀ z : Int, 0 ≤ z ∧ z ≤ 1099511627776 → ∃ v : Nat, z = v ∧ be8 z = be 8 v ∧ v < 256 ^ 8 ∧ v < 9223372036854775808 := by
    intro z hz
    refine ⟨z.toNat, by omega, ?_, by omega, by omega⟩
    rw [← be8_nat z.toNat (by omega), show ((z.toNat : Nat) : Int) = z by omega]
  obtain ⟨v1, e1, -⟩ : ∃ v : Nat, m.kd = v ∧ True := ⟨m.kd.toNat, by have := hp.kd; omega, trivial⟩
  obtain ⟨v2, e2, b2, l2, l2'⟩ := n8 _ hp.ep
  obtain ⟨v4, e4, b4, l4, l4'⟩ := n8 _ hp.sq
  obtain ⟨v5, e5, b5, l5, l5'⟩ := n8 _ hp.nn
  obtain ⟨v6, e6, b6, l6, l6'⟩ := n8 _ hp.fo
  obtain ⟨v9, e9, b9, l9, l9'⟩ := n8 _ hp.asq
  obtain ⟨v13, e13, b13, l13, l13'⟩ := n8 _ hp.fr
  obtain ⟨v14, e14, b14, l14, l14'⟩ := n8 _ hp.to
  have hkd := hp.kd
  have hsz := hp.sz
  have hm : mB m ++ more = be 1 v1 ++ (be 8 v2 ++ (putL m.ln ++ (be 8 v4 ++ (be 8 v5 ++ (be 8 v6 ++ (be 1 (if m.fu then 1 else 0) ++ (putL m.an ++ (be 8 v9 ++ (putB m.bt ++ (be 1 m.sz.length ++ (m.sz.map byteI ++ (be 8 v13 ++ (be 8 v14 ++ (putW m.wr ++ more)))))))))))))) := by
    rw [be1 v1 (by omega), be1 m.sz.length (by omega), be1 _ (by split <;> omega), ← b2, ← b4, ← b5, ← b6, ← b9, ← b13, ← b14]
    have hf : fullB m.fu = UInt8.ofNat (if m.fu then 1 else 0) := by cases m.fu <;> rfl
    simp [mB, mBw, szB, hf, byteI, e1, List.append_assoc]
  unfold parseM
  rw [hm, num_be 1 v1 _ (by omega) (by omega)]
  simp only [Option.bind_some]
  rw [num_be 8 v2 _ l2 l2']
  simp only [Option.bind_some]
  rw [takeL_put _ _ hp.ln]
  simp only [Option.bind_some]
  rw [num_be 8 v4 _ l4 l4']
  simp only [Option.bind_some]
  rw [num_be 8 v5 _ l5 l5']
  simp only [Option.bind_some]
  rw [num_be 8 v6 _ l6 l6']
  simp only [Option.bind_some]
  rw [num_be 1 _ _ (by split <;> omega) (by split <;> omega)]
  simp only [Option.bind_some]
  rw [takeL_put _ _ hp.an]
  simp only [Option.bind_some]
  rw [num_be 8 v9 _ l9 l9']
  simp only [Option.bind_some]
  rw [parseB_put _ _ hp.bt hu]
  simp only [Option.bind_some]
  rw [if_neg (by split <;> omega), num_be 1 _ _ (by omega) (by omega)]
  simp only [Option.bind_some]
  rw [zs_put _ _ hsz.2]
  simp only [Option.bind_some]
  unfold finM
  rw [num_be 8 v13 _ l13 l13']
  simp only [Option.bind_some]
  rw [num_be 8 v14 _ l14 l14']
  simp only [Option.bind_some]
  rw [takeW_put _ _ hp.wr]
  simp only [Option.bind_some]
  have hfu : (((((if m.fu then 1 else 0 : Nat)) : Int)) == 1) = m.fu := by cases m.fu <;> rfl
  rw [hfu, ← e1, ← e2, ← e4, ← e5, ← e6, ← e9, ← e13, ← e14]
  by_cases hmore : more = []
  · rw [if_pos ⟨hmore, hok⟩, if_pos hmore]
  · rw [if_neg (fun h => hmore h.1), if_neg hmore]

/-! the laws -/
def Tr (r : Res) : Prop := r = some (.bool true, [])
theorem pt_on {r : Res} {v : AV} {bs : Boxes} {K : AV → Boxes → Res} (h : r = some (v, bs)) (hk : Tr (K v bs)) : Tr (onRes r K) := by rw [h]; exact hk
theorem pt_int {k : IntKind} {n : Int} {K : Int → Res} (hk : Tr (K n)) : Tr (asInt k (.int k n) K) := by rw [h_int]; exact hk
theorem pt_bool {b : Bool} {K : Bool → Res} (hk : Tr (K b)) : Tr (asBool (.bool b) K) := hk
theorem pt_str {s : List UInt8} {K : List UInt8 → Res} (hk : Tr (K s)) : Tr (asStr (.str s) K) := hk
theorem pt_sl {s : Nat} {f : Bool} {xs : List AV} {K : Nat → Bool → List AV → Res} (hk : Tr (K s f xs)) : Tr (asSl (.sl s f xs) K) := hk
theorem pt_tup {l : List AV} {K : List AV → Res} (hk : Tr (K l)) : Tr (asTup (.tup l) K) := hk
theorem pt_agg {l : List AV} {K : List AV → Res} (hk : Tr (K l)) : Tr (asAgg (.agg l) K) := hk
theorem pt_cons {α : Type} {v : α} {r : List α} {K : α → List α → Res} (hk : Tr (K v r)) : Tr (asCons (v :: r) K) := hk
theorem pt_nil {α : Type} {K : Res} (hk : Tr K) : Tr (asNil ([] : List α) K) := hk
theorem pt_if {b : Bool} {x y : Res} (ht : b = true → Tr x) (hf : b = false → Tr y) : Tr (bif b then x else y) := by
  cases b with
  | true => exact ht rfl
  | false => exact hf rfl
theorem pt_yes {b : Bool} {x y : Res} (h : b = true) (ht : Tr x) : Tr (bif b then x else y) := by rw [h]; exact ht
theorem pt_no {b : Bool} {x y : Res} (h : b = false) (ht : Tr y) : Tr (bif b then x else y) := by rw [h]; exact ht
def mgL4 (kd ep : Int) (v1 : AV) (sq nn fo : Int) (fu : Bool) (v2 : AV) (asq : Int) (v3 v4 : AV) (fr to : Int) (v5 : AV) : List AV := [.int .i64 kd, .int .i64 ep, v1, .int .i64 sq, .int .i64 nn, .int .i64 fo, .bool fu, v2, .int .i64 asq, v3, v4, .int .i64 fr, .int .i64 to, v5]
theorem lbytes_tree (F : Fns) (N : Nat) (kd ep : Int) (l : List AV) (sq nn fo : Int) (fu : Bool) (an : List AV) (asq : Int) (bt sz : List AV) (fr to : Int) (wr : List AV) (f1 f2 f3 f4 f5 : Bool) (a1 a2 a3 a4 a5 : Nat) : runOf F 7 N [.agg (mgL4 kd ep (.sl a1 f1 l) sq nn fo fu (.sl a2 f2 an) asq (.sl a3 f3 bt) (.sl a4 f4 sz) fr to (.sl a5 f5 wr))] [] =
  onRes (F 26 [AV.agg [AV.int IntKind.i64 kd, AV.int IntKind.i64 ep, AV.sl a1 f1 l, AV.int IntKind.i64 sq, AV.int IntKind.i64 nn, AV.int IntKind.i64 fo, AV.bool fu, AV.sl a2 f2 an, AV.int IntKind.i64 asq, AV.sl a3 f3 bt, AV.sl a4 f4 sz, AV.int IntKind.i64 fr, AV.int IntKind.i64 to, AV.sl a5 f5 wr]] []) fun v bs => AM.asBool v fun b => asNil bs (bif !b then onRes (F 10 [] []) fun v bs => AM.asBool v fun b => asNil bs (some (AV.bool b, [])) else onRes (F 27 [AV.agg [AV.int IntKind.i64 kd, AV.int IntKind.i64 ep, AV.sl a1 f1 l, AV.int IntKind.i64 sq, AV.int IntKind.i64 nn, AV.int IntKind.i64 fo, AV.bool fu, AV.sl a2 f2 an, AV.int IntKind.i64 asq, AV.sl a3 f3 bt, AV.sl a4 f4 sz, AV.int IntKind.i64 fr, AV.int IntKind.i64 to, AV.sl a5 f5 wr]] []) fun v bs => asTup v fun cs => asCons cs fun v r => asStr v fun s => asCons r fun v r => AM.asInt IntKind.i64 v fun n => asNil r (asNil bs (onRes (F 28 [AV.agg [AV.int IntKind.i64 kd, AV.int IntKind.i64 ep, AV.sl a1 f1 l, AV.int IntKind.i64 sq, AV.int IntKind.i64 nn, AV.int IntKind.i64 fo, AV.bool fu, AV.sl a2 f2 an, AV.int IntKind.i64 asq, AV.sl a3 f3 bt, AV.sl a4 f4 sz, AV.int IntKind.i64 fr, AV.int IntKind.i64 to, AV.sl a5 f5 wr]] []) fun v bs => AM.asBool v fun b => asNil bs (onRes (F 29 [AV.agg [AV.int IntKind.i64 kd, AV.int IntKind.i64 ep, AV.sl a1 f1 l, AV.int IntKind.i64 sq, AV.int IntKind.i64 nn, AV.int IntKind.i64 fo, AV.bool fu, AV.sl a2 f2 an, AV.int IntKind.i64 asq, AV.sl a3 f3 bt, AV.sl a4 f4 sz, AV.int IntKind.i64 fr, AV.int IntKind.i64 to, AV.sl a5 f5 wr]] []) fun v bs => AM.asBool v fun b_1 => asNil bs (bif !b_1 == b then some (AV.bool false, []) else bif !b then bif s == [] then bif n == 1 then onRes (F 10 [] []) fun v bs => AM.asBool v fun b => asNil bs (some (AV.bool b, [])) else some (AV.bool false, []) else some (AV.bool false, []) else onRes (F 23 [AV.str s] []) fun v bs => asTup v fun cs => asCons cs fun v r => AM.asAgg v fun cs => asCons cs fun v r_1 => AM.asInt IntKind.i64 v fun n_1 => asCons r_1 fun v r_2 => AM.asInt IntKind.i64 v fun n_2 => asCons r_2 fun v r_3 => asSl v fun m fl xs => asCons r_3 fun v r_4 => AM.asInt IntKind.i64 v fun n_3 => asCons r_4 fun v r_5 => AM.asInt IntKind.i64 v fun n_4 => asCons r_5 fun v r_6 => AM.asInt IntKind.i64 v fun n_5 => asCons r_6 fun v r_7 => AM.asBool v fun b => asCons r_7 fun v r_8 => asSl v fun m_1 fl_1 xs_1 => asCons r_8 fun v r_9 => AM.asInt IntKind.i64 v fun n_6 => asCons r_9 fun v r_10 => asSl v fun m_2 fl_2 xs_2 => asCons r_10 fun v r_11 => asSl v fun m_3 fl_3 xs_3 => asCons r_11 fun v r_12 => AM.asInt IntKind.i64 v fun n_7 => asCons r_12 fun v r_13 => AM.asInt IntKind.i64 v fun n_8 => asCons r_13 fun v r_14 => asSl v fun m_4 fl_4 xs_4 => asNil r_14 (asCons r fun v r => AM.asInt IntKind.i64 v fun n_9 => asNil r (asNil bs (onRes (F 30 [AV.agg [AV.int IntKind.i64 kd, AV.int IntKind.i64 ep, AV.sl a1 f1 l, AV.int IntKind.i64 sq, AV.int IntKind.i64 nn, AV.int IntKind.i64 fo, AV.bool fu, AV.sl a2 f2 an, AV.int IntKind.i64 asq, AV.sl a3 f3 bt, AV.sl a4 f4 sz, AV.int IntKind.i64 fr, AV.int IntKind.i64 to, AV.sl a5 f5 wr]] []) fun v bs => asStr v fun s_1 => asNil bs (bif s == s_1 then bif n == 0 then onRes (F 25 [AV.agg [AV.int IntKind.i64 n_1, AV.int IntKind.i64 n_2, AV.sl m fl xs, AV.int IntKind.i64 n_3, AV.int IntKind.i64 n_4, AV.int IntKind.i64 n_5, AV.bool b, AV.sl m_1 fl_1 xs_1, AV.int IntKind.i64 n_6, AV.sl m_2 fl_2 xs_2, AV.sl m_3 fl_3 xs_3, AV.int IntKind.i64 n_7, AV.int IntKind.i64 n_8, AV.sl m_4 fl_4 xs_4], AV.agg [AV.int IntKind.i64 kd, AV.int IntKind.i64 ep, AV.sl a1 f1 l, AV.int IntKind.i64 sq, AV.int IntKind.i64 nn, AV.int IntKind.i64 fo, AV.bool fu, AV.sl a2 f2 an, AV.int IntKind.i64 asq, AV.sl a3 f3 bt, AV.sl a4 f4 sz, AV.int IntKind.i64 fr, AV.int IntKind.i64 to, AV.sl a5 f5 wr]] []) fun v bs => AM.asBool v fun b => asNil bs (bif b then bif n_9 == 0 then onRes (F 10 [] []) fun v bs => AM.asBool v fun b => asNil bs (some (AV.bool b, [])) else some (AV.bool false, []) else some (AV.bool false, [])) else some (AV.bool false, []) else some (AV.bool false, [])))))))))) := by kernel_rfl
theorem lapart_tree (F : Fns) (N : Nat) (kd ep : Int) (l : List AV) (sq nn fo : Int) (fu : Bool) (an : List AV) (asq : Int) (bt sz : List AV) (fr to : Int) (wr : List AV) (f1 f2 f3 f4 f5 : Bool) (a1 a2 a3 a4 a5 : Nat) (kd' ep' : Int) (l' : List AV) (sq' nn' fo' : Int) (fu' : Bool) (an' : List AV) (asq' : Int) (bt' sz' : List AV) (fr' to' : Int) (wr' : List AV) (g1 g2 g3 g4 g5 : Bool) (b1 b2 b3 b4 b5 : Nat) (s : List UInt8) : runOf F 8 N [.agg (mgL4 kd ep (.sl a1 f1 l) sq nn fo fu (.sl a2 f2 an) asq (.sl a3 f3 bt) (.sl a4 f4 sz) fr to (.sl a5 f5 wr)), .agg (mgL4 kd' ep' (.sl b1 g1 l') sq' nn' fo' fu' (.sl b2 g2 an') asq' (.sl b3 g3 bt') (.sl b4 g4 sz') fr' to' (.sl b5 g5 wr')), .str s] [] =
  onRes (F 26 [AV.agg [AV.int IntKind.i64 kd, AV.int IntKind.i64 ep, AV.sl a1 f1 l, AV.int IntKind.i64 sq, AV.int IntKind.i64 nn, AV.int IntKind.i64 fo, AV.bool fu, AV.sl a2 f2 an, AV.int IntKind.i64 asq, AV.sl a3 f3 bt, AV.sl a4 f4 sz, AV.int IntKind.i64 fr, AV.int IntKind.i64 to, AV.sl a5 f5 wr]] []) fun v bs => AM.asBool v fun b => asNil bs (bif !b then onRes (F 10 [] []) fun v bs => AM.asBool v fun b => asNil bs (some (AV.bool b, [])) else onRes (F 26 [AV.agg [AV.int IntKind.i64 kd', AV.int IntKind.i64 ep', AV.sl b1 g1 l', AV.int IntKind.i64 sq', AV.int IntKind.i64 nn', AV.int IntKind.i64 fo', AV.bool fu', AV.sl b2 g2 an', AV.int IntKind.i64 asq', AV.sl b3 g3 bt', AV.sl b4 g4 sz', AV.int IntKind.i64 fr', AV.int IntKind.i64 to', AV.sl b5 g5 wr']] []) fun v bs => AM.asBool v fun b => asNil bs (bif !b then onRes (F 10 [] []) fun v bs => AM.asBool v fun b => asNil bs (some (AV.bool b, [])) else onRes (F 27 [AV.agg [AV.int IntKind.i64 kd, AV.int IntKind.i64 ep, AV.sl a1 f1 l, AV.int IntKind.i64 sq, AV.int IntKind.i64 nn, AV.int IntKind.i64 fo, AV.bool fu, AV.sl a2 f2 an, AV.int IntKind.i64 asq, AV.sl a3 f3 bt, AV.sl a4 f4 sz, AV.int IntKind.i64 fr, AV.int IntKind.i64 to, AV.sl a5 f5 wr]] []) fun v bs => asTup v fun cs => asCons cs fun v r => asStr v fun s_1 => asCons r fun v r => AM.asInt IntKind.i64 v fun n => asNil r (asNil bs (onRes (F 27 [AV.agg [AV.int IntKind.i64 kd', AV.int IntKind.i64 ep', AV.sl b1 g1 l', AV.int IntKind.i64 sq', AV.int IntKind.i64 nn', AV.int IntKind.i64 fo', AV.bool fu', AV.sl b2 g2 an', AV.int IntKind.i64 asq', AV.sl b3 g3 bt', AV.sl b4 g4 sz', AV.int IntKind.i64 fr', AV.int IntKind.i64 to', AV.sl b5 g5 wr']] []) fun v bs => asTup v fun cs => asCons cs fun v r => asStr v fun s_2 => asCons r fun v r => AM.asInt IntKind.i64 v fun n_1 => asNil r (asNil bs (bif n != 0 then onRes (F 10 [] []) fun v bs => AM.asBool v fun b => asNil bs (some (AV.bool b, [])) else bif n_1 != 0 then onRes (F 10 [] []) fun v bs => AM.asBool v fun b => asNil bs (some (AV.bool b, [])) else bif decide (List.length s_1 + List.length s ≤ 4611686018427387904) then onRes (F 23 [AV.str (s_1 ++ s)] []) fun v bs => asTup v fun cs => asCons cs fun v r => AM.asAgg v fun cs => asCons cs fun v r_1 => AM.asInt IntKind.i64 v fun n => asCons r_1 fun v r_2 => AM.asInt IntKind.i64 v fun n => asCons r_2 fun v r_3 => asSl v fun m fl xs => asCons r_3 fun v r_4 => AM.asInt IntKind.i64 v fun n => asCons r_4 fun v r_5 => AM.asInt IntKind.i64 v fun n => asCons r_5 fun v r_6 => AM.asInt IntKind.i64 v fun n => asCons r_6 fun v r_7 => AM.asBool v fun b => asCons r_7 fun v r_8 => asSl v fun m fl xs => asCons r_8 fun v r_9 => AM.asInt IntKind.i64 v fun n => asCons r_9 fun v r_10 => asSl v fun m fl xs => asCons r_10 fun v r_11 => asSl v fun m fl xs => asCons r_11 fun v r_12 => AM.asInt IntKind.i64 v fun n => asCons r_12 fun v r_13 => AM.asInt IntKind.i64 v fun n => asCons r_13 fun v r_14 => asSl v fun m fl xs => asNil r_14 (asCons r fun v r => AM.asInt IntKind.i64 v fun n => asNil r (asNil bs (onRes (F 25 [AV.agg [AV.int IntKind.i64 kd, AV.int IntKind.i64 ep, AV.sl a1 f1 l, AV.int IntKind.i64 sq, AV.int IntKind.i64 nn, AV.int IntKind.i64 fo, AV.bool fu, AV.sl a2 f2 an, AV.int IntKind.i64 asq, AV.sl a3 f3 bt, AV.sl a4 f4 sz, AV.int IntKind.i64 fr, AV.int IntKind.i64 to, AV.sl a5 f5 wr], AV.agg [AV.int IntKind.i64 kd', AV.int IntKind.i64 ep', AV.sl b1 g1 l', AV.int IntKind.i64 sq', AV.int IntKind.i64 nn', AV.int IntKind.i64 fo', AV.bool fu', AV.sl b2 g2 an', AV.int IntKind.i64 asq', AV.sl b3 g3 bt', AV.sl b4 g4 sz', AV.int IntKind.i64 fr', AV.int IntKind.i64 to', AV.sl b5 g5 wr']] []) fun v bs => AM.asBool v fun b => asNil bs (bif (s_1 == s_2) == b then bif (n == 0) == (s == Array.toList (ByteArray.data { data := #[] })) then onRes (F 10 [] []) fun v bs => AM.asBool v fun b => asNil bs (some (AV.bool b, [])) else some (AV.bool false, []) else some (AV.bool false, []))))) else none)))))) := by kernel_rfl

end Go.AM.Ytnhfjkckgicidaa
