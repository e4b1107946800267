/- Messages: ref17.Bytes, Small, Equal: what they answer, plain. -/
import Derived.Test.YtnhfjkckgicidaaAmNH
set_option linter.unusedVariables false
set_option linter.unusedSimpArgs false
namespace Go.AM.Ytnhfjkckgicidaa
open Go.AM Go.Proofs Go

/-! ref17.Bytes -/
def mgL'' (kd ep : Int) (v1 : AV) (sq nn fo : Int) (fu : Bool) (v2 : AV) (asq : Int) (v3 v4 : AV) (fr to : Int) (v5 : AV) : List AV := [.int .i64 kd, .int .i64 ep, v1, .int .i64 sq, .int .i64 nn, .int .i64 fo, .bool fu, v2, .int .i64 asq, v3, v4, .int .i64 fr, .int .i64 to, v5]
def rbytesS (g : List AV) (full : Int) (s : List UInt8) (i : Int) (fu : Bool) : St := ⟨84, [(0, AV.agg g), (1, AV.ptr 1 0 0), (2, AV.str []), (3, AV.int IntKind.i64 full), (4, AV.str s), (5, AV.int IntKind.i64 i), (7, AV.bool fu)], [(1, g)], [], [], [], []⟩
theorem rbytes_tree (F : Fns) (N : Nat) (kd ep : Int) (l : List AV) (sq nn fo : Int) (fu : Bool) (an : List AV) (asq : Int) (bt sz : List AV) (fr to : Int) (wr : List AV) (f1 f2 f3 f4 f5 : Bool) (a1 a2 a3 a4 a5 : Nat) : runOf F 30 N [.agg [.int .i64 kd, .int .i64 ep, .sl a1 f1 l, .int .i64 sq, .int .i64 nn, .int .i64 fo, .bool fu, .sl a2 f2 an, .int .i64 asq, .sl a3 f3 bt, .sl a4 f4 sz, .int .i64 fr, .int .i64 to, .sl a5 f5 wr]] [] =
  bif fu then onRes (F 41 [AV.int IntKind.i64 kd] []) fun v bs => asStr v fun s => asNil bs (onRes (F 47 [AV.int IntKind.i64 ep] []) fun v bs => asStr v fun s_1 => asNil bs (bif decide (List.length s + List.length s_1 ≤ 4611686018427387904) then onRes (F 19 [AV.sl a1 f1 l] []) fun v bs => asStr v fun s_2 => asNil bs (bif decide (List.length (s ++ s_1) + List.length s_2 ≤ 4611686018427387904) then onRes (F 47 [AV.int IntKind.i64 sq] []) fun v bs => asStr v fun s_3 => asNil bs (bif decide (List.length (s ++ s_1 ++ s_2) + List.length s_3 ≤ 4611686018427387904) then onRes (F 47 [AV.int IntKind.i64 nn] []) fun v bs => asStr v fun s_4 => asNil bs (bif decide (List.length (s ++ s_1 ++ s_2 ++ s_3) + List.length s_4 ≤ 4611686018427387904) then onRes (F 47 [AV.int IntKind.i64 fo] []) fun v bs => asStr v fun s_5 => asNil bs (bif decide (List.length (s ++ s_1 ++ s_2 ++ s_3 ++ s_4) + List.length s_5 ≤ 4611686018427387904) then onRes (F 41 [AV.int IntKind.i64 1] []) fun v bs => asStr v fun s_6 => asNil bs (bif decide (List.length (s ++ s_1 ++ s_2 ++ s_3 ++ s_4 ++ s_5) + List.length s_6 ≤ 4611686018427387904) then onRes (F 19 [AV.sl a2 f2 an] []) fun v bs => asStr v fun s_7 => asNil bs (bif decide (List.length (s ++ s_1 ++ s_2 ++ s_3 ++ s_4 ++ s_5 ++ s_6) + List.length s_7 ≤ 4611686018427387904) then onRes (F 47 [AV.int IntKind.i64 asq] []) fun v bs => asStr v fun s_8 => asNil bs (bif decide (List.length (s ++ s_1 ++ s_2 ++ s_3 ++ s_4 ++ s_5 ++ s_6 ++ s_7) + List.length s_8 ≤ 4611686018427387904) then onRes (F 63 [AV.sl a3 f3 bt] []) fun v bs => asStr v fun s_9 => asNil bs (bif decide (List.length (s ++ s_1 ++ s_2 ++ s_3 ++ s_4 ++ s_5 ++ s_6 ++ s_7 ++ s_8) + List.length s_9 ≤ 4611686018427387904) then onRes (F 41 [AV.int IntKind.i64 ((List.length sz : Nat) : Int)] []) fun v bs => asStr v fun s_10 => asNil bs (bif decide (List.length (s ++ s_1 ++ s_2 ++ s_3 ++ s_4 ++ s_5 ++ s_6 ++ s_7 ++ s_8 ++ s_9) + List.length s_10 ≤ 4611686018427387904) then loopA (bodyOf F 30 0 N) (deadOf 30 0) (contOf F 30 0 N 0) N { nt := 84, t := [(0, AV.agg [AV.int IntKind.i64 kd, AV.int IntKind.i64 ep, AV.sl a1 f1 l, AV.int IntKind.i64 sq, AV.int IntKind.i64 nn, AV.int IntKind.i64 fo, AV.bool fu, AV.sl a2 f2 an, AV.int IntKind.i64 asq, AV.sl a3 f3 bt, AV.sl a4 f4 sz, AV.int IntKind.i64 fr, AV.int IntKind.i64 to, AV.sl a5 f5 wr]), (1, AV.ptr 1 0 0), (2, AV.str (Array.toList (ByteArray.data { data := #[] }))), (3, AV.int IntKind.i64 1), (4, AV.str (s ++ s_1 ++ s_2 ++ s_3 ++ s_4 ++ s_5 ++ s_6 ++ s_7 ++ s_8 ++ s_9 ++ s_10)), (5, AV.int IntKind.i64 0), (7, AV.bool fu)], b := [(1, [AV.int IntKind.i64 kd, AV.int IntKind.i64 ep, AV.sl a1 f1 l, AV.int IntKind.i64 sq, AV.int IntKind.i64 nn, AV.int IntKind.i64 fo, AV.bool fu, AV.sl a2 f2 an, AV.int IntKind.i64 asq, AV.sl a3 f3 bt, AV.sl a4 f4 sz, AV.int IntKind.i64 fr, AV.int IntKind.i64 to, AV.sl a5 f5 wr])], r := [], g := [], rd := [], wr := [] } else none) else none) else none) else none) else none) else none) else none) else none) else none) else none)) else onRes (F 41 [AV.int IntKind.i64 kd] []) fun v bs => asStr v fun s => asNil bs (onRes (F 47 [AV.int IntKind.i64 ep] []) fun v bs => asStr v fun s_1 => asNil bs (bif decide (List.length s + List.length s_1 ≤ 4611686018427387904) then onRes (F 19 [AV.sl a1 f1 l] []) fun v bs => asStr v fun s_2 => asNil bs (bif decide (List.length (s ++ s_1) + List.length s_2 ≤ 4611686018427387904) then onRes (F 47 [AV.int IntKind.i64 sq] []) fun v bs => asStr v fun s_3 => asNil bs (bif decide (List.length (s ++ s_1 ++ s_2) + List.length s_3 ≤ 4611686018427387904) then onRes (F 47 [AV.int IntKind.i64 nn] []) fun v bs => asStr v fun s_4 => asNil bs (bif decide (List.length (s ++ s_1 ++ s_2 ++ s_3) + List.length s_4 ≤ 4611686018427387904) then onRes (F 47 [AV.int IntKind.i64 fo] []) fun v bs => asStr v fun s_5 => asNil bs (bif decide (List.length (s ++ s_1 ++ s_2 ++ s_3 ++ s_4) + List.length s_5 ≤ 4611686018427387904) then onRes (F 41 [AV.int IntKind.i64 0] []) fun v bs => asStr v fun s_6 => asNil bs (bif decide (List.length (s ++ s_1 ++ s_2 ++ s_3 ++ s_4 ++ s_5) + List.length s_6 ≤ 4611686018427387904) then onRes (F 19 [AV.sl a2 f2 an] []) fun v bs => asStr v fun s_7 => asNil bs (bif decide (List.length (s ++ s_1 ++ s_2 ++ s_3 ++ s_4 ++ s_5 ++ s_6) + List.length s_7 ≤ 4611686018427387904) then onRes (F 47 [AV.int IntKind.i64 asq] []) fun v bs => asStr v fun s_8 => asNil bs (bif decide (List.length (s ++ s_1 ++ s_2 ++ s_3 ++ s_4 ++ s_5 ++ s_6 ++ s_7) + List.length s_8 ≤ 4611686018427387904) then onRes (F 63 [AV.sl a3 f3 bt] []) fun v bs => asStr v fun s_9 => asNil bs (bif decide (List.length (s ++ s_1 ++ s_2 ++ s_3 ++ s_4 ++ s_5 ++ s_6 ++ s_7 ++ s_8) + List.length s_9 ≤ 4611686018427387904) then onRes (F 41 [AV.int IntKind.i64 ((List.length sz : Nat) : Int)] []) fun v bs => asStr v fun s_10 => asNil bs (bif decide (List.length (s ++ s_1 ++ s_2 ++ s_3 ++ s_4 ++ s_5 ++ s_6 ++ s_7 ++ s_8 ++ s_9) + List.length s_10 ≤ 4611686018427387904) then loopA (bodyOf F 30 0 N) (deadOf 30 0) (contOf F 30 0 N 0) N { nt := 84, t := [(0, AV.agg [AV.int IntKind.i64 kd, AV.int IntKind.i64 ep, AV.sl a1 f1 l, AV.int IntKind.i64 sq, AV.int IntKind.i64 nn, AV.int IntKind.i64 fo, AV.bool fu, AV.sl a2 f2 an, AV.int IntKind.i64 asq, AV.sl a3 f3 bt, AV.sl a4 f4 sz, AV.int IntKind.i64 fr, AV.int IntKind.i64 to, AV.sl a5 f5 wr]), (1, AV.ptr 1 0 0), (2, AV.str (Array.toList (ByteArray.data { data := #[] }))), (3, AV.int IntKind.i64 0), (4, AV.str (s ++ s_1 ++ s_2 ++ s_3 ++ s_4 ++ s_5 ++ s_6 ++ s_7 ++ s_8 ++ s_9 ++ s_10)), (5, AV.int IntKind.i64 0), (7, AV.bool fu)], b := [(1, [AV.int IntKind.i64 kd, AV.int IntKind.i64 ep, AV.sl a1 f1 l, AV.int IntKind.i64 sq, AV.int IntKind.i64 nn, AV.int IntKind.i64 fo, AV.bool fu, AV.sl a2 f2 an, AV.int IntKind.i64 asq, AV.sl a3 f3 bt, AV.sl a4 f4 sz, AV.int IntKind.i64 fr, AV.int IntKind.i64 to, AV.sl a5 f5 wr])], r := [], g := [], rd := [], wr := [] } else none) else none) else none) else none) else none) else none) else none) else none) else none) else none)) := by kernel_rfl
theorem rbytes_body (F : Fns) (N : Nat) (kd ep : Int) (l : List AV) (sq nn fo : Int) (fu : Bool) (an : List AV) (asq : Int) (bt sz : List AV) (fr to : Int) (wr : List AV) (f1 f2 f3 f4 f5 : Bool) (a1 a2 a3 a4 a5 : Nat) (full : Int) (s : List UInt8) (i : Int) (KN : St → Res) : bodyOf F 30 0 N (rbytesS (mgL'' kd ep (.sl a1 f1 l) sq nn fo fu (.sl a2 f2 an) asq (.sl a3 f3 bt) (.sl a4 f4 sz) fr to (.sl a5 f5 wr)) full s i fu) (brk (contOf F 30 0 N 0) KN) =
  bif decide (i < ((List.length sz : Nat) : Int)) then bif decide (a4 = 1) && decide (0 ≤ i) then onOpt sz[Int.toNat i]? fun x => AM.asInt IntKind.i64 x fun n => onRes (F 41 [AV.int IntKind.i64 n] []) fun v bs => asStr v fun s_1 => asNil bs (bif decide (List.length s + List.length s_1 ≤ 4611686018427387904) then KN { nt := 84, t := [(0, AV.agg [AV.int IntKind.i64 kd, AV.int IntKind.i64 ep, AV.sl a1 f1 l, AV.int IntKind.i64 sq, AV.int IntKind.i64 nn, AV.int IntKind.i64 fo, AV.bool fu, AV.sl a2 f2 an, AV.int IntKind.i64 asq, AV.sl a3 f3 bt, AV.sl a4 f4 sz, AV.int IntKind.i64 fr, AV.int IntKind.i64 to, AV.sl a5 f5 wr]), (1, AV.ptr 1 0 0), (2, AV.str []), (3, AV.int IntKind.i64 full), (4, AV.str (s ++ s_1)), (5, AV.int IntKind.i64 (IntKind.wrap IntKind.i64 (i + 1))), (7, AV.bool fu), (57, AV.bool (decide (i < ((List.length sz : Nat) : Int))))], b := [(1, [AV.int IntKind.i64 kd, AV.int IntKind.i64 ep, AV.sl a1 f1 l, AV.int IntKind.i64 sq, AV.int IntKind.i64 nn, AV.int IntKind.i64 fo, AV.bool fu, AV.sl a2 f2 an, AV.int IntKind.i64 asq, AV.sl a3 f3 bt, AV.sl a4 f4 sz, AV.int IntKind.i64 fr, AV.int IntKind.i64 to, AV.sl a5 f5 wr])], r := [], g := [], rd := [], wr := [] } else none) else none else onRes (F 47 [AV.int IntKind.i64 fr] []) fun v bs => asStr v fun s_1 => asNil bs (bif decide (List.length s + List.length s_1 ≤ 4611686018427387904) then onRes (F 47 [AV.int IntKind.i64 to] []) fun v bs => asStr v fun s_2 => asNil bs (bif decide (List.length (s ++ s_1) + List.length s_2 ≤ 4611686018427387904) then onRes (F 13 [AV.sl a5 f5 wr] []) fun v bs => asStr v fun s_3 => asNil bs (bif decide (List.length (s ++ s_1 ++ s_2) + List.length s_3 ≤ 4611686018427387904) then some (AV.str (s ++ s_1 ++ s_2 ++ s_3), []) else none) else none) else none) := by kernel_rfl
theorem rbytes_loop (k : Nat) (hk : 1000 ≤ k) (m : Ms) (hok : OkP m) (l an bt wr : List AV) (f1 f2 f3 f4 f5 : Bool) (a1 a2 a3 a4 a5 : Nat) (h5 : IsW (.sl a5 f5 wr) m.wr) (ha4 : m.sz ≠ [] → a4 = 1) (full : Int) : ∀ (dd i n : Nat) (acc : List UInt8) (st : St), i + dd = m.sz.length → dd < n → acc.length ≤ 100000 + i →
    st.clean (deadOf 30 0) = rbytesS (mgL'' m.kd m.ep (.sl a1 f1 l) m.sq m.nn m.fo m.fu (.sl a2 f2 an) m.asq (.sl a3 f3 bt) (.sl a4 f4 (m.sz.map (AV.int .i64))) m.fr m.to (.sl a5 f5 wr)) full acc i m.fu →
    loopA (bodyOf (evF pr k) 30 0 k) (deadOf 30 0) (contOf (evF pr k) 30 0 k 0) n st = some (.str (acc ++ (m.sz.drop i).map byteI ++ be8 m.fr ++ be8 m.to ++ putW m.wr), []) := by
  have hsz := hok.sz
  have hW := putW_length hok.wr
  have hW2 := (wOk_parts hok.wr).1
  intro dd
  induction dd with
  | zero =>
    intro i n acc st hi hn ha hst
    obtain ⟨n, rfl⟩ : ∃ m', n = m' + 1 := ⟨n - 1, by omega⟩
    have h1 : m.sz.drop i = [] := List.drop_eq_nil_of_le (by omega)
    have g1 := be8_length m.fr
    have g2 := be8_length m.to
    have hfr := hok.fr
    have hto := hok.to
    rw [loopA_succ, hst, rbytes_body, List.length_map, decide_eq_false (by omega), h1, List.map_nil, List.append_nil, e47 k (by omega) _ (by omega), e47 k (by omega) _ (by omega), e13' k h5 (by omega) hok.wr, show (putV m.fr 8).1 = be8 m.fr from rfl, show (putV m.to 8).1 = be8 m.to from rfl]
    simp only [cond_false, onRes, asStr, asNil]
    rw [decide_eq_true (show acc.length + (be8 m.fr).length ≤ 4611686018427387904 by omega), decide_eq_true (show (acc ++ be8 m.fr).length + (be8 m.to).length ≤ 4611686018427387904 by rw [List.length_append]; omega), decide_eq_true (show (acc ++ be8 m.fr ++ be8 m.to).length + (putW m.wr).length ≤ 4611686018427387904 by rw [List.length_append, List.length_append]; omega)]
    rfl
  | succ dd ih =>
    intro i n acc st hi hn ha hst
    obtain ⟨n, rfl⟩ : ∃ m', n = m' + 1 := ⟨n - 1, by omega⟩
    have hlt : i < m.sz.length := by omega
    have h4 : a4 = 1 := ha4 (by intro h; rw [h] at hlt; simp at hlt)
    subst h4
    have hr := hsz.2 _ (List.getElem_mem hlt)
    rw [loopA_succ, hst, rbytes_body, List.length_map, decide_eq_true (show (i : Int) < m.sz.length by omega), decide_eq_true (show (0 : Int) ≤ i by omega), Int.toNat_natCast, List.getElem?_map, List.getElem?_eq_getElem hlt, List.drop_eq_getElem_cons hlt, wrap_small (n := (i : Int) + 1) (by omega) (by omega), List.map_cons]
    simp only [cond_true, Option.map_some, onOpt, asInt, if_true, decide_true, Bool.and_true, Bool.true_and]
    rw [e41' k (by omega) _ (by omega)]
    simp only [onRes, asStr, asNil, List.length_cons, List.length_nil]
    rw [decide_eq_true (by omega)]
    simp only [cond_true]
    refine (ih (i + 1) n (acc ++ [UInt8.ofNat (m.sz[i]).toNat]) _ (by omega) (by omega) (by simp only [List.length_append, List.length_cons, List.length_nil]; omega) (by kernel_rfl)).trans ?_
    rw [byteI, List.append_assoc acc, List.singleton_append]
theorem e30 (k : Nat) (hk : 1202 ≤ k) {x : AV} {m : Ms} (h : IsM x m) (hu : UM m.bt) (hok : okM m = true) : evF pr k 30 [x] [] = some (.str (mB m), []) := by
  obtain ⟨k, rfl⟩ : ∃ m, k = m + 1 := ⟨k - 1, by omega⟩
  obtain ⟨v1, v2, v3, v4, v5, rfl, h1, h2, h3, h4, h5⟩ := h
  obtain ⟨a1, f1, l, rfl, _⟩ := h1.sl
  obtain ⟨a2, f2, an, rfl, _⟩ := h2.sl
  obtain ⟨a3, f3, bt, rfl, _⟩ := h3.sl
  obtain ⟨a4, f4, sz, rfl, hszl⟩ := h4.sl
  obtain ⟨a5, f5, wr, rfl, _⟩ := h5.sl
  have hsz : sz = m.sz.map (AV.int .i64) ∧ (m.sz ≠ [] → a4 = 1) := by
    rcases h4 with ⟨fl, h⟩ | ⟨h0, a, fl, h⟩
    · cases h; exact ⟨rfl, fun _ => rfl⟩
    · cases h; exact ⟨by rw [h0]; rfl, fun h => absurd h0 h⟩
  have hp := okM_parts hok
  have hl1 := lined_parts hp.ln
  have hl2 := lined_parts hp.an
  have hb1 := bOk_length hp.bt
  have hkd := hp.kd
  have hep := hp.ep
  have hsq := hp.sq
  have hnn := hp.nn
  have hfo := hp.fo
  have hasq := hp.asq
  rw [ev_step _ _ _ _ (by kernel_rfl)]
  refine (rbytes_tree (evF pr k) k m.kd m.ep l m.sq m.nn m.fo m.fu an m.asq bt sz m.fr m.to wr f1 f2 f3 f4 f5 a1 a2 a3 a4 a5).trans ?_
  rw [hszl]
  obtain ⟨hsz1, hsz2⟩ := hsz
  subst hsz1
  rw [e41' k (by omega) m.kd (by omega), e47 k (by omega) m.ep (by omega), e47 k (by omega) m.sq (by omega), e47 k (by omega) m.nn (by omega), e47 k (by omega) m.fo (by omega), e47 k (by omega) m.asq (by omega), e41' k (by omega) 1 (by omega), e41' k (by omega) 0 (by omega), e41' k (by omega) _ (by omega), e19' k h1 (by omega) hl1.2.sm (by omega), e19' k h2 (by omega) hl2.2.sm (by omega), e63' k h3 hu (by omega) hp.bt]
  have g1 := be8_length m.ep
  have g2 := be8_length m.sq
  have g3 := be8_length m.nn
  have g4 := be8_length m.fo
  have g5 := be8_length m.asq
  have g6 := putL_length m.ln
  have g7 := putL_length m.an
  have g8 := putB_length hp.bt
  simp only [show ∀ z, (putV z 8).1 = be8 z from fun _ => rfl]
  have d : ∀ n : Nat, n ≤ 200000 → decide (n ≤ 4611686018427387904) = true := fun n hn => decide_eq_true (by omega)
  have fin : ∀ (full : Int) (fb : UInt8) (st : St), fb = fullB m.fu → st.clean (deadOf 30 0) = rbytesS (mgL'' m.kd m.ep (.sl a1 f1 l) m.sq m.nn m.fo m.fu (.sl a2 f2 an) m.asq (.sl a3 f3 bt) (.sl a4 f4 (m.sz.map (AV.int .i64))) m.fr m.to (.sl a5 f5 wr)) full ([UInt8.ofNat m.kd.toNat] ++ be8 m.ep ++ putL m.ln ++ be8 m.sq ++ be8 m.nn ++ be8 m.fo ++ [fb] ++ putL m.an ++ be8 m.asq ++ putB m.bt ++ [UInt8.ofNat m.sz.length]) (0 : Nat) m.fu →
      loopA (bodyOf (evF pr k) 30 0 k) (deadOf 30 0) (contOf (evF pr k) 30 0 k 0) k st = some (.str (mB m), []) := by
    intro full fb st hfb hst
    have hs := hp.sz
    refine (rbytes_loop k (by omega) m hp l an bt wr f1 f2 f3 f4 f5 a1 a2 a3 a4 a5 h5 hsz2 full m.sz.length 0 k _ st (Nat.zero_add _) (by omega) (by simp only [List.length_append, List.length_cons, List.length_nil]; omega) hst).trans ?_
    rw [hfb]
    simp [mB, mBw, szB, byteI, List.append_assoc]
  cases hfu : m.fu with
  | true =>
    rw [hfu] at fin
    simp only [cond_true, onRes, asStr, asNil]
    rw [d _ (by simp only [List.length_append, List.length_cons, List.length_nil]; omega), d _ (by simp only [List.length_append, List.length_cons, List.length_nil]; omega), d _ (by simp only [List.length_append, List.length_cons, List.length_nil]; omega), d _ (by simp only [List.length_append, List.length_cons, List.length_nil]; omega), d _ (by simp only [List.length_append, List.length_cons, List.length_nil]; omega), d _ (by simp only [List.length_append, List.length_cons, List.length_nil]; omega), d _ (by simp only [List.length_append, List.length_cons, List.length_nil]; omega), d _ (by simp only [List.length_append, List.length_cons, List.length_nil]; omega), d _ (by simp only [List.length_append, List.length_cons, List.length_nil]; omega), d _ (by simp only [List.length_append, List.length_cons, List.length_nil]; omega)]
    simp only [cond_true, Int.toNat_natCast]
    exact fin 1 (UInt8.ofNat (Int.toNat 1)) _ rfl (by kernel_rfl)
  | false =>
    rw [hfu] at fin
    simp only [cond_false, onRes, asStr, asNil]
    rw [d _ (by simp only [List.length_append, List.length_cons, List.length_nil]; omega), d _ (by simp only [List.length_append, List.length_cons, List.length_nil]; omega), d _ (by simp only [List.length_append, List.length_cons, List.length_nil]; omega), d _ (by simp only [List.length_append, List.length_cons, List.length_nil]; omega), d _ (by simp only [List.length_append, List.length_cons, List.length_nil]; omega), d _ (by simp only [List.length_append, List.length_cons, List.length_nil]; omega), d _ (by simp only [List.length_append, List.length_cons, List.length_nil]; omega), d _ (by simp only [List.length_append, List.length_cons, List.length_nil]; omega), d _ (by simp only [List.length_append, List.length_cons, List.length_nil]; omega), d _ (by simp only [List.length_append, List.length_cons, List.length_nil]; omega)]
    simp only [cond_true, Int.toNat_natCast]
    exact fin 0 (UInt8.ofNat (Int.toNat 0)) _ rfl (by kernel_rfl)

/-! ref17.Small -/
def smallM (m : Ms) : Bool := decide (m.ln.length ≤ 100 ∧ m.an.length ≤ 100 ∧ m.bt.length ≤ 300 ∧ m.sz.length ≤ 100 ∧ m.wr.length ≤ 200)
theorem small_tree (F : Fns) (N : Nat) (kd ep : Int) (l : List AV) (sq nn fo : Int) (fu : Bool) (an : List AV) (asq : Int) (bt sz : List AV) (fr to : Int) (wr : List AV) (f1 f2 f3 f4 f5 : Bool) (a1 a2 a3 a4 a5 : Nat) : runOf F 26 N [.agg (mgL'' kd ep (.sl a1 f1 l) sq nn fo fu (.sl a2 f2 an) asq (.sl a3 f3 bt) (.sl a4 f4 sz) fr to (.sl a5 f5 wr))] [] =
  bif decide (((List.length l : Nat) : Int) ≤ 100) then bif decide (((List.length an : Nat) : Int) ≤ 100) then bif decide (((List.length bt : Nat) : Int) ≤ 300) then bif decide (((List.length sz : Nat) : Int) ≤ 100) then some (AV.bool (decide (((List.length wr : Nat) : Int) ≤ 200)), []) else some (AV.bool false, []) else some (AV.bool false, []) else some (AV.bool false, []) else some (AV.bool false, []) := by kernel_rfl
theorem e26 (k : Nat) (hk : 1 ≤ k) {x : AV} {m : Ms} (h : IsM x m) : evF pr k 26 [x] [] = some (.bool (smallM m), []) := by
  obtain ⟨k, rfl⟩ : ∃ m, k = m + 1 := ⟨k - 1, by omega⟩
  obtain ⟨v1, v2, v3, v4, v5, rfl, h1, h2, h3, h4, h5⟩ := h
  obtain ⟨a1, f1, l, rfl, e1⟩ := h1.sl
  obtain ⟨a2, f2, an, rfl, e2⟩ := h2.sl
  obtain ⟨a3, f3, bt, rfl, e3⟩ := h3.sl
  obtain ⟨a4, f4, sz, rfl, e4⟩ := h4.sl
  obtain ⟨a5, f5, wr, rfl, e5⟩ := h5.sl
  rw [ev_step _ _ _ _ (by kernel_rfl)]
  refine (small_tree (evF pr k) k m.kd m.ep l m.sq m.nn m.fo m.fu an m.asq bt sz m.fr m.to wr f1 f2 f3 f4 f5 a1 a2 a3 a4 a5).trans ?_
  rw [e1, e2, e3, e4, e5]
  by_cases c1 : m.ln.length ≤ 100
  · by_cases c2 : m.an.length ≤ 100
    · by_cases c3 : m.bt.length ≤ 300
      · by_cases c4 : m.sz.length ≤ 100
        · rw [decide_eq_true (show ((m.ln.length : Nat) : Int) ≤ 100 by omega), decide_eq_true (show ((m.an.length : Nat) : Int) ≤ 100 by omega), decide_eq_true (show ((m.bt.length : Nat) : Int) ≤ 300 by omega), decide_eq_true (show ((m.sz.length : Nat) : Int) ≤ 100 by omega), show smallM m = decide (((m.wr.length : Nat) : Int) ≤ 200) by unfold smallM; rw [decide_eq_decide]; omega]
          rfl
        · rw [decide_eq_true (show ((m.ln.length : Nat) : Int) ≤ 100 by omega), decide_eq_true (show ((m.an.length : Nat) : Int) ≤ 100 by omega), decide_eq_true (show ((m.bt.length : Nat) : Int) ≤ 300 by omega), decide_eq_false (show ¬ ((m.sz.length : Nat) : Int) ≤ 100 by omega), show smallM m = false by unfold smallM; rw [decide_eq_false_iff_not]; omega]
          rfl
      · rw [decide_eq_true (show ((m.ln.length : Nat) : Int) ≤ 100 by omega), decide_eq_true (show ((m.an.length : Nat) : Int) ≤ 100 by omega), decide_eq_false (show ¬ ((m.bt.length : Nat) : Int) ≤ 300 by omega), show smallM m = false by unfold smallM; rw [decide_eq_false_iff_not]; omega]
        rfl
    · rw [decide_eq_true (show ((m.ln.length : Nat) : Int) ≤ 100 by omega), decide_eq_false (show ¬ ((m.an.length : Nat) : Int) ≤ 100 by omega), show smallM m = false by unfold smallM; rw [decide_eq_false_iff_not]; omega]
      rfl
  · rw [decide_eq_false (show ¬ ((m.ln.length : Nat) : Int) ≤ 100 by omega), show smallM m = false by unfold smallM; rw [decide_eq_false_iff_not]; omega]
    rfl

/-! ref17.Equal -/
def eqM (m m' : Ms) : Bool := decide (m.sz = m'.sz) && (decide (m.kd = m'.kd) && (decide (m.ep = m'.ep) && (decide (m.ln = m'.ln) && (decide (m.sq = m'.sq) && (decide (m.nn = m'.nn) && (decide (m.fo = m'.fo) && (decide (m.fu = m'.fu) && (decide (m.an = m'.an) && (decide (m.asq = m'.asq) && (decide (m.bt = m'.bt) && (decide (m.fr = m'.fr) && (decide (m.to = m'.to) && decide (m.wr = m'.wr)))))))))))))
theorem eqM_iff (m m' : Ms) : eqM m m' = true ↔ m = m' := by
  unfold eqM
  simp only [Bool.and_eq_true, decide_eq_true_eq]
  constructor
  · rintro ⟨h1, h2, h3, h4, h5, h6, h7, h8, h9, h10, h11, h12, h13, h14⟩
    cases m
    cases m'
    simp_all
  · rintro rfl
    simp
def meqS (g g' : List AV) (i : Int) (c : Bool) : St := ⟨130, [(0, AV.agg g), (1, AV.agg g'), (2, AV.ptr 2 0 0), (3, AV.ptr 3 0 0), (4, AV.bool false), (5, AV.int IntKind.i64 i), (12, AV.bool c)], [(2, g), (3, g')], [], [], [], []⟩
theorem meq_tree (F : Fns) (N : Nat) (kd ep : Int) (l : List AV) (sq nn fo : Int) (fu : Bool) (an : List AV) (asq : Int) (bt sz : List AV) (fr to : Int) (wr : List AV) (f1 f2 f3 f4 f5 : Bool) (a1 a2 a3 a4 a5 : Nat) (kd' ep' : Int) (l' : List AV) (sq' nn' fo' : Int) (fu' : Bool) (an' : List AV) (asq' : Int) (bt' sz' : List AV) (fr' to' : Int) (wr' : List AV) (g1 g2 g3 g4 g5 : Bool) (b1 b2 b3 b4 b5 : Nat) : runOf F 25 N [.agg (mgL'' kd ep (.sl a1 f1 l) sq nn fo fu (.sl a2 f2 an) asq (.sl a3 f3 bt) (.sl a4 f4 sz) fr to (.sl a5 f5 wr)), .agg (mgL'' kd' ep' (.sl b1 g1 l') sq' nn' fo' fu' (.sl b2 g2 an') asq' (.sl b3 g3 bt') (.sl b4 g4 sz') fr' to' (.sl b5 g5 wr'))] [] =
  bif ((List.length sz : Nat) : Int) != ((List.length sz' : Nat) : Int) then some (AV.bool false, []) else loopA (bodyOf F 25 0 N) (deadOf 25 0) (contOf F 25 0 N 0) N { nt := 130, t := [(0, AV.agg [AV.int IntKind.i64 kd, AV.int IntKind.i64 ep, AV.sl a1 f1 l, AV.int IntKind.i64 sq, AV.int IntKind.i64 nn, AV.int IntKind.i64 fo, AV.bool fu, AV.sl a2 f2 an, AV.int IntKind.i64 asq, AV.sl a3 f3 bt, AV.sl a4 f4 sz, AV.int IntKind.i64 fr, AV.int IntKind.i64 to, AV.sl a5 f5 wr]), (1, AV.agg [AV.int IntKind.i64 kd', AV.int IntKind.i64 ep', AV.sl b1 g1 l', AV.int IntKind.i64 sq', AV.int IntKind.i64 nn', AV.int IntKind.i64 fo', AV.bool fu', AV.sl b2 g2 an', AV.int IntKind.i64 asq', AV.sl b3 g3 bt', AV.sl b4 g4 sz', AV.int IntKind.i64 fr', AV.int IntKind.i64 to', AV.sl b5 g5 wr']), (2, AV.ptr 2 0 0), (3, AV.ptr 3 0 0), (4, AV.bool false), (5, AV.int IntKind.i64 0), (12, AV.bool (((List.length sz : Nat) : Int) != ((List.length sz' : Nat) : Int)))], b := [(2, [AV.int IntKind.i64 kd, AV.int IntKind.i64 ep, AV.sl a1 f1 l, AV.int IntKind.i64 sq, AV.int IntKind.i64 nn, AV.int IntKind.i64 fo, AV.bool fu, AV.sl a2 f2 an, AV.int IntKind.i64 asq, AV.sl a3 f3 bt, AV.sl a4 f4 sz, AV.int IntKind.i64 fr, AV.int IntKind.i64 to, AV.sl a5 f5 wr]), (3, [AV.int IntKind.i64 kd', AV.int IntKind.i64 ep', AV.sl b1 g1 l', AV.int IntKind.i64 sq', AV.int IntKind.i64 nn', AV.int IntKind.i64 fo', AV.bool fu', AV.sl b2 g2 an', AV.int IntKind.i64 asq', AV.sl b3 g3 bt', AV.sl b4 g4 sz', AV.int IntKind.i64 fr', AV.int IntKind.i64 to', AV.sl b5 g5 wr'])], r := [], g := [], rd := [], wr := [] } := by kernel_rfl
theorem meq_body (F : Fns) (N : Nat) (kd ep : Int) (l : List AV) (sq nn fo : Int) (fu : Bool) (an : List AV) (asq : Int) (bt sz : List AV) (fr to : Int) (wr : List AV) (f1 f2 f3 f4 f5 : Bool) (a1 a2 a3 a4 a5 : Nat) (kd' ep' : Int) (l' : List AV) (sq' nn' fo' : Int) (fu' : Bool) (an' : List AV) (asq' : Int) (bt' sz' : List AV) (fr' to' : Int) (wr' : List AV) (g1 g2 g3 g4 g5 : Bool) (b1 b2 b3 b4 b5 : Nat) (i : Int) (c : Bool) (KN : St → Res) : bodyOf F 25 0 N (meqS (mgL'' kd ep (.sl a1 f1 l) sq nn fo fu (.sl a2 f2 an) asq (.sl a3 f3 bt) (.sl a4 f4 sz) fr to (.sl a5 f5 wr)) (mgL'' kd' ep' (.sl b1 g1 l') sq' nn' fo' fu' (.sl b2 g2 an') asq' (.sl b3 g3 bt') (.sl b4 g4 sz') fr' to' (.sl b5 g5 wr')) i c) (brk (contOf F 25 0 N 0) KN) =
  bif decide (i < ((List.length sz : Nat) : Int)) then bif decide (a4 = 1) && decide (0 ≤ i) then onOpt sz[Int.toNat i]? fun x => AM.asInt IntKind.i64 x fun n => bif decide (b4 = 1) && decide (0 ≤ i) then onOpt sz'[Int.toNat i]? fun x => AM.asInt IntKind.i64 x fun n_1 => bif n != n_1 then some (AV.bool false, []) else KN { nt := 130, t := [(0, AV.agg [AV.int IntKind.i64 kd, AV.int IntKind.i64 ep, AV.sl a1 f1 l, AV.int IntKind.i64 sq, AV.int IntKind.i64 nn, AV.int IntKind.i64 fo, AV.bool fu, AV.sl a2 f2 an, AV.int IntKind.i64 asq, AV.sl a3 f3 bt, AV.sl a4 f4 sz, AV.int IntKind.i64 fr, AV.int IntKind.i64 to, AV.sl a5 f5 wr]), (1, AV.agg [AV.int IntKind.i64 kd', AV.int IntKind.i64 ep', AV.sl b1 g1 l', AV.int IntKind.i64 sq', AV.int IntKind.i64 nn', AV.int IntKind.i64 fo', AV.bool fu', AV.sl b2 g2 an', AV.int IntKind.i64 asq', AV.sl b3 g3 bt', AV.sl b4 g4 sz', AV.int IntKind.i64 fr', AV.int IntKind.i64 to', AV.sl b5 g5 wr']), (2, AV.ptr 2 0 0), (3, AV.ptr 3 0 0), (4, AV.bool false), (5, AV.int IntKind.i64 (IntKind.wrap IntKind.i64 (i + 1))), (12, AV.bool c), (17, AV.bool (decide (i < ((List.length sz : Nat) : Int)))), (30, AV.bool (n != n_1))], b := [(2, [AV.int IntKind.i64 kd, AV.int IntKind.i64 ep, AV.sl a1 f1 l, AV.int IntKind.i64 sq, AV.int IntKind.i64 nn, AV.int IntKind.i64 fo, AV.bool fu, AV.sl a2 f2 an, AV.int IntKind.i64 asq, AV.sl a3 f3 bt, AV.sl a4 f4 sz, AV.int IntKind.i64 fr, AV.int IntKind.i64 to, AV.sl a5 f5 wr]), (3, [AV.int IntKind.i64 kd', AV.int IntKind.i64 ep', AV.sl b1 g1 l', AV.int IntKind.i64 sq', AV.int IntKind.i64 nn', AV.int IntKind.i64 fo', AV.bool fu', AV.sl b2 g2 an', AV.int IntKind.i64 asq', AV.sl b3 g3 bt', AV.sl b4 g4 sz', AV.int IntKind.i64 fr', AV.int IntKind.i64 to', AV.sl b5 g5 wr'])], r := [], g := [], rd := [], wr := [] } else none else none else bif kd == kd' then bif ep == ep' then onRes (F 22 [AV.sl a1 f1 l, AV.sl b1 g1 l'] []) fun v bs => AM.asBool v fun b => asNil bs (bif b then bif sq == sq' then bif nn == nn' then bif fo == fo' then bif fu == fu' then onRes (F 22 [AV.sl a2 f2 an, AV.sl b2 g2 an'] []) fun v bs => AM.asBool v fun b => asNil bs (bif b then bif asq == asq' then onRes (F 52 [AV.sl a3 f3 bt, AV.sl b3 g3 bt'] []) fun v bs => AM.asBool v fun b => asNil bs (bif b then bif fr == fr' then bif to == to' then onRes (F 16 [AV.sl a5 f5 wr, AV.sl b5 g5 wr'] []) fun v bs => AM.asBool v fun b => asNil bs (some (AV.bool b, [])) else some (AV.bool false, []) else some (AV.bool false, []) else some (AV.bool false, [])) else some (AV.bool false, []) else some (AV.bool false, [])) else some (AV.bool false, []) else some (AV.bool false, []) else some (AV.bool false, []) else some (AV.bool false, []) else some (AV.bool false, [])) else some (AV.bool false, []) else some (AV.bool false, []) := by kernel_rfl
theorem getZs (l : List Int) (i : Nat) (h : i < l.length) : (l.map (AV.int .i64))[Int.toNat (i : Int)]? = some (.int .i64 l[i]) := by
  rw [Int.toNat_natCast, List.getElem?_map, List.getElem?_eq_getElem h]
  rfl
def restEq (m m' : Ms) : Bool := decide (m.kd = m'.kd) && (decide (m.ep = m'.ep) && (decide (m.ln = m'.ln) && (decide (m.sq = m'.sq) && (decide (m.nn = m'.nn) && (decide (m.fo = m'.fo) && (decide (m.fu = m'.fu) && (decide (m.an = m'.an) && (decide (m.asq = m'.asq) && (decide (m.bt = m'.bt) && (decide (m.fr = m'.fr) && (decide (m.to = m'.to) && decide (m.wr = m'.wr))))))))))))
theorem meq_loop (k : Nat) (m m' : Ms) (hk : m.ln.length + m.an.length + m.bt.length + m.wr.length + 10 ≤ k) (hb : m.ln.length + m.an.length + m.bt.length + m.wr.length < 1000000000) (hsl : m.sz.length = m'.sz.length) (hsb : m.sz.length < 1000000000) (l an bt wr l' an' bt' wr' : List AV) (f1 f2 f3 f4 f5 g1 g2 g3 g4 g5 c : Bool) (a1 a2 a3 a4 a5 b1 b2 b3 b4 b5 : Nat) (h1 : IsL (.sl a1 f1 l) m.ln) (h2 : IsL (.sl a2 f2 an) m.an) (h3 : IsT (.sl a3 f3 bt) m.bt) (h5 : IsW (.sl a5 f5 wr) m.wr) (i1 : IsL (.sl b1 g1 l') m'.ln) (i2 : IsL (.sl b2 g2 an') m'.an) (i3 : IsT (.sl b3 g3 bt') m'.bt) (i5 : IsW (.sl b5 g5 wr') m'.wr) (ha4 : m.sz ≠ [] → a4 = 1 ∧ b4 = 1) : ∀ (dd i n : Nat) (st : St), i + dd = m.sz.length → dd < n →
    st.clean (deadOf 25 0) = meqS (mgL'' m.kd m.ep (.sl a1 f1 l) m.sq m.nn m.fo m.fu (.sl a2 f2 an) m.asq (.sl a3 f3 bt) (.sl a4 f4 (m.sz.map (AV.int .i64))) m.fr m.to (.sl a5 f5 wr)) (mgL'' m'.kd m'.ep (.sl b1 g1 l') m'.sq m'.nn m'.fo m'.fu (.sl b2 g2 an') m'.asq (.sl b3 g3 bt') (.sl b4 g4 (m'.sz.map (AV.int .i64))) m'.fr m'.to (.sl b5 g5 wr')) i c →
    loopA (bodyOf (evF pr k) 25 0 k) (deadOf 25 0) (contOf (evF pr k) 25 0 k 0) n st = some (.bool (decide (m.sz.drop i = m'.sz.drop i) && restEq m m'), []) := by
  intro dd
  induction dd with
  | zero =>
    intro i n st hi hn hst
    obtain ⟨n, rfl⟩ : ∃ m', n = m' + 1 := ⟨n - 1, by omega⟩
    have d1 : m.sz.drop i = [] := List.drop_eq_nil_of_le (by omega)
    have d2 : m'.sz.drop i = [] := List.drop_eq_nil_of_le (by omega)
    rw [loopA_succ, hst, meq_body, List.length_map, decide_eq_false (by omega), d1, d2, e22' k h1 i1 (by omega) (by omega), e22' k h2 i2 (by omega) (by omega), e52' k h3 i3 (by omega) (by omega), e16' k h5 i5 (by omega) (by omega), restEq]
    simp only [cond_false, onRes, asBool, asNil, decide_true, Bool.true_and, show ∀ a b : Int, (a == b) = decide (a = b) from fun _ _ => rfl, show ∀ a b : Bool, (a == b) = decide (a = b) from fun _ _ => rfl]
    cases decide (m.kd = m'.kd)
    · rfl
    cases decide (m.ep = m'.ep)
    · rfl
    cases decide (m.ln = m'.ln)
    · rfl
    cases decide (m.sq = m'.sq)
    · rfl
    cases decide (m.nn = m'.nn)
    · rfl
    cases decide (m.fo = m'.fo)
    · rfl
    cases decide (m.fu = m'.fu)
    · rfl
    cases decide (m.an = m'.an)
    · rfl
    cases decide (m.asq = m'.asq)
    · rfl
    cases decide (m.bt = m'.bt)
    · rfl
    cases decide (m.fr = m'.fr)
    · rfl
    cases decide (m.to = m'.to)
    · rfl
    cases decide (m.wr = m'.wr) <;> rfl
  | succ dd ih =>
    intro i n st hi hn hst
    obtain ⟨n, rfl⟩ : ∃ m', n = m' + 1 := ⟨n - 1, by omega⟩
    have hlt : i < m.sz.length := by omega
    have hlt' : i < m'.sz.length := by omega
    obtain ⟨q1, q2⟩ := ha4 (by intro h; rw [h] at hlt; simp at hlt)
    subst q1
    subst q2
    rw [loopA_succ, hst, meq_body, List.length_map, decide_eq_true (show (i : Int) < m.sz.length by omega), decide_eq_true (show (0 : Int) ≤ i by omega), getZs m.sz i hlt, getZs m'.sz i hlt', List.drop_eq_getElem_cons hlt, List.drop_eq_getElem_cons hlt', wrap_small (n := (i : Int) + 1) (by omega) (by omega)]
    simp only [cond_true, onOpt, asInt, if_true, decide_true, Bool.and_true, Bool.true_and]
    by_cases hc : m.sz[i] = m'.sz[i]
    · rw [show (m.sz[i] != m'.sz[i]) = false by simp [hc]]
      simp only [cond_false]
      refine (ih (i + 1) n _ (by omega) (by omega) (by kernel_rfl)).trans ?_
      have : decide (m.sz.drop (i + 1) = m'.sz.drop (i + 1)) = decide (m.sz[i] :: m.sz.drop (i + 1) = m'.sz[i] :: m'.sz.drop (i + 1)) := by
        rw [decide_eq_decide, hc]
        simp only [List.cons.injEq, true_and]
      rw [this]
    · rw [show (m.sz[i] != m'.sz[i]) = true by simp [hc], decide_eq_false (fun h => hc (List.cons.inj h).1)]
      rfl
theorem e25 (k : Nat) {x x' : AV} {m m' : Ms} (h : IsM x m) (h' : IsM x' m') (hk : m.ln.length + m.an.length + m.bt.length + m.wr.length + m.sz.length + 20 ≤ k) (hb : m.ln.length + m.an.length + m.bt.length + m.wr.length < 1000000000) (hsb : m.sz.length < 1000000000) : evF pr k 25 [x, x'] [] = some (.bool (eqM m m'), []) := by
  obtain ⟨k, rfl⟩ : ∃ m, k = m + 1 := ⟨k - 1, by omega⟩
  obtain ⟨v1, v2, v3, v4, v5, rfl, h1, h2, h3, h4, h5⟩ := h
  obtain ⟨a1, f1, l, rfl, e1⟩ := h1.sl
  obtain ⟨a2, f2, an, rfl, e2⟩ := h2.sl
  obtain ⟨a3, f3, bt, rfl, e3⟩ := h3.sl
  obtain ⟨a4, f4, sz, rfl, e4⟩ := h4.sl
  obtain ⟨a5, f5, wr, rfl, e5⟩ := h5.sl
  obtain ⟨w1, w2, w3, w4, w5, rfl, i1, i2, i3, i4, i5⟩ := h'
  obtain ⟨b1, g1, l', rfl, j1⟩ := i1.sl
  obtain ⟨b2, g2, an', rfl, j2⟩ := i2.sl
  obtain ⟨b3, g3, bt', rfl, j3⟩ := i3.sl
  obtain ⟨b4, g4, sz', rfl, j4⟩ := i4.sl
  obtain ⟨b5, g5, wr', rfl, j5⟩ := i5.sl
  have hsz : sz = m.sz.map (AV.int .i64) ∧ (m.sz ≠ [] → a4 = 1) := by
    rcases h4 with ⟨fl, h⟩ | ⟨h0, a, fl, h⟩
    · cases h; exact ⟨rfl, fun _ => rfl⟩
    · cases h; exact ⟨by rw [h0]; rfl, fun h => absurd h0 h⟩
  have hsz' : sz' = m'.sz.map (AV.int .i64) ∧ (m'.sz ≠ [] → b4 = 1) := by
    rcases i4 with ⟨fl, h⟩ | ⟨h0, a, fl, h⟩
    · cases h; exact ⟨rfl, fun _ => rfl⟩
    · cases h; exact ⟨by rw [h0]; rfl, fun h => absurd h0 h⟩
  obtain ⟨q1, q2⟩ := hsz
  obtain ⟨r1, r2⟩ := hsz'
  subst q1
  subst r1
  rw [ev_step _ _ _ _ (by kernel_rfl)]
  refine (meq_tree (evF pr k) k m.kd m.ep l m.sq m.nn m.fo m.fu an m.asq bt (m.sz.map (AV.int .i64)) m.fr m.to wr f1 f2 f3 f4 f5 a1 a2 a3 a4 a5 m'.kd m'.ep l' m'.sq m'.nn m'.fo m'.fu an' m'.asq bt' (m'.sz.map (AV.int .i64)) m'.fr m'.to wr' g1 g2 g3 g4 g5 b1 b2 b3 b4 b5).trans ?_
  rw [List.length_map, List.length_map]
  by_cases hl : m.sz.length = m'.sz.length
  · rw [show (((m.sz.length : Nat) : Int) != ((m'.sz.length : Nat) : Int)) = false by simp [hl]]
    simp only [cond_false]
    exact meq_loop k m m' (by omega) hb hl hsb l an bt wr l' an' bt' wr' f1 f2 f3 f4 f5 g1 g2 g3 g4 g5 false a1 a2 a3 a4 a5 b1 b2 b3 b4 b5 h1 h2 h3 h5 i1 i2 i3 i5 (fun h => ⟨q2 h, r2 (fun h' => h (List.length_eq_zero_iff.1 (by rw [hl, h']; rfl)))⟩) m.sz.length 0 k _ (Nat.zero_add _) (by omega) (by kernel_rfl)
  · rw [show (((m.sz.length : Nat) : Int) != ((m'.sz.length : Nat) : Int)) = true by simp only [bne_iff_ne, ne_eq]; omega, eqM, decide_eq_false (fun h => hl (by rw [h]))]
    rfl

end Go.AM.Ytnhfjkckgicidaa
