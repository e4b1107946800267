/- Messages as bytes: msg.Bytes, ref17.Bytes: what they answer, plain. -/
import Derived.Test.YtnhfjkckgicidaaAmNG
set_option linter.unusedVariables false
set_option linter.unusedSimpArgs false
namespace Go.AM.Ytnhfjkckgicidaa
open Go.AM Go.Proofs Go

/-! what a right message is made of -/
theorem vsOk_range : ∀ (l : List Vol) (last : Int), 0 ≤ last → vsOk last l = true → ∀ v ∈ l, 1 ≤ v.1 ∧ v.1 ≤ 255
  | [], last, _, _ => by simp
  | v :: r, last, hl, h => by
    rw [vsOk, Bool.and_eq_true, decide_eq_true_eq, Bool.and_eq_true] at h
    intro w hw
    rcases List.mem_cons.1 hw with rfl | hw
    · omega
    · exact vsOk_range r v.1 (by omega) h.2.2 w hw
theorem mem_flat : ∀ (ps : List (Int × Int)) (n : Int), n ∈ flat ps → ∃ p ∈ ps, n = p.1 ∨ n = p.2
  | [], n, h => by simp [flat] at h
  | p :: r, n, h => by
    rw [flat] at h
    rcases List.mem_cons.1 h with rfl | h
    · exact ⟨p, List.mem_cons_self .., .inl rfl⟩
    · rcases List.mem_cons.1 h with rfl | h
      · exact ⟨p, List.mem_cons_self .., .inr rfl⟩
      · obtain ⟨q, hq, hn⟩ := mem_flat r n h
        exact ⟨q, List.mem_cons_of_mem _ hq, hn⟩
theorem szOk_parts {sz : List Int} (h : szOk sz = true) : sz.length ≤ 8 ∧ ∀ n ∈ sz, 1 ≤ n ∧ n ≤ 255 := by
  rw [szOk, Bool.and_eq_true, decide_eq_true_eq, Bool.and_eq_true] at h
  obtain ⟨⟨h1, h2⟩, h3, h4⟩ := h
  refine ⟨h2, fun n hn => ?_⟩
  obtain ⟨ps, rfl⟩ := ex_flat (sz.length / 2) sz (by omega)
  rw [pairs_flat] at h3 h4
  obtain ⟨p, hp, hnp⟩ := mem_flat ps n hn
  rcases hnp with rfl | rfl
  · rw [vOk, Bool.and_eq_true] at h4
    exact vsOk_range _ 0 (by omega) h4.2 (blankV p) (List.mem_map.2 ⟨p, hp, rfl⟩)
  · have := List.all_eq_true.1 h3 p hp
    unfold sizeOk at this
    have := of_decide_eq_true this
    omega
theorem Fit.sm {l : List (Int × Int)} (h : Fit l) : Sm l := fun b hb => ⟨(h b hb).2.1, (h b hb).2.2.2⟩
theorem lastAt_nonneg {l : List (Int × Int)} (h : Fit l) : 0 ≤ lastAt l := by
  unfold lastAt
  rw [List.getD_eq_getElem?_getD]
  by_cases hl : l.length - 1 < l.length
  · rw [List.getElem?_eq_getElem hl]
    exact (h _ (List.getElem_mem hl)).2.2.1
  · rw [List.getElem?_eq_none (by omega)]
    exact Int.le_refl 0
structure OkP (m : Ms) : Prop where
  kd : 1 ≤ m.kd ∧ m.kd ≤ 9
  sz : m.sz.length ≤ 8 ∧ ∀ n ∈ m.sz, 1 ≤ n ∧ n ≤ 255
  ep : 0 ≤ m.ep ∧ m.ep ≤ 1099511627776
  sq : 0 ≤ m.sq ∧ m.sq ≤ 1099511627776
  nn : 0 ≤ m.nn ∧ m.nn ≤ 1099511627776
  fo : 0 ≤ m.fo ∧ m.fo ≤ 1099511627776
  fr : 0 ≤ m.fr ∧ m.fr ≤ 1099511627776
  to : 0 ≤ m.to ∧ m.to ≤ 1099511627776
  ln : lined m.ln = true
  an : lined m.an = true
  asq : 0 ≤ m.asq ∧ m.asq ≤ 1099511627776
  bt : bOk m.bt = true
  wr : wOk m.wr = true
theorem okM_parts {m : Ms} (h : okM m = true) : OkP m := by
  unfold okM at h
  simp only [Bool.and_eq_true, decide_eq_true_eq, List.all_cons, List.all_nil, and_true] at h
  obtain ⟨h1, h2, h3, ⟨g1, g2, g3, g4, g5, g6⟩, h4, h5, h6, h7⟩ := h
  have f : ∀ z, fitsI z = true → 0 ≤ z ∧ z ≤ 1099511627776 := fun z hz => of_decide_eq_true hz
  have han : lined m.an = true ∧ 0 ≤ m.asq ∧ m.asq ≤ 1099511627776 := by
    rw [anchorOk, Bool.or_eq_true] at h5
    rcases h5 with h5 | h5
    · rw [noneOk, Bool.and_eq_true, decide_eq_true_eq, decide_eq_true_eq] at h5
      have : m.an = [] := List.length_eq_zero_iff.1 h5.1
      rw [this]
      exact ⟨rfl, by omega, by omega⟩
    · rw [placedOk, Bool.and_eq_true, decide_eq_true_eq] at h5
      have hl : lined m.an = true := by rw [lined, h5.1, Bool.or_true]
      have := lastAt_nonneg (lined_parts hl).2
      exact ⟨hl, by omega, h5.2.2⟩
  exact ⟨h1, szOk_parts h2, f _ g1, f _ g2, f _ g3, f _ g4, f _ g5, f _ g6, h4, han.1, han.2, h6, h7⟩

/-! the bytes -/
def byteI (n : Int) : UInt8 := UInt8.ofNat n.toNat
def mBw (m : Ms) (s1 s2 s3 s4 : List UInt8) (full : UInt8) (zs : List UInt8) : List UInt8 :=
  [byteI m.kd] ++ [m.ep].flatMap be8 ++ s1 ++ [m.sq, m.nn, m.fo].flatMap be8 ++ [full] ++ s2 ++ [m.asq].flatMap be8 ++ s3 ++ zs ++ [m.fr, m.to].flatMap be8 ++ s4
def fullB (b : Bool) : UInt8 := if b then 1 else 0
def szB (l : List Int) : List UInt8 := UInt8.ofNat l.length :: l.map byteI
/-- A message as bytes. -/
def mB (m : Ms) : List UInt8 := mBw m (putL m.ln) (putL m.an) (putB m.bt) (putW m.wr) (fullB m.fu) (szB m.sz)
theorem be8s_length (ns : List Int) : (ns.flatMap be8).length ≤ 8 * ns.length := flatMap_length_le be8 8 ns fun n _ => be8_length n
def mbytesS (g : List AV) (s1 s2 s3 s4 : List UInt8) (full : Int) (v : AV) (d fu : Bool) (sz : AV) (len i : Int) : St := ⟨114, [(0, AV.agg g), (1, AV.ptr 1 0 0), (2, AV.str []), (3, AV.int IntKind.i64 0), (4, AV.str s1), (6, AV.str s2), (8, AV.str s3), (10, AV.str s4), (12, AV.int IntKind.u8 full), (13, v), (18, AV.bool d), (46, AV.bool fu), (53, sz), (54, AV.int IntKind.i64 len), (55, AV.int IntKind.i64 i)], [(1, g)], [], [], [], []⟩
def mgL' (kd ep : Int) (v1 : AV) (sq nn fo : Int) (fu : Bool) (v2 : AV) (asq : Int) (v3 v4 : AV) (fr to : Int) (v5 : AV) : List AV := [.int .i64 kd, .int .i64 ep, v1, .int .i64 sq, .int .i64 nn, .int .i64 fo, .bool fu, v2, .int .i64 asq, v3, v4, .int .i64 fr, .int .i64 to, v5]
theorem mbytes_tree (F : Fns) (N : Nat) (kd ep : Int) (l : List AV) (sq nn fo : Int) (fu : Bool) (an : List AV) (asq : Int) (bt sz : List AV) (fr to : Int) (wr : List AV) (f1 f2 f3 f4 f5 : Bool) (a1 a2 a3 a4 a5 : Nat) : runOf F 27 N [.agg [.int .i64 kd, .int .i64 ep, .sl a1 f1 l, .int .i64 sq, .int .i64 nn, .int .i64 fo, .bool fu, .sl a2 f2 an, .int .i64 asq, .sl a3 f3 bt, .sl a4 f4 sz, .int .i64 fr, .int .i64 to, .sl a5 f5 wr]] [] =
  onRes (F 29 [AV.agg [AV.int IntKind.i64 kd, AV.int IntKind.i64 ep, AV.sl a1 f1 l, AV.int IntKind.i64 sq, AV.int IntKind.i64 nn, AV.int IntKind.i64 fo, AV.bool fu, AV.sl a2 f2 an, AV.int IntKind.i64 asq, AV.sl a3 f3 bt, AV.sl a4 f4 sz, AV.int IntKind.i64 fr, AV.int IntKind.i64 to, AV.sl a5 f5 wr]] []) fun v bs => AM.asBool v fun b => asNil bs (bif !b then some (AV.tup [AV.str [], AV.int IntKind.i64 1], []) else onRes (F 17 [AV.sl a1 f1 l] []) fun v bs => asTup v fun cs => asCons cs fun v r => asStr v fun s => asCons r fun v r => AM.asInt IntKind.i64 v fun n => asNil r (asNil bs (onRes (F 17 [AV.sl a2 f2 an] []) fun v bs => asTup v fun cs => asCons cs fun v r => asStr v fun s_1 => asCons r fun v r => AM.asInt IntKind.i64 v fun n => asNil r (asNil bs (onRes (F 53 [AV.sl a3 f3 bt] []) fun v bs => asTup v fun cs => asCons cs fun v r => asStr v fun s_2 => asCons r fun v r => AM.asInt IntKind.i64 v fun n => asNil r (asNil bs (onRes (F 11 [AV.sl a5 f5 wr] []) fun v bs => asTup v fun cs => asCons cs fun v r => asStr v fun s_3 => asCons r fun v r => AM.asInt IntKind.i64 v fun n => asNil r (asNil bs (bif fu then loopA (bodyOf F 27 0 N) (deadOf 27 0) (contOf F 27 0 N 0) N { nt := 114, t := [(0, AV.agg [AV.int IntKind.i64 kd, AV.int IntKind.i64 ep, AV.sl a1 f1 l, AV.int IntKind.i64 sq, AV.int IntKind.i64 nn, AV.int IntKind.i64 fo, AV.bool fu, AV.sl a2 f2 an, AV.int IntKind.i64 asq, AV.sl a3 f3 bt, AV.sl a4 f4 sz, AV.int IntKind.i64 fr, AV.int IntKind.i64 to, AV.sl a5 f5 wr]), (1, AV.ptr 1 0 0), (2, AV.str (Array.toList (ByteArray.data { data := #[] }))), (3, AV.int IntKind.i64 0), (4, AV.str s), (6, AV.str s_1), (8, AV.str s_2), (10, AV.str s_3), (12, AV.int IntKind.u8 1), (13, AV.sl 1 true [AV.int IntKind.u8 (IntKind.wrap IntKind.u8 ((List.length sz : Nat) : Int))]), (18, AV.bool !b), (46, AV.bool fu), (53, AV.sl a4 f4 sz), (54, AV.int IntKind.i64 ((List.length sz : Nat) : Int)), (55, AV.int IntKind.i64 0)], b := [(1, [AV.int IntKind.i64 kd, AV.int IntKind.i64 ep, AV.sl a1 f1 l, AV.int IntKind.i64 sq, AV.int IntKind.i64 nn, AV.int IntKind.i64 fo, AV.bool fu, AV.sl a2 f2 an, AV.int IntKind.i64 asq, AV.sl a3 f3 bt, AV.sl a4 f4 sz, AV.int IntKind.i64 fr, AV.int IntKind.i64 to, AV.sl a5 f5 wr])], r := [], g := [], rd := [], wr := [] } else loopA (bodyOf F 27 0 N) (deadOf 27 0) (contOf F 27 0 N 0) N { nt := 114, t := [(0, AV.agg [AV.int IntKind.i64 kd, AV.int IntKind.i64 ep, AV.sl a1 f1 l, AV.int IntKind.i64 sq, AV.int IntKind.i64 nn, AV.int IntKind.i64 fo, AV.bool fu, AV.sl a2 f2 an, AV.int IntKind.i64 asq, AV.sl a3 f3 bt, AV.sl a4 f4 sz, AV.int IntKind.i64 fr, AV.int IntKind.i64 to, AV.sl a5 f5 wr]), (1, AV.ptr 1 0 0), (2, AV.str (Array.toList (ByteArray.data { data := #[] }))), (3, AV.int IntKind.i64 0), (4, AV.str s), (6, AV.str s_1), (8, AV.str s_2), (10, AV.str s_3), (12, AV.int IntKind.u8 0), (13, AV.sl 1 true [AV.int IntKind.u8 (IntKind.wrap IntKind.u8 ((List.length sz : Nat) : Int))]), (18, AV.bool !b), (46, AV.bool fu), (53, AV.sl a4 f4 sz), (54, AV.int IntKind.i64 ((List.length sz : Nat) : Int)), (55, AV.int IntKind.i64 0)], b := [(1, [AV.int IntKind.i64 kd, AV.int IntKind.i64 ep, AV.sl a1 f1 l, AV.int IntKind.i64 sq, AV.int IntKind.i64 nn, AV.int IntKind.i64 fo, AV.bool fu, AV.sl a2 f2 an, AV.int IntKind.i64 asq, AV.sl a3 f3 bt, AV.sl a4 f4 sz, AV.int IntKind.i64 fr, AV.int IntKind.i64 to, AV.sl a5 f5 wr])], r := [], g := [], rd := [], wr := [] }))))))))) := by kernel_rfl
theorem mbytes_body0 (F : Fns) (N : Nat) (kd ep : Int) (l : List AV) (sq nn fo : Int) (fu : Bool) (an : List AV) (asq : Int) (bt sz : List AV) (fr to : Int) (wr : List AV) (f1 f2 f3 f4 f5 : Bool) (a1 a2 a3 a4 a5 : Nat) (s1 s2 s3 s4 : List UInt8) (full : Int) (ys : List AV) (d : Bool) (len i : Int) (KN : St → Res) : bodyOf F 27 0 N (mbytesS (mgL' kd ep (.sl a1 f1 l) sq nn fo fu (.sl a2 f2 an) asq (.sl a3 f3 bt) (.sl a4 f4 sz) fr to (.sl a5 f5 wr)) s1 s2 s3 s4 full (.sl 1 true ys) d fu (.sl a4 f4 sz) len i) (brk (contOf F 27 0 N 0) KN) =
  bif decide (i < len) then bif decide (a4 = 1) && decide (0 ≤ i) then onOpt sz[Int.toNat i]? fun x => AM.asInt IntKind.i64 x fun n => bif decide ((1 = 1 ∨ ys = []) ∧ fitsB (List.length ys + List.length [AV.int IntKind.u8 (IntKind.wrap IntKind.u8 n)]) 1 = true ∧ List.length ys + List.length [AV.int IntKind.u8 (IntKind.wrap IntKind.u8 n)] ≤ 4611686018427387904) then KN { nt := 114, t := [(0, AV.agg [AV.int IntKind.i64 kd, AV.int IntKind.i64 ep, AV.sl a1 f1 l, AV.int IntKind.i64 sq, AV.int IntKind.i64 nn, AV.int IntKind.i64 fo, AV.bool fu, AV.sl a2 f2 an, AV.int IntKind.i64 asq, AV.sl a3 f3 bt, AV.sl a4 f4 sz, AV.int IntKind.i64 fr, AV.int IntKind.i64 to, AV.sl a5 f5 wr]), (1, AV.ptr 1 0 0), (2, AV.str []), (3, AV.int IntKind.i64 0), (4, AV.str s1), (6, AV.str s2), (8, AV.str s3), (10, AV.str s4), (12, AV.int IntKind.u8 full), (13, AV.tip 63 0 1 (ys ++ [AV.int IntKind.u8 (IntKind.wrap IntKind.u8 n)])), (15, AV.int IntKind.i64 n), (18, AV.bool d), (46, AV.bool fu), (53, AV.sl a4 f4 sz), (54, AV.int IntKind.i64 len), (55, AV.int IntKind.i64 (IntKind.wrap IntKind.i64 (i + 1))), (56, AV.bool (decide (i < len)))], b := [(1, [AV.int IntKind.i64 kd, AV.int IntKind.i64 ep, AV.sl a1 f1 l, AV.int IntKind.i64 sq, AV.int IntKind.i64 nn, AV.int IntKind.i64 fo, AV.bool fu, AV.sl a2 f2 an, AV.int IntKind.i64 asq, AV.sl a3 f3 bt, AV.sl a4 f4 sz, AV.int IntKind.i64 fr, AV.int IntKind.i64 to, AV.sl a5 f5 wr])], r := [], g := [], rd := [], wr := [] } else none else none else onRes (F 45 [AV.sl 1 true [AV.int IntKind.i64 ep]] []) fun v bs => asStr v fun s => asNil bs (bif decide (List.length [UInt8.ofNat (Int.toNat (IntKind.wrap IntKind.u8 kd))] + List.length s ≤ 4611686018427387904) then bif decide (List.length ([UInt8.ofNat (Int.toNat (IntKind.wrap IntKind.u8 kd))] ++ s) + List.length s1 ≤ 4611686018427387904) then onRes (F 45 [AV.sl 1 true [AV.int IntKind.i64 sq, AV.int IntKind.i64 nn, AV.int IntKind.i64 fo]] []) fun v bs => asStr v fun s_1 => asNil bs (bif decide (List.length ([UInt8.ofNat (Int.toNat (IntKind.wrap IntKind.u8 kd))] ++ s ++ s1) + List.length s_1 ≤ 4611686018427387904) then bif decide (List.length ([UInt8.ofNat (Int.toNat (IntKind.wrap IntKind.u8 kd))] ++ s ++ s1 ++ s_1) + List.length [UInt8.ofNat (Int.toNat full)] ≤ 4611686018427387904) then bif decide (List.length ([UInt8.ofNat (Int.toNat (IntKind.wrap IntKind.u8 kd))] ++ s ++ s1 ++ s_1 ++ [UInt8.ofNat (Int.toNat full)]) + List.length s2 ≤ 4611686018427387904) then onRes (F 45 [AV.sl 1 true [AV.int IntKind.i64 asq]] []) fun v bs => asStr v fun s_2 => asNil bs (bif decide (List.length ([UInt8.ofNat (Int.toNat (IntKind.wrap IntKind.u8 kd))] ++ s ++ s1 ++ s_1 ++ [UInt8.ofNat (Int.toNat full)] ++ s2) + List.length s_2 ≤ 4611686018427387904) then bif decide (List.length ([UInt8.ofNat (Int.toNat (IntKind.wrap IntKind.u8 kd))] ++ s ++ s1 ++ s_1 ++ [UInt8.ofNat (Int.toNat full)] ++ s2 ++ s_2) + List.length s3 ≤ 4611686018427387904) then onOpt (Option.map AV.str (bytesOf ys)) fun x => asStr x fun s_3 => bif decide (List.length ([UInt8.ofNat (Int.toNat (IntKind.wrap IntKind.u8 kd))] ++ s ++ s1 ++ s_1 ++ [UInt8.ofNat (Int.toNat full)] ++ s2 ++ s_2 ++ s3) + List.length s_3 ≤ 4611686018427387904) then onRes (F 45 [AV.sl 1 true [AV.int IntKind.i64 fr, AV.int IntKind.i64 to]] []) fun v bs => asStr v fun s_4 => asNil bs (bif decide (List.length ([UInt8.ofNat (Int.toNat (IntKind.wrap IntKind.u8 kd))] ++ s ++ s1 ++ s_1 ++ [UInt8.ofNat (Int.toNat full)] ++ s2 ++ s_2 ++ s3 ++ s_3) + List.length s_4 ≤ 4611686018427387904) then bif decide (List.length ([UInt8.ofNat (Int.toNat (IntKind.wrap IntKind.u8 kd))] ++ s ++ s1 ++ s_1 ++ [UInt8.ofNat (Int.toNat full)] ++ s2 ++ s_2 ++ s3 ++ s_3 ++ s_4) + List.length s4 ≤ 4611686018427387904) then some (AV.tup [AV.str ([UInt8.ofNat (Int.toNat (IntKind.wrap IntKind.u8 kd))] ++ s ++ s1 ++ s_1 ++ [UInt8.ofNat (Int.toNat full)] ++ s2 ++ s_2 ++ s3 ++ s_3 ++ s_4 ++ s4), AV.int IntKind.i64 0], []) else none else none) else none else none else none) else none else none else none) else none else none) := by kernel_rfl
theorem mbytes_body1 (F : Fns) (N : Nat) (kd ep : Int) (l : List AV) (sq nn fo : Int) (fu : Bool) (an : List AV) (asq : Int) (bt sz : List AV) (fr to : Int) (wr : List AV) (f1 f2 f3 f4 f5 : Bool) (a1 a2 a3 a4 a5 : Nat) (s1 s2 s3 s4 : List UInt8) (full : Int) (ys : List AV) (d : Bool) (len i : Int) (KN : St → Res) : bodyOf F 27 0 N (mbytesS (mgL' kd ep (.sl a1 f1 l) sq nn fo fu (.sl a2 f2 an) asq (.sl a3 f3 bt) (.sl a4 f4 sz) fr to (.sl a5 f5 wr)) s1 s2 s3 s4 full (.tip 63 0 1 ys) d fu (.sl a4 f4 sz) len i) (brk (contOf F 27 0 N 0) KN) =
  bif decide (i < len) then bif decide (a4 = 1) && decide (0 ≤ i) then onOpt sz[Int.toNat i]? fun x => AM.asInt IntKind.i64 x fun n => bif decide (1 = 1 ∧ fitsB (List.length ys + List.length [AV.int IntKind.u8 (IntKind.wrap IntKind.u8 n)]) 1 = true ∧ List.length ys + List.length [AV.int IntKind.u8 (IntKind.wrap IntKind.u8 n)] ≤ 4611686018427387904) then KN { nt := 114, t := [(0, AV.agg [AV.int IntKind.i64 kd, AV.int IntKind.i64 ep, AV.sl a1 f1 l, AV.int IntKind.i64 sq, AV.int IntKind.i64 nn, AV.int IntKind.i64 fo, AV.bool fu, AV.sl a2 f2 an, AV.int IntKind.i64 asq, AV.sl a3 f3 bt, AV.sl a4 f4 sz, AV.int IntKind.i64 fr, AV.int IntKind.i64 to, AV.sl a5 f5 wr]), (1, AV.ptr 1 0 0), (2, AV.str []), (3, AV.int IntKind.i64 0), (4, AV.str s1), (6, AV.str s2), (8, AV.str s3), (10, AV.str s4), (12, AV.int IntKind.u8 full), (13, AV.tip 63 0 1 (ys ++ [AV.int IntKind.u8 (IntKind.wrap IntKind.u8 n)])), (15, AV.int IntKind.i64 n), (18, AV.bool d), (46, AV.bool fu), (53, AV.sl a4 f4 sz), (54, AV.int IntKind.i64 len), (55, AV.int IntKind.i64 (IntKind.wrap IntKind.i64 (i + 1))), (56, AV.bool (decide (i < len)))], b := [(1, [AV.int IntKind.i64 kd, AV.int IntKind.i64 ep, AV.sl a1 f1 l, AV.int IntKind.i64 sq, AV.int IntKind.i64 nn, AV.int IntKind.i64 fo, AV.bool fu, AV.sl a2 f2 an, AV.int IntKind.i64 asq, AV.sl a3 f3 bt, AV.sl a4 f4 sz, AV.int IntKind.i64 fr, AV.int IntKind.i64 to, AV.sl a5 f5 wr])], r := [], g := [], rd := [], wr := [] } else none else none else onRes (F 45 [AV.sl 1 true [AV.int IntKind.i64 ep]] []) fun v bs => asStr v fun s => asNil bs (bif decide (List.length [UInt8.ofNat (Int.toNat (IntKind.wrap IntKind.u8 kd))] + List.length s ≤ 4611686018427387904) then bif decide (List.length ([UInt8.ofNat (Int.toNat (IntKind.wrap IntKind.u8 kd))] ++ s) + List.length s1 ≤ 4611686018427387904) then onRes (F 45 [AV.sl 1 true [AV.int IntKind.i64 sq, AV.int IntKind.i64 nn, AV.int IntKind.i64 fo]] []) fun v bs => asStr v fun s_1 => asNil bs (bif decide (List.length ([UInt8.ofNat (Int.toNat (IntKind.wrap IntKind.u8 kd))] ++ s ++ s1) + List.length s_1 ≤ 4611686018427387904) then bif decide (List.length ([UInt8.ofNat (Int.toNat (IntKind.wrap IntKind.u8 kd))] ++ s ++ s1 ++ s_1) + List.length [UInt8.ofNat (Int.toNat full)] ≤ 4611686018427387904) then bif decide (List.length ([UInt8.ofNat (Int.toNat (IntKind.wrap IntKind.u8 kd))] ++ s ++ s1 ++ s_1 ++ [UInt8.ofNat (Int.toNat full)]) + List.length s2 ≤ 4611686018427387904) then onRes (F 45 [AV.sl 1 true [AV.int IntKind.i64 asq]] []) fun v bs => asStr v fun s_2 => asNil bs (bif decide (List.length ([UInt8.ofNat (Int.toNat (IntKind.wrap IntKind.u8 kd))] ++ s ++ s1 ++ s_1 ++ [UInt8.ofNat (Int.toNat full)] ++ s2) + List.length s_2 ≤ 4611686018427387904) then bif decide (List.length ([UInt8.ofNat (Int.toNat (IntKind.wrap IntKind.u8 kd))] ++ s ++ s1 ++ s_1 ++ [UInt8.ofNat (Int.toNat full)] ++ s2 ++ s_2) + List.length s3 ≤ 4611686018427387904) then onOpt (Option.map AV.str (bytesOf ys)) fun x => asStr x fun s_3 => bif decide (List.length ([UInt8.ofNat (Int.toNat (IntKind.wrap IntKind.u8 kd))] ++ s ++ s1 ++ s_1 ++ [UInt8.ofNat (Int.toNat full)] ++ s2 ++ s_2 ++ s3) + List.length s_3 ≤ 4611686018427387904) then onRes (F 45 [AV.sl 1 true [AV.int IntKind.i64 fr, AV.int IntKind.i64 to]] []) fun v bs => asStr v fun s_4 => asNil bs (bif decide (List.length ([UInt8.ofNat (Int.toNat (IntKind.wrap IntKind.u8 kd))] ++ s ++ s1 ++ s_1 ++ [UInt8.ofNat (Int.toNat full)] ++ s2 ++ s_2 ++ s3 ++ s_3) + List.length s_4 ≤ 4611686018427387904) then bif decide (List.length ([UInt8.ofNat (Int.toNat (IntKind.wrap IntKind.u8 kd))] ++ s ++ s1 ++ s_1 ++ [UInt8.ofNat (Int.toNat full)] ++ s2 ++ s_2 ++ s3 ++ s_3 ++ s_4) + List.length s4 ≤ 4611686018427387904) then some (AV.tup [AV.str ([UInt8.ofNat (Int.toNat (IntKind.wrap IntKind.u8 kd))] ++ s ++ s1 ++ s_1 ++ [UInt8.ofNat (Int.toNat full)] ++ s2 ++ s_2 ++ s3 ++ s_3 ++ s_4 ++ s4), AV.int IntKind.i64 0], []) else none else none) else none else none else none) else none else none else none) else none else none) := by kernel_rfl
/-- eight of these numbers. -/
theorem e45s (k : Nat) (hk : 100 ≤ k) (ns : List Int) (hn : ∀ n ∈ ns, n < 9223372036854775808) (hl : ns.length ≤ 10) : evF pr k 45 [.sl 1 true (ns.map (AV.int .i64))] [] = some (.str (ns.flatMap be8), []) := e45 k true ns (by omega) hn (by omega)
/-- What stands behind the loop of sizes. -/
theorem mbytes_tail (k : Nat) (hk : 100 ≤ k) (m : Ms) (hok : OkP m) (s1 s2 s3 s4 : List UInt8) (hl : s1.length + s2.length + s3.length + s4.length ≤ 100000) (full : Nat) (zs : List UInt8) (hz : zs.length ≤ 1000) :
    (onRes (evF pr k 45 [AV.sl 1 true [AV.int IntKind.i64 m.ep]] []) fun v bs => asStr v fun s => asNil bs (bif decide (List.length [UInt8.ofNat (Int.toNat (IntKind.wrap IntKind.u8 m.kd))] + List.length s ≤ 4611686018427387904) then bif decide (List.length ([UInt8.ofNat (Int.toNat (IntKind.wrap IntKind.u8 m.kd))] ++ s) + List.length s1 ≤ 4611686018427387904) then onRes (evF pr k 45 [AV.sl 1 true [AV.int IntKind.i64 m.sq, AV.int IntKind.i64 m.nn, AV.int IntKind.i64 m.fo]] []) fun v bs => asStr v fun s_1 => asNil bs (bif decide (List.length ([UInt8.ofNat (Int.toNat (IntKind.wrap IntKind.u8 m.kd))] ++ s ++ s1) + List.length s_1 ≤ 4611686018427387904) then bif decide (List.length ([UInt8.ofNat (Int.toNat (IntKind.wrap IntKind.u8 m.kd))] ++ s ++ s1 ++ s_1) + List.length [UInt8.ofNat (Int.toNat (full : Int))] ≤ 4611686018427387904) then bif decide (List.length ([UInt8.ofNat (Int.toNat (IntKind.wrap IntKind.u8 m.kd))] ++ s ++ s1 ++ s_1 ++ [UInt8.ofNat (Int.toNat (full : Int))]) + List.length s2 ≤ 4611686018427387904) then onRes (evF pr k 45 [AV.sl 1 true [AV.int IntKind.i64 m.asq]] []) fun v bs => asStr v fun s_2 => asNil bs (bif decide (List.length ([UInt8.ofNat (Int.toNat (IntKind.wrap IntKind.u8 m.kd))] ++ s ++ s1 ++ s_1 ++ [UInt8.ofNat (Int.toNat (full : Int))] ++ s2) + List.length s_2 ≤ 4611686018427387904) then bif decide (List.length ([UInt8.ofNat (Int.toNat (IntKind.wrap IntKind.u8 m.kd))] ++ s ++ s1 ++ s_1 ++ [UInt8.ofNat (Int.toNat (full : Int))] ++ s2 ++ s_2) + List.length s3 ≤ 4611686018427387904) then onOpt (Option.map AV.str (bytesOf (ofBytes zs))) fun x => asStr x fun s_3 => bif decide (List.length ([UInt8.ofNat (Int.toNat (IntKind.wrap IntKind.u8 m.kd))] ++ s ++ s1 ++ s_1 ++ [UInt8.ofNat (Int.toNat (full : Int))] ++ s2 ++ s_2 ++ s3) + List.length s_3 ≤ 4611686018427387904) then onRes (evF pr k 45 [AV.sl 1 true [AV.int IntKind.i64 m.fr, AV.int IntKind.i64 m.to]] []) fun v bs => asStr v fun s_4 => asNil bs (bif decide (List.length ([UInt8.ofNat (Int.toNat (IntKind.wrap IntKind.u8 m.kd))] ++ s ++ s1 ++ s_1 ++ [UInt8.ofNat (Int.toNat (full : Int))] ++ s2 ++ s_2 ++ s3 ++ s_3) + List.length s_4 ≤ 4611686018427387904) then bif decide (List.length ([UInt8.ofNat (Int.toNat (IntKind.wrap IntKind.u8 m.kd))] ++ s ++ s1 ++ s_1 ++ [UInt8.ofNat (Int.toNat (full : Int))] ++ s2 ++ s_2 ++ s3 ++ s_3 ++ s_4) + List.length s4 ≤ 4611686018427387904) then some (AV.tup [AV.str ([UInt8.ofNat (Int.toNat (IntKind.wrap IntKind.u8 m.kd))] ++ s ++ s1 ++ s_1 ++ [UInt8.ofNat (Int.toNat (full : Int))] ++ s2 ++ s_2 ++ s3 ++ s_3 ++ s_4 ++ s4), AV.int IntKind.i64 0], []) else none else none) else none else none else none) else none else none else none) else none else none)) = some (.tup [.str (mBw m s1 s2 s3 s4 (UInt8.ofNat full) zs), .int .i64 0], []) := by
  have h1 := e45s k hk [m.ep] (by intro n hn; simp at hn; have := hok.ep; omega) (by simp)
  have h2 := e45s k hk [m.sq, m.nn, m.fo] (by intro n hn; simp at hn; have := hok.sq; have := hok.nn; have := hok.fo; omega) (by simp)
  have h3 := e45s k hk [m.asq] (by intro n hn; simp at hn; have := hok.asq; omega) (by simp)
  have h4 := e45s k hk [m.fr, m.to] (by intro n hn; simp at hn; have := hok.fr; have := hok.to; omega) (by simp)
  simp only [List.map_cons, List.map_nil] at h1 h2 h3 h4
  have g1 := be8s_length [m.ep]
  have g2 := be8s_length [m.sq, m.nn, m.fo]
  have g3 := be8s_length [m.asq]
  have g4 := be8s_length [m.fr, m.to]
  simp only [List.length_cons, List.length_nil] at g1 g2 g3 g4
  obtain ⟨kn, hkn⟩ : ∃ n : Nat, m.kd = n := ⟨m.kd.toNat, by have := hok.kd; omega⟩
  have hb : UInt8.ofNat (Int.toNat (IntKind.wrap IntKind.u8 m.kd)) = byteI m.kd := by rw [hkn, byte_wrap, byteI, Int.toNat_natCast]
  rw [h1, h2, h3, h4, bytesOf_ofBytes, hb, Int.toNat_natCast]
  have d : ∀ n : Nat, n ≤ 200000 → decide (n ≤ 4611686018427387904) = true := fun n hn => decide_eq_true (by omega)
  simp only [onRes, asStr, asNil, onOpt, Option.map_some]
  rw [d _ (by simp only [List.length_append, List.length_cons, List.length_nil]; omega), d _ (by simp only [List.length_append, List.length_cons, List.length_nil]; omega), d _ (by simp only [List.length_append, List.length_cons, List.length_nil]; omega), d _ (by simp only [List.length_append, List.length_cons, List.length_nil]; omega), d _ (by simp only [List.length_append, List.length_cons, List.length_nil]; omega), d _ (by simp only [List.length_append, List.length_cons, List.length_nil]; omega), d _ (by simp only [List.length_append, List.length_cons, List.length_nil]; omega), d _ (by simp only [List.length_append, List.length_cons, List.length_nil]; omega), d _ (by simp only [List.length_append, List.length_cons, List.length_nil]; omega), d _ (by simp only [List.length_append, List.length_cons, List.length_nil]; omega)]
  rfl
theorem mbytes_loop (k : Nat) (hk : 100 ≤ k) (m : Ms) (hok : OkP m) (s1 s2 s3 s4 : List UInt8) (hl : s1.length + s2.length + s3.length + s4.length ≤ 100000) (full : Nat) (l an bt wr : List AV) (f1 f2 f3 f4 f5 d : Bool) (a1 a2 a3 a4 a5 : Nat) (ha4 : m.sz ≠ [] → a4 = 1) : ∀ (dd i n : Nat) (acc : List UInt8) (st : St), i + dd = m.sz.length → dd < n → acc.length = 1 + i →
    st.clean (deadOf 27 0) = mbytesS (mgL' m.kd m.ep (.sl a1 f1 l) m.sq m.nn m.fo m.fu (.sl a2 f2 an) m.asq (.sl a3 f3 bt) (.sl a4 f4 (m.sz.map (AV.int .i64))) m.fr m.to (.sl a5 f5 wr)) s1 s2 s3 s4 full (.tip 63 0 1 (ofBytes acc)) d m.fu (.sl a4 f4 (m.sz.map (AV.int .i64))) m.sz.length i →
    loopA (bodyOf (evF pr k) 27 0 k) (deadOf 27 0) (contOf (evF pr k) 27 0 k 0) n st = some (.tup [.str (mBw m s1 s2 s3 s4 (UInt8.ofNat full) (acc ++ (m.sz.drop i).map byteI)), .int .i64 0], []) := by
  have hsz := hok.sz
  intro dd
  induction dd with
  | zero =>
    intro i n acc st hi hn ha hst
    obtain ⟨n, rfl⟩ : ∃ m', n = m' + 1 := ⟨n - 1, by omega⟩
    have h1 : m.sz.drop i = [] := List.drop_eq_nil_of_le (by omega)
    rw [loopA_succ, hst, mbytes_body1, decide_eq_false (by omega), h1, List.map_nil, List.append_nil]
    simp only [cond_false]
    exact mbytes_tail k hk m hok s1 s2 s3 s4 hl full acc (by omega)
  | succ dd ih =>
    intro i n acc st hi hn ha hst
    obtain ⟨n, rfl⟩ : ∃ m', n = m' + 1 := ⟨n - 1, by omega⟩
    have hlt : i < m.sz.length := by omega
    have h4 : a4 = 1 := ha4 (by intro h; rw [h] at hlt; simp at hlt)
    subst h4
    have hr := hsz.2 _ (List.getElem_mem hlt)
    obtain ⟨zn, hzn⟩ : ∃ z : Nat, m.sz[i] = z := ⟨(m.sz[i]).toNat, by omega⟩
    rw [loopA_succ, hst, mbytes_body1, decide_eq_true (show (i : Int) < m.sz.length by omega), decide_eq_true (show (0 : Int) ≤ i by omega), Int.toNat_natCast, List.getElem?_map, List.getElem?_eq_getElem hlt, List.drop_eq_getElem_cons hlt, wrap_small (n := (i : Int) + 1) (by omega) (by omega), List.map_cons]
    simp only [cond_true, Option.map_some, onOpt, asInt, if_true, decide_true, Bool.and_true, Bool.true_and]
    have hbv : [AV.int IntKind.u8 (IntKind.wrap IntKind.u8 m.sz[i])] = ofBytes [byteI m.sz[i]] := by
      rw [hzn, u8_ofBytes, byteI, Int.toNat_natCast]
      rfl
    rw [hbv, ofBytes_append, decide_eq_true (by
      refine ⟨trivial, fitsB_small ?_, ?_⟩ <;> simp only [ofBytes, List.length_map, List.length_cons, List.length_nil] <;> omega)]
    simp only [cond_true]
    refine (ih (i + 1) n (acc ++ [byteI m.sz[i]]) _ (by omega) (by omega) (by simp only [List.length_append, List.length_cons, List.length_nil]; omega) (by kernel_rfl)).trans ?_
    rw [List.append_assoc, List.singleton_append]
theorem putB_length {l : List (Int × Int)} (h : bOk l = true) : (putB l).length ≤ 1276 := by
  have h1 := bOk_length h
  have h2 := flatMap_length_le btB 5 l fun b _ => by rw [btB_length]; exact Nat.le_refl 5
  rw [putB, List.length_cons]
  omega
theorem ok_lengths {m : Ms} (h : OkP m) : (putL m.ln).length + (putL m.an).length + (putB m.bt).length + (putW m.wr).length ≤ 100000 := by
  have h1 := putL_length m.ln
  have h2 := putL_length m.an
  have h3 := putB_length h.bt
  have h4 := putW_length h.wr
  have h5 := (lined_parts h.ln).1
  have h6 := (lined_parts h.an).1
  have h7 := (wOk_parts h.wr).1
  omega
theorem e27 (k : Nat) (hk : 1202 ≤ k) {x : AV} {m : Ms} (h : IsM x m) (hbt : m.bt.length ≤ 1000) (hu : UM m.bt) : evF pr k 27 [x] [] = some (if okM m then .tup [.str (mB m), .int .i64 0] else .tup [.str [], .int .i64 1], []) := by
  obtain ⟨k, rfl⟩ : ∃ m, k = m + 1 := ⟨k - 1, by omega⟩
  have h29 := e29 k (by omega) h hbt
  obtain ⟨v1, v2, v3, v4, v5, rfl, h1, h2, h3, h4, h5⟩ := h
  obtain ⟨a1, f1, l, rfl, _⟩ := h1.sl
  obtain ⟨a2, f2, an, rfl, _⟩ := h2.sl
  obtain ⟨a3, f3, bt, rfl, _⟩ := h3.sl
  obtain ⟨a4, f4, sz, rfl, hszl⟩ := h4.sl
  obtain ⟨a5, f5, wr, rfl, _⟩ := h5.sl
  have hsz : sz = m.sz.map (AV.int .i64) ∧ (m.sz ≠ [] → a4 = 1) := by
    rcases h4 with ⟨fl, h⟩ | ⟨h0, a, fl, h⟩
    · cases h; exact ⟨rfl, fun _ => rfl⟩
    · cases h; exact ⟨by rw [h0]; rfl, fun h => absurd h0 h⟩
  rw [ev_step _ _ _ _ (by kernel_rfl)]
  refine (mbytes_tree (evF pr k) k m.kd m.ep l m.sq m.nn m.fo m.fu an m.asq bt sz m.fr m.to wr f1 f2 f3 f4 f5 a1 a2 a3 a4 a5).trans ?_
  unfold msV at h29
  rw [h29]
  simp only [onRes, asBool, asNil]
  cases hok : okM m with
  | false => rfl
  | true =>
    have hp := okM_parts hok
    have hl1 := lined_parts hp.ln
    have hl2 := lined_parts hp.an
    rw [e17' k h1 (by omega) hl1.2.sm (by omega), e17' k h2 (by omega) hl2.2.sm (by omega), e53' k h3 hu (by omega) hbt, e11' k h5 (by omega), hp.ln, hp.an, hp.bt, hp.wr]
    simp only [Bool.not_true, cond_false, if_true, onRes, asTup, asCons, asStr, asInt, asNil]
    obtain ⟨hsz1, hsz2⟩ := hsz
    subst hsz1
    rw [List.length_map, u8_ofBytes, show [AV.int IntKind.u8 (((UInt8.ofNat m.sz.length).toNat : Nat) : Int)] = ofBytes [UInt8.ofNat m.sz.length] from rfl]
    have fin : ∀ (full : Nat) (st : St), st.clean (deadOf 27 0) = mbytesS (mgL' m.kd m.ep (.sl a1 f1 l) m.sq m.nn m.fo m.fu (.sl a2 f2 an) m.asq (.sl a3 f3 bt) (.sl a4 f4 (m.sz.map (AV.int .i64))) m.fr m.to (.sl a5 f5 wr)) (putL m.ln) (putL m.an) (putB m.bt) (putW m.wr) full (.sl 1 true (ofBytes [UInt8.ofNat m.sz.length])) false m.fu (.sl a4 f4 (m.sz.map (AV.int .i64))) m.sz.length 0 →
        loopA (bodyOf (evF pr k) 27 0 k) (deadOf 27 0) (contOf (evF pr k) 27 0 k 0) k st = some (.tup [.str (mBw m (putL m.ln) (putL m.an) (putB m.bt) (putW m.wr) (UInt8.ofNat full) (szB m.sz)), .int .i64 0], []) := by
      intro full st hst
      obtain ⟨k', hk'⟩ : ∃ m, k = m + 1 := ⟨k - 1, by omega⟩
      conv => lhs; arg 4; rw [hk']
      rw [loopA_succ, hst, mbytes_body0]
      have hsm := hp.sz
      have hlen := ok_lengths hp
      cases hs : m.sz with
      | nil =>
        simp only [List.length_nil, show decide ((0 : Int) < ((0 : Nat) : Int)) = false from rfl, cond_false]
        exact mbytes_tail k (by omega) m hp _ _ _ _ hlen full [UInt8.ofNat 0] (by simp)
      | cons z r =>
        have h4 : a4 = 1 := hsz2 (by rw [hs]; simp)
        subst h4
        have hz := hsm.2 z (by rw [hs]; exact List.mem_cons_self ..)
        obtain ⟨zn, hzn⟩ : ∃ w : Nat, z = w := ⟨z.toNat, by omega⟩
        rw [decide_eq_true (show (0 : Int) < (((z :: r).length : Nat) : Int) by simp only [List.length_cons]; omega)]
        simp only [cond_true, Int.toNat_zero, List.map_cons, List.getElem?_cons_zero, onOpt, asInt, if_true, decide_true, Bool.and_true, Bool.true_and, show decide ((0 : Int) ≤ 0) = true from rfl]
        have hbv : [AV.int IntKind.u8 (IntKind.wrap IntKind.u8 z)] = ofBytes [byteI z] := by
          rw [hzn, u8_ofBytes, byteI, Int.toNat_natCast]
          rfl
        rw [hbv, ofBytes_append, decide_eq_true (by
          refine ⟨.inl trivial, fitsB_small ?_, ?_⟩ <;> simp only [ofBytes, List.length_map, List.length_cons, List.length_nil] <;> omega)]
        simp only [cond_true]
        rw [hs] at hsm
        simp only [List.length_cons] at hsm
        have := mbytes_loop k (by omega) m hp (putL m.ln) (putL m.an) (putB m.bt) (putW m.wr) hlen full l an bt wr f1 f2 f3 f4 f5 false a1 a2 a3 1 a5 (fun _ => rfl) r.length 1 k' ([UInt8.ofNat (z :: r).length] ++ [byteI z])
        rw [hs] at this
        exact this _ (by simp only [List.length_cons]; omega) (by omega) rfl (by kernel_rfl)
    have hmb : ∀ full : Nat, UInt8.ofNat full = fullB m.fu → mBw m (putL m.ln) (putL m.an) (putB m.bt) (putW m.wr) (UInt8.ofNat full) (szB m.sz) = mB m := by
      intro full hf
      rw [hf, mB]
    cases hfu : m.fu with
    | true =>
      rw [hfu] at fin
      simp only [cond_true]
      rw [← hmb 1 (by rw [hfu]; rfl)]
      exact fin 1 _ (by kernel_rfl)
    | false =>
      rw [hfu] at fin
      simp only [cond_false]
      rw [← hmb 0 (by rw [hfu]; rfl)]
      exact fin 0 _ (by kernel_rfl)

end Go.AM.Ytnhfjkckgicidaa
