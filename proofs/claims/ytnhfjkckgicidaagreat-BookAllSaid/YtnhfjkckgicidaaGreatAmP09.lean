/- book.Decode: what is read is what was written, and the other way round. Pure, and then the walk's word. -/
import Derived.Test.YtnhfjkckgicidaaGreatAmP08
set_option linter.unusedVariables false
set_option linter.unusedSimpArgs false
namespace Go.AM.YtnhfjkckgicidaaGreat
open Go.AM Go.Proofs Go
structure DecF (n : Nd) : Prop where
 ln : lined n.ln = true
 al : lined n.al = true
 um : UM n.ch
 ch : bOk n.ch = true
 vs : n.vs.length ≤ 255
 kp : wOk n.kp = true
 ss : n.ss.length ≤ 255
 sk : ∀ s ∈ n.ss, Sk s
 cp : wOk n.cp = true
 qs : n.qs.length ≤ 65535
 qk : ∀ s ∈ n.qs, Sk s
 qo : wOk n.qo = true
theorem asm (x1 x2 x3 x4 x5 x6 x7 x8 x9 x10 x11 x12 x13 x14 x15 x16 x17 x18 x19 x20 x21 x22 x23 x24 x25 x26 x27 x28 t : List UInt8) : x1 ++ (x2 ++ (x3 ++ (x4 ++ (x5 ++ (x6 ++ (x7 ++ (x8 ++ (x9 ++ (x10 ++ (x11 ++ (x12 ++ (x13 ++ (x14 ++ (x15 ++ (x16 ++ (x17 ++ (x18 ++ (x19 ++ (x20 ++ (x21 ++ (x22 ++ (x23 ++ (x24 ++ (x25 ++ (x26 ++ (x27 ++ (x28 ++ (t)))))))))))))))))))))))))))) = ((x1 ++ x2 ++ x3 ++ x4 ++ x5 ++ x6 ++ x7 ++ x8 ++ x9 ++ x10 ++ x11 ++ x12 ++ x13 ++ x14 ++ x15 ++ x16 ++ x17 ++ x18 ++ x19 ++ x20 ++ x21) ++ x22 ++ x23 ++ x24 ++ x25 ++ x26 ++ x27 ++ x28) ++ t := by
 simp only [List.append_assoc]
theorem dec_back {s : List UInt8} {n : Nd} {r : Rd} (h : Dec s n r) (hb : r.2 = false) : s = nodeB n ++ r.1 ∧ DecF n := by
 obtain ⟨h1, h2, h3, h4, h5, h6, h7, h8, h9, h10, h11, h12, h13, h14, h15, h16, h17, h18, h19, h20, h21, h22, h23, h24, h25⟩ := h
 rename_i a1 a6 a7 a8 a9 a10 a11 a12 a13 a14 a17 a21 a23 b2 b3 b4 b5 l15 l16 l18 vs kp cp ss qs r1 r2 r3 r4 r5 r6 r7 r8 r9 r10 r11 r12 r13 r14 r15 r16 r17 r18 r19 r20 r21 r22 r23 r24 r25
 unfold endR at hb
 obtain ⟨k28, e28, -, q28⟩ := nu_back (r' := (nuR 8 (nuR 8 (wrR r25).2).2).2) rfl hb
 obtain ⟨k27, e27, -, q27⟩ := nu_back (r' := (nuR 8 (wrR r25).2).2) rfl k28
 obtain ⟨k26, e26, q26⟩ := wr_back (r' := (wrR r25).2) rfl k27
 obtain ⟨k25, e25, q25, p25⟩ := se_back _ _ _ _ h25 k26
 obtain ⟨k24, e24, p24, q24⟩ := nu_back h24 k25
 obtain ⟨k23, e23, q23⟩ := wr_back h23 k24
 obtain ⟨k22, e22, q22, p22⟩ := sh_back _ _ _ _ h22 k23
 obtain ⟨k21, e21, p21, q21⟩ := nu_back h21 k22
 obtain ⟨k20, e20, q20⟩ := wr_back h20 k21
 obtain ⟨k19, e19, q19⟩ := vs_back h19 k20
 obtain ⟨k18, e18, p18, q18⟩ := bt_back h18 k19
 obtain ⟨k17, e17, -, q17⟩ := nu_back h17 k18
 obtain ⟨k16, e16, q16⟩ := li_back h16 k17
 obtain ⟨k15, e15, q15⟩ := li_back h15 k16
 obtain ⟨k14, e14, -, q14⟩ := nu_back h14 k15
 obtain ⟨k13, e13, -, q13⟩ := nu_back h13 k14
 obtain ⟨k12, e12, -, q12⟩ := nu_back h12 k13
 obtain ⟨k11, e11, -, q11⟩ := nu_back h11 k12
 obtain ⟨k10, e10, -, q10⟩ := nu_back h10 k11
 obtain ⟨k9, e9, -, q9⟩ := nu_back h9 k10
 obtain ⟨k8, e8, -, q8⟩ := nu_back h8 k9
 obtain ⟨k7, e7, -, q7⟩ := nu_back h7 k8
 obtain ⟨k6, e6, p6, q6⟩ := nu_back h6 k7
 obtain ⟨k5, e5⟩ := fl_back h5 k6
 obtain ⟨k4, e4⟩ := fl_back h4 k5
 obtain ⟨k3, e3⟩ := fl_back h3 k4
 obtain ⟨k2, e2⟩ := fl_back h2 k3
 obtain ⟨k1, e1, p1, q1⟩ := nu_back h1 k2
 rw [be1 _ (by omega)] at e1 e6 e21
 have g11 : IntKind.wrap .i64 ((a11 : Int) - 1) + 1 = (a11 : Int) := by
  rw [wrap_small (by omega) (by omega)]
  omega
 rw [← be8_nat _ q7] at e7
 rw [← be8_nat _ q8] at e8
 rw [← be8_nat _ q9] at e9
 rw [← be8_nat _ q10] at e10
 rw [← be8_nat _ q12] at e12
 rw [← be8_nat _ q13] at e13
 rw [← be8_nat _ q14] at e14
 rw [← be8_nat _ q17] at e17
 rw [← be8_nat _ q27] at e27
 rw [← be8_nat _ q28] at e28
 rw [← be8_nat _ q11, ← g11] at e11
 rw [← q22] at e21
 rw [← q25] at e24
 refine ⟨?_, ⟨q15, q16, p18, q18, q19, q20, ?_, p22, q23, ?_, p25, q26⟩⟩
 ·have e0 : s = [UInt8.ofNat a1] ++ r1.1 := e1
  rw [e0, e2, e3, e4, e5, e6, e7, e8, e9, e10, e11, e12, e13, e14, e15, e16, e17, e18, e19, e20, e21, e22, e23, e24, e25, e26, e27, e28]
  exact asm ..
 ·show ss.length ≤ 255
  omega
 ·show qs.length ≤ 65535
  omega
theorem wrB_four (w : Wr) : 4 ≤ (wrB w).length := by
 rw [wrB, List.length_append, List.length_append, be_length]
 simp
 omega
theorem putW_four (l : List Wr) : 4 * l.length ≤ (putW l).length := by
 have e : ∀ l : List Wr, 4 * l.length ≤ (l.flatMap wrB).length := by
  intro l
  induction l with
  | nil => simp
  | cons w r ih =>
   have := wrB_four w
   rw [List.flatMap_cons, List.length_append, List.length_cons]
   omega
 have := e l
 rw [putW, List.length_append]
 omega
theorem sets_four : ∀ l : List Shot, 4 * (l.flatMap fun s => s.2.2).length ≤ (l.flatMap shB).length
 | [] => by simp
 | s :: r => by
  have h1 := sets_four r
  have h2 := putW_four s.2.2
  rw [List.flatMap_cons, List.flatMap_cons, List.length_append, List.length_append, shB, List.length_append, List.length_append]
  omega
theorem wOk_le {l : List Wr} (h : wOk l = true) : l.length ≤ 128 := (wOk_parts h).1
theorem decF_B {n : Nd} (h : DecF n) (hl : (nodeB n).length ≤ 240000) : NdB n := by
 have h1 := (lined_parts h.ln).1
 have h2 := (lined_parts h.al).1
 have h3 := bOk_length h.ch
 have h4 := sets_four n.qs
 have h5 : (n.qs.flatMap shB).length ≤ (nodeB n).length := by
  unfold nodeB
  simp only [List.length_append]
  omega
 have w1 := wOk_le h.kp
 have w2 := wOk_le h.cp
 have w3 := wOk_le h.qo
 have w4 := h.vs
 have w5 := h.ss
 have w6 := h.qs
 exact ⟨by omega, by omega, by omega, by omega, by omega, h.um, by omega, fun s hs => by have := wOk_le (h.sk s hs).2.2.2.2; omega, by omega, by omega, fun s hs => by have := wOk_le (h.qk s hs).2.2.2.2; omega, by omega, by omega⟩
theorem sk_of {s : Shot} (h : Fi s.1 ∧ Fi s.2.1 ∧ wOk s.2.2 = true) : Sk s := ⟨h.1.1, by have := h.1.2; omega, h.2.1.1, by have := h.2.1.2; omega, h.2.2⟩
theorem dec_put {n n' : Nd} {r : Rd} (hr : Rt n) (hu : UM n.ch) (hq : n.qs.length ≤ 65535) (h : Dec (nodeB n) n' r) : n' = n ∧ r = ([], false) := by
 generalize hs : nodeB n = s at h
 obtain ⟨h1, h2, h3, h4, h5, h6, h7, h8, h9, h10, h11, h12, h13, h14, h15, h16, h17, h18, h19, h20, h21, h22, h23, h24, h25⟩ := h
 subst hs
 have gro := hr.ro
 have gmd := hr.md
 have gss := hr.ss
 have ggo := hr.go
 unfold nodeB hdB at h1
 simp only [List.append_assoc, List.singleton_append, List.cons_append, List.nil_append] at h1
 rw [nu_put1 n.ro _ ⟨by omega, by omega⟩] at h1
 simp only [Prod.mk.injEq] at h1
 obtain ⟨rfl, rfl⟩ := h1
 rw [fl_put] at h2
 simp only [Prod.mk.injEq] at h2
 obtain ⟨rfl, rfl⟩ := h2
 rw [fl_put] at h3
 simp only [Prod.mk.injEq] at h3
 obtain ⟨rfl, rfl⟩ := h3
 rw [fl_put] at h4
 simp only [Prod.mk.injEq] at h4
 obtain ⟨rfl, rfl⟩ := h4
 rw [fl_put] at h5
 simp only [Prod.mk.injEq] at h5
 obtain ⟨rfl, rfl⟩ := h5
 rw [nu_put1 n.md _ ⟨by omega, by omega⟩] at h6
 simp only [Prod.mk.injEq] at h6
 obtain ⟨rfl, rfl⟩ := h6
 rw [nu_put8 n.kn _ hr.kn.1 (by have := hr.kn.2; omega)] at h7
 simp only [Prod.mk.injEq] at h7
 obtain ⟨rfl, rfl⟩ := h7
 rw [nu_put8 n.sq _ hr.sq.1 (by have := hr.sq.2; omega)] at h8
 simp only [Prod.mk.injEq] at h8
 obtain ⟨rfl, rfl⟩ := h8
 rw [nu_put8 n.sn _ hr.sn.1 (by have := hr.sn.2; omega)] at h9
 simp only [Prod.mk.injEq] at h9
 obtain ⟨rfl, rfl⟩ := h9
 rw [nu_put8 n.sy _ hr.sy.1 (by have := hr.sy.2; omega)] at h10
 simp only [Prod.mk.injEq] at h10
 obtain ⟨rfl, rfl⟩ := h10
 rw [nu_put8 (n.go + 1) _ (by omega) (by omega)] at h11
 simp only [Prod.mk.injEq] at h11
 obtain ⟨rfl, rfl⟩ := h11
 rw [nu_put8 n.fr _ hr.fr.1 (by have := hr.fr.2; omega)] at h12
 simp only [Prod.mk.injEq] at h12
 obtain ⟨rfl, rfl⟩ := h12
 rw [nu_put8 n.fn _ hr.fn.1 (by have := hr.fn.2; omega)] at h13
 simp only [Prod.mk.injEq] at h13
 obtain ⟨rfl, rfl⟩ := h13
 rw [nu_put8 n.nx _ hr.nx.1 (by have := hr.nx.2; omega)] at h14
 simp only [Prod.mk.injEq] at h14
 obtain ⟨rfl, rfl⟩ := h14
 rw [li_put n.ln _ hr.ln] at h15
 simp only [Prod.mk.injEq] at h15
 obtain ⟨rfl, rfl⟩ := h15
 rw [li_put n.al _ hr.al] at h16
 simp only [Prod.mk.injEq] at h16
 obtain ⟨rfl, rfl⟩ := h16
 rw [nu_put8 n.aq _ hr.aq.1 (by have := hr.aq.2; omega)] at h17
 simp only [Prod.mk.injEq] at h17
 obtain ⟨rfl, rfl⟩ := h17
 rw [bt_put n.ch _ hr.ch hu] at h18
 simp only [Prod.mk.injEq] at h18
 obtain ⟨rfl, rfl⟩ := h18
 rw [vs_put n.vs _ hr.vs] at h19
 simp only [Prod.mk.injEq] at h19
 obtain ⟨rfl, rfl⟩ := h19
 rw [wr_put n.kp _ hr.kp] at h20
 simp only [Prod.mk.injEq] at h20
 obtain ⟨rfl, rfl⟩ := h20
 have f21 := nu_put1 (n.ss.length : Int) (n.ss.flatMap shB ++ (putW n.cp ++ (be 2 n.qs.length ++ (n.qs.flatMap shB ++ (putW n.qo ++ (be8 n.qf ++ be8 n.qt)))))) ⟨by omega, by omega⟩
 rw [Int.toNat_natCast] at f21
 rw [f21] at h21
 simp only [Prod.mk.injEq] at h21
 obtain ⟨rfl, rfl⟩ := h21
 rw [sh_put n.ss _ fun s hs => sk_of (hr.sk s hs)] at h22
 simp only [Prod.mk.injEq] at h22
 obtain ⟨rfl, rfl⟩ := h22
 rw [wr_put n.cp _ hr.cp] at h23
 simp only [Prod.mk.injEq] at h23
 obtain ⟨rfl, rfl⟩ := h23
 rw [nu_put 2 n.qs.length _ (by omega) (by omega)] at h24
 simp only [Prod.mk.injEq] at h24
 obtain ⟨rfl, rfl⟩ := h24
 rw [se_put n.qs _ fun s hs => sk_of (hr.qk s hs)] at h25
 simp only [Prod.mk.injEq] at h25
 obtain ⟨rfl, rfl⟩ := h25
 have w1 : wrR (putW n.qo ++ (be8 n.qf ++ be8 n.qt), false) = (n.qo, (be8 n.qf ++ be8 n.qt, false)) := wr_put n.qo _ hr.qo
 have w2 : nuR 8 (be8 n.qf ++ be8 n.qt, false) = (n.qf.toNat, (be8 n.qt, false)) := nu_put8 n.qf _ hr.qf.1 (by have := hr.qf.2; omega)
 have w3 : nuR 8 (be8 n.qt, false) = (n.qt.toNat, ([], false)) := by
  have := nu_put8 n.qt [] hr.qt.1 (by have := hr.qt.2; omega)
  rwa [List.append_nil] at this
 have g11 : IntKind.wrap .i64 (((n.go + 1).toNat : Int) - 1) = n.go := by
  rw [wrap_small (by omega) (by omega)]
  omega
 unfold endN endR
 rw [w1]
 simp only
 rw [w2]
 simp only
 rw [w3, g11]
 obtain ⟨⟩ := n
 simp only [Nd.mk.injEq, true_and, and_true]
 have t1 := hr.kn.1
 have t2 := hr.sq.1
 have t3 := hr.sn.1
 have t4 := hr.sy.1
 have t5 := hr.fr.1
 have t6 := hr.fn.1
 have t7 := hr.nx.1
 have t8 := hr.aq.1
 have t9 := hr.qf.1
 have t10 := hr.qt.1
 simp only at t1 t2 t3 t4 t5 t6 t7 t8 t9 t10 gro gmd
 refine ⟨?_, ?_, ?_, ?_, ?_, ?_, ?_, ?_, ?_, ?_, ?_, ?_⟩ <;> omega
def IsB (s : List UInt8) (n : Nd) : Prop := nodeOk n = true ∧ NdB n ∧ n.qs.length ≤ 65535 ∧ nodeB n = s
abbrev okB (n : Nd) : Res := some (.tup [.agg (ndL n), .int .i64 0], [])
abbrev noB : Res := some (.tup [.agg (ndL zN), .int .i64 3], [])
theorem x11d (k : Nat) (hk : 70700 ≤ k) (s : List UInt8) (hs : s.length ≤ 240000) : (∃ n, IsB s n ∧ W k 11 [.str s] [] = okB n) ∨ ((∀ n, ¬ IsB s n) ∧ W k 11 [.str s] [] = noB) := by
 obtain ⟨n, r, hd, hw⟩ := x11 k hk s
 have hB : r.2 = false → r.1 = [] → NdB n := by
  intro h1 h2
  obtain ⟨g1, g2⟩ := dec_back hd h1
  rw [h2, List.append_nil] at g1
  exact decF_B g2 (by rw [← g1]; exact hs)
 rw [hw hB]
 unfold outC
 by_cases h : r.2 = false ∧ r.1 = [] ∧ nodeOk n = true
 ·rw [if_pos h]
  obtain ⟨h1, h2, h3⟩ := h
  obtain ⟨g1, g2⟩ := dec_back hd h1
  rw [h2, List.append_nil] at g1
  exact .inl ⟨n, ⟨h3, hB h1 h2, g2.qs, g1.symm⟩, rfl⟩
 ·rw [if_neg h]
  refine .inr ⟨fun m hm => h ?_, rfl⟩
  obtain ⟨m1, m2, m3, rfl⟩ := hm
  obtain ⟨rfl, rfl⟩ := dec_put (rt_of m1 m2.cp) m2.um m3 hd
  exact ⟨rfl, rfl, m1⟩
theorem isB_one {s : List UInt8} {n m : Nd} (h1 : IsB s n) (h2 : IsB s m) : n = m := by
 obtain ⟨r, q, hd, -⟩ := x11 70700 (by omega) s
 obtain ⟨a1, a2, a3, rfl⟩ := h1
 obtain ⟨b1, b2, b3, b4⟩ := h2
 have e1 := (dec_put (rt_of a1 a2.cp) a2.um a3 hd).1
 rw [← b4] at hd
 have e2 := (dec_put (rt_of b1 b2.cp) b2.um b3 hd).1
 rw [← e1, e2]
open Go.AM Go.Proofs Go
theorem t60 (F : Fns) (N : Nat) (s : List UInt8) (p : Int) (b : Bool) (w : Int) : runOf F 60 N [.ptr 0 0 0, .int .i64 w] [[.str s, .int .i64 p, .bool b]] =
 bif b then some (AV.int .i64 0, [[AV.str s, AV.int .i64 p, AV.bool true]]) else bif decide (IntKind.wrap .i64 ((s.length : Int) - p) < w) then some (AV.int .i64 0, [[AV.str s, AV.int .i64 p, AV.bool true]]) else bif decide (0 ≤ p ∧ p ≤ IntKind.wrap .i64 (p + w) ∧ IntKind.wrap .i64 (p + w) ≤ (s.length : Int)) then zRe (F 100 [AV.str (List.drop (Int.toNat p) (List.take (Int.toNat (IntKind.wrap .i64 (p + w))) s))] []) fun v bs => zTC v fun v r => zIn .i64 v fun n => zCo r fun v r => zIn .i64 v fun n_1 => zNi r (zNi bs (some (AV.int .i64 n, [[AV.str s, AV.int .i64 (IntKind.wrap .i64 (p + w)), AV.bool (n_1 != 0)]]))) else none := by kernel_rfl
theorem t61 (F : Fns) (N : Nat) (s : List UInt8) (p : Int) (b : Bool) : runOf F 61 N [.ptr 0 0 0] [[.str s, .int .i64 p, .bool b]] =
 zRe (F 101 [AV.str s, AV.int .i64 p] []) fun v bs => zTC v fun v r => asSl v fun m fl xs => zCo r fun v r => zIn .i64 v fun n => zCo r fun v r => zBo v fun b_1 => zNi r (zNi bs (bif b then some (AV.sl m fl xs, [[AV.str s, AV.int .i64 n, AV.bool true]]) else some (AV.sl m fl xs, [[AV.str s, AV.int .i64 n, AV.bool !b_1]]))) := by kernel_rfl
theorem t102 (F : Fns) (N : Nat) (s : List UInt8) (p : Int) (b : Bool) : runOf F 102 N [.ptr 0 0 0] [[.str s, .int .i64 p, .bool b]] =
 zRe (F 131 [AV.str s, AV.int .i64 p] []) fun v bs => zTC v fun v r => asSl v fun m fl xs => zCo r fun v r => zIn .i64 v fun n => zCo r fun v r => zBo v fun b_1 => zNi r (zNi bs (bif b then some (AV.sl m fl xs, [[AV.str s, AV.int .i64 n, AV.bool true]]) else some (AV.sl m fl xs, [[AV.str s, AV.int .i64 n, AV.bool !b_1]]))) := by kernel_rfl
theorem t65 (F : Fns) (N : Nat) (s : List UInt8) : runOf F 65 N [.str s] [] =
 bif decide ((s.length : Int) < 2) then some (AV.tup [AV.str [], AV.str [], AV.int .i64 2], []) else zOp (Option.map (fun b => AV.int .u8 ((UInt8.toNat b : Nat) : Int)) s[Int.toNat 0]?) fun x => zIn .u8 x fun n => zOp (Option.map (fun b => AV.int .u8 ((UInt8.toNat b : Nat) : Int)) s[Int.toNat 1]?) fun x => zIn .u8 x fun n_1 => bif decide (IntKind.wrap .i64 ((s.length : Int) - 2) < IntKind.wrap .i64 (IntKind.wrap .i64 (256 * IntKind.wrap .i64 n) + IntKind.wrap .i64 n_1)) then some (AV.tup [AV.str [], AV.str [], AV.int .i64 2], []) else bif decide ((0 : Int) ≤ 2 ∧ 2 ≤ IntKind.wrap .i64 (2 + IntKind.wrap .i64 (IntKind.wrap .i64 (256 * IntKind.wrap .i64 n) + IntKind.wrap .i64 n_1)) ∧ IntKind.wrap .i64 (2 + IntKind.wrap .i64 (IntKind.wrap .i64 (256 * IntKind.wrap .i64 n) + IntKind.wrap .i64 n_1)) ≤ (s.length : Int)) then bif decide (0 ≤ IntKind.wrap .i64 (2 + IntKind.wrap .i64 (IntKind.wrap .i64 (256 * IntKind.wrap .i64 n) + IntKind.wrap .i64 n_1)) ∧ IntKind.wrap .i64 (2 + IntKind.wrap .i64 (IntKind.wrap .i64 (256 * IntKind.wrap .i64 n) + IntKind.wrap .i64 n_1)) ≤ (s.length : Int) ∧ (s.length : Int) ≤ (s.length : Int)) then some (AV.tup [AV.str (List.drop (Int.toNat 2) (List.take (Int.toNat (IntKind.wrap .i64 (2 + IntKind.wrap .i64 (IntKind.wrap .i64 (256 * IntKind.wrap .i64 n) + IntKind.wrap .i64 n_1)))) s)), AV.str (List.drop (Int.toNat (IntKind.wrap .i64 (2 + IntKind.wrap .i64 (IntKind.wrap .i64 (256 * IntKind.wrap .i64 n) + IntKind.wrap .i64 n_1)))) (List.take (Int.toNat (s.length : Int)) s)), AV.int .i64 0], []) else none else none := by kernel_rfl
theorem t16 (F : Fns) (N : Nat) (s : List UInt8) : runOf F 16 N [.str s] [] =
 bif decide ((s.length : Int) < 2) then some (AV.tup [AV.sl 0 true [], AV.str [], AV.int .i64 2], []) else zOp (Option.map (fun b => AV.int .u8 ((UInt8.toNat b : Nat) : Int)) s[Int.toNat 0]?) fun x => zIn .u8 x fun n => zOp (Option.map (fun b => AV.int .u8 ((UInt8.toNat b : Nat) : Int)) s[Int.toNat 1]?) fun x => zIn .u8 x fun n_1 => bif decide ((0 : Int) ≤ 2 ∧ 2 ≤ (s.length : Int) ∧ (s.length : Int) ≤ (s.length : Int)) then loopA (zBy F 16 0 N) (zDe 16 0) (zCt F 16 0 N 0) N { nt := 42, t := [(0, AV.str (List.drop (Int.toNat 2) (List.take (Int.toNat (s.length : Int)) s))), (2, AV.sl 0 true []), (3, AV.str []), (4, AV.int .i64 0), (5, AV.int .i64 (IntKind.wrap .i64 (IntKind.wrap .i64 (256 * IntKind.wrap .i64 n) + IntKind.wrap .i64 n_1))), (6, AV.sl 0 true []), (12, AV.bool (decide ((s.length : Int) < 2)))], b := [], r := [], g := [], rd := [], wr := [] } else none := by kernel_rfl
def i6S (s : List UInt8) (v : AV) (n : Int) : St := ⟨42, [(0, .str s), (2, .sl 0 true []), (3, .str []), (4, .int .i64 0), (5, .int .i64 n), (6, v), (12, .bool false)], [], [], [], [], []⟩
theorem b16a (F : Fns) (N : Nat) (s : List UInt8) (n : Int) (KN : St → Res) : zBy F 16 0 N (i6S s (.sl 0 true []) n) (brk (zCt F 16 0 N 0) KN) =
 bif decide (((List.length ([] : List AV) : Nat) : Int) < n) then zRe (F 65 [AV.str s] []) fun v bs => zTC v fun v r => zSt v fun s => zCo r fun v r => zSt v fun s_1 => zCo r fun v r => zIn .i64 v fun n_1 => zNi r (zNi bs (bif n_1 != 0 then some (AV.tup [AV.sl 0 true [], AV.str [], AV.int .i64 2], []) else KN { nt := 42, t := [(0, AV.str s_1), (2, AV.sl 0 true []), (3, AV.str []), (4, AV.int .i64 0), (5, AV.int .i64 n), (6, AV.tip 38 0 1 [AV.str s]), (7, AV.str s), (8, AV.str s_1), (9, AV.int .i64 n_1), (12, AV.bool false), (26, AV.bool (decide (((List.length ([] : List AV) : Nat) : Int) < n))), (34, AV.bool (n_1 != 0))], b := [], r := [], g := [], rd := [], wr := [] })) else some (AV.tup [AV.sl 0 true [], AV.str s, AV.int .i64 0], []) := by kernel_rfl
theorem b16 (F : Fns) (N : Nat) (s : List UInt8) (ys : List AV) (n : Int) (KN : St → Res) : zBy F 16 0 N (i6S s (.tip 38 0 1 ys) n) (brk (zCt F 16 0 N 0) KN) =
 bif decide ((ys.length : Int) < n) then zRe (F 65 [AV.str s] []) fun v bs => zTC v fun v r => zSt v fun s_1 => zCo r fun v r => zSt v fun s_2 => zCo r fun v r => zIn .i64 v fun n_1 => zNi r (zNi bs (bif n_1 != 0 then some (AV.tup [AV.sl 0 true [], AV.str [], AV.int .i64 2], []) else bif decide (1 = 1 ∧ fitsB (List.length ys + List.length [AV.str s_1]) 16 = true ∧ List.length ys + List.length [AV.str s_1] ≤ 4611686018427387904) then KN { nt := 42, t := [(0, AV.str s_2), (2, AV.sl 0 true []), (3, AV.str []), (4, AV.int .i64 0), (5, AV.int .i64 n), (6, AV.tip 38 0 1 (ys ++ [AV.str s_1])), (7, AV.str s_1), (8, AV.str s_2), (9, AV.int .i64 n_1), (12, AV.bool false), (26, AV.bool (decide ((ys.length : Int) < n))), (34, AV.bool (n_1 != 0))], b := [], r := [], g := [], rd := [], wr := [] } else none)) else some (AV.tup [AV.sl 1 false ys, AV.str s, AV.int .i64 0], []) := by kernel_rfl
theorem num_two (x y : UInt8) (u : List UInt8) : num 2 (x :: y :: u) = some (256 * x.toNat + y.toNat, u) := by
 have hx := x.toNat_lt
 have hy := y.toNat_lt
 have e : unbe ((x :: y :: u).take 2) 0 = 256 * x.toNat + y.toNat := by
  show unbe [x, y] 0 = _
  simp only [unbe]
  omega
 have e0 : numE 2 (x :: y :: u) = 0 := by
  unfold numE
  rw [e, if_neg (by simp), if_neg (by omega)]
 unfold num numN
 rw [if_pos e0, if_pos e0, e]
 rfl
theorem two_w {x y : Nat} (hx : x < 256) (hy : y < 256) : IntKind.wrap .i64 (IntKind.wrap .i64 (256 * IntKind.wrap .i64 (x : Int)) + IntKind.wrap .i64 (y : Int)) = ((256 * x + y : Nat) : Int) := by
 rw [wrap_small (n := (x : Int)) (by omega) (by omega), wrap_small (n := (y : Int)) (by omega) (by omega), wrap_small (n := 256 * (x : Int)) (by omega) (by omega), wrap_small (by omega) (by omega)]
 omega
theorem takeT_le {s a t : List UInt8} (h : takeT s = some (a, t)) : t.length ≤ s.length := by
 have := congrArg List.length (takeT_back h)
 simp only [List.length_append] at this
 omega
theorem x65 (k : Nat) (hk : 1 ≤ k) (s : List UInt8) (hs : s.length ≤ 1000000000) : W k 65 [.str s] [] = match takeT s with
  | none => some (.tup [.str [], .str [], .int .i64 2], [])
  | some (a, t) => some (.tup [.str a, .str t, .int .i64 0], []) := by
 obtain ⟨k, rfl⟩ := succ1 (show 1 ≤ k by omega)
 refine (W_tree0 (t65 (W k) k s) (by kernel_rfl)).trans ?_
 match s, hs with
 | [], _ => rfl
 | [_], _ => rfl
 | x :: y :: u, hs =>
  have e := num_two x y u
  unfold takeT
  rw [e]
  simp only [List.length_cons] at hs
  have hx := x.toNat_lt
  have hy := y.toNat_lt
  refine qX (decide_eq_false (by simp only [List.length_cons]; omega)) ?_
  refine qP (v := .int .u8 (x.toNat : Int)) rfl ?_
  repeat with_reducible first|apply qT|apply qC|apply qN|apply qS|apply qB|apply qI|apply qA|apply qL
  refine qP (v := .int .u8 (y.toNat : Int)) rfl ?_
  repeat with_reducible first|apply qT|apply qC|apply qN|apply qS|apply qB|apply qI|apply qA|apply qL
  rw [two_w hx hy]
  have hn : 256 * x.toNat + y.toNat < 65536 := by omega
  generalize 256 * x.toNat + y.toNat = n at hn ⊢
  simp only
  rw [wrap_small (n := ((List.length (x :: y :: u) : Nat) : Int) - 2) (by simp only [List.length_cons]; omega) (by simp only [List.length_cons]; omega)]
  by_cases h : u.length < n
  ·refine qY (decide_eq_true (by simp only [List.length_cons]; omega)) ?_
   rw [if_pos h]
  ·refine qX (decide_eq_false (by simp only [List.length_cons]; omega)) ?_
   rw [if_neg h, show IntKind.wrap .i64 (2 + (n : Int)) = ((n + 2 : Nat) : Int) by (rw [wrap_small (by omega) (by omega)]; omega)]
   refine qY (decide_eq_true (by simp only [List.length_cons]; omega)) ?_
   refine qY (decide_eq_true (by simp only [List.length_cons]; omega)) ?_
   rw [Int.toNat_natCast, Int.toNat_natCast, List.take_length]
   rfl
theorem x65n (k : Nat) (hk : 1 ≤ k) (s : List UInt8) (hs : s.length ≤ 1000000000) (h : takeT s = none) : W k 65 [.str s] [] = some (.tup [.str [], .str [], .int .i64 2], []) := by
 rw [x65 k hk s hs, h]
theorem x65s (k : Nat) (hk : 1 ≤ k) (s : List UInt8) (hs : s.length ≤ 1000000000) {a t : List UInt8} (h : takeT s = some (a, t)) : W k 65 [.str s] [] = some (.tup [.str a, .str t, .int .i64 0], []) := by
 rw [x65 k hk s hs, h]
theorem x16 (k : Nat) (hk : 66000 ≤ k) (s : List UInt8) (hs : s.length ≤ 1000000000) : W k 16 [.str s] [] = match items s with
  | none => some (.tup [ssV [], .str [], .int .i64 2], [])
  | some (l, t) => some (.tup [ssV l, .str t, .int .i64 0], []) := by
 obtain ⟨k, rfl⟩ := succ1 (show 1 ≤ k by omega)
 suffices hh : runOf (W k) 16 k [.str s] [] = match items s with
   | none => some (.tup [.sl 0 true [], .str [], .int .i64 2], [])
   | some (l, t) => some (.tup [gsV 1 (l.map AV.str), .str t, .int .i64 0], []) by
  refine (W_tree hh (by kernel_rfl)).trans ?_
  cases items s with
  | none => exact (by kernel_rfl)
  | some a =>
   obtain ⟨l, t⟩ := a
   cases l <;> exact (by kernel_rfl)
 rw [t16]
 match s, hs with
 | [], _ => rfl
 | [_], _ => rfl
 | x :: y :: u, hs =>
  have e := num_two x y u
  unfold items
  rw [e]
  simp only [List.length_cons] at hs
  have hx := x.toNat_lt
  have hy := y.toNat_lt
  refine qX (decide_eq_false (by simp only [List.length_cons]; omega)) ?_
  refine qP (v := .int .u8 (x.toNat : Int)) rfl ?_
  repeat with_reducible first|apply qT|apply qC|apply qN|apply qS|apply qB|apply qI|apply qA|apply qL
  refine qP (v := .int .u8 (y.toNat : Int)) rfl ?_
  repeat with_reducible first|apply qT|apply qC|apply qN|apply qS|apply qB|apply qI|apply qA|apply qL
  refine qY (decide_eq_true (by simp only [List.length_cons]; omega)) ?_
  rw [two_w hx hy]
  have hn : 256 * x.toNat + y.toNat < 65536 := by omega
  generalize 256 * x.toNat + y.toNat = n at hn ⊢
  have hd : List.drop (Int.toNat 2) (List.take (Int.toNat ((List.length (x :: y :: u) : Nat) : Int)) (x :: y :: u)) = u := by
   rw [Int.toNat_natCast, List.take_length]
   rfl
  rw [hd, decide_eq_false (show ¬ ((List.length (x :: y :: u) : Nat) : Int) < 2 by simp only [List.length_cons]; omega)]
  simp only
  refine loopA_ind (fun a : List UInt8 × List (List UInt8) => i6S a.1 (gtV 38 1 (a.2.map AV.str)) n) (fun a => n - a.2.length) (fun a r => a.1.length ≤ 1000000000 → a.2.length ≤ n → r = match txts (n - a.2.length) a.1 with
   | none => some (.tup [.sl 0 true [], .str [], .int .i64 2], [])
   | some (l, t) => some (.tup [gsV 1 ((a.2 ++ l).map AV.str), .str t, .int .i64 0], [])) (fun a m ih hv h0 => ?_) k (u, []) _ (by simp; omega) (by kernel_rfl) (by simp only; omega) (by simp)
  obtain ⟨v, acc⟩ := a
  simp only at ih hv h0 ⊢
  by_cases hlt : acc.length < n
  ·obtain ⟨d, hd⟩ : ∃ d, n - acc.length = d + 1 := ⟨n - acc.length - 1, by omega⟩
   have hd2 : n - (acc.length + 1) = d := by omega
   rw [hd, txts]
   have hgo : ∀ (a w : List UInt8) (st : St), w.length ≤ 1000000000 → st.clean (zDe 16 0) = i6S w (gtV 38 1 (acc.map AV.str ++ [.str a])) n → loopA (zBy (W k) 16 0 k) (zDe 16 0) (zCt (W k) 16 0 k 0) m st = match txts d w with
     | none => some (.tup [.sl 0 true [], .str [], .int .i64 2], [])
     | some (l, t) => some (.tup [gsV 1 ((acc ++ a :: l).map AV.str), .str t, .int .i64 0], []) := by
    intro a w st hwl hst
    refine (ih (w, acc ++ [a]) st (by simp; omega) (by rw [List.map_append]; exact hst) hwl (by simp; omega)).trans ?_
    simp only [List.length_append, List.length_cons, List.length_nil, Nat.zero_add, hd2, List.append_assoc, List.singleton_append]
   cases ht : takeT v with
   | none =>
    cases acc with
    | nil =>
     rw [List.map_nil, gtV, b16a]
     refine qY (decide_eq_true (by first | omega | (simp only [List.length_append, List.length_cons, List.length_nil, List.length_map]; omega))) ?_
     refine qO (x65n k (by omega) v (by omega) ht) ?_
     repeat with_reducible first|apply qT|apply qC|apply qN|apply qS|apply qB|apply qI|apply qA|apply qL
     rfl
    | cons y r =>
     rw [List.map_cons, gtV, b16]
     refine qY (decide_eq_true (by simp only [List.length_cons, List.length_map] at hlt ⊢; omega)) ?_
     refine qO (x65n k (by omega) v (by omega) ht) ?_
     repeat with_reducible first|apply qT|apply qC|apply qN|apply qS|apply qB|apply qI|apply qA|apply qL
     rfl
   | some c =>
    obtain ⟨a, w⟩ := c
    simp only
    have e : (match match txts d w with
      | none => none
      | some (l, s2) => some (a :: l, s2) with
     | none => (some (.tup [.sl 0 true [], .str [], .int .i64 2], []) : Res)
     | some (l, t) => some (.tup [gsV 1 ((acc ++ l).map AV.str), .str t, .int .i64 0], [])) = match txts d w with
     | none => some (.tup [.sl 0 true [], .str [], .int .i64 2], [])
     | some (l, t) => some (.tup [gsV 1 ((acc ++ a :: l).map AV.str), .str t, .int .i64 0], []) := by
     cases txts d w with
     | none => rfl
     | some _ => rfl
    refine Eq.trans ?_ e.symm
    cases acc with
    | nil =>
     rw [List.map_nil, gtV, b16a]
     refine qY (decide_eq_true (by first | omega | (simp only [List.length_append, List.length_cons, List.length_nil, List.length_map]; omega))) ?_
     refine qO (x65s k (by omega) v (by omega) ht) ?_
     repeat with_reducible first|apply qT|apply qC|apply qN|apply qS|apply qB|apply qI|apply qA|apply qL
     refine qX rfl ?_
     exact hgo a w _ (by have := takeT_le ht; omega) (by kernel_rfl)
    | cons y r =>
     rw [List.map_cons, gtV, b16]
     refine qY (decide_eq_true (by simp only [List.length_cons, List.length_map] at hlt ⊢; omega)) ?_
     refine qO (x65s k (by omega) v (by omega) ht) ?_
     repeat with_reducible first|apply qT|apply qC|apply qN|apply qS|apply qB|apply qI|apply qA|apply qL
     refine qX rfl ?_
     simp only [List.length_cons] at hlt
     refine qY (decide_eq_true (by refine ⟨by first | rfl | exact .inr rfl, fitsB_small ?_, ?_⟩ <;> simp only [ofBytes, List.length_map, List.length_append, List.length_cons, List.length_nil] <;> omega)) ?_
     exact hgo a w _ (by have := takeT_le ht; omega) (by kernel_rfl)
  ·rw [show n - acc.length = 0 by omega, txts]
   cases acc with
   | nil =>
    rw [List.map_nil, gtV, b16a]
    refine qX (decide_eq_false (by simp only [List.length_nil] at hlt ⊢; omega)) ?_
    rfl
   | cons y r =>
    rw [List.map_cons, gtV, b16]
    refine qX (decide_eq_false (by simp only [List.length_cons, List.length_map] at hlt ⊢; omega)) ?_
    simp only [List.append_nil]
    rfl
abbrev Cu := Nat × Bool
abbrev bxC (s : List UInt8) (c : Cu) : Boxes := [[.str s, .int .i64 (c.1 : Nat), .bool c.2]]
def nuC (w : Nat) (s : List UInt8) (c : Cu) : Nat × Cu := if c.2 = true ∨ s.length - c.1 < w then (0, (c.1, true)) else (numN w (s.drop c.1), (c.1 + w, decide (numE w (s.drop c.1) ≠ 0)))
def liC (s : List UInt8) (c : Cu) : List (Int × Int) × Cu := match num 1 (s.drop c.1) with
 | none => ([], (0, true))
 | some (n, t) => match brs n t with
  | none => ([], (0, true))
  | some (l, _) => (l, (c.1 + 1 + 16 * n, c.2 || !lined l))
def wrC (s : List UInt8) (c : Cu) : List Wr × Cu := match num 2 (s.drop c.1) with
 | none => ([], (0, true))
 | some (n, t) => match wrs n t with
  | none => ([], (0, true))
  | some (l, u) => (l, (s.length - u.length, c.2 || !wOk l))
theorem x100 (k : Nat) (hk : 10 ≤ k) (s : List UInt8) : W k 100 [.str s] [] = some (.tup [.int .i64 (AM.getV s).1, .int .i64 (AM.getV s).2], []) := W_old0 (e86 k hk s) (by omega) (by kernel_rfl)
theorem x60 (k : Nat) (hk : 12 ≤ k) (s : List UInt8) (hs : s.length ≤ 1000000000) (c : Cu) (hc : c.1 ≤ s.length) (w : Nat) (hw1 : 1 ≤ w) (hw : w ≤ 8) : W k 60 [.ptr 0 0 0, .int .i64 w] (bxC s c) = some (.int .i64 ((nuC w s c).1 : Nat), bxC s (nuC w s c).2) := by
 obtain ⟨k, rfl⟩ := succ1 (show 1 ≤ k by omega)
 obtain ⟨p, b⟩ := c
 simp only at hc
 refine (W_tree0 (t60 (W k) k s p b w) (by kernel_rfl)).trans ?_
 cases b with
 | true => rfl
 | false =>
  unfold nuC
  simp only
  refine qX rfl ?_
  rw [wrap_small (n := (s.length : Int) - (p : Int)) (by omega) (by omega)]
  by_cases h : s.length - p < w
  ·refine qY (decide_eq_true (by omega)) ?_
   rw [if_pos (.inr h)]
   rfl
  ·refine qX (decide_eq_false (by omega)) ?_
   rw [if_neg (by simp [h]), wrap_small (n := (p : Int) + w) (by omega) (by omega)]
   refine qY (decide_eq_true ⟨by omega, by omega, by omega⟩) ?_
   have e1 : ((p : Int) + w).toNat = p + w := by omega
   rw [Int.toNat_natCast, e1, List.drop_take, show p + w - p = w by omega]
   refine qO (x100 k (by omega) _) ?_
   rw [getV_take w hw1 hw _ (by rw [List.length_drop]; omega)]
   repeat with_reducible first|apply qT|apply qC|apply qN|apply qS|apply qB|apply qI|apply qA|apply qL
   have e2 : (numE w (s.drop p) != 0) = decide (numE w (s.drop p) ≠ 0) := by
    by_cases h : numE w (s.drop p) = 0
    ·rw [h]; rfl
    ·rw [decide_eq_true h]; simpa using h
   rw [e2]
   rfl
theorem x61 (k : Nat) (hk : 1200 ≤ k) (s : List UInt8) (hs : s.length ≤ 1000000000) (c : Cu) (hc : c.1 ≤ s.length) : W k 61 [.ptr 0 0 0] (bxC s c) = some (lnV (liC s c).1, bxC s (liC s c).2) := by
 obtain ⟨k, rfl⟩ := succ1 (show 1 ≤ k by omega)
 obtain ⟨p, b⟩ := c
 simp only at hc
 refine (W_tree (r := some (lnV (liC s (p, b)).1, bxC s (liC s (p, b)).2)) ((t61 (W k) k s p b).trans ?_) (by kernel_rfl)).trans (by kernel_rfl)
 have e := e21 k (by omega) s (by omega) p (by omega)
 unfold RTakeAt at e
 unfold liC
 simp only
 cases h1 : num 1 (s.drop p) with
 | none =>
  rw [h1] at e
  refine qO (v := .tup [lnV [], .int .i64 0, .bool false]) (bs := []) ((W_old e (by omega) (by kernel_rfl)).trans (by kernel_rfl)) ?_
  repeat with_reducible first|apply qT|apply qC|apply qN|apply qS|apply qB|apply qI|apply qA|apply qL
  cases b <;> rfl
 | some a =>
  obtain ⟨n, t⟩ := a
  rw [h1] at e
  simp only at e ⊢
  cases h2 : brs n t with
  | none =>
   rw [h2] at e
   refine qO (v := .tup [lnV [], .int .i64 0, .bool false]) (bs := []) ((W_old e (by omega) (by kernel_rfl)).trans (by kernel_rfl)) ?_
   repeat with_reducible first|apply qT|apply qC|apply qN|apply qS|apply qB|apply qI|apply qA|apply qL
   cases b <;> rfl
  | some a =>
   obtain ⟨l, u⟩ := a
   rw [h2] at e
   have e : evF pr k 101 [.str s, .int .i64 p] [] = some (.tup [slB l, .int .i64 ((p + 1 + 16 * n : Nat) : Int), .bool (lined l)], []) := e
   have e2 : W k 101 [.str s, .int .i64 p] [] = some (.tup [lnV l, .int .i64 ((p + 1 + 16 * n : Nat) : Int), .bool (lined l)], []) := by
    refine (W_old e (by omega) (by kernel_rfl)).trans ?_
    cases l <;> exact (by kernel_rfl)
   refine qO e2 ?_
   repeat with_reducible first|apply qT|apply qC|apply qN|apply qS|apply qB|apply qI|apply qA|apply qL
   cases b <;> rfl
theorem x102 (k : Nat) (hk : 66100 ≤ k) (s : List UInt8) (hs : s.length ≤ 1000000000) (c : Cu) (hc : c.1 ≤ s.length) : W k 102 [.ptr 0 0 0] (bxC s c) = some (wsV (wrC s c).1, bxC s (wrC s c).2) := by
 obtain ⟨k, rfl⟩ := succ1 (show 1 ≤ k by omega)
 obtain ⟨p, b⟩ := c
 simp only at hc
 refine (W_tree (r := some (wsV (wrC s (p, b)).1, bxC s (wrC s (p, b)).2)) ((t102 (W k) k s p b).trans ?_) (by kernel_rfl)).trans (by kernel_rfl)
 have e := e15 k (by omega) s (by omega) p (by omega)
 unfold RTakeWAt at e
 unfold wrC
 simp only
 cases h1 : num 2 (s.drop p) with
 | none =>
  rw [h1] at e
  refine qO (v := .tup [wsV [], .int .i64 0, .bool false]) (bs := []) ((W_old e (by omega) (by kernel_rfl)).trans (by kernel_rfl)) ?_
  repeat with_reducible first|apply qT|apply qC|apply qN|apply qS|apply qB|apply qI|apply qA|apply qL
  cases b <;> rfl
 | some a =>
  obtain ⟨n, t⟩ := a
  rw [h1] at e
  simp only at e ⊢
  cases h2 : wrs n t with
  | none =>
   rw [h2] at e
   refine qO (v := .tup [wsV [], .int .i64 0, .bool false]) (bs := []) ((W_old e (by omega) (by kernel_rfl)).trans (by kernel_rfl)) ?_
   repeat with_reducible first|apply qT|apply qC|apply qN|apply qS|apply qB|apply qI|apply qA|apply qL
   cases b <;> rfl
  | some a =>
   obtain ⟨l, u⟩ := a
   rw [h2] at e
   have e : evF pr k 131 [.str s, .int .i64 p] [] = some (.tup [slW l, .int .i64 ((s.length - u.length : Nat) : Int), .bool (wOk l)], []) := e
   have e2 : W k 131 [.str s, .int .i64 p] [] = some (.tup [wsV l, .int .i64 ((s.length - u.length : Nat) : Int), .bool (wOk l)], []) := by
    refine (W_old e (by omega) (by kernel_rfl)).trans ?_
    cases l <;> exact (by kernel_rfl)
   refine qO e2 ?_
   repeat with_reducible first|apply qT|apply qC|apply qN|apply qS|apply qB|apply qI|apply qA|apply qL
   cases b <;> rfl
def tlL (n : Nd) (v w : AV) : List AV := [.int .i64 n.ro, .bool n.st, .bool n.va, .int .i64 n.kn, lnV n.ln, .int .i64 n.sq, vsV n.vs, .bool n.sh, wsV n.kp, lnV n.al, .int .i64 n.aq, btsV n.ch, v, .int .i64 n.sn, .int .i64 n.md, .int .i64 n.sy, .bool n.fu, wsV n.cp, .int .i64 n.go, w, wsV n.qo, .int .i64 n.qf, .int .i64 n.qt, .int .i64 n.fr, .int .i64 n.fn, .int .i64 n.nx]
def tlS (m n : Nd) (v w : AV) (s : List UInt8) (p : Int) (b : Bool) (c i : Int) : St := ⟨124, [(0, .ptr 1000000 0 0), (1, .agg (tlL m (.sl 0 true []) (.sl 0 true []))), (3, .ptr 3 0 0), (4, .ptr 4 0 0), (5, .bool false), (6, .int .i64 c), (7, .int .i64 i), (14, .bool false)], [(3, tlL n v w), (4, zdL), (1000000, [.str s, .int .i64 p, .bool b])], [], [], [], []⟩
theorem t63 (F : Fns) (N : Nat) (m : Nd) (s : List UInt8) (p : Int) (b : Bool) : runOf F 63 N [.ptr 0 0 0, .agg (tlL m (.sl 0 true []) (.sl 0 true []))] [[.str s, .int .i64 p, .bool b]] =
 bif b then some (AV.tup [AV.agg zdL, AV.bool false], [[AV.str s, AV.int .i64 p, AV.bool b]]) else zRe (F 102 [AV.ptr 0 0 0] [[AV.str s, AV.int .i64 p, AV.bool b]]) fun v bs => asSl v fun m_1 fl xs => zB3 bs fun s n b_1 => (zRe (F 60 [AV.ptr 0 0 0, AV.int .i64 1] [[AV.str s, AV.int .i64 n, AV.bool b_1]]) fun v bs => zIn .i64 v fun n => zB3 bs fun s n_1 b_2 => (loopA (zBy F 63 0 N) (zDe 63 0) (zCt F 63 0 N 1) N { nt := 124, t := [(0, AV.ptr (1000000 + 0) 0 0), (1, AV.agg (tlL m (.sl 0 true []) (.sl 0 true []))), (3, AV.ptr 3 0 0), (4, AV.ptr 4 0 0), (5, AV.bool false), (6, AV.int .i64 n), (7, AV.int .i64 0), (14, AV.bool b)], b := [(3, (ndG m (vsV (Nd.vs m)) (AV.sl m_1 fl xs) (AV.sl 0 true []) (wsV (Nd.cp m)) (AV.sl 0 true []) (wsV (Nd.qo m)) (AV.int .i64 (Nd.qf m)) (AV.int .i64 (Nd.qt m)))), (4, zdL), (1000000, [AV.str s, AV.int .i64 n_1, AV.bool b_2])], r := [], g := [], rd := [], wr := [] })) := by kernel_rfl
theorem b63a (F : Fns) (N : Nat) (m n : Nd) (s : List UInt8) (p : Int) (b : Bool) (c i : Int) (KN : St → Res) : zBy F 63 0 N (tlS m n (.sl 0 true []) (.sl 0 true []) s p b c i) (brk (zCt F 63 0 N 1) KN) =
 bif decide (i < c) then bif !b then zRe (F 60 [AV.ptr 0 0 0, AV.int .i64 8] [[AV.str s, AV.int .i64 p, AV.bool b]]) fun v bs => zIn .i64 v fun n_1 => zB3 bs fun s n_2 b_1 => (zRe (F 60 [AV.ptr 0 0 0, AV.int .i64 8] [[AV.str s, AV.int .i64 n_2, AV.bool b_1]]) fun v bs => zIn .i64 v fun n_3 => zB3 bs fun s n_4 b_2 => (zRe (F 102 [AV.ptr 0 0 0] [[AV.str s, AV.int .i64 n_4, AV.bool b_2]]) fun v bs => asSl v fun m_1 fl xs => zB3 bs fun s n_5 b_3 => (KN { nt := 124, t := [(0, AV.ptr 1000000 0 0), (1, AV.agg (tlL m (.sl 0 true []) (.sl 0 true []))), (3, AV.ptr 3 0 0), (4, AV.ptr 4 0 0), (5, AV.bool false), (6, AV.int .i64 c), (7, AV.int .i64 (IntKind.wrap .i64 (i + 1))), (8, AV.ptr 8 0 0), (14, AV.bool false), (30, AV.bool !b)], b := [(3, (ndG n (vsV (Nd.vs n)) (wsV (Nd.kp n)) (AV.tip 46 0 3 [AV.agg [AV.int .i64 n_1, AV.int .i64 n_3, AV.sl m_1 fl xs]]) (wsV (Nd.cp n)) (AV.sl 0 true []) (wsV (Nd.qo n)) (AV.int .i64 (Nd.qf n)) (AV.int .i64 (Nd.qt n)))), (4, zdL), (8, [AV.int .i64 n_1, AV.int .i64 n_3, AV.sl m_1 fl xs]), (1000000, [AV.str s, AV.int .i64 n_5, AV.bool b_3])], r := [], g := [], rd := [], wr := [] }))) else bif b then some (AV.tup [AV.agg zdL, AV.bool false], [[AV.str s, AV.int .i64 p, AV.bool b]]) else zRe (F 102 [AV.ptr 0 0 0] [[AV.str s, AV.int .i64 p, AV.bool b]]) fun v bs => asSl v fun m_1 fl xs => zB3 bs fun s n_1 b_1 => (zRe (F 60 [AV.ptr 0 0 0, AV.int .i64 2] [[AV.str s, AV.int .i64 n_1, AV.bool b_1]]) fun v bs => zIn .i64 v fun n_2 => zB3 bs fun s n_3 b_2 => (loopA (zBy F 63 1 N) (zDe 63 1) (zCt F 63 1 N 1) N { nt := 124, t := [(0, AV.ptr 1000000 0 0), (1, AV.agg (tlL m (.sl 0 true []) (.sl 0 true []))), (3, AV.ptr 3 0 0), (4, AV.ptr 4 0 0), (5, AV.bool false), (6, AV.int .i64 n_2), (7, AV.int .i64 i), (9, AV.int .i64 0), (14, AV.bool false), (30, AV.bool !b), (51, AV.bool b)], b := [(3, (ndG n (vsV (Nd.vs n)) (wsV (Nd.kp n)) (AV.sl 0 true []) (AV.sl m_1 fl xs) (AV.sl 0 true []) (wsV (Nd.qo n)) (AV.int .i64 (Nd.qf n)) (AV.int .i64 (Nd.qt n)))), (4, zdL), (1000000, [AV.str s, AV.int .i64 n_3, AV.bool b_2])], r := [], g := [], rd := [], wr := [] })) else bif b then some (AV.tup [AV.agg zdL, AV.bool false], [[AV.str s, AV.int .i64 p, AV.bool b]]) else zRe (F 102 [AV.ptr 0 0 0] [[AV.str s, AV.int .i64 p, AV.bool b]]) fun v bs => asSl v fun m_1 fl xs => zB3 bs fun s n_1 b_1 => (zRe (F 60 [AV.ptr 0 0 0, AV.int .i64 2] [[AV.str s, AV.int .i64 n_1, AV.bool b_1]]) fun v bs => zIn .i64 v fun n_2 => zB3 bs fun s n_3 b_2 => (loopA (zBy F 63 1 N) (zDe 63 1) (zCt F 63 1 N 1) N { nt := 124, t := [(0, AV.ptr 1000000 0 0), (1, AV.agg (tlL m (.sl 0 true []) (.sl 0 true []))), (3, AV.ptr 3 0 0), (4, AV.ptr 4 0 0), (5, AV.bool false), (6, AV.int .i64 n_2), (7, AV.int .i64 i), (9, AV.int .i64 0), (14, AV.bool false), (30, AV.bool false), (51, AV.bool b)], b := [(3, (ndG n (vsV (Nd.vs n)) (wsV (Nd.kp n)) (AV.sl 0 true []) (AV.sl m_1 fl xs) (AV.sl 0 true []) (wsV (Nd.qo n)) (AV.int .i64 (Nd.qf n)) (AV.int .i64 (Nd.qt n)))), (4, zdL), (1000000, [AV.str s, AV.int .i64 n_3, AV.bool b_2])], r := [], g := [], rd := [], wr := [] })) := by kernel_rfl
theorem b63 (F : Fns) (N : Nat) (m n : Nd) (ys : List AV) (s : List UInt8) (p : Int) (b : Bool) (c i : Int) (KN : St → Res) : zBy F 63 0 N (tlS m n (.tip 46 0 3 ys) (.sl 0 true []) s p b c i) (brk (zCt F 63 0 N 1) KN) =
 bif decide (i < c) then bif !b then zRe (F 60 [AV.ptr 0 0 0, AV.int .i64 8] [[AV.str s, AV.int .i64 p, AV.bool b]]) fun v bs => zIn .i64 v fun n_1 => zB3 bs fun s_1 n_2 b_1 => (zRe (F 60 [AV.ptr 0 0 0, AV.int .i64 8] [[AV.str s_1, AV.int .i64 n_2, AV.bool b_1]]) fun v bs => zIn .i64 v fun n_3 => zB3 bs fun s_2 n_4 b_2 => (zRe (F 102 [AV.ptr 0 0 0] [[AV.str s_2, AV.int .i64 n_4, AV.bool b_2]]) fun v bs => asSl v fun m_1 fl xs => zB3 bs fun s_3 n_5 b_3 => (bif decide (3 = 3 ∧ fitsB (List.length ys + List.length [AV.agg [AV.int .i64 n_1, AV.int .i64 n_3, AV.sl m_1 fl xs]]) 40 = true ∧ List.length ys + List.length [AV.agg [AV.int .i64 n_1, AV.int .i64 n_3, AV.sl m_1 fl xs]] ≤ 4611686018427387904) then KN { nt := 124, t := [(0, AV.ptr 1000000 0 0), (1, AV.agg (tlL m (.sl 0 true []) (.sl 0 true []))), (3, AV.ptr 3 0 0), (4, AV.ptr 4 0 0), (5, AV.bool false), (6, AV.int .i64 c), (7, AV.int .i64 (IntKind.wrap .i64 (i + 1))), (8, AV.ptr 8 0 0), (14, AV.bool false), (30, AV.bool !b)], b := [(3, (ndG n (vsV (Nd.vs n)) (wsV (Nd.kp n)) (AV.tip 46 0 3 (ys ++ [AV.agg [AV.int .i64 n_1, AV.int .i64 n_3, AV.sl m_1 fl xs]])) (wsV (Nd.cp n)) (AV.sl 0 true []) (wsV (Nd.qo n)) (AV.int .i64 (Nd.qf n)) (AV.int .i64 (Nd.qt n)))), (4, zdL), (8, [AV.int .i64 n_1, AV.int .i64 n_3, AV.sl m_1 fl xs]), (1000000, [AV.str s_3, AV.int .i64 n_5, AV.bool b_3])], r := [], g := [], rd := [], wr := [] } else none))) else bif b then some (AV.tup [AV.agg zdL, AV.bool false], [[AV.str s, AV.int .i64 p, AV.bool b]]) else zRe (F 102 [AV.ptr 0 0 0] [[AV.str s, AV.int .i64 p, AV.bool b]]) fun v bs => asSl v fun m_1 fl xs => zB3 bs fun s n_1 b_1 => (zRe (F 60 [AV.ptr 0 0 0, AV.int .i64 2] [[AV.str s, AV.int .i64 n_1, AV.bool b_1]]) fun v bs => zIn .i64 v fun n_2 => zB3 bs fun s n_3 b_2 => (loopA (zBy F 63 1 N) (zDe 63 1) (zCt F 63 1 N 1) N { nt := 124, t := [(0, AV.ptr 1000000 0 0), (1, AV.agg (tlL m (.sl 0 true []) (.sl 0 true []))), (3, AV.ptr 3 0 0), (4, AV.ptr 4 0 0), (5, AV.bool false), (6, AV.int .i64 n_2), (7, AV.int .i64 i), (9, AV.int .i64 0), (14, AV.bool false), (30, AV.bool !b), (51, AV.bool b)], b := [(3, (ndG n (vsV (Nd.vs n)) (wsV (Nd.kp n)) (AV.tip 46 0 3 ys) (AV.sl m_1 fl xs) (AV.sl 0 true []) (wsV (Nd.qo n)) (AV.int .i64 (Nd.qf n)) (AV.int .i64 (Nd.qt n)))), (4, zdL), (1000000, [AV.str s, AV.int .i64 n_3, AV.bool b_2])], r := [], g := [], rd := [], wr := [] })) else bif b then some (AV.tup [AV.agg zdL, AV.bool false], [[AV.str s, AV.int .i64 p, AV.bool b]]) else zRe (F 102 [AV.ptr 0 0 0] [[AV.str s, AV.int .i64 p, AV.bool b]]) fun v bs => asSl v fun m_1 fl xs => zB3 bs fun s n_1 b_1 => (zRe (F 60 [AV.ptr 0 0 0, AV.int .i64 2] [[AV.str s, AV.int .i64 n_1, AV.bool b_1]]) fun v bs => zIn .i64 v fun n_2 => zB3 bs fun s n_3 b_2 => (loopA (zBy F 63 1 N) (zDe 63 1) (zCt F 63 1 N 1) N { nt := 124, t := [(0, AV.ptr 1000000 0 0), (1, AV.agg (tlL m (.sl 0 true []) (.sl 0 true []))), (3, AV.ptr 3 0 0), (4, AV.ptr 4 0 0), (5, AV.bool false), (6, AV.int .i64 n_2), (7, AV.int .i64 i), (9, AV.int .i64 0), (14, AV.bool false), (30, AV.bool false), (51, AV.bool b)], b := [(3, (ndG n (vsV (Nd.vs n)) (wsV (Nd.kp n)) (AV.tip 46 0 3 ys) (AV.sl m_1 fl xs) (AV.sl 0 true []) (wsV (Nd.qo n)) (AV.int .i64 (Nd.qf n)) (AV.int .i64 (Nd.qt n)))), (4, zdL), (1000000, [AV.str s, AV.int .i64 n_3, AV.bool b_2])], r := [], g := [], rd := [], wr := [] })) := by kernel_rfl
def tmS (m n : Nd) (v w : AV) (s : List UInt8) (p : Int) (b : Bool) (c i : Int) (b1 : Bool) (j : Int) : St := ⟨124, [(0, .ptr 1000000 0 0), (1, .agg (tlL m (.sl 0 true []) (.sl 0 true []))), (3, .ptr 3 0 0), (4, .ptr 4 0 0), (5, .bool false), (6, .int .i64 c), (7, .int .i64 i), (9, .int .i64 j), (14, .bool false), (30, .bool b1), (51, .bool false)], [(3, tlL n v w), (4, zdL), (1000000, [.str s, .int .i64 p, .bool b])], [], [], [], []⟩
theorem c63aa (F : Fns) (N : Nat) (m n : Nd) (s : List UInt8) (p : Int) (b : Bool) (c i : Int) (b1 : Bool) (j : Int) (KN : St → Res) : zBy F 63 1 N (tmS m n (.sl 0 true []) (.sl 0 true []) s p b c i b1 j) (brk (zCt F 63 1 N 1) KN) =
 bif decide (j < c) then bif !b then zRe (F 60 [AV.ptr 0 0 0, AV.int .i64 8] [[AV.str s, AV.int .i64 p, AV.bool b]]) fun v bs => zIn .i64 v fun n_1 => zB3 bs fun s n_2 b_1 => (zRe (F 60 [AV.ptr 0 0 0, AV.int .i64 8] [[AV.str s, AV.int .i64 n_2, AV.bool b_1]]) fun v bs => zIn .i64 v fun n_3 => zB3 bs fun s n_4 b_2 => (zRe (F 102 [AV.ptr 0 0 0] [[AV.str s, AV.int .i64 n_4, AV.bool b_2]]) fun v bs => asSl v fun m_1 fl xs => zB3 bs fun s n_5 b_3 => (KN { nt := 124, t := [(0, AV.ptr 1000000 0 0), (1, AV.agg (tlL m (.sl 0 true []) (.sl 0 true []))), (3, AV.ptr 3 0 0), (4, AV.ptr 4 0 0), (5, AV.bool false), (6, AV.int .i64 c), (7, AV.int .i64 i), (9, AV.int .i64 (IntKind.wrap .i64 (j + 1))), (10, AV.ptr 10 0 0), (14, AV.bool false), (30, AV.bool b1), (51, AV.bool false), (67, AV.bool !b)], b := [(3, (ndG n (vsV (Nd.vs n)) (wsV (Nd.kp n)) (AV.sl 0 true []) (wsV (Nd.cp n)) (AV.tip 84 0 3 [AV.agg [AV.int .i64 n_1, AV.int .i64 n_3, AV.sl m_1 fl xs]]) (wsV (Nd.qo n)) (AV.int .i64 (Nd.qf n)) (AV.int .i64 (Nd.qt n)))), (4, zdL), (10, [AV.int .i64 n_1, AV.int .i64 n_3, AV.sl m_1 fl xs]), (1000000, [AV.str s, AV.int .i64 n_5, AV.bool b_3])], r := [], g := [], rd := [], wr := [] }))) else bif b then some (AV.tup [AV.agg zdL, AV.bool false], [[AV.str s, AV.int .i64 p, AV.bool b]]) else zRe (F 102 [AV.ptr 0 0 0] [[AV.str s, AV.int .i64 p, AV.bool b]]) fun v bs => asSl v fun m fl xs => zB3 bs fun s n_1 b => (zRe (F 60 [AV.ptr 0 0 0, AV.int .i64 8] [[AV.str s, AV.int .i64 n_1, AV.bool b]]) fun v bs => zIn .i64 v fun n_2 => zB3 bs fun s n_3 b => (zRe (F 60 [AV.ptr 0 0 0, AV.int .i64 8] [[AV.str s, AV.int .i64 n_3, AV.bool b]]) fun v bs => zIn .i64 v fun n_4 => zB3 bs fun s n_5 b => (bif b then some (AV.tup [AV.agg zdL, AV.bool false], [[AV.str s, AV.int .i64 n_5, AV.bool b]]) else zRe (F 10 [AV.agg (ndG n (vsV (Nd.vs n)) (wsV (Nd.kp n)) (AV.sl 0 true []) (wsV (Nd.cp n)) (AV.sl 0 true []) (AV.sl m fl xs) (AV.int .i64 n_2) (AV.int .i64 n_4))] []) fun v bs => zBo v fun b_1 => zNi bs (bif !b_1 then some (AV.tup [AV.agg zdL, AV.bool false], [[AV.str s, AV.int .i64 n_5, AV.bool b]]) else zRe (F 12 [AV.agg (ndG n (vsV (Nd.vs n)) (wsV (Nd.kp n)) (AV.sl 0 true []) (wsV (Nd.cp n)) (AV.sl 0 true []) (AV.sl m fl xs) (AV.int .i64 n_2) (AV.int .i64 n_4))] []) fun v bs => zSt v fun s_1 => zNi bs (bif !s_1 == s then some (AV.tup [AV.agg zdL, AV.bool false], [[AV.str s, AV.int .i64 n_5, AV.bool b]]) else some (AV.tup [AV.agg (ndG n (vsV (Nd.vs n)) (wsV (Nd.kp n)) (AV.sl 0 true []) (wsV (Nd.cp n)) (AV.sl 0 true []) (AV.sl m fl xs) (AV.int .i64 n_2) (AV.int .i64 n_4)), AV.bool true], [[AV.str s, AV.int .i64 n_5, AV.bool b]])))))) else bif b then some (AV.tup [AV.agg zdL, AV.bool false], [[AV.str s, AV.int .i64 p, AV.bool b]]) else zRe (F 102 [AV.ptr 0 0 0] [[AV.str s, AV.int .i64 p, AV.bool b]]) fun v bs => asSl v fun m fl xs => zB3 bs fun s n_1 b => (zRe (F 60 [AV.ptr 0 0 0, AV.int .i64 8] [[AV.str s, AV.int .i64 n_1, AV.bool b]]) fun v bs => zIn .i64 v fun n_2 => zB3 bs fun s n_3 b => (zRe (F 60 [AV.ptr 0 0 0, AV.int .i64 8] [[AV.str s, AV.int .i64 n_3, AV.bool b]]) fun v bs => zIn .i64 v fun n_4 => zB3 bs fun s n_5 b => (bif b then some (AV.tup [AV.agg zdL, AV.bool false], [[AV.str s, AV.int .i64 n_5, AV.bool b]]) else zRe (F 10 [AV.agg (ndG n (vsV (Nd.vs n)) (wsV (Nd.kp n)) (AV.sl 0 true []) (wsV (Nd.cp n)) (AV.sl 0 true []) (AV.sl m fl xs) (AV.int .i64 n_2) (AV.int .i64 n_4))] []) fun v bs => zBo v fun b_1 => zNi bs (bif !b_1 then some (AV.tup [AV.agg zdL, AV.bool false], [[AV.str s, AV.int .i64 n_5, AV.bool b]]) else zRe (F 12 [AV.agg (ndG n (vsV (Nd.vs n)) (wsV (Nd.kp n)) (AV.sl 0 true []) (wsV (Nd.cp n)) (AV.sl 0 true []) (AV.sl m fl xs) (AV.int .i64 n_2) (AV.int .i64 n_4))] []) fun v bs => zSt v fun s_1 => zNi bs (bif !s_1 == s then some (AV.tup [AV.agg zdL, AV.bool false], [[AV.str s, AV.int .i64 n_5, AV.bool b]]) else some (AV.tup [AV.agg (ndG n (vsV (Nd.vs n)) (wsV (Nd.kp n)) (AV.sl 0 true []) (wsV (Nd.cp n)) (AV.sl 0 true []) (AV.sl m fl xs) (AV.int .i64 n_2) (AV.int .i64 n_4)), AV.bool true], [[AV.str s, AV.int .i64 n_5, AV.bool b]])))))) := by kernel_rfl
theorem c63ab (F : Fns) (N : Nat) (m n : Nd) (ys : List AV) (s : List UInt8) (p : Int) (b : Bool) (c i : Int) (b1 : Bool) (j : Int) (KN : St → Res) : zBy F 63 1 N (tmS m n (.sl 0 true []) (.tip 84 0 3 ys) s p b c i b1 j) (brk (zCt F 63 1 N 1) KN) =
 bif decide (j < c) then bif !b then zRe (F 60 [AV.ptr 0 0 0, AV.int .i64 8] [[AV.str s, AV.int .i64 p, AV.bool b]]) fun v bs => zIn .i64 v fun n_1 => zB3 bs fun s_1 n_2 b_1 => (zRe (F 60 [AV.ptr 0 0 0, AV.int .i64 8] [[AV.str s_1, AV.int .i64 n_2, AV.bool b_1]]) fun v bs => zIn .i64 v fun n_3 => zB3 bs fun s_2 n_4 b_2 => (zRe (F 102 [AV.ptr 0 0 0] [[AV.str s_2, AV.int .i64 n_4, AV.bool b_2]]) fun v bs => asSl v fun m_1 fl xs => zB3 bs fun s_3 n_5 b_3 => (bif decide (3 = 3 ∧ fitsB (List.length ys + List.length [AV.agg [AV.int .i64 n_1, AV.int .i64 n_3, AV.sl m_1 fl xs]]) 40 = true ∧ List.length ys + List.length [AV.agg [AV.int .i64 n_1, AV.int .i64 n_3, AV.sl m_1 fl xs]] ≤ 4611686018427387904) then KN { nt := 124, t := [(0, AV.ptr 1000000 0 0), (1, AV.agg (tlL m (.sl 0 true []) (.sl 0 true []))), (3, AV.ptr 3 0 0), (4, AV.ptr 4 0 0), (5, AV.bool false), (6, AV.int .i64 c), (7, AV.int .i64 i), (9, AV.int .i64 (IntKind.wrap .i64 (j + 1))), (10, AV.ptr 10 0 0), (14, AV.bool false), (30, AV.bool b1), (51, AV.bool false), (67, AV.bool !b)], b := [(3, (ndG n (vsV (Nd.vs n)) (wsV (Nd.kp n)) (AV.sl 0 true []) (wsV (Nd.cp n)) (AV.tip 84 0 3 (ys ++ [AV.agg [AV.int .i64 n_1, AV.int .i64 n_3, AV.sl m_1 fl xs]])) (wsV (Nd.qo n)) (AV.int .i64 (Nd.qf n)) (AV.int .i64 (Nd.qt n)))), (4, zdL), (10, [AV.int .i64 n_1, AV.int .i64 n_3, AV.sl m_1 fl xs]), (1000000, [AV.str s_3, AV.int .i64 n_5, AV.bool b_3])], r := [], g := [], rd := [], wr := [] } else none))) else bif b then some (AV.tup [AV.agg zdL, AV.bool false], [[AV.str s, AV.int .i64 p, AV.bool b]]) else zRe (F 102 [AV.ptr 0 0 0] [[AV.str s, AV.int .i64 p, AV.bool b]]) fun v bs => asSl v fun m fl xs => zB3 bs fun s n_1 b => (zRe (F 60 [AV.ptr 0 0 0, AV.int .i64 8] [[AV.str s, AV.int .i64 n_1, AV.bool b]]) fun v bs => zIn .i64 v fun n_2 => zB3 bs fun s n_3 b => (zRe (F 60 [AV.ptr 0 0 0, AV.int .i64 8] [[AV.str s, AV.int .i64 n_3, AV.bool b]]) fun v bs => zIn .i64 v fun n_4 => zB3 bs fun s n_5 b => (bif b then some (AV.tup [AV.agg zdL, AV.bool false], [[AV.str s, AV.int .i64 n_5, AV.bool b]]) else zRe (F 10 [AV.agg (ndG n (vsV (Nd.vs n)) (wsV (Nd.kp n)) (AV.sl 0 true []) (wsV (Nd.cp n)) (AV.sl 3 false ys) (AV.sl m fl xs) (AV.int .i64 n_2) (AV.int .i64 n_4))] []) fun v bs => zBo v fun b_1 => zNi bs (bif !b_1 then some (AV.tup [AV.agg zdL, AV.bool false], [[AV.str s, AV.int .i64 n_5, AV.bool b]]) else zRe (F 12 [AV.agg (ndG n (vsV (Nd.vs n)) (wsV (Nd.kp n)) (AV.sl 0 true []) (wsV (Nd.cp n)) (AV.sl 3 false ys) (AV.sl m fl xs) (AV.int .i64 n_2) (AV.int .i64 n_4))] []) fun v bs => zSt v fun s_1 => zNi bs (bif !s_1 == s then some (AV.tup [AV.agg zdL, AV.bool false], [[AV.str s, AV.int .i64 n_5, AV.bool b]]) else some (AV.tup [AV.agg (ndG n (vsV (Nd.vs n)) (wsV (Nd.kp n)) (AV.sl 0 true []) (wsV (Nd.cp n)) (AV.sl 3 false ys) (AV.sl m fl xs) (AV.int .i64 n_2) (AV.int .i64 n_4)), AV.bool true], [[AV.str s, AV.int .i64 n_5, AV.bool b]])))))) else bif b then some (AV.tup [AV.agg zdL, AV.bool false], [[AV.str s, AV.int .i64 p, AV.bool b]]) else zRe (F 102 [AV.ptr 0 0 0] [[AV.str s, AV.int .i64 p, AV.bool b]]) fun v bs => asSl v fun m fl xs => zB3 bs fun s n_1 b => (zRe (F 60 [AV.ptr 0 0 0, AV.int .i64 8] [[AV.str s, AV.int .i64 n_1, AV.bool b]]) fun v bs => zIn .i64 v fun n_2 => zB3 bs fun s n_3 b => (zRe (F 60 [AV.ptr 0 0 0, AV.int .i64 8] [[AV.str s, AV.int .i64 n_3, AV.bool b]]) fun v bs => zIn .i64 v fun n_4 => zB3 bs fun s n_5 b => (bif b then some (AV.tup [AV.agg zdL, AV.bool false], [[AV.str s, AV.int .i64 n_5, AV.bool b]]) else zRe (F 10 [AV.agg (ndG n (vsV (Nd.vs n)) (wsV (Nd.kp n)) (AV.sl 0 true []) (wsV (Nd.cp n)) (AV.sl 3 false ys) (AV.sl m fl xs) (AV.int .i64 n_2) (AV.int .i64 n_4))] []) fun v bs => zBo v fun b_1 => zNi bs (bif !b_1 then some (AV.tup [AV.agg zdL, AV.bool false], [[AV.str s, AV.int .i64 n_5, AV.bool b]]) else zRe (F 12 [AV.agg (ndG n (vsV (Nd.vs n)) (wsV (Nd.kp n)) (AV.sl 0 true []) (wsV (Nd.cp n)) (AV.sl 3 false ys) (AV.sl m fl xs) (AV.int .i64 n_2) (AV.int .i64 n_4))] []) fun v bs => zSt v fun s_1 => zNi bs (bif !s_1 == s then some (AV.tup [AV.agg zdL, AV.bool false], [[AV.str s, AV.int .i64 n_5, AV.bool b]]) else some (AV.tup [AV.agg (ndG n (vsV (Nd.vs n)) (wsV (Nd.kp n)) (AV.sl 0 true []) (wsV (Nd.cp n)) (AV.sl 3 false ys) (AV.sl m fl xs) (AV.int .i64 n_2) (AV.int .i64 n_4)), AV.bool true], [[AV.str s, AV.int .i64 n_5, AV.bool b]])))))) := by kernel_rfl
theorem c63ba (F : Fns) (N : Nat) (m n : Nd) (xs : List AV) (s : List UInt8) (p : Int) (b : Bool) (c i : Int) (b1 : Bool) (j : Int) (KN : St → Res) : zBy F 63 1 N (tmS m n (.tip 46 0 3 xs) (.sl 0 true []) s p b c i b1 j) (brk (zCt F 63 1 N 1) KN) =
 bif decide (j < c) then bif !b then zRe (F 60 [AV.ptr 0 0 0, AV.int .i64 8] [[AV.str s, AV.int .i64 p, AV.bool b]]) fun v bs => zIn .i64 v fun n_1 => zB3 bs fun s n_2 b_1 => (zRe (F 60 [AV.ptr 0 0 0, AV.int .i64 8] [[AV.str s, AV.int .i64 n_2, AV.bool b_1]]) fun v bs => zIn .i64 v fun n_3 => zB3 bs fun s n_4 b_2 => (zRe (F 102 [AV.ptr 0 0 0] [[AV.str s, AV.int .i64 n_4, AV.bool b_2]]) fun v bs => asSl v fun m_1 fl xs_1 => zB3 bs fun s n_5 b_3 => (KN { nt := 124, t := [(0, AV.ptr 1000000 0 0), (1, AV.agg (tlL m (.sl 0 true []) (.sl 0 true []))), (3, AV.ptr 3 0 0), (4, AV.ptr 4 0 0), (5, AV.bool false), (6, AV.int .i64 c), (7, AV.int .i64 i), (9, AV.int .i64 (IntKind.wrap .i64 (j + 1))), (10, AV.ptr 10 0 0), (14, AV.bool false), (30, AV.bool b1), (51, AV.bool false), (67, AV.bool !b)], b := [(3, (ndG n (vsV (Nd.vs n)) (wsV (Nd.kp n)) (AV.tip 46 0 3 xs) (wsV (Nd.cp n)) (AV.tip 84 0 3 [AV.agg [AV.int .i64 n_1, AV.int .i64 n_3, AV.sl m_1 fl xs_1]]) (wsV (Nd.qo n)) (AV.int .i64 (Nd.qf n)) (AV.int .i64 (Nd.qt n)))), (4, zdL), (10, [AV.int .i64 n_1, AV.int .i64 n_3, AV.sl m_1 fl xs_1]), (1000000, [AV.str s, AV.int .i64 n_5, AV.bool b_3])], r := [], g := [], rd := [], wr := [] }))) else bif b then some (AV.tup [AV.agg zdL, AV.bool false], [[AV.str s, AV.int .i64 p, AV.bool b]]) else zRe (F 102 [AV.ptr 0 0 0] [[AV.str s, AV.int .i64 p, AV.bool b]]) fun v bs => asSl v fun m fl xs_1 => zB3 bs fun s n_1 b => (zRe (F 60 [AV.ptr 0 0 0, AV.int .i64 8] [[AV.str s, AV.int .i64 n_1, AV.bool b]]) fun v bs => zIn .i64 v fun n_2 => zB3 bs fun s n_3 b => (zRe (F 60 [AV.ptr 0 0 0, AV.int .i64 8] [[AV.str s, AV.int .i64 n_3, AV.bool b]]) fun v bs => zIn .i64 v fun n_4 => zB3 bs fun s n_5 b => (bif b then some (AV.tup [AV.agg zdL, AV.bool false], [[AV.str s, AV.int .i64 n_5, AV.bool b]]) else zRe (F 10 [AV.agg (ndG n (vsV (Nd.vs n)) (wsV (Nd.kp n)) (AV.sl 3 false xs) (wsV (Nd.cp n)) (AV.sl 0 true []) (AV.sl m fl xs_1) (AV.int .i64 n_2) (AV.int .i64 n_4))] []) fun v bs => zBo v fun b_1 => zNi bs (bif !b_1 then some (AV.tup [AV.agg zdL, AV.bool false], [[AV.str s, AV.int .i64 n_5, AV.bool b]]) else zRe (F 12 [AV.agg (ndG n (vsV (Nd.vs n)) (wsV (Nd.kp n)) (AV.sl 3 false xs) (wsV (Nd.cp n)) (AV.sl 0 true []) (AV.sl m fl xs_1) (AV.int .i64 n_2) (AV.int .i64 n_4))] []) fun v bs => zSt v fun s_1 => zNi bs (bif !s_1 == s then some (AV.tup [AV.agg zdL, AV.bool false], [[AV.str s, AV.int .i64 n_5, AV.bool b]]) else some (AV.tup [AV.agg (ndG n (vsV (Nd.vs n)) (wsV (Nd.kp n)) (AV.sl 3 false xs) (wsV (Nd.cp n)) (AV.sl 0 true []) (AV.sl m fl xs_1) (AV.int .i64 n_2) (AV.int .i64 n_4)), AV.bool true], [[AV.str s, AV.int .i64 n_5, AV.bool b]])))))) else bif b then some (AV.tup [AV.agg zdL, AV.bool false], [[AV.str s, AV.int .i64 p, AV.bool b]]) else zRe (F 102 [AV.ptr 0 0 0] [[AV.str s, AV.int .i64 p, AV.bool b]]) fun v bs => asSl v fun m fl xs_1 => zB3 bs fun s n_1 b => (zRe (F 60 [AV.ptr 0 0 0, AV.int .i64 8] [[AV.str s, AV.int .i64 n_1, AV.bool b]]) fun v bs => zIn .i64 v fun n_2 => zB3 bs fun s n_3 b => (zRe (F 60 [AV.ptr 0 0 0, AV.int .i64 8] [[AV.str s, AV.int .i64 n_3, AV.bool b]]) fun v bs => zIn .i64 v fun n_4 => zB3 bs fun s n_5 b => (bif b then some (AV.tup [AV.agg zdL, AV.bool false], [[AV.str s, AV.int .i64 n_5, AV.bool b]]) else zRe (F 10 [AV.agg (ndG n (vsV (Nd.vs n)) (wsV (Nd.kp n)) (AV.sl 3 false xs) (wsV (Nd.cp n)) (AV.sl 0 true []) (AV.sl m fl xs_1) (AV.int .i64 n_2) (AV.int .i64 n_4))] []) fun v bs => zBo v fun b_1 => zNi bs (bif !b_1 then some (AV.tup [AV.agg zdL, AV.bool false], [[AV.str s, AV.int .i64 n_5, AV.bool b]]) else zRe (F 12 [AV.agg (ndG n (vsV (Nd.vs n)) (wsV (Nd.kp n)) (AV.sl 3 false xs) (wsV (Nd.cp n)) (AV.sl 0 true []) (AV.sl m fl xs_1) (AV.int .i64 n_2) (AV.int .i64 n_4))] []) fun v bs => zSt v fun s_1 => zNi bs (bif !s_1 == s then some (AV.tup [AV.agg zdL, AV.bool false], [[AV.str s, AV.int .i64 n_5, AV.bool b]]) else some (AV.tup [AV.agg (ndG n (vsV (Nd.vs n)) (wsV (Nd.kp n)) (AV.sl 3 false xs) (wsV (Nd.cp n)) (AV.sl 0 true []) (AV.sl m fl xs_1) (AV.int .i64 n_2) (AV.int .i64 n_4)), AV.bool true], [[AV.str s, AV.int .i64 n_5, AV.bool b]])))))) := by kernel_rfl
theorem c63bb (F : Fns) (N : Nat) (m n : Nd) (xs ys : List AV) (s : List UInt8) (p : Int) (b : Bool) (c i : Int) (b1 : Bool) (j : Int) (KN : St → Res) : zBy F 63 1 N (tmS m n (.tip 46 0 3 xs) (.tip 84 0 3 ys) s p b c i b1 j) (brk (zCt F 63 1 N 1) KN) =
 bif decide (j < c) then bif !b then zRe (F 60 [AV.ptr 0 0 0, AV.int .i64 8] [[AV.str s, AV.int .i64 p, AV.bool b]]) fun v bs => zIn .i64 v fun n_1 => zB3 bs fun s_1 n_2 b_1 => (zRe (F 60 [AV.ptr 0 0 0, AV.int .i64 8] [[AV.str s_1, AV.int .i64 n_2, AV.bool b_1]]) fun v bs => zIn .i64 v fun n_3 => zB3 bs fun s_2 n_4 b_2 => (zRe (F 102 [AV.ptr 0 0 0] [[AV.str s_2, AV.int .i64 n_4, AV.bool b_2]]) fun v bs => asSl v fun m_1 fl xs_1 => zB3 bs fun s_3 n_5 b_3 => (bif decide (3 = 3 ∧ fitsB (List.length ys + List.length [AV.agg [AV.int .i64 n_1, AV.int .i64 n_3, AV.sl m_1 fl xs_1]]) 40 = true ∧ List.length ys + List.length [AV.agg [AV.int .i64 n_1, AV.int .i64 n_3, AV.sl m_1 fl xs_1]] ≤ 4611686018427387904) then KN { nt := 124, t := [(0, AV.ptr 1000000 0 0), (1, AV.agg (tlL m (.sl 0 true []) (.sl 0 true []))), (3, AV.ptr 3 0 0), (4, AV.ptr 4 0 0), (5, AV.bool false), (6, AV.int .i64 c), (7, AV.int .i64 i), (9, AV.int .i64 (IntKind.wrap .i64 (j + 1))), (10, AV.ptr 10 0 0), (14, AV.bool false), (30, AV.bool b1), (51, AV.bool false), (67, AV.bool !b)], b := [(3, (ndG n (vsV (Nd.vs n)) (wsV (Nd.kp n)) (AV.tip 46 0 3 xs) (wsV (Nd.cp n)) (AV.tip 84 0 3 (ys ++ [AV.agg [AV.int .i64 n_1, AV.int .i64 n_3, AV.sl m_1 fl xs_1]])) (wsV (Nd.qo n)) (AV.int .i64 (Nd.qf n)) (AV.int .i64 (Nd.qt n)))), (4, zdL), (10, [AV.int .i64 n_1, AV.int .i64 n_3, AV.sl m_1 fl xs_1]), (1000000, [AV.str s_3, AV.int .i64 n_5, AV.bool b_3])], r := [], g := [], rd := [], wr := [] } else none))) else bif b then some (AV.tup [AV.agg zdL, AV.bool false], [[AV.str s, AV.int .i64 p, AV.bool b]]) else zRe (F 102 [AV.ptr 0 0 0] [[AV.str s, AV.int .i64 p, AV.bool b]]) fun v bs => asSl v fun m fl xs_1 => zB3 bs fun s n_1 b => (zRe (F 60 [AV.ptr 0 0 0, AV.int .i64 8] [[AV.str s, AV.int .i64 n_1, AV.bool b]]) fun v bs => zIn .i64 v fun n_2 => zB3 bs fun s n_3 b => (zRe (F 60 [AV.ptr 0 0 0, AV.int .i64 8] [[AV.str s, AV.int .i64 n_3, AV.bool b]]) fun v bs => zIn .i64 v fun n_4 => zB3 bs fun s n_5 b => (bif b then some (AV.tup [AV.agg zdL, AV.bool false], [[AV.str s, AV.int .i64 n_5, AV.bool b]]) else zRe (F 10 [AV.agg (ndG n (vsV (Nd.vs n)) (wsV (Nd.kp n)) (AV.sl 3 false xs) (wsV (Nd.cp n)) (AV.sl 3 false ys) (AV.sl m fl xs_1) (AV.int .i64 n_2) (AV.int .i64 n_4))] []) fun v bs => zBo v fun b_1 => zNi bs (bif !b_1 then some (AV.tup [AV.agg zdL, AV.bool false], [[AV.str s, AV.int .i64 n_5, AV.bool b]]) else zRe (F 12 [AV.agg (ndG n (vsV (Nd.vs n)) (wsV (Nd.kp n)) (AV.sl 3 false xs) (wsV (Nd.cp n)) (AV.sl 3 false ys) (AV.sl m fl xs_1) (AV.int .i64 n_2) (AV.int .i64 n_4))] []) fun v bs => zSt v fun s_1 => zNi bs (bif !s_1 == s then some (AV.tup [AV.agg zdL, AV.bool false], [[AV.str s, AV.int .i64 n_5, AV.bool b]]) else some (AV.tup [AV.agg (ndG n (vsV (Nd.vs n)) (wsV (Nd.kp n)) (AV.sl 3 false xs) (wsV (Nd.cp n)) (AV.sl 3 false ys) (AV.sl m fl xs_1) (AV.int .i64 n_2) (AV.int .i64 n_4)), AV.bool true], [[AV.str s, AV.int .i64 n_5, AV.bool b]])))))) else bif b then some (AV.tup [AV.agg zdL, AV.bool false], [[AV.str s, AV.int .i64 p, AV.bool b]]) else zRe (F 102 [AV.ptr 0 0 0] [[AV.str s, AV.int .i64 p, AV.bool b]]) fun v bs => asSl v fun m fl xs_1 => zB3 bs fun s n_1 b => (zRe (F 60 [AV.ptr 0 0 0, AV.int .i64 8] [[AV.str s, AV.int .i64 n_1, AV.bool b]]) fun v bs => zIn .i64 v fun n_2 => zB3 bs fun s n_3 b => (zRe (F 60 [AV.ptr 0 0 0, AV.int .i64 8] [[AV.str s, AV.int .i64 n_3, AV.bool b]]) fun v bs => zIn .i64 v fun n_4 => zB3 bs fun s n_5 b => (bif b then some (AV.tup [AV.agg zdL, AV.bool false], [[AV.str s, AV.int .i64 n_5, AV.bool b]]) else zRe (F 10 [AV.agg (ndG n (vsV (Nd.vs n)) (wsV (Nd.kp n)) (AV.sl 3 false xs) (wsV (Nd.cp n)) (AV.sl 3 false ys) (AV.sl m fl xs_1) (AV.int .i64 n_2) (AV.int .i64 n_4))] []) fun v bs => zBo v fun b_1 => zNi bs (bif !b_1 then some (AV.tup [AV.agg zdL, AV.bool false], [[AV.str s, AV.int .i64 n_5, AV.bool b]]) else zRe (F 12 [AV.agg (ndG n (vsV (Nd.vs n)) (wsV (Nd.kp n)) (AV.sl 3 false xs) (wsV (Nd.cp n)) (AV.sl 3 false ys) (AV.sl m fl xs_1) (AV.int .i64 n_2) (AV.int .i64 n_4))] []) fun v bs => zSt v fun s_1 => zNi bs (bif !s_1 == s then some (AV.tup [AV.agg zdL, AV.bool false], [[AV.str s, AV.int .i64 n_5, AV.bool b]]) else some (AV.tup [AV.agg (ndG n (vsV (Nd.vs n)) (wsV (Nd.kp n)) (AV.sl 3 false xs) (wsV (Nd.cp n)) (AV.sl 3 false ys) (AV.sl m fl xs_1) (AV.int .i64 n_2) (AV.int .i64 n_4)), AV.bool true], [[AV.str s, AV.int .i64 n_5, AV.bool b]])))))) := by kernel_rfl
def bindC {α β : Type} (x : α × Cu) (K : α → Cu → β) : β := K x.1 x.2
theorem bindC_eq {α β : Type} {x : α × Cu} {a : α} {c : Cu} {K : α → Cu → β} (h : x = (a, c)) : bindC x K = K a c := by rw [h]; rfl
def s1C (s : List UInt8) (c : Cu) : Shot × Cu := (((((nuC 8 s c).1 : Nat) : Int), (((nuC 8 s (nuC 8 s c).2).1 : Nat) : Int), (wrC s (nuC 8 s (nuC 8 s c).2).2).1), (wrC s (nuC 8 s (nuC 8 s c).2).2).2)
def shC : Nat → List UInt8 → Cu → List Shot × Cu
 | 0, s, c => ([], c)
 | n + 1, s, c => if c.2 then ([], c) else ((s1C s c).1 :: (shC n s (s1C s c).2).1, (shC n s (s1C s c).2).2)
theorem nuC_le {w : Nat} {s : List UInt8} {c : Cu} (h : c.1 ≤ s.length) : (nuC w s c).2.1 ≤ s.length := by
 unfold nuC
 split
 ·exact h
 ·rename_i h2
  simp only [not_or] at h2
  simp only
  omega
theorem wrC_le {s : List UInt8} {c : Cu} : (wrC s c).2.1 ≤ s.length := by
 unfold wrC
 split
 ·simp
 ·split
  ·simp
  ·simp only
   omega
theorem liC_le {s : List UInt8} {c : Cu} : (liC s c).2.1 ≤ s.length := by
 unfold liC
 split
 ·simp
 ·rename_i h1
  split
  ·simp
  ·rename_i h2
   simp only
   have g1 := num_suffix h1
   have g2 := (brs_spec _ _ _ _ h2).2.2.1
   rw [g1.1] at g2
   simp only [List.length_drop] at g1 g2
   omega
theorem s1C_le {s : List UInt8} {c : Cu} : (s1C s c).2.1 ≤ s.length := wrC_le
theorem shC_le : ∀ (n : Nat) (s : List UInt8) (c : Cu), c.1 ≤ s.length → (shC n s c).2.1 ≤ s.length
 | 0, s, c, h => h
 | n + 1, s, c, h => by
  rw [shC]
  split
  ·exact h
  ·exact shC_le n s _ s1C_le
def endC (s : List UInt8) (n : Nd) (c : Cu) : Option Nd := if c.2 then none else bindC (wrC s c) fun qo c7 => bindC (nuC 8 s c7) fun qf c8 => bindC (nuC 8 s c8) fun qt c9 => if c9.2 then none else some { n with qo := qo, qf := (qf : Nat), qt := (qt : Nat) }
def endF (s : List UInt8) (c : Cu) : Cu := if c.2 then c else (nuC 8 s (nuC 8 s (wrC s c).2).2).2
def outR (s : List UInt8) (o : Option Nd) : AV := match o with
 | none => .tup [.agg zdL, .bool false]
 | some n => if nodeOk n = true ∧ nodeB n = s then .tup [.agg (rwL n), .bool true] else .tup [.agg zdL, .bool false]
theorem can10 (ro kn sq aq sn md sy go qf qt fr fn nx : Int) (st va sh fu : Bool) (ln vs kp al ch cp qo : AV) (a b : List AV) : canVs (ctA ct 10) [.agg [.int .i64 ro, .bool st, .bool va, .int .i64 kn, ln, .int .i64 sq, vs, .bool sh, kp, al, .int .i64 aq, ch, gsV 3 a, .int .i64 sn, .int .i64 md, .int .i64 sy, .bool fu, cp, .int .i64 go, gsV 3 b, qo, .int .i64 qf, .int .i64 qt, .int .i64 fr, .int .i64 fn, .int .i64 nx]] = canVs (ctA ct 10) [.agg [.int .i64 ro, .bool st, .bool va, .int .i64 kn, ln, .int .i64 sq, vs, .bool sh, kp, al, .int .i64 aq, ch, .sl 3 false a, .int .i64 sn, .int .i64 md, .int .i64 sy, .bool fu, cp, .int .i64 go, .sl 3 false b, qo, .int .i64 qf, .int .i64 qt, .int .i64 fr, .int .i64 fn, .int .i64 nx]] := by
 cases a <;> cases b <;> kernel_rfl
theorem can12 (ro kn sq aq sn md sy go qf qt fr fn nx : Int) (st va sh fu : Bool) (ln vs kp al ch cp qo : AV) (a b : List AV) : canVs (ctA ct 12) [.agg [.int .i64 ro, .bool st, .bool va, .int .i64 kn, ln, .int .i64 sq, vs, .bool sh, kp, al, .int .i64 aq, ch, gsV 3 a, .int .i64 sn, .int .i64 md, .int .i64 sy, .bool fu, cp, .int .i64 go, gsV 3 b, qo, .int .i64 qf, .int .i64 qt, .int .i64 fr, .int .i64 fn, .int .i64 nx]] = canVs (ctA ct 12) [.agg [.int .i64 ro, .bool st, .bool va, .int .i64 kn, ln, .int .i64 sq, vs, .bool sh, kp, al, .int .i64 aq, ch, .sl 3 false a, .int .i64 sn, .int .i64 md, .int .i64 sy, .bool fu, cp, .int .i64 go, .sl 3 false b, qo, .int .i64 qf, .int .i64 qt, .int .i64 fr, .int .i64 fn, .int .i64 nx]] := by
 cases a <;> cases b <;> kernel_rfl
theorem x10r (k : Nat) (hk : 70700 ≤ k) (n : Nd) (hb : NdB n) : W k 10 [.agg (rwL n)] [] = some (.bool (nodeOk n), []) := W_arg (x10 k hk n hb) (can10 ..)
theorem x12r (k : Nat) (hk : 70300 ≤ k) (n : Nd) (hok : nodeOk n = true) (hb : NdB n) : W k 12 [.agg (rwL n)] [] = some (.str (nodeB n), []) := W_arg (x12 k hk n (rt_of hok hb.cp) hb.um hb.qs) (can12 ..)
theorem tail63 (k : Nat) (hk : 70800 ≤ k) (s : List UInt8) (hs : s.length ≤ 1000000000) (n : Nd) (q : List Shot) (c0 : Cu) (hc : c0.1 ≤ s.length) (vss vqs : AV) (h1 : vss = gsV 3 (n.ss.map shV)) (h2 : vqs = gsV 3 (q.map shV)) (hB : ∀ n', endC s { n with qs := q } c0 = some n' → NdB n') :
 (bif c0.2 then some (AV.tup [AV.agg zdL, AV.bool false], [[AV.str s, AV.int .i64 (c0.1 : Nat), AV.bool c0.2]]) else zRe (W k 102 [AV.ptr 0 0 0] [[AV.str s, AV.int .i64 (c0.1 : Nat), AV.bool c0.2]]) fun v bs => asSl v fun m fl xs => zB3 bs fun s n_1 b => (zRe (W k 60 [AV.ptr 0 0 0, AV.int .i64 8] [[AV.str s, AV.int .i64 n_1, AV.bool b]]) fun v bs => zIn .i64 v fun n_2 => zB3 bs fun s n_3 b => (zRe (W k 60 [AV.ptr 0 0 0, AV.int .i64 8] [[AV.str s, AV.int .i64 n_3, AV.bool b]]) fun v bs => zIn .i64 v fun n_4 => zB3 bs fun s n_5 b => (bif b then some (AV.tup [AV.agg zdL, AV.bool false], [[AV.str s, AV.int .i64 n_5, AV.bool b]]) else zRe (W k 10 [AV.agg (ndG n (vsV (Nd.vs n)) (wsV (Nd.kp n)) vss (wsV (Nd.cp n)) vqs (AV.sl m fl xs) (AV.int .i64 n_2) (AV.int .i64 n_4))] []) fun v bs => zBo v fun b_1 => zNi bs (bif !b_1 then some (AV.tup [AV.agg zdL, AV.bool false], [[AV.str s, AV.int .i64 n_5, AV.bool b]]) else zRe (W k 12 [AV.agg (ndG n (vsV (Nd.vs n)) (wsV (Nd.kp n)) vss (wsV (Nd.cp n)) vqs (AV.sl m fl xs) (AV.int .i64 n_2) (AV.int .i64 n_4))] []) fun v bs => zSt v fun s_1 => zNi bs (bif !s_1 == s then some (AV.tup [AV.agg zdL, AV.bool false], [[AV.str s, AV.int .i64 n_5, AV.bool b]]) else some (AV.tup [AV.agg (ndG n (vsV (Nd.vs n)) (wsV (Nd.kp n)) vss (wsV (Nd.cp n)) vqs (AV.sl m fl xs) (AV.int .i64 n_2) (AV.int .i64 n_4)), AV.bool true], [[AV.str s, AV.int .i64 n_5, AV.bool b]]))))))) = some (outR s (endC s { n with qs := q } c0), bxC s (endF s c0)) := by
 subst h1 h2
 unfold endF
 cases hb0 : c0.2 with
 | true =>
  unfold endC
  rw [hb0, if_pos rfl, if_pos rfl]
  obtain ⟨p, b⟩ := c0
  simp only at hb0
  subst hb0
  rfl
 | false =>
  rw [if_neg (by simp)]
  refine qX rfl ?_
  have hx : (bxC s c0) = [[AV.str s, AV.int .i64 (c0.1 : Nat), AV.bool false]] := by rw [← hb0]
  rw [← hx]
  have e : endC s { n with qs := q } c0 = if (nuC 8 s (nuC 8 s (wrC s c0).2).2).2.2 then none else some { n with qs := q, qo := (wrC s c0).1, qf := ((nuC 8 s (wrC s c0).2).1 : Nat), qt := ((nuC 8 s (nuC 8 s (wrC s c0).2).2).1 : Nat) } := by
   unfold endC bindC
   rw [if_neg (by rw [hb0]; simp)]
  rw [e] at hB ⊢
  refine qO (x102 k (by omega) s hs c0 hc) ?_
  repeat with_reducible first|apply qT|apply qC|apply qN|apply qS|apply qB|apply qI|apply qA|apply qL
  refine qO (x60 k (by omega) s hs _ wrC_le 8 (by omega) (by omega)) ?_
  repeat with_reducible first|apply qT|apply qC|apply qN|apply qS|apply qB|apply qI|apply qA|apply qL
  refine qO (x60 k (by omega) s hs _ (nuC_le wrC_le) 8 (by omega) (by omega)) ?_
  repeat with_reducible first|apply qT|apply qC|apply qN|apply qS|apply qB|apply qI|apply qA|apply qL
  cases hb9 : (nuC 8 s (nuC 8 s (wrC s c0).2).2).2.2 with
  | true =>
   refine qY rfl ?_
   rw [if_pos rfl]
   unfold bxC
   rw [hb9]
   rfl
  | false =>
   rw [hb9, if_neg (by simp)] at hB
   have hB := hB _ rfl
   refine qX rfl ?_
   rw [if_neg (by simp)]
   generalize hn : ({ n with qs := q, qo := (wrC s c0).1, qf := ((nuC 8 s (wrC s c0).2).1 : Nat), qt := ((nuC 8 s (nuC 8 s (wrC s c0).2).2).1 : Nat) } : Nd) = n1 at hB ⊢
   refine qO (v := .bool (nodeOk n1)) (bs := []) (by subst hn; exact x10r k (by omega) _ hB) ?_
   repeat with_reducible first|apply qT|apply qC|apply qN|apply qS|apply qB|apply qI|apply qA|apply qL
   unfold outR bxC
   rw [hb9]
   simp only
   cases hok : nodeOk n1 with
   | false =>
    rw [if_neg (by simp)]
    rfl
   | true =>
    refine qX rfl ?_
    refine qO (v := .str (nodeB n1)) (bs := []) (by subst hn; exact x12r k (by omega) _ hok hB) ?_
    repeat with_reducible first|apply qT|apply qC|apply qN|apply qS|apply qB|apply qI|apply qA|apply qL
    by_cases hbs : nodeB n1 = s
    ·refine qX (by rw [hbs]; simp) ?_
     rw [if_pos ⟨rfl, hbs⟩]
     subst hn
     rfl
    ·refine qY (by simpa using hbs) ?_
     rw [if_neg (by simp [hbs])]
theorem sets63 (k : Nat) (hk : 70800 ≤ k) (s : List UInt8) (hs : s.length ≤ 1000000000) (m n : Nd) (xs : List AV) (hx : xs = n.ss.map shV) (i : Int) (b1 : Bool) (c0 : Cu) (hc0 : c0.1 ≤ s.length) (c2 : Nat) (hc : c2 ≤ 65535) (L : List Shot) (R : Cu) (hL : shC c2 s c0 = (L, R)) (hB : ∀ n', endC s { n with qs := L } R = some n' → NdB n') (st : St) (hst : st.clean (zDe 63 1) = tmS m n (gtV 46 3 xs) (.sl 0 true []) s (c0.1 : Nat) c0.2 c2 i b1 (0 : Nat)) : loopA (zBy (W k) 63 1 k) (zDe 63 1) (zCt (W k) 63 1 k 1) k st = some (outR s (endC s { n with qs := L } R), bxC s (endF s R)) := by
 refine loopA_ind (fun a : Cu × List Shot => tmS m n (gtV 46 3 xs) (gtV 84 3 (a.2.map shV)) s (a.1.1 : Nat) a.1.2 c2 i b1 a.2.length) (fun a => c2 - a.2.length) (fun a r => a.1.1 ≤ s.length → a.2.length ≤ c2 → a.2 ++ (shC (c2 - a.2.length) s a.1).1 = L → (shC (c2 - a.2.length) s a.1).2 = R → r = some (outR s (endC s { n with qs := L } R), bxC s (endF s R))) (fun a m' ih hv h0 g1 g2 => ?_) k (c0, []) st (by simp; omega) hst hc0 (by simp) (by simp [hL]) (by simp [hL])
 obtain ⟨v, acc⟩ := a
 simp only at ih hv h0 g1 g2 ⊢
 have hgo : ∀ (st : St), acc.length < c2 → v.2 = false → st.clean (zDe 63 1) = tmS m n (gtV 46 3 xs) (gtV 84 3 (acc.map shV ++ [shV (s1C s v).1])) s ((s1C s v).2.1 : Nat) (s1C s v).2.2 c2 i b1 ((acc.length + 1 : Nat) : Int) → loopA (zBy (W k) 63 1 k) (zDe 63 1) (zCt (W k) 63 1 k 1) m' st = some (outR s (endC s { n with qs := L } R), bxC s (endF s R)) := by
  intro st hlt hbad hst
  obtain ⟨d, hd⟩ : ∃ d, c2 - acc.length = d + 1 := ⟨c2 - acc.length - 1, by omega⟩
  have hd2 : c2 - (acc.length + 1) = d := by omega
  rw [hd, shC, if_neg (by rw [hbad]; simp)] at g1 g2
  refine ih ((s1C s v).2, acc ++ [(s1C s v).1]) st (by simp; omega) (by rw [List.map_append, List.length_append]; exact hst) s1C_le (by simp; omega) ?_ ?_
  ·simp only [List.length_append, List.length_cons, List.length_nil, Nat.zero_add, hd2, List.append_assoc, List.singleton_append]
   exact g1
  ·simp only [List.length_append, List.length_cons, List.length_nil, Nat.zero_add, hd2]
   exact g2
 have hend : acc.length < c2 → v.2 = true → acc = L ∧ v = R := by
  intro hlt hbad
  obtain ⟨d, hd⟩ : ∃ d, c2 - acc.length = d + 1 := ⟨c2 - acc.length - 1, by omega⟩
  rw [hd, shC, if_pos hbad] at g1 g2
  exact ⟨by simpa using g1, g2⟩
 have hfin : ¬ acc.length < c2 → acc = L ∧ v = R := by
  intro hlt
  rw [show c2 - acc.length = 0 by omega, shC] at g1 g2
  exact ⟨by simpa using g1, g2⟩
 have hw := wi (n := acc.length) (by omega)
 obtain ⟨p, b⟩ := v
 simp only at hv
 cases xs with
 | nil =>
  cases acc with
  | nil =>
   rw [List.map_nil, gtV, gtV, c63aa]
   by_cases hlt : ([] : List Shot).length < c2
   ·refine qY (decide_eq_true (by exact_mod_cast hlt)) ?_
    cases b with
    | true =>
     obtain ⟨rfl, rfl⟩ := hend hlt rfl
     refine qX rfl ?_
     exact tail63 k hk s hs n _ _ hv _ _ (by rw [← hx]; rfl) rfl hB
    | false =>
     refine qY rfl ?_
     refine qO (x60 k (by omega) s hs (p, false) hv 8 (by omega) (by omega)) ?_
     repeat with_reducible first|apply qT|apply qC|apply qN|apply qS|apply qB|apply qI|apply qA|apply qL
     refine qO (x60 k (by omega) s hs _ (nuC_le hv) 8 (by omega) (by omega)) ?_
     repeat with_reducible first|apply qT|apply qC|apply qN|apply qS|apply qB|apply qI|apply qA|apply qL
     refine qO (x102 k (by omega) s hs _ (nuC_le (nuC_le hv))) ?_
     repeat with_reducible first|apply qT|apply qC|apply qN|apply qS|apply qB|apply qI|apply qA|apply qL
     rw [hw]
     exact hgo _ hlt rfl (by kernel_rfl)
   ·obtain ⟨rfl, rfl⟩ := hfin hlt
    refine qX (decide_eq_false (by exact_mod_cast hlt)) ?_
    exact tail63 k hk s hs n _ _ hv _ _ (by rw [← hx]; rfl) rfl hB
  | cons y z =>
   rw [List.map_cons, gtV, gtV, c63ab]
   by_cases hlt : (y :: z).length < c2
   ·refine qY (decide_eq_true (by exact_mod_cast hlt)) ?_
    cases b with
    | true =>
     obtain ⟨rfl, rfl⟩ := hend hlt rfl
     refine qX rfl ?_
     exact tail63 k hk s hs n _ _ hv _ _ (by rw [← hx]; rfl) rfl hB
    | false =>
     refine qY rfl ?_
     refine qO (x60 k (by omega) s hs (p, false) hv 8 (by omega) (by omega)) ?_
     repeat with_reducible first|apply qT|apply qC|apply qN|apply qS|apply qB|apply qI|apply qA|apply qL
     refine qO (x60 k (by omega) s hs _ (nuC_le hv) 8 (by omega) (by omega)) ?_
     repeat with_reducible first|apply qT|apply qC|apply qN|apply qS|apply qB|apply qI|apply qA|apply qL
     refine qO (x102 k (by omega) s hs _ (nuC_le (nuC_le hv))) ?_
     repeat with_reducible first|apply qT|apply qC|apply qN|apply qS|apply qB|apply qI|apply qA|apply qL
     have hlt2 := hlt
     simp only [List.length_cons] at hlt2
     refine qY (decide_eq_true (by refine ⟨by first | rfl | exact .inr rfl, fitsB_small ?_, ?_⟩ <;> simp only [ofBytes, List.length_map, List.length_append, List.length_cons, List.length_nil] <;> omega)) ?_
     rw [hw]
     exact hgo _ hlt rfl (by kernel_rfl)
   ·obtain ⟨rfl, rfl⟩ := hfin hlt
    refine qX (decide_eq_false (by exact_mod_cast hlt)) ?_
    exact tail63 k hk s hs n _ _ hv _ _ (by rw [← hx]; rfl) rfl hB
 | cons x0 xr =>
  cases acc with
  | nil =>
   rw [List.map_nil, gtV, gtV, c63ba]
   by_cases hlt : ([] : List Shot).length < c2
   ·refine qY (decide_eq_true (by exact_mod_cast hlt)) ?_
    cases b with
    | true =>
     obtain ⟨rfl, rfl⟩ := hend hlt rfl
     refine qX rfl ?_
     exact tail63 k hk s hs n _ _ hv _ _ (by rw [← hx]; rfl) rfl hB
    | false =>
     refine qY rfl ?_
     refine qO (x60 k (by omega) s hs (p, false) hv 8 (by omega) (by omega)) ?_
     repeat with_reducible first|apply qT|apply qC|apply qN|apply qS|apply qB|apply qI|apply qA|apply qL
     refine qO (x60 k (by omega) s hs _ (nuC_le hv) 8 (by omega) (by omega)) ?_
     repeat with_reducible first|apply qT|apply qC|apply qN|apply qS|apply qB|apply qI|apply qA|apply qL
     refine qO (x102 k (by omega) s hs _ (nuC_le (nuC_le hv))) ?_
     repeat with_reducible first|apply qT|apply qC|apply qN|apply qS|apply qB|apply qI|apply qA|apply qL
     rw [hw]
     exact hgo _ hlt rfl (by kernel_rfl)
   ·obtain ⟨rfl, rfl⟩ := hfin hlt
    refine qX (decide_eq_false (by exact_mod_cast hlt)) ?_
    exact tail63 k hk s hs n _ _ hv _ _ (by rw [← hx]; rfl) rfl hB
  | cons y z =>
   rw [List.map_cons, gtV, gtV, c63bb]
   by_cases hlt : (y :: z).length < c2
   ·refine qY (decide_eq_true (by exact_mod_cast hlt)) ?_
    cases b with
    | true =>
     obtain ⟨rfl, rfl⟩ := hend hlt rfl
     refine qX rfl ?_
     exact tail63 k hk s hs n _ _ hv _ _ (by rw [← hx]; rfl) rfl hB
    | false =>
     refine qY rfl ?_
     refine qO (x60 k (by omega) s hs (p, false) hv 8 (by omega) (by omega)) ?_
     repeat with_reducible first|apply qT|apply qC|apply qN|apply qS|apply qB|apply qI|apply qA|apply qL
     refine qO (x60 k (by omega) s hs _ (nuC_le hv) 8 (by omega) (by omega)) ?_
     repeat with_reducible first|apply qT|apply qC|apply qN|apply qS|apply qB|apply qI|apply qA|apply qL
     refine qO (x102 k (by omega) s hs _ (nuC_le (nuC_le hv))) ?_
     repeat with_reducible first|apply qT|apply qC|apply qN|apply qS|apply qB|apply qI|apply qA|apply qL
     have hlt2 := hlt
     simp only [List.length_cons] at hlt2
     refine qY (decide_eq_true (by refine ⟨by first | rfl | exact .inr rfl, fitsB_small ?_, ?_⟩ <;> simp only [ofBytes, List.length_map, List.length_append, List.length_cons, List.length_nil] <;> omega)) ?_
     rw [hw]
     exact hgo _ hlt rfl (by kernel_rfl)
   ·obtain ⟨rfl, rfl⟩ := hfin hlt
    refine qX (decide_eq_false (by exact_mod_cast hlt)) ?_
    exact tail63 k hk s hs n _ _ hv _ _ (by rw [← hx]; rfl) rfl hB
def midC (s : List UInt8) (n : Nd) (c : Cu) : Option Nd := if c.2 then none else bindC (wrC s c) fun cp c4 => bindC (nuC 2 s c4) fun a c5 => bindC (shC a s c5) fun qs c6 => endC s { n with cp := cp, qs := qs } c6
def midF (s : List UInt8) (c : Cu) : Cu := if c.2 then c else endF s (shC (nuC 2 s (wrC s c).2).1 s (nuC 2 s (wrC s c).2).2).2
theorem num2_lt (w : Nat) (s : List UInt8) : numN w s < 256 ^ w := by
 unfold numN
 split
 ·rename_i h0
  unfold numE at h0
  split at h0
  ·omega
  ·rename_i h1
   have := unbe_lt (s.take w) 0
   rw [List.length_take, Nat.min_eq_left (by omega)] at this
   omega
 ·exact Nat.pow_pos (by omega)
theorem nuC2_lt (s : List UInt8) (c : Cu) : (nuC 2 s c).1 ≤ 65535 := by
 have := num2_lt 2 (s.drop c.1)
 unfold nuC
 split
 ·simp
 ·simp only
  omega
theorem nuC1_lt (s : List UInt8) (c : Cu) : (nuC 1 s c).1 ≤ 255 := by
 have := num2_lt 1 (s.drop c.1)
 unfold nuC
 split
 ·simp
 ·simp only
  omega
theorem shots63 (k : Nat) (hk : 70800 ≤ k) (s : List UInt8) (hs : s.length ≤ 1000000000) (m n : Nd) (c0 : Cu) (hc0 : c0.1 ≤ s.length) (c : Nat) (hc : c ≤ 65535) (L : List Shot) (R : Cu) (hL : shC c s c0 = (L, R)) (hB : ∀ n', midC s { n with ss := L } R = some n' → NdB n') (st : St) (hst : st.clean (zDe 63 0) = tlS m n (.sl 0 true []) (.sl 0 true []) s (c0.1 : Nat) c0.2 c (0 : Nat)) : loopA (zBy (W k) 63 0 k) (zDe 63 0) (zCt (W k) 63 0 k 1) k st = some (outR s (midC s { n with ss := L } R), bxC s (midF s R)) := by
 have hRl : R.1 ≤ s.length := by
  have := shC_le c s c0 hc0
  rwa [hL] at this
 refine loopA_ind (fun a : Cu × List Shot => tlS m n (gtV 46 3 (a.2.map shV)) (.sl 0 true []) s (a.1.1 : Nat) a.1.2 c a.2.length) (fun a => c - a.2.length) (fun a r => a.1.1 ≤ s.length → a.2.length ≤ c → a.2 ++ (shC (c - a.2.length) s a.1).1 = L → (shC (c - a.2.length) s a.1).2 = R → r = some (outR s (midC s { n with ss := L } R), bxC s (midF s R))) (fun a m' ih hv h0 g1 g2 => ?_) k (c0, []) st (by simp; omega) hst hc0 (by simp) (by simp [hL]) (by simp [hL])
 obtain ⟨v, acc⟩ := a
 simp only at ih hv h0 g1 g2 ⊢
 have hgo : ∀ (st : St), acc.length < c → v.2 = false → st.clean (zDe 63 0) = tlS m n (gtV 46 3 (acc.map shV ++ [shV (s1C s v).1])) (.sl 0 true []) s ((s1C s v).2.1 : Nat) (s1C s v).2.2 c ((acc.length + 1 : Nat) : Int) → loopA (zBy (W k) 63 0 k) (zDe 63 0) (zCt (W k) 63 0 k 1) m' st = some (outR s (midC s { n with ss := L } R), bxC s (midF s R)) := by
  intro st hlt hbad hst
  obtain ⟨d, hd⟩ : ∃ d, c - acc.length = d + 1 := ⟨c - acc.length - 1, by omega⟩
  have hd2 : c - (acc.length + 1) = d := by omega
  rw [hd, shC, if_neg (by rw [hbad]; simp)] at g1 g2
  refine ih ((s1C s v).2, acc ++ [(s1C s v).1]) st (by simp; omega) (by rw [List.map_append, List.length_append]; exact hst) s1C_le (by simp; omega) ?_ ?_
  ·simp only [List.length_append, List.length_cons, List.length_nil, Nat.zero_add, hd2, List.append_assoc, List.singleton_append]
   exact g1
  ·simp only [List.length_append, List.length_cons, List.length_nil, Nat.zero_add, hd2]
   exact g2
 have hend : acc.length < c → v.2 = true → acc = L ∧ v = R := by
  intro hlt hbad
  obtain ⟨d, hd⟩ : ∃ d, c - acc.length = d + 1 := ⟨c - acc.length - 1, by omega⟩
  rw [hd, shC, if_pos hbad] at g1 g2
  exact ⟨by simpa using g1, g2⟩
 have hfin : ¬ acc.length < c → acc = L ∧ v = R := by
  intro hlt
  rw [show c - acc.length = 0 by omega, shC] at g1 g2
  exact ⟨by simpa using g1, g2⟩
 have hw := wi (n := acc.length) (by omega)
 obtain ⟨p, b⟩ := v
 simp only at hv
 cases acc with
 | nil =>
  rw [List.map_nil, gtV, b63a]
  by_cases hlt : ([] : List Shot).length < c
  ·refine qY (decide_eq_true (by exact_mod_cast hlt)) ?_
   cases b with
   | true =>
    obtain ⟨rfl, rfl⟩ := hend hlt rfl
    refine qX rfl ?_
    refine qY rfl ?_
    rfl
   | false =>
    refine qY rfl ?_
    refine qO (x60 k (by omega) s hs (p, false) hv 8 (by omega) (by omega)) ?_
    repeat with_reducible first|apply qT|apply qC|apply qN|apply qS|apply qB|apply qI|apply qA|apply qL
    refine qO (x60 k (by omega) s hs _ (nuC_le hv) 8 (by omega) (by omega)) ?_
    repeat with_reducible first|apply qT|apply qC|apply qN|apply qS|apply qB|apply qI|apply qA|apply qL
    refine qO (x102 k (by omega) s hs _ (nuC_le (nuC_le hv))) ?_
    repeat with_reducible first|apply qT|apply qC|apply qN|apply qS|apply qB|apply qI|apply qA|apply qL
    rw [hw]
    exact hgo _ hlt rfl (by kernel_rfl)
  ·obtain ⟨rfl, rfl⟩ := hfin hlt
   refine qX (decide_eq_false (by exact_mod_cast hlt)) ?_
   cases b with
   | true =>
    refine qY rfl ?_
    rfl
   | false =>
    refine qX rfl ?_
    have em : midC s { n with ss := [] } (p, false) = endC s { n with ss := [], cp := (wrC s (p, false)).1, qs := (shC (nuC 2 s (wrC s (p, false)).2).1 s (nuC 2 s (wrC s (p, false)).2).2).1 } (shC (nuC 2 s (wrC s (p, false)).2).1 s (nuC 2 s (wrC s (p, false)).2).2).2 := rfl
    have ef : midF s (p, false) = endF s (shC (nuC 2 s (wrC s (p, false)).2).1 s (nuC 2 s (wrC s (p, false)).2).2).2 := rfl
    rw [em] at hB ⊢
    rw [ef]
    refine qO (x102 k (by omega) s hs (p, false) hv) ?_
    repeat with_reducible first|apply qT|apply qC|apply qN|apply qS|apply qB|apply qI|apply qA|apply qL
    refine qO (x60 k (by omega) s hs _ wrC_le 2 (by omega) (by omega)) ?_
    repeat with_reducible first|apply qT|apply qC|apply qN|apply qS|apply qB|apply qI|apply qA|apply qL
    exact sets63 k hk s hs m { n with ss := [], cp := (wrC s (p, false)).1 } _ rfl ((([] : List Shot).length : Nat) : Int) false (nuC 2 s (wrC s (p, false)).2).2 (nuC_le wrC_le) (nuC 2 s (wrC s (p, false)).2).1 (nuC2_lt _ _) _ _ (Prod.eta _).symm hB _ (by kernel_rfl)
 | cons y z =>
  rw [List.map_cons, gtV, b63]
  by_cases hlt : (y :: z).length < c
  ·refine qY (decide_eq_true (by exact_mod_cast hlt)) ?_
   cases b with
   | true =>
    obtain ⟨rfl, rfl⟩ := hend hlt rfl
    refine qX rfl ?_
    refine qY rfl ?_
    rfl
   | false =>
    refine qY rfl ?_
    refine qO (x60 k (by omega) s hs (p, false) hv 8 (by omega) (by omega)) ?_
    repeat with_reducible first|apply qT|apply qC|apply qN|apply qS|apply qB|apply qI|apply qA|apply qL
    refine qO (x60 k (by omega) s hs _ (nuC_le hv) 8 (by omega) (by omega)) ?_
    repeat with_reducible first|apply qT|apply qC|apply qN|apply qS|apply qB|apply qI|apply qA|apply qL
    refine qO (x102 k (by omega) s hs _ (nuC_le (nuC_le hv))) ?_
    repeat with_reducible first|apply qT|apply qC|apply qN|apply qS|apply qB|apply qI|apply qA|apply qL
    have hlt2 := hlt
    simp only [List.length_cons] at hlt2
    refine qY (decide_eq_true (by refine ⟨by first | rfl | exact .inr rfl, fitsB_small ?_, ?_⟩ <;> simp only [ofBytes, List.length_map, List.length_append, List.length_cons, List.length_nil] <;> omega)) ?_
    rw [hw]
    exact hgo _ hlt rfl (by kernel_rfl)
  ·obtain ⟨rfl, rfl⟩ := hfin hlt
   refine qX (decide_eq_false (by exact_mod_cast hlt)) ?_
   cases b with
   | true =>
    refine qY rfl ?_
    rfl
   | false =>
    refine qX rfl ?_
    have em : midC s { n with ss := (y :: z) } (p, false) = endC s { n with ss := (y :: z), cp := (wrC s (p, false)).1, qs := (shC (nuC 2 s (wrC s (p, false)).2).1 s (nuC 2 s (wrC s (p, false)).2).2).1 } (shC (nuC 2 s (wrC s (p, false)).2).1 s (nuC 2 s (wrC s (p, false)).2).2).2 := rfl
    have ef : midF s (p, false) = endF s (shC (nuC 2 s (wrC s (p, false)).2).1 s (nuC 2 s (wrC s (p, false)).2).2).2 := rfl
    rw [em] at hB ⊢
    rw [ef]
    refine qO (x102 k (by omega) s hs (p, false) hv) ?_
    repeat with_reducible first|apply qT|apply qC|apply qN|apply qS|apply qB|apply qI|apply qA|apply qL
    refine qO (x60 k (by omega) s hs _ wrC_le 2 (by omega) (by omega)) ?_
    repeat with_reducible first|apply qT|apply qC|apply qN|apply qS|apply qB|apply qI|apply qA|apply qL
    exact sets63 k hk s hs m { n with ss := (y :: z), cp := (wrC s (p, false)).1 } _ rfl ((((y :: z) : List Shot).length : Nat) : Int) false (nuC 2 s (wrC s (p, false)).2).2 (nuC_le wrC_le) (nuC 2 s (wrC s (p, false)).2).1 (nuC2_lt _ _) _ _ (Prod.eta _).symm hB _ (by kernel_rfl)
theorem t14 (F : Fns) (N : Nat) (s : List UInt8) : runOf F 14 N [.str s] [] =
 zRe (F 60 [AV.ptr 0 0 0, AV.int .i64 1] [[AV.str s, AV.int .i64 0, AV.bool false]]) fun v bs => zIn .i64 v fun n => zB3 bs fun s_1 n_1 b => (zRe (F 60 [AV.ptr 0 0 0, AV.int .i64 1] [[AV.str s_1, AV.int .i64 n_1, AV.bool b]]) fun v bs => zIn .i64 v fun n_2 => zB3 bs fun s_2 n_3 b => (zRe (F 60 [AV.ptr 0 0 0, AV.int .i64 1] [[AV.str s_2, AV.int .i64 n_3, AV.bool b]]) fun v bs => zIn .i64 v fun n_4 => zB3 bs fun s_3 n_5 b => (zRe (F 60 [AV.ptr 0 0 0, AV.int .i64 1] [[AV.str s_3, AV.int .i64 n_5, AV.bool b]]) fun v bs => zIn .i64 v fun n_6 => zB3 bs fun s_4 n_7 b => (zRe (F 60 [AV.ptr 0 0 0, AV.int .i64 1] [[AV.str s_4, AV.int .i64 n_7, AV.bool b]]) fun v bs => zIn .i64 v fun n_8 => zB3 bs fun s_5 n_9 b => (zRe (F 60 [AV.ptr 0 0 0, AV.int .i64 1] [[AV.str s_5, AV.int .i64 n_9, AV.bool b]]) fun v bs => zIn .i64 v fun n_10 => zB3 bs fun s_6 n_11 b => (zRe (F 60 [AV.ptr 0 0 0, AV.int .i64 8] [[AV.str s_6, AV.int .i64 n_11, AV.bool b]]) fun v bs => zIn .i64 v fun n_12 => zB3 bs fun s_7 n_13 b => (zRe (F 60 [AV.ptr 0 0 0, AV.int .i64 8] [[AV.str s_7, AV.int .i64 n_13, AV.bool b]]) fun v bs => zIn .i64 v fun n_14 => zB3 bs fun s_8 n_15 b => (zRe (F 60 [AV.ptr 0 0 0, AV.int .i64 8] [[AV.str s_8, AV.int .i64 n_15, AV.bool b]]) fun v bs => zIn .i64 v fun n_16 => zB3 bs fun s_9 n_17 b => (zRe (F 60 [AV.ptr 0 0 0, AV.int .i64 8] [[AV.str s_9, AV.int .i64 n_17, AV.bool b]]) fun v bs => zIn .i64 v fun n_18 => zB3 bs fun s_10 n_19 b => (zRe (F 60 [AV.ptr 0 0 0, AV.int .i64 8] [[AV.str s_10, AV.int .i64 n_19, AV.bool b]]) fun v bs => zIn .i64 v fun n_20 => zB3 bs fun s_11 n_21 b => (zRe (F 60 [AV.ptr 0 0 0, AV.int .i64 8] [[AV.str s_11, AV.int .i64 n_21, AV.bool b]]) fun v bs => zIn .i64 v fun n_22 => zB3 bs fun s_12 n_23 b => (zRe (F 60 [AV.ptr 0 0 0, AV.int .i64 8] [[AV.str s_12, AV.int .i64 n_23, AV.bool b]]) fun v bs => zIn .i64 v fun n_24 => zB3 bs fun s_13 n_25 b => (zRe (F 60 [AV.ptr 0 0 0, AV.int .i64 8] [[AV.str s_13, AV.int .i64 n_25, AV.bool b]]) fun v bs => zIn .i64 v fun n_26 => zB3 bs fun s_14 n_27 b => (zRe (F 61 [AV.ptr 0 0 0] [[AV.str s_14, AV.int .i64 n_27, AV.bool b]]) fun v bs => asSl v fun m fl xs => zB3 bs fun s_15 n_28 b => (zRe (F 61 [AV.ptr 0 0 0] [[AV.str s_15, AV.int .i64 n_28, AV.bool b]]) fun v bs => asSl v fun m_1 fl_1 xs_1 => zB3 bs fun s_16 n_29 b => (zRe (F 60 [AV.ptr 0 0 0, AV.int .i64 8] [[AV.str s_16, AV.int .i64 n_29, AV.bool b]]) fun v bs => zIn .i64 v fun n_30 => zB3 bs fun s_17 n_31 b => (bif b then some (AV.tup [AV.agg zdL, AV.bool false], []) else bif decide (0 ≤ n_31 ∧ n_31 ≤ (s.length : Int) ∧ (s.length : Int) ≤ (s.length : Int)) then zRe (F 62 [AV.str (List.drop (Int.toNat n_31) (List.take (Int.toNat (s.length : Int)) s))] []) fun v bs => zTC v fun v r => asSl v fun m_2 fl_2 xs_2 => zCo r fun v r => zSt v fun s_18 => zCo r fun v r => zIn .i64 v fun n_32 => zNi r (zNi bs (bif n_32 != 0 then some (AV.tup [AV.agg zdL, AV.bool false], []) else zRe (F 60 [AV.ptr 0 0 0, AV.int .i64 1] [[AV.str s_17, AV.int .i64 (IntKind.wrap .i64 ((s.length : Int) - (s_18.length : Int))), AV.bool b]]) fun v bs => zIn .i64 v fun n_33 => zB3 bs fun s_19 n_34 b_1 => (loopA (zBy F 14 0 N) (zDe 14 0) (zCt F 14 0 N 0) N { nt := 162, t := [(0, AV.str s), (2, AV.ptr 2 0 0), (3, AV.bool false), (4, AV.ptr 17 0 0), (5, AV.ptr 5 0 0), (6, AV.sl m_2 fl_2 xs_2), (7, AV.str s_18), (8, AV.int .i64 n_32), (9, AV.int .i64 n_33), (10, AV.int .i64 0), (79, AV.bool b), (93, AV.bool (n_32 != 0))], b := [(2, zdL), (5, [AV.int .i64 n, AV.bool (n_2 == 1), AV.bool (n_4 == 1), AV.int .i64 n_12, AV.sl m fl xs, AV.int .i64 n_14, AV.sl 0 true [], AV.bool (n_6 == 1), AV.sl 0 true [], AV.sl m_1 fl_1 xs_1, AV.int .i64 n_30, AV.sl m_2 fl_2 xs_2, AV.sl 0 true [], AV.int .i64 n_16, AV.int .i64 n_10, AV.int .i64 n_18, AV.bool (n_8 == 1), AV.sl 0 true [], AV.int .i64 (IntKind.wrap .i64 (n_20 - 1)), AV.sl 0 true [], AV.sl 0 true [], AV.int .i64 0, AV.int .i64 0, AV.int .i64 n_22, AV.int .i64 n_24, AV.int .i64 n_26]), (17, [AV.str s_19, AV.int .i64 n_34, AV.bool b_1])], r := [], g := [], rd := [], wr := [] }))) else none))))))))))))))))) := by kernel_rfl
def voL (n : Nd) (v : AV) : List AV := [.int .i64 n.ro, .bool n.st, .bool n.va, .int .i64 n.kn, lnV n.ln, .int .i64 n.sq, v, .bool n.sh, .sl 0 true [], lnV n.al, .int .i64 n.aq, btsV n.ch, .sl 0 true [], .int .i64 n.sn, .int .i64 n.md, .int .i64 n.sy, .bool n.fu, .sl 0 true [], .int .i64 n.go, .sl 0 true [], .sl 0 true [], .int .i64 0, .int .i64 0, .int .i64 n.fr, .int .i64 n.fn, .int .i64 n.nx]
def v4S (s t0 : List UInt8) (l0 : List (Int × Int)) (n : Nd) (v : AV) (p : Int) (b : Bool) (c i : Int) : St := ⟨162, [(0, .str s), (2, .ptr 2 0 0), (3, .bool false), (4, .ptr 17 0 0), (5, .ptr 5 0 0), (6, btsV l0), (7, .str t0), (8, .int .i64 0), (9, .int .i64 c), (10, .int .i64 i), (79, .bool false), (93, .bool false)], [(2, zdL), (5, voL n v), (17, [.str s, .int .i64 p, .bool b])], [], [], [], []⟩
theorem b14a (F : Fns) (N : Nat) (s t0 : List UInt8) (l0 : List (Int × Int)) (n : Nd) (p : Int) (b : Bool) (c i : Int) (KN : St → Res) : zBy F 14 0 N (v4S s t0 l0 n (.sl 0 true []) p b c i) (brk (zCt F 14 0 N 0) KN) =
 bif decide (i < c) then bif !b then zRe (F 60 [AV.ptr 0 0 0, AV.int .i64 1] [[AV.str s, AV.int .i64 p, AV.bool b]]) fun v bs => zIn .i64 v fun n_1 => zB3 bs fun s_1 n_2 b_1 => (bif b_1 then zRe (F 63 [AV.ptr 0 0 0, AV.agg (ndG n (AV.sl 0 true []) (AV.sl 0 true []) (AV.sl 0 true []) (AV.sl 0 true []) (AV.sl 0 true []) (AV.sl 0 true []) (AV.int .i64 0) (AV.int .i64 0))] [[AV.str s_1, AV.int .i64 n_2, AV.bool b_1]]) fun v bs => zTC v fun v r => zNd v fun n b b_2 n_3 m fl xs n_4 m_1 fl_1 xs_1 b_3 m_2 fl_2 xs_2 m_3 fl_3 xs_3 n_5 m_4 fl_4 xs_4 m_5 fl_5 xs_5 n_6 n_7 n_8 b_4 m_6 fl_6 xs_6 n_9 m_7 fl_7 xs_7 m_8 fl_8 xs_8 n_10 n_11 n_12 n_13 n_14 => (zCo r fun v r => zBo v fun b_5 => zNi r (zB3 bs fun s n_15 b_6 => (some (AV.tup [AV.agg [AV.int .i64 n, AV.bool b, AV.bool b_2, AV.int .i64 n_3, AV.sl m fl xs, AV.int .i64 n_4, AV.sl m_1 fl_1 xs_1, AV.bool b_3, AV.sl m_2 fl_2 xs_2, AV.sl m_3 fl_3 xs_3, AV.int .i64 n_5, AV.sl m_4 fl_4 xs_4, AV.sl m_5 fl_5 xs_5, AV.int .i64 n_6, AV.int .i64 n_7, AV.int .i64 n_8, AV.bool b_4, AV.sl m_6 fl_6 xs_6, AV.int .i64 n_9, AV.sl m_7 fl_7 xs_7, AV.sl m_8 fl_8 xs_8, AV.int .i64 n_10, AV.int .i64 n_11, AV.int .i64 n_12, AV.int .i64 n_13, AV.int .i64 n_14], AV.bool b_5], [])))) else bif decide (0 ≤ n_2 ∧ n_2 ≤ (s.length : Int) ∧ (s.length : Int) ≤ (s.length : Int)) then zRe (F 16 [AV.str (List.drop (Int.toNat n_2) (List.take (Int.toNat (s.length : Int)) s))] []) fun v bs => zTC v fun v r => asSl v fun m fl xs => zCo r fun v r => zSt v fun s_2 => zCo r fun v r => zIn .i64 v fun n_3 => zNi r (zNi bs (KN { nt := 162, t := [(0, AV.str s), (2, AV.ptr 2 0 0), (3, AV.bool false), (4, AV.ptr 17 0 0), (5, AV.ptr 5 0 0), (6, btsV l0), (7, AV.str t0), (8, AV.int .i64 0), (9, AV.int .i64 c), (10, AV.int .i64 (IntKind.wrap .i64 (i + 1))), (11, AV.int .i64 n_1), (12, AV.sl m fl xs), (13, AV.str s_2), (14, AV.int .i64 n_3), (79, AV.bool false), (93, AV.bool false), (116, AV.bool !b), (124, AV.bool b_1)], b := [(2, zdL), (5, (ndG n (AV.tip 147 0 2 [AV.agg [AV.int .i64 n_1, AV.sl m fl xs]]) (AV.sl 0 true []) (AV.sl 0 true []) (AV.sl 0 true []) (AV.sl 0 true []) (AV.sl 0 true []) (AV.int .i64 0) (AV.int .i64 0))), (17, [AV.str s_1, AV.int .i64 (IntKind.wrap .i64 ((s.length : Int) - (s_2.length : Int))), AV.bool (n_3 != 0)])], r := [], g := [], rd := [], wr := [] })) else none) else zRe (F 63 [AV.ptr 0 0 0, AV.agg (ndG n (AV.sl 0 true []) (AV.sl 0 true []) (AV.sl 0 true []) (AV.sl 0 true []) (AV.sl 0 true []) (AV.sl 0 true []) (AV.int .i64 0) (AV.int .i64 0))] [[AV.str s, AV.int .i64 p, AV.bool b]]) fun v bs => zTC v fun v r => zNd v fun n b b_1 n_1 m fl xs n_2 m_1 fl_1 xs_1 b_2 m_2 fl_2 xs_2 m_3 fl_3 xs_3 n_3 m_4 fl_4 xs_4 m_5 fl_5 xs_5 n_4 n_5 n_6 b_3 m_6 fl_6 xs_6 n_7 m_7 fl_7 xs_7 m_8 fl_8 xs_8 n_8 n_9 n_10 n_11 n_12 => (zCo r fun v r => zBo v fun b_4 => zNi r (zB3 bs fun s n_13 b_5 => (some (AV.tup [AV.agg [AV.int .i64 n, AV.bool b, AV.bool b_1, AV.int .i64 n_1, AV.sl m fl xs, AV.int .i64 n_2, AV.sl m_1 fl_1 xs_1, AV.bool b_2, AV.sl m_2 fl_2 xs_2, AV.sl m_3 fl_3 xs_3, AV.int .i64 n_3, AV.sl m_4 fl_4 xs_4, AV.sl m_5 fl_5 xs_5, AV.int .i64 n_4, AV.int .i64 n_5, AV.int .i64 n_6, AV.bool b_3, AV.sl m_6 fl_6 xs_6, AV.int .i64 n_7, AV.sl m_7 fl_7 xs_7, AV.sl m_8 fl_8 xs_8, AV.int .i64 n_8, AV.int .i64 n_9, AV.int .i64 n_10, AV.int .i64 n_11, AV.int .i64 n_12], AV.bool b_4], [])))) else zRe (F 63 [AV.ptr 0 0 0, AV.agg (ndG n (AV.sl 0 true []) (AV.sl 0 true []) (AV.sl 0 true []) (AV.sl 0 true []) (AV.sl 0 true []) (AV.sl 0 true []) (AV.int .i64 0) (AV.int .i64 0))] [[AV.str s, AV.int .i64 p, AV.bool b]]) fun v bs => zTC v fun v r => zNd v fun n b b_1 n_1 m fl xs n_2 m_1 fl_1 xs_1 b_2 m_2 fl_2 xs_2 m_3 fl_3 xs_3 n_3 m_4 fl_4 xs_4 m_5 fl_5 xs_5 n_4 n_5 n_6 b_3 m_6 fl_6 xs_6 n_7 m_7 fl_7 xs_7 m_8 fl_8 xs_8 n_8 n_9 n_10 n_11 n_12 => (zCo r fun v r => zBo v fun b_4 => zNi r (zB3 bs fun s n_13 b_5 => (some (AV.tup [AV.agg [AV.int .i64 n, AV.bool b, AV.bool b_1, AV.int .i64 n_1, AV.sl m fl xs, AV.int .i64 n_2, AV.sl m_1 fl_1 xs_1, AV.bool b_2, AV.sl m_2 fl_2 xs_2, AV.sl m_3 fl_3 xs_3, AV.int .i64 n_3, AV.sl m_4 fl_4 xs_4, AV.sl m_5 fl_5 xs_5, AV.int .i64 n_4, AV.int .i64 n_5, AV.int .i64 n_6, AV.bool b_3, AV.sl m_6 fl_6 xs_6, AV.int .i64 n_7, AV.sl m_7 fl_7 xs_7, AV.sl m_8 fl_8 xs_8, AV.int .i64 n_8, AV.int .i64 n_9, AV.int .i64 n_10, AV.int .i64 n_11, AV.int .i64 n_12], AV.bool b_4], [])))) := by kernel_rfl
theorem b14 (F : Fns) (N : Nat) (s t0 : List UInt8) (l0 : List (Int × Int)) (n : Nd) (ys : List AV) (p : Int) (b : Bool) (c i : Int) (KN : St → Res) : zBy F 14 0 N (v4S s t0 l0 n (.tip 147 0 2 ys) p b c i) (brk (zCt F 14 0 N 0) KN) =
 bif decide (i < c) then bif !b then zRe (F 60 [AV.ptr 0 0 0, AV.int .i64 1] [[AV.str s, AV.int .i64 p, AV.bool b]]) fun v bs => zIn .i64 v fun n_1 => zB3 bs fun s_1 n_2 b_1 => (bif b_1 then zRe (F 63 [AV.ptr 0 0 0, AV.agg (ndG n (AV.sl 2 false ys) (AV.sl 0 true []) (AV.sl 0 true []) (AV.sl 0 true []) (AV.sl 0 true []) (AV.sl 0 true []) (AV.int .i64 0) (AV.int .i64 0))] [[AV.str s_1, AV.int .i64 n_2, AV.bool b_1]]) fun v bs => zTC v fun v r => zNd v fun n b b_2 n_3 m fl xs n_4 m_1 fl_1 xs_1 b_3 m_2 fl_2 xs_2 m_3 fl_3 xs_3 n_5 m_4 fl_4 xs_4 m_5 fl_5 xs_5 n_6 n_7 n_8 b_4 m_6 fl_6 xs_6 n_9 m_7 fl_7 xs_7 m_8 fl_8 xs_8 n_10 n_11 n_12 n_13 n_14 => (zCo r fun v r => zBo v fun b_5 => zNi r (zB3 bs fun s n_15 b_6 => (some (AV.tup [AV.agg [AV.int .i64 n, AV.bool b, AV.bool b_2, AV.int .i64 n_3, AV.sl m fl xs, AV.int .i64 n_4, AV.sl m_1 fl_1 xs_1, AV.bool b_3, AV.sl m_2 fl_2 xs_2, AV.sl m_3 fl_3 xs_3, AV.int .i64 n_5, AV.sl m_4 fl_4 xs_4, AV.sl m_5 fl_5 xs_5, AV.int .i64 n_6, AV.int .i64 n_7, AV.int .i64 n_8, AV.bool b_4, AV.sl m_6 fl_6 xs_6, AV.int .i64 n_9, AV.sl m_7 fl_7 xs_7, AV.sl m_8 fl_8 xs_8, AV.int .i64 n_10, AV.int .i64 n_11, AV.int .i64 n_12, AV.int .i64 n_13, AV.int .i64 n_14], AV.bool b_5], [])))) else bif decide (0 ≤ n_2 ∧ n_2 ≤ (s.length : Int) ∧ (s.length : Int) ≤ (s.length : Int)) then zRe (F 16 [AV.str (List.drop (Int.toNat n_2) (List.take (Int.toNat (s.length : Int)) s))] []) fun v bs => zTC v fun v r => asSl v fun m fl xs => zCo r fun v r => zSt v fun s_2 => zCo r fun v r => zIn .i64 v fun n_3 => zNi r (zNi bs (bif decide (2 = 2 ∧ fitsB (List.length ys + List.length [AV.agg [AV.int .i64 n_1, AV.sl m fl xs]]) 32 = true ∧ List.length ys + List.length [AV.agg [AV.int .i64 n_1, AV.sl m fl xs]] ≤ 4611686018427387904) then KN { nt := 162, t := [(0, AV.str s), (2, AV.ptr 2 0 0), (3, AV.bool false), (4, AV.ptr 17 0 0), (5, AV.ptr 5 0 0), (6, btsV l0), (7, AV.str t0), (8, AV.int .i64 0), (9, AV.int .i64 c), (10, AV.int .i64 (IntKind.wrap .i64 (i + 1))), (11, AV.int .i64 n_1), (12, AV.sl m fl xs), (13, AV.str s_2), (14, AV.int .i64 n_3), (79, AV.bool false), (93, AV.bool false), (116, AV.bool !b), (124, AV.bool b_1)], b := [(2, zdL), (5, (ndG n (AV.tip 147 0 2 (ys ++ [AV.agg [AV.int .i64 n_1, AV.sl m fl xs]])) (AV.sl 0 true []) (AV.sl 0 true []) (AV.sl 0 true []) (AV.sl 0 true []) (AV.sl 0 true []) (AV.int .i64 0) (AV.int .i64 0))), (17, [AV.str s_1, AV.int .i64 (IntKind.wrap .i64 ((s.length : Int) - (s_2.length : Int))), AV.bool (n_3 != 0)])], r := [], g := [], rd := [], wr := [] } else none)) else none) else zRe (F 63 [AV.ptr 0 0 0, AV.agg (ndG n (AV.sl 2 false ys) (AV.sl 0 true []) (AV.sl 0 true []) (AV.sl 0 true []) (AV.sl 0 true []) (AV.sl 0 true []) (AV.int .i64 0) (AV.int .i64 0))] [[AV.str s, AV.int .i64 p, AV.bool b]]) fun v bs => zTC v fun v r => zNd v fun n b b_1 n_1 m fl xs n_2 m_1 fl_1 xs_1 b_2 m_2 fl_2 xs_2 m_3 fl_3 xs_3 n_3 m_4 fl_4 xs_4 m_5 fl_5 xs_5 n_4 n_5 n_6 b_3 m_6 fl_6 xs_6 n_7 m_7 fl_7 xs_7 m_8 fl_8 xs_8 n_8 n_9 n_10 n_11 n_12 => (zCo r fun v r => zBo v fun b_4 => zNi r (zB3 bs fun s n_13 b_5 => (some (AV.tup [AV.agg [AV.int .i64 n, AV.bool b, AV.bool b_1, AV.int .i64 n_1, AV.sl m fl xs, AV.int .i64 n_2, AV.sl m_1 fl_1 xs_1, AV.bool b_2, AV.sl m_2 fl_2 xs_2, AV.sl m_3 fl_3 xs_3, AV.int .i64 n_3, AV.sl m_4 fl_4 xs_4, AV.sl m_5 fl_5 xs_5, AV.int .i64 n_4, AV.int .i64 n_5, AV.int .i64 n_6, AV.bool b_3, AV.sl m_6 fl_6 xs_6, AV.int .i64 n_7, AV.sl m_7 fl_7 xs_7, AV.sl m_8 fl_8 xs_8, AV.int .i64 n_8, AV.int .i64 n_9, AV.int .i64 n_10, AV.int .i64 n_11, AV.int .i64 n_12], AV.bool b_4], [])))) else zRe (F 63 [AV.ptr 0 0 0, AV.agg (ndG n (AV.sl 2 false ys) (AV.sl 0 true []) (AV.sl 0 true []) (AV.sl 0 true []) (AV.sl 0 true []) (AV.sl 0 true []) (AV.int .i64 0) (AV.int .i64 0))] [[AV.str s, AV.int .i64 p, AV.bool b]]) fun v bs => zTC v fun v r => zNd v fun n b b_1 n_1 m fl xs n_2 m_1 fl_1 xs_1 b_2 m_2 fl_2 xs_2 m_3 fl_3 xs_3 n_3 m_4 fl_4 xs_4 m_5 fl_5 xs_5 n_4 n_5 n_6 b_3 m_6 fl_6 xs_6 n_7 m_7 fl_7 xs_7 m_8 fl_8 xs_8 n_8 n_9 n_10 n_11 n_12 => (zCo r fun v r => zBo v fun b_4 => zNi r (zB3 bs fun s n_13 b_5 => (some (AV.tup [AV.agg [AV.int .i64 n, AV.bool b, AV.bool b_1, AV.int .i64 n_1, AV.sl m fl xs, AV.int .i64 n_2, AV.sl m_1 fl_1 xs_1, AV.bool b_2, AV.sl m_2 fl_2 xs_2, AV.sl m_3 fl_3 xs_3, AV.int .i64 n_3, AV.sl m_4 fl_4 xs_4, AV.sl m_5 fl_5 xs_5, AV.int .i64 n_4, AV.int .i64 n_5, AV.int .i64 n_6, AV.bool b_3, AV.sl m_6 fl_6 xs_6, AV.int .i64 n_7, AV.sl m_7 fl_7 xs_7, AV.sl m_8 fl_8 xs_8, AV.int .i64 n_8, AV.int .i64 n_9, AV.int .i64 n_10, AV.int .i64 n_11, AV.int .i64 n_12], AV.bool b_4], [])))) := by kernel_rfl
def tlO (s : List UInt8) (n : Nd) (c : Cu) : Option Nd := if c.2 then none else bindC (wrC s c) fun kp c1 => bindC (nuC 1 s c1) fun a c2 => bindC (shC a s c2) fun ss c3 => midC s { n with kp := kp, ss := ss } c3
def outK (s : List UInt8) (o : Option Nd) : AV := match o with
 | none => .tup [.agg (ndL zN), .bool false]
 | some n => if nodeOk n = true ∧ nodeB n = s then .tup [.agg (ndL n), .bool true] else .tup [.agg (ndL zN), .bool false]
theorem canr63 (ro kn sq aq sn md sy go qf qt fr fn nx : Int) (st va sh fu : Bool) (ln al ch : List (Int × Int)) (vs : List Vol) (kp cp qo : List Wr) (ss qs : List Shot) (bs : Boxes) : cRes (ctR ct 63) (some (.tup [.agg [.int .i64 ro, .bool st, .bool va, .int .i64 kn, lnV ln, .int .i64 sq, vsV vs, .bool sh, wsV kp, lnV al, .int .i64 aq, btsV ch, gsV 3 (ss.map shV), .int .i64 sn, .int .i64 md, .int .i64 sy, .bool fu, wsV cp, .int .i64 go, gsV 3 (qs.map shV), wsV qo, .int .i64 qf, .int .i64 qt, .int .i64 fr, .int .i64 fn, .int .i64 nx], .bool true], bs)) = some (.tup [.agg [.int .i64 ro, .bool st, .bool va, .int .i64 kn, lnV ln, .int .i64 sq, vsV vs, .bool sh, wsV kp, lnV al, .int .i64 aq, btsV ch, shsV ss, .int .i64 sn, .int .i64 md, .int .i64 sy, .bool fu, wsV cp, .int .i64 go, shsV qs, wsV qo, .int .i64 qf, .int .i64 qt, .int .i64 fr, .int .i64 fn, .int .i64 nx], .bool true], bs) := by
 cases ss <;> cases qs <;> kernel_rfl
theorem outR_K (s : List UInt8) (o : Option Nd) (bs : Boxes) : cRes (ctR ct 63) (some (outR s o, bs)) = some (outK s o, bs) := by
 unfold outR outK
 cases o with
 | none => exact (by kernel_rfl)
 | some n =>
  simp only
  by_cases h : nodeOk n = true ∧ nodeB n = s
  ·rw [if_pos h, if_pos h]
   exact canr63 ..
  ·rw [if_neg h, if_neg h]
   exact (by kernel_rfl)
theorem outK_ex (s : List UInt8) (o : Option Nd) : ∃ n b, outK s o = .tup [.agg (ndL n), .bool b] := by
 unfold outK
 cases o with
 | none => exact ⟨_, _, rfl⟩
 | some n =>
  simp only
  split
  ·exact ⟨_, _, rfl⟩
  ·exact ⟨_, _, rfl⟩
theorem x63 (k : Nat) (hk : 70900 ≤ k) (s : List UInt8) (hs : s.length ≤ 1000000000) (n : Nd) (c0 : Cu) (hc0 : c0.1 ≤ s.length) (hB : ∀ n', tlO s n c0 = some n' → NdB n') : ∃ c', W k 63 [.ptr 0 0 0, .agg (tlL n (.sl 0 true []) (.sl 0 true []))] (bxC s c0) = some (outK s (tlO s n c0), bxC s c') := by
 obtain ⟨k, rfl⟩ := succ1 (show 1 ≤ k by omega)
 suffices hh : ∃ c', runOf (W k) 63 k [.ptr 0 0 0, .agg (tlL n (.sl 0 true []) (.sl 0 true []))] (bxC s c0) = some (outR s (tlO s n c0), bxC s c') by
  obtain ⟨c', hh⟩ := hh
  exact ⟨c', (W_tree hh (by kernel_rfl)).trans (outR_K ..)⟩
 obtain ⟨p, b⟩ := c0
 simp only at hc0
 cases b with
 | true => exact ⟨(p, true), t63 (W k) k n s p true⟩
 | false =>
  have em : tlO s n (p, false) = midC s { n with kp := (wrC s (p, false)).1, ss := (shC (nuC 1 s (wrC s (p, false)).2).1 s (nuC 1 s (wrC s (p, false)).2).2).1 } (shC (nuC 1 s (wrC s (p, false)).2).1 s (nuC 1 s (wrC s (p, false)).2).2).2 := rfl
  rw [em] at hB ⊢
  refine ⟨midF s (shC (nuC 1 s (wrC s (p, false)).2).1 s (nuC 1 s (wrC s (p, false)).2).2).2, (t63 (W k) k n s p false).trans ?_⟩
  refine qX rfl ?_
  refine qO (x102 k (by omega) s hs (p, false) hc0) ?_
  repeat with_reducible first|apply qT|apply qC|apply qN|apply qS|apply qB|apply qI|apply qA|apply qL
  refine qO (x60 k (by omega) s hs _ wrC_le 1 (by omega) (by omega)) ?_
  repeat with_reducible first|apply qT|apply qC|apply qN|apply qS|apply qB|apply qI|apply qA|apply qL
  have := nuC1_lt s (wrC s (p, false)).2
  exact shots63 k (by omega) s hs n { n with kp := (wrC s (p, false)).1 } (nuC 1 s (wrC s (p, false)).2).2 (nuC_le wrC_le) (nuC 1 s (wrC s (p, false)).2).1 (by omega) _ _ (Prod.eta _).symm hB _ (by kernel_rfl)
def nb (n : Nd) (vs : List Vol) : Nd := { n with vs := vs, kp := [], ss := [], cp := [], qs := [], qo := [], qf := 0, qt := 0 }
theorem cana63 (ro kn sq aq sn md sy go fr fn nx : Int) (st va sh fu : Bool) (ln al ch : AV) (a : List AV) : canVs (ctA ct 63) [.ptr 0 0 0, .agg [.int .i64 ro, .bool st, .bool va, .int .i64 kn, ln, .int .i64 sq, gsV 2 a, .bool sh, .sl 0 true [], al, .int .i64 aq, ch, .sl 0 true [], .int .i64 sn, .int .i64 md, .int .i64 sy, .bool fu, .sl 0 true [], .int .i64 go, .sl 0 true [], .sl 0 true [], .int .i64 0, .int .i64 0, .int .i64 fr, .int .i64 fn, .int .i64 nx]] = canVs (ctA ct 63) [.ptr 0 0 0, .agg [.int .i64 ro, .bool st, .bool va, .int .i64 kn, ln, .int .i64 sq, .sl 2 false a, .bool sh, .sl 3 false [], al, .int .i64 aq, ch, .sl 0 true [], .int .i64 sn, .int .i64 md, .int .i64 sy, .bool fu, .sl 3 false [], .int .i64 go, .sl 0 true [], .sl 3 false [], .int .i64 0, .int .i64 0, .int .i64 fr, .int .i64 fn, .int .i64 nx]] := by
 cases a <;> kernel_rfl
theorem tail14 (k : Nat) (hk : 70900 ≤ k) (s : List UInt8) (hs : s.length ≤ 1000000000) (n : Nd) (vs : List Vol) (c0 : Cu) (hc : c0.1 ≤ s.length) (vv : AV) (h1 : vv = gsV 2 (vs.map (volV false))) (hB : ∀ n', tlO s (nb n vs) c0 = some n' → NdB n') :
 (zRe (W k 63 [AV.ptr 0 0 0, AV.agg (ndG n vv (AV.sl 0 true []) (AV.sl 0 true []) (AV.sl 0 true []) (AV.sl 0 true []) (AV.sl 0 true []) (AV.int .i64 0) (AV.int .i64 0))] [[AV.str s, AV.int .i64 (c0.1 : Nat), AV.bool c0.2]]) fun v bs => zTC v fun v r => zNd v fun n b b_1 n_1 m fl xs n_2 m_1 fl_1 xs_1 b_2 m_2 fl_2 xs_2 m_3 fl_3 xs_3 n_3 m_4 fl_4 xs_4 m_5 fl_5 xs_5 n_4 n_5 n_6 b_3 m_6 fl_6 xs_6 n_7 m_7 fl_7 xs_7 m_8 fl_8 xs_8 n_8 n_9 n_10 n_11 n_12 => (zCo r fun v r => zBo v fun b_4 => zNi r (zB3 bs fun s n_13 b_5 => (some (AV.tup [AV.agg [AV.int .i64 n, AV.bool b, AV.bool b_1, AV.int .i64 n_1, AV.sl m fl xs, AV.int .i64 n_2, AV.sl m_1 fl_1 xs_1, AV.bool b_2, AV.sl m_2 fl_2 xs_2, AV.sl m_3 fl_3 xs_3, AV.int .i64 n_3, AV.sl m_4 fl_4 xs_4, AV.sl m_5 fl_5 xs_5, AV.int .i64 n_4, AV.int .i64 n_5, AV.int .i64 n_6, AV.bool b_3, AV.sl m_6 fl_6 xs_6, AV.int .i64 n_7, AV.sl m_7 fl_7 xs_7, AV.sl m_8 fl_8 xs_8, AV.int .i64 n_8, AV.int .i64 n_9, AV.int .i64 n_10, AV.int .i64 n_11, AV.int .i64 n_12], AV.bool b_4], []))))) = some (outK s (tlO s (nb n vs) c0), []) := by
 subst h1
 obtain ⟨c', h⟩ := x63 k hk s hs (nb n vs) c0 hc hB
 obtain ⟨m, b, hm⟩ := outK_ex s (tlO s (nb n vs) c0)
 rw [hm] at h ⊢
 refine qO (W_arg h (cana63 ..)) ?_
 repeat with_reducible first|apply qT|apply qC|apply qN|apply qS|apply qB|apply qI|apply qA|apply qL
 rfl
def itC (s : List UInt8) (p : Nat) : List (List UInt8) × Cu := match items (s.drop p) with
 | none => ([], (s.length, true))
 | some (l, t) => (l, (s.length - t.length, false))
def voC : Nat → List UInt8 → Cu → List Vol × Cu
 | 0, s, c => ([], c)
 | n + 1, s, c => if c.2 then ([], c) else if (nuC 1 s c).2.2 then ([], (nuC 1 s c).2) else (((((nuC 1 s c).1 : Nat) : Int), (itC s (nuC 1 s c).2.1).1) :: (voC n s (itC s (nuC 1 s c).2.1).2).1, (voC n s (itC s (nuC 1 s c).2.1).2).2)
theorem itC_le {s : List UInt8} {p : Nat} : (itC s p).2.1 ≤ s.length := by
 unfold itC
 split
 ·simp
 ·simp only
  omega
theorem items_le {s : List UInt8} {l : List (List UInt8)} {t : List UInt8} (h : items s = some (l, t)) : t.length ≤ s.length := by
 obtain ⟨_, b, _, e⟩ := items_back h
 have := congrArg List.length e
 simp only [List.length_append] at this
 omega
theorem it16 (k : Nat) (hk : 66000 ≤ k) (s : List UInt8) (hs : s.length ≤ 1000000000) (p : Nat) : ∃ (t : List UInt8) (e : Int), W k 16 [.str (s.drop p)] [] = some (.tup [ssV (itC s p).1, .str t, .int .i64 e], []) ∧ (e != 0) = (itC s p).2.2 ∧ IntKind.wrap .i64 ((s.length : Int) - (t.length : Int)) = ((itC s p).2.1 : Nat) := by
 have h := x16 k hk (s.drop p) (by rw [List.length_drop]; omega)
 unfold itC
 cases hx : items (s.drop p) with
 | none =>
  rw [hx] at h
  refine ⟨[], 2, h, rfl, ?_⟩
  rw [wrap_small (by simp only [List.length_nil]; omega) (by simp only [List.length_nil]; omega)]
  simp
 | some a =>
  obtain ⟨l, t⟩ := a
  rw [hx] at h
  have hl := items_le hx
  rw [List.length_drop] at hl
  refine ⟨t, 0, h, rfl, ?_⟩
  rw [wrap_small (by omega) (by omega)]
  simp only
  omega
theorem vols14 (k : Nat) (hk : 70900 ≤ k) (s : List UInt8) (hs : s.length ≤ 1000000000) (t0 : List UInt8) (l0 : List (Int × Int)) (n : Nd) (c0 : Cu) (hc0 : c0.1 ≤ s.length) (c : Nat) (hc : c ≤ 255) (L : List Vol) (R : Cu) (hL : voC c s c0 = (L, R)) (hB : ∀ n', tlO s (nb n L) R = some n' → NdB n') (st : St) (hst : st.clean (zDe 14 0) = v4S s t0 l0 n (.sl 0 true []) (c0.1 : Nat) c0.2 c (0 : Nat)) : loopA (zBy (W k) 14 0 k) (zDe 14 0) (zCt (W k) 14 0 k 0) k st = some (outK s (tlO s (nb n L) R), []) := by
 refine loopA_ind (fun a : Cu × List Vol => v4S s t0 l0 n (gtV 147 2 (a.2.map (volV false))) (a.1.1 : Nat) a.1.2 c a.2.length) (fun a => c - a.2.length) (fun a r => a.1.1 ≤ s.length → a.2.length ≤ c → a.2 ++ (voC (c - a.2.length) s a.1).1 = L → (voC (c - a.2.length) s a.1).2 = R → r = some (outK s (tlO s (nb n L) R), [])) (fun a m' ih hv h0 g1 g2 => ?_) k (c0, []) st (by simp; omega) hst hc0 (by simp) (by simp [hL]) (by simp [hL])
 obtain ⟨v, acc⟩ := a
 simp only at ih hv h0 g1 g2 ⊢
 have hgo : ∀ (st : St), acc.length < c → v.2 = false → (nuC 1 s v).2.2 = false → st.clean (zDe 14 0) = v4S s t0 l0 n (gtV 147 2 (acc.map (volV false) ++ [volV false (((nuC 1 s v).1 : Nat), (itC s (nuC 1 s v).2.1).1)])) ((itC s (nuC 1 s v).2.1).2.1 : Nat) (itC s (nuC 1 s v).2.1).2.2 c ((acc.length + 1 : Nat) : Int) → loopA (zBy (W k) 14 0 k) (zDe 14 0) (zCt (W k) 14 0 k 0) m' st = some (outK s (tlO s (nb n L) R), []) := by
  intro st hlt hbad hbad2 hst
  obtain ⟨d, hd⟩ : ∃ d, c - acc.length = d + 1 := ⟨c - acc.length - 1, by omega⟩
  have hd2 : c - (acc.length + 1) = d := by omega
  rw [hd, voC, if_neg (by rw [hbad]; simp), if_neg (by rw [hbad2]; simp)] at g1 g2
  refine ih ((itC s (nuC 1 s v).2.1).2, acc ++ [((((nuC 1 s v).1 : Nat) : Int), (itC s (nuC 1 s v).2.1).1)]) st (by simp; omega) (by rw [List.map_append, List.length_append]; exact hst) itC_le (by simp; omega) ?_ ?_
  ·simp only [List.length_append, List.length_cons, List.length_nil, Nat.zero_add, hd2, List.append_assoc, List.singleton_append]
   exact g1
  ·simp only [List.length_append, List.length_cons, List.length_nil, Nat.zero_add, hd2]
   exact g2
 have hend : acc.length < c → v.2 = true → acc = L ∧ v = R := by
  intro hlt hbad
  obtain ⟨d, hd⟩ : ∃ d, c - acc.length = d + 1 := ⟨c - acc.length - 1, by omega⟩
  rw [hd, voC, if_pos hbad] at g1 g2
  exact ⟨by simpa using g1, g2⟩
 have hend2 : acc.length < c → v.2 = false → (nuC 1 s v).2.2 = true → acc = L ∧ (nuC 1 s v).2 = R := by
  intro hlt hbad hbad2
  obtain ⟨d, hd⟩ : ∃ d, c - acc.length = d + 1 := ⟨c - acc.length - 1, by omega⟩
  rw [hd, voC, if_neg (by rw [hbad]; simp), if_pos hbad2] at g1 g2
  exact ⟨by simpa using g1, g2⟩
 have hfin : ¬ acc.length < c → acc = L ∧ v = R := by
  intro hlt
  rw [show c - acc.length = 0 by omega, voC] at g1 g2
  exact ⟨by simpa using g1, g2⟩
 have hw := wi (n := acc.length) (by omega)
 obtain ⟨p, b⟩ := v
 simp only at hv
 cases acc with
 | nil =>
  rw [List.map_nil, gtV, b14a]
  by_cases hlt : ([] : List Vol).length < c
  ·refine qY (decide_eq_true (by exact_mod_cast hlt)) ?_
   cases b with
   | true =>
    obtain ⟨rfl, rfl⟩ := hend hlt rfl
    refine qX rfl ?_
    exact tail14 k hk s hs n _ (p, true) hv _ rfl hB
   | false =>
    refine qY rfl ?_
    refine qO (x60 k (by omega) s hs (p, false) hv 1 (by omega) (by omega)) ?_
    repeat with_reducible first|apply qT|apply qC|apply qN|apply qS|apply qB|apply qI|apply qA|apply qL
    cases hb2 : (nuC 1 s (p, false)).2.2 with
    | true =>
     obtain ⟨rfl, rfl⟩ := hend2 hlt rfl hb2
     refine qY rfl ?_
     have ht := tail14 k hk s hs n ([] : List Vol) (nuC 1 s (p, false)).2 (nuC_le hv) _ rfl hB
     rw [hb2] at ht
     exact ht
    | false =>
     obtain ⟨t1, e1, w1, w2, w3⟩ := it16 k (by omega) s hs (nuC 1 s (p, false)).2.1
     have hle : (nuC 1 s (p, false)).2.1 ≤ s.length := nuC_le hv
     refine qX rfl ?_
     refine qY (decide_eq_true ⟨by omega, by omega, by omega⟩) ?_
     rw [Int.toNat_natCast, Int.toNat_natCast, List.take_length]
     refine qO w1 ?_
     repeat with_reducible first|apply qT|apply qC|apply qN|apply qS|apply qB|apply qI|apply qA|apply qL
     rw [hw, w2, w3]
     exact hgo _ hlt rfl hb2 (by kernel_rfl)
  ·obtain ⟨rfl, rfl⟩ := hfin hlt
   refine qX (decide_eq_false (by exact_mod_cast hlt)) ?_
   exact tail14 k hk s hs n _ (p, b) hv _ rfl hB
 | cons y z =>
  rw [List.map_cons, gtV, b14]
  by_cases hlt : (y :: z).length < c
  ·refine qY (decide_eq_true (by exact_mod_cast hlt)) ?_
   cases b with
   | true =>
    obtain ⟨rfl, rfl⟩ := hend hlt rfl
    refine qX rfl ?_
    exact tail14 k hk s hs n _ (p, true) hv _ rfl hB
   | false =>
    refine qY rfl ?_
    refine qO (x60 k (by omega) s hs (p, false) hv 1 (by omega) (by omega)) ?_
    repeat with_reducible first|apply qT|apply qC|apply qN|apply qS|apply qB|apply qI|apply qA|apply qL
    cases hb2 : (nuC 1 s (p, false)).2.2 with
    | true =>
     obtain ⟨rfl, rfl⟩ := hend2 hlt rfl hb2
     refine qY rfl ?_
     have ht := tail14 k hk s hs n (y :: z) (nuC 1 s (p, false)).2 (nuC_le hv) _ rfl hB
     rw [hb2] at ht
     exact ht
    | false =>
     obtain ⟨t1, e1, w1, w2, w3⟩ := it16 k (by omega) s hs (nuC 1 s (p, false)).2.1
     have hle : (nuC 1 s (p, false)).2.1 ≤ s.length := nuC_le hv
     refine qX rfl ?_
     refine qY (decide_eq_true ⟨by omega, by omega, by omega⟩) ?_
     rw [Int.toNat_natCast, Int.toNat_natCast, List.take_length]
     refine qO w1 ?_
     repeat with_reducible first|apply qT|apply qC|apply qN|apply qS|apply qB|apply qI|apply qA|apply qL
     have hlt2 := hlt
     simp only [List.length_cons] at hlt2
     refine qY (decide_eq_true (by refine ⟨by first | rfl | exact .inr rfl, fitsB_small ?_, ?_⟩ <;> simp only [ofBytes, List.length_map, List.length_append, List.length_cons, List.length_nil] <;> omega)) ?_
     rw [hw, w2, w3]
     exact hgo _ hlt rfl hb2 (by kernel_rfl)
  ·obtain ⟨rfl, rfl⟩ := hfin hlt
   refine qX (decide_eq_false (by exact_mod_cast hlt)) ?_
   exact tail14 k hk s hs n _ (p, b) hv _ rfl hB
def decC (s : List UInt8) : Option Nd :=
 bindC (nuC 1 s (0, false)) fun a1 c1 => bindC (nuC 1 s c1) fun a2 c2 => bindC (nuC 1 s c2) fun a3 c3 => bindC (nuC 1 s c3) fun a4 c4 => bindC (nuC 1 s c4) fun a5 c5 => bindC (nuC 1 s c5) fun a6 c6 =>
 bindC (nuC 8 s c6) fun a7 c7 => bindC (nuC 8 s c7) fun a8 c8 => bindC (nuC 8 s c8) fun a9 c9 => bindC (nuC 8 s c9) fun a10 c10 => bindC (nuC 8 s c10) fun a11 c11 => bindC (nuC 8 s c11) fun a12 c12 => bindC (nuC 8 s c12) fun a13 c13 => bindC (nuC 8 s c13) fun a14 c14 =>
 bindC (liC s c14) fun l15 c15 => bindC (liC s c15) fun l16 c16 => bindC (nuC 8 s c16) fun a17 c17 =>
 if c17.2 then none else match parseB (s.drop c17.1) with
 | none => none
 | some (l18, t18) => bindC (nuC 1 s (s.length - t18.length, false)) fun a c18 => bindC (voC a s c18) fun vs c19 =>
  tlO s (nb { ro := a1, st := ((a2 : Nat) : Int) == 1, va := ((a3 : Nat) : Int) == 1, kn := a7, ln := l15, sq := a8, vs := [], sh := ((a4 : Nat) : Int) == 1, kp := [], al := l16, aq := a17, ch := l18, ss := [], sn := a9, md := a6, sy := a10, fu := ((a5 : Nat) : Int) == 1, cp := [], go := IntKind.wrap .i64 ((a11 : Int) - 1), qs := [], qo := [], qf := 0, qt := 0, fr := a12, fn := a13, nx := a14 } vs) c19
theorem x60e (k : Nat) (hk : 12 ≤ k) (s : List UInt8) (hs : s.length ≤ 1000000000) {w : Nat} {c c' : Cu} {a : Nat} (h : nuC w s c = (a, c')) (hc : c.1 ≤ s.length) (hw1 : 1 ≤ w) (hw : w ≤ 8) : W k 60 [.ptr 0 0 0, .int .i64 w] (bxC s c) = some (.int .i64 (a : Nat), bxC s c') ∧ c'.1 ≤ s.length := by
 have := x60 k hk s hs c hc w hw1 hw
 have h2 := nuC_le (w := w) hc
 rw [h] at this h2
 exact ⟨this, h2⟩
theorem x61e (k : Nat) (hk : 1200 ≤ k) (s : List UInt8) (hs : s.length ≤ 1000000000) {c c' : Cu} {l : List (Int × Int)} (h : liC s c = (l, c')) (hc : c.1 ≤ s.length) : W k 61 [.ptr 0 0 0] (bxC s c) = some (lnV l, bxC s c') ∧ c'.1 ≤ s.length := by
 have := x61 k hk s hs c hc
 have h2 := liC_le (s := s) (c := c)
 rw [h] at this h2
 exact ⟨this, h2⟩
theorem x62n (k : Nat) (hk : 500 ≤ k) (s : List UInt8) (hs : s.length ≤ 1000000000) (h : parseB s = none) : ∃ e : Int, e ≠ 0 ∧ W k 62 [.str s] [] = some (.tup [btsV [], .str [], .int .i64 e], []) := by
 have e := e51 k (by omega) s (by omega)
 rw [h] at e
 obtain ⟨z, hz, e⟩ := e
 exact ⟨z, hz, (W_old e (by omega) (by kernel_rfl)).trans (by kernel_rfl)⟩
theorem x62s (k : Nat) (hk : 500 ≤ k) (s : List UInt8) (hs : s.length ≤ 1000000000) {l : List (Int × Int)} {t : List UInt8} (h : parseB s = some (l, t)) : W k 62 [.str s] [] = some (.tup [btsV l, .str t, .int .i64 0], []) := by
 have e := e51 k (by omega) s (by omega)
 rw [h] at e
 have e : evF pr k 62 [.str s] [] = some (.tup [slT l, .str t, .int .i64 0], []) := e
 refine (W_old e (by omega) (by kernel_rfl)).trans ?_
 cases l <;> exact (by kernel_rfl)
theorem parseB_le {s : List UInt8} {l : List (Int × Int)} {t : List UInt8} (h : parseB s = some (l, t)) : t.length ≤ s.length := by
 have := congrArg List.length (parseB_back h).1
 simp only [List.length_append] at this
 omega
theorem canr14n : cRes (ctR ct 14) (some (.tup [.agg zdL, .bool false], [])) = some (.tup [.agg (ndL zN), .bool false], []) := (by kernel_rfl)
theorem canr14 (n : Nd) (b : Bool) : cRes (ctR ct 14) (some (.tup [.agg (ndL n), .bool b], [])) = some (.tup [.agg (ndL n), .bool b], []) := (by kernel_rfl)
theorem outK_can (s : List UInt8) (o : Option Nd) : cRes (ctR ct 14) (some (outK s o, [])) = some (outK s o, []) := by
 obtain ⟨m, b, hm⟩ := outK_ex s o
 rw [hm]
 exact canr14 m b
theorem x14 (k : Nat) (hk : 71000 ≤ k) (s : List UInt8) (hs : s.length ≤ 1000000000) (hB : ∀ n, decC s = some n → NdB n) : W k 14 [.str s] [] = some (outK s (decC s), []) := by
 obtain ⟨k, rfl⟩ := succ1 (show 1 ≤ k by omega)
 obtain ⟨a1, c1, h1⟩ := pr_ex (nuC 1 s (0, false))
 obtain ⟨a2, c2, h2⟩ := pr_ex (nuC 1 s c1)
 obtain ⟨a3, c3, h3⟩ := pr_ex (nuC 1 s c2)
 obtain ⟨a4, c4, h4⟩ := pr_ex (nuC 1 s c3)
 obtain ⟨a5, c5, h5⟩ := pr_ex (nuC 1 s c4)
 obtain ⟨a6, c6, h6⟩ := pr_ex (nuC 1 s c5)
 obtain ⟨a7, c7, h7⟩ := pr_ex (nuC 8 s c6)
 obtain ⟨a8, c8, h8⟩ := pr_ex (nuC 8 s c7)
 obtain ⟨a9, c9, h9⟩ := pr_ex (nuC 8 s c8)
 obtain ⟨a10, c10, h10⟩ := pr_ex (nuC 8 s c9)
 obtain ⟨a11, c11, h11⟩ := pr_ex (nuC 8 s c10)
 obtain ⟨a12, c12, h12⟩ := pr_ex (nuC 8 s c11)
 obtain ⟨a13, c13, h13⟩ := pr_ex (nuC 8 s c12)
 obtain ⟨a14, c14, h14⟩ := pr_ex (nuC 8 s c13)
 obtain ⟨l15, c15, h15⟩ := pr_ex (liC s c14)
 obtain ⟨l16, c16, h16⟩ := pr_ex (liC s c15)
 obtain ⟨a17, c17, h17⟩ := pr_ex (nuC 8 s c16)
 unfold decC at hB ⊢
 rw [bindC_eq h1, bindC_eq h2, bindC_eq h3, bindC_eq h4, bindC_eq h5, bindC_eq h6, bindC_eq h7, bindC_eq h8, bindC_eq h9, bindC_eq h10, bindC_eq h11, bindC_eq h12, bindC_eq h13, bindC_eq h14, bindC_eq h15, bindC_eq h16, bindC_eq h17] at hB ⊢
 generalize hO : (if c17.2 then none else match parseB (s.drop c17.1) with
  | none => none
  | some (l18, t18) => bindC (nuC 1 s (s.length - t18.length, false)) fun a c18 => bindC (voC a s c18) fun vs c19 => tlO s (nb { ro := a1, st := ((a2 : Nat) : Int) == 1, va := ((a3 : Nat) : Int) == 1, kn := a7, ln := l15, sq := a8, vs := [], sh := ((a4 : Nat) : Int) == 1, kp := [], al := l16, aq := a17, ch := l18, ss := [], sn := a9, md := a6, sy := a10, fu := ((a5 : Nat) : Int) == 1, cp := [], go := IntKind.wrap .i64 ((a11 : Int) - 1), qs := [], qo := [], qf := 0, qt := 0, fr := a12, fn := a13, nx := a14 } vs) c19 : Option Nd) = O at hB ⊢
 obtain ⟨y1, q1⟩ := x60e k (by omega) s hs h1 (by simp) (by omega) (by omega)
 obtain ⟨y2, q2⟩ := x60e k (by omega) s hs h2 q1 (by omega) (by omega)
 obtain ⟨y3, q3⟩ := x60e k (by omega) s hs h3 q2 (by omega) (by omega)
 obtain ⟨y4, q4⟩ := x60e k (by omega) s hs h4 q3 (by omega) (by omega)
 obtain ⟨y5, q5⟩ := x60e k (by omega) s hs h5 q4 (by omega) (by omega)
 obtain ⟨y6, q6⟩ := x60e k (by omega) s hs h6 q5 (by omega) (by omega)
 obtain ⟨y7, q7⟩ := x60e k (by omega) s hs h7 q6 (by omega) (by omega)
 obtain ⟨y8, q8⟩ := x60e k (by omega) s hs h8 q7 (by omega) (by omega)
 obtain ⟨y9, q9⟩ := x60e k (by omega) s hs h9 q8 (by omega) (by omega)
 obtain ⟨y10, q10⟩ := x60e k (by omega) s hs h10 q9 (by omega) (by omega)
 obtain ⟨y11, q11⟩ := x60e k (by omega) s hs h11 q10 (by omega) (by omega)
 obtain ⟨y12, q12⟩ := x60e k (by omega) s hs h12 q11 (by omega) (by omega)
 obtain ⟨y13, q13⟩ := x60e k (by omega) s hs h13 q12 (by omega) (by omega)
 obtain ⟨y14, q14⟩ := x60e k (by omega) s hs h14 q13 (by omega) (by omega)
 obtain ⟨y15, q15⟩ := x61e k (by omega) s hs h15 q14
 obtain ⟨y16, q16⟩ := x61e k (by omega) s hs h16 q15
 obtain ⟨y17, q17⟩ := x60e k (by omega) s hs h17 q16 (by omega) (by omega)
 have key : ∀ X, runOf (W k) 14 k [.str s] [] = some (X, []) → cRes (ctR ct 14) (some (X, [])) = some (outK s O, []) → W (k + 1) 14 [.str s] [] = some (outK s O, []) := fun X h1 h2 => (W_tree h1 (by kernel_rfl)).trans h2
 cases hb : c17.2 with
 | true =>
  rw [hb, if_pos rfl] at hO
  subst hO
  refine key (.tup [.agg zdL, .bool false]) ?_ canr14n
  rw [t14]
  refine qO y1 ?_
  repeat with_reducible first|apply qT|apply qC|apply qN|apply qS|apply qB|apply qI|apply qA|apply qL
  refine qO y2 ?_
  repeat with_reducible first|apply qT|apply qC|apply qN|apply qS|apply qB|apply qI|apply qA|apply qL
  refine qO y3 ?_
  repeat with_reducible first|apply qT|apply qC|apply qN|apply qS|apply qB|apply qI|apply qA|apply qL
  refine qO y4 ?_
  repeat with_reducible first|apply qT|apply qC|apply qN|apply qS|apply qB|apply qI|apply qA|apply qL
  refine qO y5 ?_
  repeat with_reducible first|apply qT|apply qC|apply qN|apply qS|apply qB|apply qI|apply qA|apply qL
  refine qO y6 ?_
  repeat with_reducible first|apply qT|apply qC|apply qN|apply qS|apply qB|apply qI|apply qA|apply qL
  refine qO y7 ?_
  repeat with_reducible first|apply qT|apply qC|apply qN|apply qS|apply qB|apply qI|apply qA|apply qL
  refine qO y8 ?_
  repeat with_reducible first|apply qT|apply qC|apply qN|apply qS|apply qB|apply qI|apply qA|apply qL
  refine qO y9 ?_
  repeat with_reducible first|apply qT|apply qC|apply qN|apply qS|apply qB|apply qI|apply qA|apply qL
  refine qO y10 ?_
  repeat with_reducible first|apply qT|apply qC|apply qN|apply qS|apply qB|apply qI|apply qA|apply qL
  refine qO y11 ?_
  repeat with_reducible first|apply qT|apply qC|apply qN|apply qS|apply qB|apply qI|apply qA|apply qL
  refine qO y12 ?_
  repeat with_reducible first|apply qT|apply qC|apply qN|apply qS|apply qB|apply qI|apply qA|apply qL
  refine qO y13 ?_
  repeat with_reducible first|apply qT|apply qC|apply qN|apply qS|apply qB|apply qI|apply qA|apply qL
  refine qO y14 ?_
  repeat with_reducible first|apply qT|apply qC|apply qN|apply qS|apply qB|apply qI|apply qA|apply qL
  refine qO y15 ?_
  repeat with_reducible first|apply qT|apply qC|apply qN|apply qS|apply qB|apply qI|apply qA|apply qL
  refine qO y16 ?_
  repeat with_reducible first|apply qT|apply qC|apply qN|apply qS|apply qB|apply qI|apply qA|apply qL
  refine qO y17 ?_
  repeat with_reducible first|apply qT|apply qC|apply qN|apply qS|apply qB|apply qI|apply qA|apply qL
  exact qY hb rfl
 | false =>
  rw [hb, if_neg (by simp)] at hO
  cases hx : parseB (s.drop c17.1) with
  | none =>
   rw [hx] at hO
   subst hO
   obtain ⟨z, hz, y18⟩ := x62n k (by omega) (s.drop c17.1) (by rw [List.length_drop]; omega) hx
   refine key (.tup [.agg zdL, .bool false]) ?_ canr14n
   rw [t14]
   refine qO y1 ?_
   repeat with_reducible first|apply qT|apply qC|apply qN|apply qS|apply qB|apply qI|apply qA|apply qL
   refine qO y2 ?_
   repeat with_reducible first|apply qT|apply qC|apply qN|apply qS|apply qB|apply qI|apply qA|apply qL
   refine qO y3 ?_
   repeat with_reducible first|apply qT|apply qC|apply qN|apply qS|apply qB|apply qI|apply qA|apply qL
   refine qO y4 ?_
   repeat with_reducible first|apply qT|apply qC|apply qN|apply qS|apply qB|apply qI|apply qA|apply qL
   refine qO y5 ?_
   repeat with_reducible first|apply qT|apply qC|apply qN|apply qS|apply qB|apply qI|apply qA|apply qL
   refine qO y6 ?_
   repeat with_reducible first|apply qT|apply qC|apply qN|apply qS|apply qB|apply qI|apply qA|apply qL
   refine qO y7 ?_
   repeat with_reducible first|apply qT|apply qC|apply qN|apply qS|apply qB|apply qI|apply qA|apply qL
   refine qO y8 ?_
   repeat with_reducible first|apply qT|apply qC|apply qN|apply qS|apply qB|apply qI|apply qA|apply qL
   refine qO y9 ?_
   repeat with_reducible first|apply qT|apply qC|apply qN|apply qS|apply qB|apply qI|apply qA|apply qL
   refine qO y10 ?_
   repeat with_reducible first|apply qT|apply qC|apply qN|apply qS|apply qB|apply qI|apply qA|apply qL
   refine qO y11 ?_
   repeat with_reducible first|apply qT|apply qC|apply qN|apply qS|apply qB|apply qI|apply qA|apply qL
   refine qO y12 ?_
   repeat with_reducible first|apply qT|apply qC|apply qN|apply qS|apply qB|apply qI|apply qA|apply qL
   refine qO y13 ?_
   repeat with_reducible first|apply qT|apply qC|apply qN|apply qS|apply qB|apply qI|apply qA|apply qL
   refine qO y14 ?_
   repeat with_reducible first|apply qT|apply qC|apply qN|apply qS|apply qB|apply qI|apply qA|apply qL
   refine qO y15 ?_
   repeat with_reducible first|apply qT|apply qC|apply qN|apply qS|apply qB|apply qI|apply qA|apply qL
   refine qO y16 ?_
   repeat with_reducible first|apply qT|apply qC|apply qN|apply qS|apply qB|apply qI|apply qA|apply qL
   refine qO y17 ?_
   repeat with_reducible first|apply qT|apply qC|apply qN|apply qS|apply qB|apply qI|apply qA|apply qL
   refine qX hb ?_
   refine qY (decide_eq_true ⟨by omega, by omega, by omega⟩) ?_
   rw [Int.toNat_natCast, Int.toNat_natCast, List.take_length]
   refine qO y18 ?_
   repeat with_reducible first|apply qT|apply qC|apply qN|apply qS|apply qB|apply qI|apply qA|apply qL
   exact qY (by simpa using hz) rfl
  | some a =>
   obtain ⟨l18, t18⟩ := a
   rw [hx] at hO
   simp only at hO
   have hl := parseB_le hx
   rw [List.length_drop] at hl
   have y18 := x62s k (by omega) (s.drop c17.1) (by rw [List.length_drop]; omega) hx
   obtain ⟨a19, c19, h19⟩ := pr_ex (nuC 1 s (s.length - t18.length, false))
   obtain ⟨vs, c20, h20⟩ := pr_ex (voC a19 s c19)
   rw [bindC_eq h19, bindC_eq h20] at hO
   subst hO
   obtain ⟨y19, q19⟩ := x60e k (by omega) s hs h19 (by simp only; omega) (by omega) (by omega)
   have hc := nuC1_lt s (s.length - t18.length, false)
   rw [h19] at hc
   refine key _ ?_ (outK_can s _)
   rw [t14]
   refine qO y1 ?_
   repeat with_reducible first|apply qT|apply qC|apply qN|apply qS|apply qB|apply qI|apply qA|apply qL
   refine qO y2 ?_
   repeat with_reducible first|apply qT|apply qC|apply qN|apply qS|apply qB|apply qI|apply qA|apply qL
   refine qO y3 ?_
   repeat with_reducible first|apply qT|apply qC|apply qN|apply qS|apply qB|apply qI|apply qA|apply qL
   refine qO y4 ?_
   repeat with_reducible first|apply qT|apply qC|apply qN|apply qS|apply qB|apply qI|apply qA|apply qL
   refine qO y5 ?_
   repeat with_reducible first|apply qT|apply qC|apply qN|apply qS|apply qB|apply qI|apply qA|apply qL
   refine qO y6 ?_
   repeat with_reducible first|apply qT|apply qC|apply qN|apply qS|apply qB|apply qI|apply qA|apply qL
   refine qO y7 ?_
   repeat with_reducible first|apply qT|apply qC|apply qN|apply qS|apply qB|apply qI|apply qA|apply qL
   refine qO y8 ?_
   repeat with_reducible first|apply qT|apply qC|apply qN|apply qS|apply qB|apply qI|apply qA|apply qL
   refine qO y9 ?_
   repeat with_reducible first|apply qT|apply qC|apply qN|apply qS|apply qB|apply qI|apply qA|apply qL
   refine qO y10 ?_
   repeat with_reducible first|apply qT|apply qC|apply qN|apply qS|apply qB|apply qI|apply qA|apply qL
   refine qO y11 ?_
   repeat with_reducible first|apply qT|apply qC|apply qN|apply qS|apply qB|apply qI|apply qA|apply qL
   refine qO y12 ?_
   repeat with_reducible first|apply qT|apply qC|apply qN|apply qS|apply qB|apply qI|apply qA|apply qL
   refine qO y13 ?_
   repeat with_reducible first|apply qT|apply qC|apply qN|apply qS|apply qB|apply qI|apply qA|apply qL
   refine qO y14 ?_
   repeat with_reducible first|apply qT|apply qC|apply qN|apply qS|apply qB|apply qI|apply qA|apply qL
   refine qO y15 ?_
   repeat with_reducible first|apply qT|apply qC|apply qN|apply qS|apply qB|apply qI|apply qA|apply qL
   refine qO y16 ?_
   repeat with_reducible first|apply qT|apply qC|apply qN|apply qS|apply qB|apply qI|apply qA|apply qL
   refine qO y17 ?_
   repeat with_reducible first|apply qT|apply qC|apply qN|apply qS|apply qB|apply qI|apply qA|apply qL
   refine qX hb ?_
   refine qY (decide_eq_true ⟨by omega, by omega, by omega⟩) ?_
   rw [Int.toNat_natCast, Int.toNat_natCast, List.take_length]
   refine qO y18 ?_
   repeat with_reducible first|apply qT|apply qC|apply qN|apply qS|apply qB|apply qI|apply qA|apply qL
   refine qX rfl ?_
   rw [hb, wrap_small (n := (s.length : Int) - (t18.length : Int)) (by omega) (by omega), show (s.length : Int) - (t18.length : Int) = ((s.length - t18.length : Nat) : Int) by omega]
   refine qO y19 ?_
   repeat with_reducible first|apply qT|apply qC|apply qN|apply qS|apply qB|apply qI|apply qA|apply qL
   exact vols14 k (by omega) s hs t18 l18 { ro := a1, st := ((a2 : Nat) : Int) == 1, va := ((a3 : Nat) : Int) == 1, kn := a7, ln := l15, sq := a8, vs := [], sh := ((a4 : Nat) : Int) == 1, kp := [], al := l16, aq := a17, ch := l18, ss := [], sn := a9, md := a6, sy := a10, fu := ((a5 : Nat) : Int) == 1, cp := [], go := IntKind.wrap .i64 ((a11 : Int) - 1), qs := [], qo := [], qf := 0, qt := 0, fr := a12, fn := a13, nx := a14 } c19 q19 a19 hc vs c20 h20 hB _ (by kernel_rfl)
theorem b9 (F : Fns) (N : Nat) (n : Nd) (s p q : List UInt8) (i : Int) (KN : St → Res) : zBy F 9 0 N (enS n s p q i) (brk (zCt F 9 0 N 0) KN) =
 bif decide (i < ((List.length (List.map shV (Nd.ss n)) : Nat) : Int)) then bif decide (0 ≤ i) then zOp (List.map shV (Nd.ss n))[Int.toNat i]? fun x => zAg x fun cs => zCo cs fun v r => zIn .i64 v fun n_1 => zCo r fun v r => zIn .i64 v fun n_2 => zCo r fun v r => asSl v fun m fl xs => zNi r (zRe (F 26 [AV.sl 1 true [AV.int .i64 n_1, AV.int .i64 n_2]] []) fun v bs => zSt v fun s_1 => zNi bs (zRe (F 29 [AV.sl m fl xs] []) fun v bs => zSt v fun s_2 => zNi bs (bif decide (List.length s_1 + List.length s_2 ≤ 4611686018427387904) then bif decide (List.length s + List.length (s_1 ++ s_2) ≤ 4611686018427387904) then KN { nt := 172, t := [(0, AV.agg (ndL n)), (1, AV.ptr 1 0 0), (2, AV.str []), (3, AV.int .i64 0), (4, AV.str p), (5, AV.int .i64 0), (6, AV.str q), (8, AV.str (s ++ (s_1 ++ s_2))), (10, AV.ptr 10 0 0), (16, AV.bool false), (26, AV.bool false), (108, shsV (Nd.ss n)), (109, AV.int .i64 ((List.length (List.map shV (Nd.ss n)) : Nat) : Int)), (110, AV.int .i64 (IntKind.wrap .i64 (i + 1))), (111, AV.bool (decide (i < ((List.length (List.map shV (Nd.ss n)) : Nat) : Int))))], b := [(1, (ndL n)), (10, [AV.int .i64 n_1, AV.int .i64 n_2, AV.sl m fl xs])], r := [], g := [], rd := [], wr := [] } else none else none))) else none else zRe (F 29 [wsV (Nd.cp n)] []) fun v bs => zSt v fun s_1 => zNi bs (bif decide (List.length s + List.length s_1 ≤ 4611686018427387904) then bif decide (List.length (s ++ s_1) + List.length p ≤ 4611686018427387904) then bif decide (List.length (s ++ s_1 ++ p) ≤ 4611686018427387904) then loopA (zBy F 9 1 N) (zDe 9 1) (zCt F 9 1 N 0) N { nt := 172, t := [(0, AV.agg (ndL n)), (1, AV.ptr 1 0 0), (2, AV.str []), (3, AV.int .i64 0), (4, AV.str p), (5, AV.int .i64 0), (6, AV.str q), (8, AV.str s), (11, AV.tip 134 0 1 (ofBytes (s ++ s_1 ++ p))), (16, AV.bool false), (26, AV.bool false), (108, shsV (Nd.ss n)), (109, AV.int .i64 ((List.length (List.map shV (Nd.ss n)) : Nat) : Int)), (110, AV.int .i64 i), (111, AV.bool (decide (i < ((List.length (List.map shV (Nd.ss n)) : Nat) : Int)))), (137, shsV (Nd.qs n)), (138, AV.int .i64 ((List.length (List.map shV (Nd.qs n)) : Nat) : Int)), (139, AV.int .i64 0)], b := [(1, (ndL n))], r := [], g := [], rd := [], wr := [] } else none else none else none) := by kernel_rfl
def enT (n : Nd) (s p q t : List UInt8) (i j : Int) (b : Bool) : St := ⟨172, [(0, .agg (ndL n)), (1, .ptr 1 0 0), (2, .str []), (3, .int .i64 0), (4, .str p), (5, .int .i64 0), (6, .str q), (8, .str s), (11, .tip 134 0 1 (ofBytes t)), (16, .bool false), (26, .bool false), (108, shsV n.ss), (109, .int .i64 ((List.length (List.map shV n.ss) : Nat) : Int)), (110, .int .i64 i), (111, .bool b), (137, shsV n.qs), (138, .int .i64 ((List.length (List.map shV n.qs) : Nat) : Int)), (139, .int .i64 j)], [(1, ndL n)], [], [], [], []⟩
theorem c9 (F : Fns) (N : Nat) (n : Nd) (s p q t : List UInt8) (i j : Int) (b : Bool) (KN : St → Res) : zBy F 9 1 N (enT n s p q t i j b) (brk (zCt F 9 1 N 0) KN) =
 bif decide (j < ((List.length (List.map shV (Nd.qs n)) : Nat) : Int)) then bif decide (0 ≤ j) then zOp (List.map shV (Nd.qs n))[Int.toNat j]? fun x => zAg x fun cs => zCo cs fun v r => zIn .i64 v fun n_1 => zCo r fun v r => zIn .i64 v fun n_2 => zCo r fun v r => asSl v fun m fl xs => zNi r (zRe (F 26 [AV.sl 1 true [AV.int .i64 n_1, AV.int .i64 n_2]] []) fun v bs => zSt v fun s_1 => zNi bs (bif decide (1 = 1 ∧ fitsB (List.length (ofBytes t) + List.length (ofBytes s_1)) 1 = true ∧ List.length (ofBytes t) + List.length (ofBytes s_1) ≤ 4611686018427387904) then zRe (F 29 [AV.sl m fl xs] []) fun v bs => zSt v fun s_2 => zNi bs (bif decide (1 = 1 ∧ fitsB (List.length (ofBytes t ++ ofBytes s_1) + List.length (ofBytes s_2)) 1 = true ∧ List.length (ofBytes t ++ ofBytes s_1) + List.length (ofBytes s_2) ≤ 4611686018427387904) then KN { nt := 172, t := [(0, AV.agg (ndL n)), (1, AV.ptr 1 0 0), (2, AV.str []), (3, AV.int .i64 0), (4, AV.str p), (5, AV.int .i64 0), (6, AV.str q), (8, AV.str s), (11, AV.tip 134 0 1 (ofBytes t ++ ofBytes s_1 ++ ofBytes s_2)), (13, AV.ptr 13 0 0), (16, AV.bool false), (26, AV.bool false), (108, shsV (Nd.ss n)), (109, AV.int .i64 ((List.length (List.map shV (Nd.ss n)) : Nat) : Int)), (110, AV.int .i64 i), (111, AV.bool b), (137, shsV (Nd.qs n)), (138, AV.int .i64 ((List.length (List.map shV (Nd.qs n)) : Nat) : Int)), (139, AV.int .i64 (IntKind.wrap .i64 (j + 1))), (140, AV.bool (decide (j < ((List.length (List.map shV (Nd.qs n)) : Nat) : Int))))], b := [(1, (ndL n)), (13, [AV.int .i64 n_1, AV.int .i64 n_2, AV.sl m fl xs])], r := [], g := [], rd := [], wr := [] } else none) else none)) else none else zOp (Option.map AV.str (bytesOf (ofBytes t))) fun x => zSt x fun s => zRe (F 29 [wsV (Nd.qo n)] []) fun v bs => zSt v fun s_1 => zNi bs (bif decide (List.length s + List.length s_1 ≤ 4611686018427387904) then zRe (F 26 [AV.sl 1 true [AV.int .i64 (Nd.qf n), AV.int .i64 (Nd.qt n)]] []) fun v bs => zSt v fun s_2 => zNi bs (bif decide (List.length (s ++ s_1) + List.length s_2 ≤ 4611686018427387904) then some (AV.tup [AV.str (s ++ s_1 ++ s_2), AV.int .i64 0], []) else none) else none) := by kernel_rfl
theorem fm2 (p : Int → List UInt8) (a b : Int) : [a, b].flatMap p = p a ++ p b := by simp
theorem getSh (l : List Shot) (i : Nat) (h : i < l.length) : (l.map shV)[Int.toNat (i : Int)]? = some (.agg [.int .i64 l[i].1, .int .i64 l[i].2.1, wsV l[i].2.2]) := getM shV l i h
theorem x26two (k : Nat) (hk : 1100 ≤ k) (a b : Int) (ha : a < 9223372036854775808) (hb : b < 9223372036854775808) : W k 26 [.sl 1 true [.int .i64 a, .int .i64 b]] [] = some (.str (be8 a ++ be8 b), []) := by
 have h := W_arg (x26 k [a, b] hk (by simp; omega) (by simp)) (vs := [AV.sl 1 true [AV.int .i64 a, AV.int .i64 b]]) (by kernel_rfl)
 rw [fm2] at h
 exact h
theorem sets9 (k : Nat) (hk : 70200 ≤ k) (n : Nd) (hr : Rt n) (hb : NdB n) (s p q : List UInt8) (i : Int) (b : Bool) (t0 : List UInt8) (hs : t0.length ≤ 31000000000) (st : St) (hst : st.clean (zDe 9 1) = enT n s p q t0 i (0 : Nat) b) : loopA (zBy (W k) 9 1 k) (zDe 9 1) (zCt (W k) 9 1 k 0) k st = some (.tup [.str (t0 ++ (n.qs.flatMap shB ++ endB n)), .int .i64 0], []) := by
 have hq := hb.qs
 refine loopA_ind (fun a : Nat × List UInt8 => enT n s p q a.2 i a.1 b) (fun a => n.qs.length - a.1) (fun a r => a.1 ≤ n.qs.length → a.2.length ≤ 31000000000 + 3000 * a.1 → r = some (.tup [.str (a.2 ++ ((n.qs.drop a.1).flatMap shB ++ endB n)), .int .i64 0], [])) (fun a m ih h0 h1 => ?_) k (0, t0) st (by simp; omega) hst (by simp) (by simpa using hs)
 obtain ⟨j, t⟩ := a
 simp only at ih h0 h1 ⊢
 rw [c9]
 by_cases hj : j < n.qs.length
 ·obtain ⟨g1, g2, g3⟩ := hr.qk _ (List.getElem_mem hj)
  have e1 := be8_length n.qs[j].1
  have e2 := be8_length n.qs[j].2.1
  have e3 := putW_le g3
  have g4 := hb.qk _ (List.getElem_mem hj)
  refine qY (decide_eq_true (by first | omega | (simp only [List.length_append, List.length_cons, List.length_nil, List.length_map]; omega))) ?_
  refine qY (decide_eq_true (by first | omega | (simp only [List.length_append, List.length_cons, List.length_nil, List.length_map]; omega))) ?_
  refine qP (getSh _ _ hj) ?_
  repeat with_reducible first|apply qT|apply qC|apply qN|apply qS|apply qB|apply qI|apply qA|apply qL
  refine qO (x26two k (by omega) _ _ (by have := g1.2; omega) (by have := g2.2; omega)) ?_
  repeat with_reducible first|apply qT|apply qC|apply qN|apply qS|apply qB|apply qI|apply qA|apply qL
  refine qY (decide_eq_true (by refine ⟨by first | rfl | exact .inr rfl, fitsB_small ?_, ?_⟩ <;> simp only [ofBytes, List.length_map, List.length_append, List.length_cons, List.length_nil] <;> omega)) ?_
  refine qO (x29 k n.qs[j].2.2 (by omega) g4 g3) ?_
  repeat with_reducible first|apply qT|apply qC|apply qN|apply qS|apply qB|apply qI|apply qA|apply qL
  refine qY (decide_eq_true (by refine ⟨by first | rfl | exact .inr rfl, fitsB_small ?_, ?_⟩ <;> simp only [ofBytes, List.length_map, List.length_append, List.length_cons, List.length_nil] <;> omega)) ?_
  rw [ofBytes_append, ofBytes_append, wi (by omega)]
  refine (ih (j + 1, t ++ (be8 n.qs[j].1 ++ be8 n.qs[j].2.1) ++ putW n.qs[j].2.2) _ (by simp; omega) (by kernel_rfl) (by simp; omega) (by simp only [List.length_append]; omega)).trans ?_
  rw [List.drop_eq_getElem_cons hj]
  simp only [List.flatMap_cons, shB, List.append_assoc]
 ·have e1 := be8_length n.qf
  have e2 := be8_length n.qt
  have e3 := putW_le hr.qo
  have f1 := hr.qf.2
  have f2 := hr.qt.2
  refine qX (decide_eq_false (by rw [List.length_map]; omega)) ?_
  refine qP (v := .str t) (by rw [bytesOf_ofBytes]; rfl) ?_
  repeat with_reducible first|apply qT|apply qC|apply qN|apply qS|apply qB|apply qI|apply qA|apply qL
  refine qO (x29 k n.qo (by omega) hb.qo hr.qo) ?_
  repeat with_reducible first|apply qT|apply qC|apply qN|apply qS|apply qB|apply qI|apply qA|apply qL
  refine qY (decide_eq_true (by first | omega | (simp only [List.length_append, List.length_cons, List.length_nil, List.length_map]; omega))) ?_
  refine qO (x26two k (by omega) _ _ (by omega) (by omega)) ?_
  repeat with_reducible first|apply qT|apply qC|apply qN|apply qS|apply qB|apply qI|apply qA|apply qL
  refine qY (decide_eq_true (by first | omega | (simp only [List.length_append, List.length_cons, List.length_nil, List.length_map]; omega))) ?_
  rw [List.drop_eq_nil_of_le (by omega)]
  simp only [List.flatMap_nil, List.nil_append, endB, List.append_assoc]
theorem x9 (k : Nat) (hk : 70700 ≤ k) (n : Nd) (hb : NdB n) (hok : nodeOk n = true) (hq : n.qs.length ≤ 65535) : W k 9 [.agg (ndL n)] [] = some (.tup [.str (nodeB n), .int .i64 0], []) := by
 obtain ⟨k, rfl⟩ := succ1 (show 1 ≤ k by omega)
 refine (W_tree0 (head9 k (by omega) n hb hok hq) (by kernel_rfl)).trans ?_
 have hr := rt_of hok hb.cp
 have hs := hr.ss
 refine loopA_ind (fun a : Nat × List UInt8 => enS n a.2 (be 2 n.qs.length) (putB n.ch) a.1) (fun a => n.ss.length - a.1) (fun a r => a.1 ≤ n.ss.length → a.2.length ≤ 30500000000 + 3000 * a.1 → a.2 ++ (n.ss.drop a.1).flatMap shB = hdB n ++ n.ss.flatMap shB → r = some (.tup [.str (nodeB n), .int .i64 0], [])) (fun a m ih h0 h1 h2 => ?_) k (0, hdB n) _ (by simp; omega) (by kernel_rfl) (by simp) (by simpa using hdB_len hr) rfl
 obtain ⟨i, t⟩ := a
 simp only at ih h0 h1 h2 ⊢
 rw [b9]
 by_cases hi : i < n.ss.length
 ·obtain ⟨g1, g2, g3⟩ := hr.sk _ (List.getElem_mem hi)
  have e1 := be8_length n.ss[i].1
  have e2 := be8_length n.ss[i].2.1
  have e3 := putW_le g3
  have g4 := hb.sk _ (List.getElem_mem hi)
  rw [List.drop_eq_getElem_cons hi] at h2
  refine qY (decide_eq_true (by first | omega | (simp only [List.length_append, List.length_cons, List.length_nil, List.length_map]; omega))) ?_
  refine qY (decide_eq_true (by first | omega | (simp only [List.length_append, List.length_cons, List.length_nil, List.length_map]; omega))) ?_
  refine qP (getSh _ _ hi) ?_
  repeat with_reducible first|apply qT|apply qC|apply qN|apply qS|apply qB|apply qI|apply qA|apply qL
  refine qO (x26two k (by omega) _ _ (by have := g1.2; omega) (by have := g2.2; omega)) ?_
  repeat with_reducible first|apply qT|apply qC|apply qN|apply qS|apply qB|apply qI|apply qA|apply qL
  refine qO (x29 k n.ss[i].2.2 (by omega) g4 g3) ?_
  repeat with_reducible first|apply qT|apply qC|apply qN|apply qS|apply qB|apply qI|apply qA|apply qL
  refine qY (decide_eq_true (by first | omega | (simp only [List.length_append, List.length_cons, List.length_nil, List.length_map]; omega))) ?_
  refine qY (decide_eq_true (by first | omega | (simp only [List.length_append, List.length_cons, List.length_nil, List.length_map]; omega))) ?_
  rw [wi (by omega)]
  refine ih (i + 1, t ++ ((be8 n.ss[i].1 ++ be8 n.ss[i].2.1) ++ putW n.ss[i].2.2)) _ (by simp; omega) (by kernel_rfl) (by simp; omega) (by simp only [List.length_append]; omega) ?_
  rw [← h2]
  simp only [List.flatMap_cons, shB, List.append_assoc]
 ·have e3 := putW_le hr.cp
  rw [List.drop_eq_nil_of_le (by omega), List.flatMap_nil, List.append_nil] at h2
  refine qX (decide_eq_false (by rw [List.length_map]; omega)) ?_
  refine qO (x29 k n.cp (by omega) hb.cp hr.cp) ?_
  repeat with_reducible first|apply qT|apply qC|apply qN|apply qS|apply qB|apply qI|apply qA|apply qL
  have e4 := be2_len n.qs.length
  refine qY (decide_eq_true (by first | omega | (simp only [List.length_append, List.length_cons, List.length_nil, List.length_map]; omega))) ?_
  refine qY (decide_eq_true (by first | omega | (simp only [List.length_append, List.length_cons, List.length_nil, List.length_map]; omega))) ?_
  refine qY (decide_eq_true (by first | omega | (simp only [List.length_append, List.length_cons, List.length_nil, List.length_map]; omega))) ?_
  refine (sets9 k (by omega) n hr hb t (be 2 n.qs.length) (putB n.ch) i (decide ((i : Int) < (((n.ss.map shV).length : Nat) : Int))) (t ++ putW n.cp ++ be 2 n.qs.length) (by simp only [List.length_append, be2_len]; omega) _ (by kernel_rfl)).trans ?_
  rw [h2, nodeB]
  simp only [endB, List.append_assoc]
end Go.AM.YtnhfjkckgicidaaGreat
