/- ref20.Decode: what was written is read; what is read is no bigger than its bytes. Pure, then the walk's word. -/
import Derived.Test.YtnhfjkckgicidaaGreatAmP09
import Derived.Test.YtnhfjkckgicidaaGreatAmP08
import Derived.Test.YtnhfjkckgicidaaGreatChecked
set_option linter.unusedVariables false
set_option linter.unusedSimpArgs false
namespace Go.AM.YtnhfjkckgicidaaGreat
open Go.AM Go.Proofs Go
theorem drop_suf {s u x : List UInt8} {p : Nat} (h : s.drop p = x ++ u) : s.drop (s.length - u.length) = u := by
 obtain ⟨y, rfl⟩ : ∃ y, s = y ++ u := ⟨s.take p ++ x, by rw [List.append_assoc, ← h, List.take_append_drop]⟩
 rw [List.length_append, Nat.add_sub_cancel, List.drop_left]
theorem nuC_back {w : Nat} {s : List UInt8} {c c' : Cu} {n : Nat} (h : nuC w s c = (n, c')) (hb : c'.2 = false) : c.2 = false ∧ s.drop c.1 = be w n ++ s.drop c'.1 ∧ c'.1 = c.1 + w := by
 unfold nuC at h
 split at h
 ·simp only [Prod.mk.injEq] at h
  rw [← h.2] at hb
  simp at hb
 ·rename_i hn
  simp only [not_or, Bool.not_eq_true] at hn
  simp only [Prod.mk.injEq] at h
  obtain ⟨rfl, rfl⟩ := h
  simp only [decide_eq_false_iff_not, ne_eq, Decidable.not_not] at hb
  refine ⟨hn.1, ?_, rfl⟩
  have := num_back (w := w) (s := s.drop c.1) (n := numN w (s.drop c.1)) (t := (s.drop c.1).drop w) (by rw [num, if_pos hb])
  rw [List.drop_drop] at this
  exact this
theorem liC_back {s : List UInt8} {c c' : Cu} {l : List (Int × Int)} (h : liC s c = (l, c')) (hb : c'.2 = false) : c.2 = false ∧ lined l = true := by
 unfold liC at h
 split at h
 ·simp only [Prod.mk.injEq] at h
  rw [← h.2] at hb
  simp at hb
 ·split at h
  ·simp only [Prod.mk.injEq] at h
   rw [← h.2] at hb
   simp at hb
  ·simp only [Prod.mk.injEq] at h
   obtain ⟨rfl, rfl⟩ := h
   simpa using hb
theorem wrC_back {s : List UInt8} {c c' : Cu} {l : List Wr} (h : wrC s c = (l, c')) (hb : c'.2 = false) : c.2 = false ∧ s.drop c.1 = putW l ++ s.drop c'.1 ∧ wOk l = true := by
 unfold wrC at h
 split at h
 ·simp only [Prod.mk.injEq] at h
  rw [← h.2] at hb
  simp at hb
 ·rename_i n t h1
  split at h
  ·simp only [Prod.mk.injEq] at h
   rw [← h.2] at hb
   simp at hb
  ·rename_i l' u h2
   simp only [Prod.mk.injEq] at h
   obtain ⟨rfl, rfl⟩ := h
   simp only [Bool.or_eq_false_iff, Bool.not_eq_false'] at hb
   have hw : takeW (s.drop c.1) = some (l', u) := by
    unfold takeW
    rw [h1]
    simp only
    rw [h2]
    simp only [hb.2, if_true]
   have hk := takeW_back hw
   refine ⟨hb.1, ?_, hb.2⟩
   rw [drop_suf hk]
   exact hk
theorem shC_back : ∀ (n : Nat) (s : List UInt8) (c c' : Cu) (l : List Shot), shC n s c = (l, c') → c'.2 = false → c.2 = false ∧ (∃ x : List UInt8, s.drop c.1 = x ++ s.drop c'.1 ∧ 4 * (l.flatMap fun s => s.2.2).length ≤ x.length) ∧ l.length ≤ n ∧ ∀ s ∈ l, wOk s.2.2 = true
 | 0, s, c, c', l, h, hb => by
  simp only [shC, Prod.mk.injEq] at h
  obtain ⟨rfl, rfl⟩ := h
  exact ⟨hb, ⟨[], rfl, by simp⟩, by simp, by simp⟩
 | n + 1, s, c, c', l, h, hb => by
  rw [shC] at h
  split at h
  ·rename_i h1
   simp only [Prod.mk.injEq] at h
   rw [← h.2, h1] at hb
   simp at hb
  ·rename_i h1
   simp only [Prod.mk.injEq] at h
   obtain ⟨rfl, rfl⟩ := h
   obtain ⟨a1, ⟨x, a2, a3⟩, a4, a5⟩ := shC_back n s _ _ _ (Prod.eta _).symm hb
   unfold s1C at a1 a2
   simp only at a1 a2
   obtain ⟨b1, b2, b3⟩ := wrC_back (Prod.eta _).symm a1
   obtain ⟨d1, d2, -⟩ := nuC_back (Prod.eta _).symm b1
   obtain ⟨e1, e2, -⟩ := nuC_back (Prod.eta _).symm d1
   refine ⟨by simpa using h1, ⟨be 8 (nuC 8 s c).1 ++ (be 8 (nuC 8 s (nuC 8 s c).2).1 ++ (putW (s1C s c).1.2.2 ++ x)), ?_, ?_⟩, by simp only [List.length_cons]; omega, fun t ht => ?_⟩
   ·rw [e2, d2, b2, a2]
    simp only [s1C, List.append_assoc]
   ·have := putW_four (s1C s c).1.2.2
    rw [List.flatMap_cons]
    simp only [List.length_append]
    omega
   ·rcases List.mem_cons.1 ht with rfl | ht
    ·exact b3
    ·exact a5 t ht
theorem voC_len : ∀ (n : Nat) (s : List UInt8) (c : Cu), (voC n s c).1.length ≤ n
 | 0, s, c => by simp [voC]
 | n + 1, s, c => by
  rw [voC]
  split
  ·simp
  ·split
   ·simp
   ·have := voC_len n s (itC s (nuC 1 s c).2.1).2
    simp only [List.length_cons]
    omega
theorem decC_B {s : List UInt8} {n : Nd} (h : decC s = some n) (hs : s.length ≤ 240000) : NdB n ∧ n.qs.length ≤ 65535 := by
 obtain ⟨a1, c1, h1⟩ := pr_ex (nuC 1 s (0, false))
 obtain ⟨a2, c2, h2⟩ := pr_ex (nuC 1 s c1)
 obtain ⟨a3, c3, h3⟩ := pr_ex (nuC 1 s c2)
 obtain ⟨a4, c4, h4⟩ := pr_ex (nuC 1 s c3)
 obtain ⟨a5, c5, h5⟩ := pr_ex (nuC 1 s c4)
 obtain ⟨a6, c6, h6⟩ := pr_ex (nuC 1 s c5)
 obtain ⟨a7, c7, h7⟩ := pr_ex (nuC 8 s c6)
 obtain ⟨a8, c8, h8⟩ := pr_ex (nuC 8 s c7)
 obtain ⟨a9, c9, h9⟩ := pr_ex (nuC 8 s c8)
 obtain ⟨a10, c10, h10⟩ := pr_ex (nuC 8 s c9)
 obtain ⟨a11, c11, h11⟩ := pr_ex (nuC 8 s c10)
 obtain ⟨a12, c12, h12⟩ := pr_ex (nuC 8 s c11)
 obtain ⟨a13, c13, h13⟩ := pr_ex (nuC 8 s c12)
 obtain ⟨a14, c14, h14⟩ := pr_ex (nuC 8 s c13)
 obtain ⟨l15, c15, h15⟩ := pr_ex (liC s c14)
 obtain ⟨l16, c16, h16⟩ := pr_ex (liC s c15)
 obtain ⟨a17, c17, h17⟩ := pr_ex (nuC 8 s c16)
 unfold decC at h
 rw [bindC_eq h1, bindC_eq h2, bindC_eq h3, bindC_eq h4, bindC_eq h5, bindC_eq h6, bindC_eq h7, bindC_eq h8, bindC_eq h9, bindC_eq h10, bindC_eq h11, bindC_eq h12, bindC_eq h13, bindC_eq h14, bindC_eq h15, bindC_eq h16, bindC_eq h17] at h
 split at h
 ·simp at h
 ·rename_i hb17
  split at h
  ·simp at h
  ·rename_i l18 t18 h18
   obtain ⟨a19, c19, h19⟩ := pr_ex (nuC 1 s (s.length - t18.length, false))
   obtain ⟨vs, c20, h20⟩ := pr_ex (voC a19 s c19)
   rw [bindC_eq h19, bindC_eq h20] at h
   unfold tlO at h
   split at h
   ·simp at h
   ·obtain ⟨kp, c21, h21⟩ := pr_ex (wrC s c20)
    obtain ⟨a22, c22, h22⟩ := pr_ex (nuC 1 s c21)
    obtain ⟨ss, c23, h23⟩ := pr_ex (shC a22 s c22)
    rw [bindC_eq h21, bindC_eq h22, bindC_eq h23] at h
    unfold midC at h
    split at h
    ·simp at h
    ·rename_i hb23
     obtain ⟨cp, c24, h24⟩ := pr_ex (wrC s c23)
     obtain ⟨a25, c25, h25⟩ := pr_ex (nuC 2 s c24)
     obtain ⟨qs, c26, h26⟩ := pr_ex (shC a25 s c25)
     rw [bindC_eq h24, bindC_eq h25, bindC_eq h26] at h
     unfold endC at h
     split at h
     ·simp at h
     ·rename_i hb26
      obtain ⟨qo, c27, h27⟩ := pr_ex (wrC s c26)
      obtain ⟨a28, c28, h28⟩ := pr_ex (nuC 8 s c27)
      obtain ⟨a29, c29, h29⟩ := pr_ex (nuC 8 s c28)
      rw [bindC_eq h27, bindC_eq h28, bindC_eq h29] at h
      split at h
      ·simp at h
      ·rename_i hb29
       simp only [Option.some.injEq] at h
       simp only [Bool.not_eq_true] at hb17 hb23 hb26 hb29
       have k29 := nuC_back h29 hb29
       have k28 := nuC_back h28 k29.1
       have k27 := wrC_back h27 k28.1
       have k26 := shC_back _ _ _ _ _ h26 hb26
       have k25 := nuC_back h25 k26.1
       have k24 := wrC_back h24 k25.1
       have k23 := shC_back _ _ _ _ _ h23 hb23
       have k22 := nuC_back h22 k23.1
       have k21 := wrC_back h21 k22.1
       have k17 := nuC_back h17 hb17
       have k16 := liC_back h16 k17.1
       have k15 := liC_back h15 k16.1
       have p18 := parseB_back h18
       have b22 := nuC1_lt s c21
       have b25 := nuC2_lt s c24
       have b19 := nuC1_lt s (s.length - t18.length, false)
       have bv := voC_len a19 s c19
       rw [h22] at b22
       rw [h25] at b25
       rw [h19] at b19
       rw [h20] at bv
       simp only at b22 b25 b19 bv
       have r1 := (lined_parts k15.2).1
       have r2 := (lined_parts k16.2).1
       have r3 := bOk_length p18.2.2
       have r4 := wOk_le k21.2.2
       have r5 := wOk_le k24.2.2
       have r6 := wOk_le k27.2.2
       have r7 := k23.2.2.1
       have r8 := k26.2.2.1
       obtain ⟨x, x1, x2⟩ := k26.2.1
       have x3 : x.length ≤ s.length := by
        have := congrArg List.length x1
        rw [List.length_append, List.length_drop] at this
        omega
       subst h
       refine ⟨⟨?_, ?_, ?_, ?_, ?_, p18.2.1, ?_, fun t ht => ?_, ?_, ?_, fun t ht => ?_, ?_, ?_⟩, ?_⟩
       ·show l15.length ≤ 70000
        omega
       ·show l16.length ≤ 70000
        omega
       ·show vs.length ≤ 300
        omega
       ·show kp.length ≤ 200
        omega
       ·show l18.length ≤ 1000
        omega
       ·show ss.length ≤ 70000
        omega
       ·have := wOk_le (k23.2.2.2 t ht)
        omega
       ·show cp.length ≤ 200
        omega
       ·show qs.length ≤ 70000
        omega
       ·have := wOk_le (k26.2.2.2 t ht)
        omega
       ·show qo.length ≤ 200
        omega
       ·show (qs.flatMap fun s => s.2.2).length ≤ 60000
        omega
       ·show qs.length ≤ 65535
        omega
def Cs (s : List UInt8) (c : Cu) (u : List UInt8) : Prop := c.2 = false ∧ s.drop c.1 = u ∧ c.1 ≤ s.length
theorem stp_some {α : Type} {x : Option (α × List UInt8)} {z v : α} {s t : List UInt8} (h : stp x z (s, false) = (v, (t, false))) : x = some (v, t) := (stp_good h rfl).2
theorem nuC_go {w : Nat} {s u t : List UInt8} {c : Cu} {n : Nat} (g : Cs s c u) (h : nuR w (u, false) = (n, (t, false))) : ∃ c', nuC w s c = (n, c') ∧ Cs s c' t := by
 obtain ⟨g1, g2, g3⟩ := g
 have hx := stp_some h
 simp only at hx
 obtain ⟨e1, e2, e3⟩ := num_at hx
 have hl := (num_suffix hx).2
 have hu : u.length = s.length - c.1 := by rw [← g2, List.length_drop]
 refine ⟨(c.1 + w, false), ?_, rfl, ?_, ?_⟩
 ·unfold nuC
  rw [if_neg (by rw [g1]; simp; omega), g2, e1, e2]
  rfl
 ·rw [e3, ← g2, List.drop_drop]
 ·simp only
  omega
theorem liC_go {s u t : List UInt8} {c : Cu} {l : List (Int × Int)} (g : Cs s c u) (h : liR (u, false) = (l, (t, false))) : ∃ c', liC s c = (l, c') ∧ Cs s c' t := by
 obtain ⟨g1, g2, g3⟩ := g
 have hx := stp_some h
 simp only at hx
 unfold takeL at hx
 split at hx
 ·simp at hx
 ·rename_i n s1 h1
  split at hx
  ·simp at hx
  ·rename_i l' s2 h2
   split at hx
   ·rename_i h3
    simp only [Option.some.injEq, Prod.mk.injEq] at hx
    obtain ⟨rfl, rfl⟩ := hx
    obtain ⟨e1, e2⟩ := num_suffix h1
    obtain ⟨f1, f2, f3, f4⟩ := brs_spec _ _ _ _ h2
    have hu : u.length = s.length - c.1 := by rw [← g2, List.length_drop]
    refine ⟨(c.1 + 1 + 16 * n, false), ?_, rfl, ?_, ?_⟩
    ·unfold liC
     rw [g2, h1]
     simp only
     rw [h2, g1]
     simp only [h3]
     rfl
    ·show List.drop (c.1 + 1 + 16 * n) s = _
     rw [f1, e1, ← g2, List.drop_drop, List.drop_drop, Nat.add_assoc]
    ·rw [e1, List.length_drop] at f3
     simp only
     omega
   ·simp at hx
theorem wrC_go {s u t : List UInt8} {c : Cu} {l : List Wr} (g : Cs s c u) (h : wrR (u, false) = (l, (t, false))) : ∃ c', wrC s c = (l, c') ∧ Cs s c' t := by
 obtain ⟨g1, g2, g3⟩ := g
 have hx := stp_some h
 simp only at hx
 have hk := takeW_back hx
 unfold takeW at hx
 split at hx
 ·simp at hx
 ·rename_i n s1 h1
  split at hx
  ·simp at hx
  ·rename_i l' s2 h2
   split at hx
   ·rename_i h3
    simp only [Option.some.injEq, Prod.mk.injEq] at hx
    obtain ⟨rfl, rfl⟩ := hx
    refine ⟨(s.length - s2.length, false), ?_, rfl, ?_, by simp only; omega⟩
    ·unfold wrC
     rw [g2, h1]
     simp only
     rw [h2, g1]
     simp only [h3]
     rfl
    ·exact drop_suf (g2.trans hk)
   ·simp at hx
theorem s1C_go {s t : List UInt8} {c : Cu} {x : Shot} (g : Cs s c (shB x ++ t)) (h : Sk x) : ∃ c', s1C s c = (x, c') ∧ Cs s c' t := by
 obtain ⟨h1, h2, h3, h4, h5⟩ := h
 rw [shB, List.append_assoc, List.append_assoc] at g
 obtain ⟨c1, e1, g1⟩ := nuC_go g (nu_put8 x.1 _ h1 h2)
 obtain ⟨c2, e2, g2⟩ := nuC_go g1 (nu_put8 x.2.1 _ h3 h4)
 obtain ⟨c3, e3, g3⟩ := wrC_go g2 (wr_put x.2.2 t h5)
 refine ⟨c3, ?_, g3⟩
 unfold s1C
 rw [e1]
 simp only
 rw [e2]
 simp only
 rw [e3, Int.toNat_of_nonneg h1, Int.toNat_of_nonneg h3]
theorem shC_go : ∀ (l : List Shot) (s t : List UInt8) (c : Cu), Cs s c (l.flatMap shB ++ t) → (∀ x ∈ l, Sk x) → ∃ c', shC l.length s c = (l, c') ∧ Cs s c' t
 | [], s, t, c, g, _ => ⟨c, rfl, g⟩
 | x :: r, s, t, c, g, h => by
  rw [List.flatMap_cons, List.append_assoc] at g
  obtain ⟨c1, e1, g1⟩ := s1C_go g (h x (List.mem_cons_self ..))
  obtain ⟨c2, e2, g2⟩ := shC_go r s t c1 g1 fun y hy => h y (List.mem_cons_of_mem _ hy)
  refine ⟨c2, ?_, g2⟩
  rw [List.length_cons, shC, if_neg (by rw [g.1]; simp), e1]
  simp only
  rw [e2]
theorem voC_go : ∀ (l : List Vol) (s t : List UInt8) (c : Cu), Cs s c (l.flatMap vB ++ t) → (∀ x ∈ l, Vk x) → ∃ c', voC l.length s c = (l, c') ∧ Cs s c' t
 | [], s, t, c, g, _ => ⟨c, rfl, g⟩
 | x :: r, s, t, c, g, h => by
  obtain ⟨h1, h2, h3, b, h4⟩ := h x (List.mem_cons_self ..)
  rw [List.flatMap_cons, List.append_assoc, vB_cons x h1, List.cons_append] at g
  obtain ⟨c1, e1, g1⟩ := nuC_go g (nu_put1 x.1 _ ⟨h1, by omega⟩)
  have hi : itC s c1.1 = (x.2, (s.length - (r.flatMap vB ++ t).length, false)) := by
   unfold itC
   rw [g1.2.1, listE_some h3 h4, items_put x.2 b _ h3 h4]
  have gi : Cs s (s.length - (r.flatMap vB ++ t).length, false) (r.flatMap vB ++ t) := by
   refine ⟨rfl, drop_suf g1.2.1, by simp only; omega⟩
  obtain ⟨c2, e2, g2⟩ := voC_go r s t _ gi fun y hy => h y (List.mem_cons_of_mem _ hy)
  refine ⟨c2, ?_, g2⟩
  rw [List.length_cons, voC, if_neg (by rw [g.1]; simp), e1]
  simp only
  rw [if_neg (by rw [g1.1]; simp), hi]
  simp only
  rw [e2, Int.toNat_of_nonneg h1]
theorem fl_nu (b : Bool) (t : List UInt8) : nuR 1 (flB b ++ t, false) = (if b then 1 else 0, (t, false)) := by
 have := nu_put 1 (if b then 1 else 0) t (by split <;> omega) (by split <;> omega)
 rw [be1 _ (by split <;> omega)] at this
 cases b <;> exact this
theorem fl_one (b : Bool) : ((((if b then 1 else 0 : Nat) : Nat) : Int) == 1) = b := by cases b <;> rfl
theorem nd_back (n : Nd) (h1 : 0 ≤ n.ro) (h2 : 0 ≤ n.kn) (h3 : 0 ≤ n.sq) (h4 : 0 ≤ n.aq) (h5 : 0 ≤ n.sn) (h6 : 0 ≤ n.md) (h7 : 0 ≤ n.sy) (h8 : 0 ≤ n.qf) (h9 : 0 ≤ n.qt) (h10 : 0 ≤ n.fr) (h11 : 0 ≤ n.fn) (h12 : 0 ≤ n.nx) : ({ ro := (n.ro.toNat : Int), st := n.st, va := n.va, kn := (n.kn.toNat : Int), ln := n.ln, sq := (n.sq.toNat : Int), vs := n.vs, sh := n.sh, kp := n.kp, al := n.al, aq := (n.aq.toNat : Int), ch := n.ch, ss := n.ss, sn := (n.sn.toNat : Int), md := (n.md.toNat : Int), sy := (n.sy.toNat : Int), fu := n.fu, cp := n.cp, go := n.go, qs := n.qs, qo := n.qo, qf := (n.qf.toNat : Int), qt := (n.qt.toNat : Int), fr := (n.fr.toNat : Int), fn := (n.fn.toNat : Int), nx := (n.nx.toNat : Int) } : Nd) = n := by
 obtain ⟨⟩ := n
 simp only at h1 h2 h3 h4 h5 h6 h7 h8 h9 h10 h11 h12
 simp only [Nd.mk.injEq, true_and, and_true]
 refine ⟨?_, ?_, ?_, ?_, ?_, ?_, ?_, ?_, ?_, ?_, ?_, ?_⟩ <;> omega
theorem fi_lt {z : Int} (h : Fi z) : z < 9223372036854775808 := by have := h.2; omega
theorem not_t {b : Bool} (h : b = false) : ¬ b = true := by rw [h]; simp
theorem decC_put {n : Nd} (hr : Rt n) (hu : UM n.ch) (hq : n.qs.length ≤ 65535) (z1 : n.ss.length ≤ 255) : decC (nodeB n) = some n := by
 have g0 : Cs (nodeB n) (0, false) (nodeB n) := ⟨rfl, rfl, by simp⟩
 generalize hs : nodeB n = s at g0
 conv at g0 => arg 3; rw [← hs]
 have gro := hr.ro
 have gmd := hr.md
 have ggo := hr.go
 obtain ⟨v1, v2⟩ := vOk_k hr.vs
 have b1 : 0 ≤ n.ro ∧ n.ro < 256 := by omega
 have b2 : 0 ≤ n.md ∧ n.md < 256 := by omega
 have b3 : 0 ≤ n.go + 1 ∧ n.go + 1 < 9223372036854775808 := by omega
 have b4 : n.qs.length < 256 ^ 2 ∧ n.qs.length < 9223372036854775808 := by omega
 have b5 : 0 ≤ (n.vs.length : Int) ∧ (n.vs.length : Int) < 256 := by omega
 have b6 : 0 ≤ (n.ss.length : Int) ∧ (n.ss.length : Int) < 256 := by omega
 have w11 : IntKind.wrap .i64 (((n.go + 1).toNat : Int) - 1) = n.go := by
  rw [wrap_small (by omega) (by omega)]
  omega
 have hfin := nd_back n b1.1 hr.kn.1 hr.sq.1 hr.aq.1 hr.sn.1 gmd.1 hr.sy.1 hr.qf.1 hr.qt.1 hr.fr.1 hr.fn.1 hr.nx.1
 unfold nodeB hdB at g0
 simp only [List.append_assoc, List.singleton_append, List.cons_append, List.nil_append] at g0
 obtain ⟨c1, h1, g1⟩ := nuC_go g0 (nu_put1 n.ro _ b1)
 obtain ⟨c2, h2, g2⟩ := nuC_go g1 (fl_nu n.st _)
 obtain ⟨c3, h3, g3⟩ := nuC_go g2 (fl_nu n.va _)
 obtain ⟨c4, h4, g4⟩ := nuC_go g3 (fl_nu n.sh _)
 obtain ⟨c5, h5, g5⟩ := nuC_go g4 (fl_nu n.fu _)
 obtain ⟨c6, h6, g6⟩ := nuC_go g5 (nu_put1 n.md _ b2)
 obtain ⟨c7, h7, g7⟩ := nuC_go g6 (nu_put8 n.kn _ hr.kn.1 (fi_lt hr.kn))
 obtain ⟨c8, h8, g8⟩ := nuC_go g7 (nu_put8 n.sq _ hr.sq.1 (fi_lt hr.sq))
 obtain ⟨c9, h9, g9⟩ := nuC_go g8 (nu_put8 n.sn _ hr.sn.1 (fi_lt hr.sn))
 obtain ⟨c10, h10, g10⟩ := nuC_go g9 (nu_put8 n.sy _ hr.sy.1 (fi_lt hr.sy))
 obtain ⟨c11, h11, g11⟩ := nuC_go g10 (nu_put8 (n.go + 1) _ b3.1 b3.2)
 obtain ⟨c12, h12, g12⟩ := nuC_go g11 (nu_put8 n.fr _ hr.fr.1 (fi_lt hr.fr))
 obtain ⟨c13, h13, g13⟩ := nuC_go g12 (nu_put8 n.fn _ hr.fn.1 (fi_lt hr.fn))
 obtain ⟨c14, h14, g14⟩ := nuC_go g13 (nu_put8 n.nx _ hr.nx.1 (fi_lt hr.nx))
 obtain ⟨c15, h15, g15⟩ := liC_go g14 (li_put n.ln _ hr.ln)
 obtain ⟨c16, h16, g16⟩ := liC_go g15 (li_put n.al _ hr.al)
 obtain ⟨c17, h17, g17⟩ := nuC_go g16 (nu_put8 n.aq _ hr.aq.1 (fi_lt hr.aq))
 have hp := parseB_put n.ch (volsB n.vs ++ (putW n.kp ++ UInt8.ofNat n.ss.length :: (n.ss.flatMap shB ++ (putW n.cp ++ (be 2 n.qs.length ++ (n.qs.flatMap shB ++ (putW n.qo ++ (be8 n.qf ++ be8 n.qt)))))))) hr.ch hu
 rw [← g17.2.1] at hp
 have g18 : Cs s (s.length - (volsB n.vs ++ (putW n.kp ++ UInt8.ofNat n.ss.length :: (n.ss.flatMap shB ++ (putW n.cp ++ (be 2 n.qs.length ++ (n.qs.flatMap shB ++ (putW n.qo ++ (be8 n.qf ++ be8 n.qt)))))))).length, false) (volsB n.vs ++ (putW n.kp ++ UInt8.ofNat n.ss.length :: (n.ss.flatMap shB ++ (putW n.cp ++ (be 2 n.qs.length ++ (n.qs.flatMap shB ++ (putW n.qo ++ (be8 n.qf ++ be8 n.qt)))))))) := ⟨rfl, drop_suf g17.2.1, Nat.sub_le _ _⟩
 have hvn := nu_put1 (n.vs.length : Int) (n.vs.flatMap vB ++ (putW n.kp ++ UInt8.ofNat n.ss.length :: (n.ss.flatMap shB ++ (putW n.cp ++ (be 2 n.qs.length ++ (n.qs.flatMap shB ++ (putW n.qo ++ (be8 n.qf ++ be8 n.qt)))))))) b5
 rw [Int.toNat_natCast] at hvn
 obtain ⟨c19, h19, g19⟩ := nuC_go g18 hvn
 obtain ⟨c20, h20, g20⟩ := voC_go n.vs s _ c19 g19 v2
 obtain ⟨c21, h21, g21⟩ := wrC_go g20 (wr_put n.kp _ hr.kp)
 have hsn := nu_put1 (n.ss.length : Int) (n.ss.flatMap shB ++ (putW n.cp ++ (be 2 n.qs.length ++ (n.qs.flatMap shB ++ (putW n.qo ++ (be8 n.qf ++ be8 n.qt)))))) b6
 rw [Int.toNat_natCast] at hsn
 obtain ⟨c22, h22, g22⟩ := nuC_go g21 hsn
 obtain ⟨c23, h23, g23⟩ := shC_go n.ss s _ c22 g22 fun x hx => sk_of (hr.sk x hx)
 obtain ⟨c24, h24, g24⟩ := wrC_go g23 (wr_put n.cp _ hr.cp)
 obtain ⟨c25, h25, g25⟩ := nuC_go g24 (nu_put 2 n.qs.length _ b4.1 b4.2)
 obtain ⟨c26, h26, g26⟩ := shC_go n.qs s _ c25 g25 fun x hx => sk_of (hr.qk x hx)
 obtain ⟨c27, h27, g27⟩ := wrC_go g26 (wr_put n.qo _ hr.qo)
 obtain ⟨c28, h28, g28⟩ := nuC_go g27 (nu_put8 n.qf _ hr.qf.1 (fi_lt hr.qf))
 have hqt := nu_put8 n.qt [] hr.qt.1 (fi_lt hr.qt)
 rw [List.append_nil] at hqt
 obtain ⟨c29, h29, g29⟩ := nuC_go g28 hqt
 unfold decC
 rw [bindC_eq h1, bindC_eq h2, bindC_eq h3, bindC_eq h4, bindC_eq h5, bindC_eq h6, bindC_eq h7, bindC_eq h8, bindC_eq h9, bindC_eq h10, bindC_eq h11, bindC_eq h12, bindC_eq h13, bindC_eq h14, bindC_eq h15, bindC_eq h16, bindC_eq h17, if_neg (not_t g17.1), hp]
 simp only
 rw [bindC_eq h19, bindC_eq h20, tlO, if_neg (not_t g20.1), bindC_eq h21, bindC_eq h22, bindC_eq h23, midC, if_neg (not_t g23.1), bindC_eq h24, bindC_eq h25, bindC_eq h26, endC, if_neg (not_t g26.1), bindC_eq h27, bindC_eq h28, bindC_eq h29, if_neg (not_t g29.1)]
 simp only [fl_one, w11]
 exact congrArg some hfin
theorem x14d (k : Nat) (hk : 71000 ≤ k) (s : List UInt8) (hs : s.length ≤ 240000) : (∃ n, IsB s n ∧ W k 14 [.str s] [] = some (.tup [.agg (ndL n), .bool true], [])) ∨ ((∀ n, ¬ IsB s n) ∧ W k 14 [.str s] [] = some (.tup [.agg (ndL zN), .bool false], [])) := by
 have hw := x14 k hk s (by omega) fun n h => (decC_B h hs).1
 have hput : ∀ m, IsB s m → decC s = some m := by
  intro m hm
  obtain ⟨m1, m2, m3, rfl⟩ := hm
  have hr := rt_of m1 m2.cp
  exact decC_put hr m2.um m3 (by have := hr.ss; omega)
 rw [hw]
 cases hd : decC s with
 | none => exact .inr ⟨fun n hn => by have := hput n hn; rw [hd] at this; simp at this, rfl⟩
 | some n =>
  unfold outK
  simp only
  by_cases h : nodeOk n = true ∧ nodeB n = s
  ·rw [if_pos h]
   have hB := decC_B hd hs
   exact .inl ⟨n, ⟨h.1, hB.1, hB.2, h.2⟩, rfl⟩
  ·rw [if_neg h]
   refine .inr ⟨fun m hm => h ?_, rfl⟩
   have := hput m hm
   rw [hd, Option.some.injEq] at this
   subst this
   exact ⟨hm.1, hm.2.2.2⟩
open Go.AM Go.Proofs Go
theorem b9 (F : Fns) (N : Nat) (n : Nd) (s p q : List UInt8) (i : Int) (KN : St → Res) : zBy F 9 0 N (enS n s p q i) (brk (zCt F 9 0 N 0) KN) =
 bif decide (i < ((List.length (List.map shV (Nd.ss n)) : Nat) : Int)) then bif decide (0 ≤ i) then zOp (List.map shV (Nd.ss n))[Int.toNat i]? fun x => zAg x fun cs => zCo cs fun v r => zIn .i64 v fun n_1 => zCo r fun v r => zIn .i64 v fun n_2 => zCo r fun v r => asSl v fun m fl xs => zNi r (zRe (F 26 [AV.sl 1 true [AV.int .i64 n_1, AV.int .i64 n_2]] []) fun v bs => zSt v fun s_1 => zNi bs (zRe (F 29 [AV.sl m fl xs] []) fun v bs => zSt v fun s_2 => zNi bs (bif decide (List.length s_1 + List.length s_2 ≤ 4611686018427387904) then bif decide (List.length s + List.length (s_1 ++ s_2) ≤ 4611686018427387904) then KN { nt := 172, t := [(0, AV.agg (ndL n)), (1, AV.ptr 1 0 0), (2, AV.str []), (3, AV.int .i64 0), (4, AV.str p), (5, AV.int .i64 0), (6, AV.str q), (8, AV.str (s ++ (s_1 ++ s_2))), (10, AV.ptr 10 0 0), (16, AV.bool false), (26, AV.bool false), (108, shsV (Nd.ss n)), (109, AV.int .i64 ((List.length (List.map shV (Nd.ss n)) : Nat) : Int)), (110, AV.int .i64 (IntKind.wrap .i64 (i + 1))), (111, AV.bool (decide (i < ((List.length (List.map shV (Nd.ss n)) : Nat) : Int))))], b := [(1, (ndL n)), (10, [AV.int .i64 n_1, AV.int .i64 n_2, AV.sl m fl xs])], r := [], g := [], rd := [], wr := [] } else none else none))) else none else zRe (F 29 [wsV (Nd.cp n)] []) fun v bs => zSt v fun s_1 => zNi bs (bif decide (List.length s + List.length s_1 ≤ 4611686018427387904) then bif decide (List.length (s ++ s_1) + List.length p ≤ 4611686018427387904) then bif decide (List.length (s ++ s_1 ++ p) ≤ 4611686018427387904) then loopA (zBy F 9 1 N) (zDe 9 1) (zCt F 9 1 N 0) N { nt := 172, t := [(0, AV.agg (ndL n)), (1, AV.ptr 1 0 0), (2, AV.str []), (3, AV.int .i64 0), (4, AV.str p), (5, AV.int .i64 0), (6, AV.str q), (8, AV.str s), (11, AV.tip 134 0 1 (ofBytes (s ++ s_1 ++ p))), (16, AV.bool false), (26, AV.bool false), (108, shsV (Nd.ss n)), (109, AV.int .i64 ((List.length (List.map shV (Nd.ss n)) : Nat) : Int)), (110, AV.int .i64 i), (111, AV.bool (decide (i < ((List.length (List.map shV (Nd.ss n)) : Nat) : Int)))), (137, shsV (Nd.qs n)), (138, AV.int .i64 ((List.length (List.map shV (Nd.qs n)) : Nat) : Int)), (139, AV.int .i64 0)], b := [(1, (ndL n))], r := [], g := [], rd := [], wr := [] } else none else none else none) := by kernel_rfl
def enT (n : Nd) (s p q t : List UInt8) (i j : Int) (b : Bool) : St := ⟨172, [(0, .agg (ndL n)), (1, .ptr 1 0 0), (2, .str []), (3, .int .i64 0), (4, .str p), (5, .int .i64 0), (6, .str q), (8, .str s), (11, .tip 134 0 1 (ofBytes t)), (16, .bool false), (26, .bool false), (108, shsV n.ss), (109, .int .i64 ((List.length (List.map shV n.ss) : Nat) : Int)), (110, .int .i64 i), (111, .bool b), (137, shsV n.qs), (138, .int .i64 ((List.length (List.map shV n.qs) : Nat) : Int)), (139, .int .i64 j)], [(1, ndL n)], [], [], [], []⟩
theorem c9 (F : Fns) (N : Nat) (n : Nd) (s p q t : List UInt8) (i j : Int) (b : Bool) (KN : St → Res) : zBy F 9 1 N (enT n s p q t i j b) (brk (zCt F 9 1 N 0) KN) =
 bif decide (j < ((List.length (List.map shV (Nd.qs n)) : Nat) : Int)) then bif decide (0 ≤ j) then zOp (List.map shV (Nd.qs n))[Int.toNat j]? fun x => zAg x fun cs => zCo cs fun v r => zIn .i64 v fun n_1 => zCo r fun v r => zIn .i64 v fun n_2 => zCo r fun v r => asSl v fun m fl xs => zNi r (zRe (F 26 [AV.sl 1 true [AV.int .i64 n_1, AV.int .i64 n_2]] []) fun v bs => zSt v fun s_1 => zNi bs (bif decide (1 = 1 ∧ fitsB (List.length (ofBytes t) + List.length (ofBytes s_1)) 1 = true ∧ List.length (ofBytes t) + List.length (ofBytes s_1) ≤ 4611686018427387904) then zRe (F 29 [AV.sl m fl xs] []) fun v bs => zSt v fun s_2 => zNi bs (bif decide (1 = 1 ∧ fitsB (List.length (ofBytes t ++ ofBytes s_1) + List.length (ofBytes s_2)) 1 = true ∧ List.length (ofBytes t ++ ofBytes s_1) + List.length (ofBytes s_2) ≤ 4611686018427387904) then KN { nt := 172, t := [(0, AV.agg (ndL n)), (1, AV.ptr 1 0 0), (2, AV.str []), (3, AV.int .i64 0), (4, AV.str p), (5, AV.int .i64 0), (6, AV.str q), (8, AV.str s), (11, AV.tip 134 0 1 (ofBytes t ++ ofBytes s_1 ++ ofBytes s_2)), (13, AV.ptr 13 0 0), (16, AV.bool false), (26, AV.bool false), (108, shsV (Nd.ss n)), (109, AV.int .i64 ((List.length (List.map shV (Nd.ss n)) : Nat) : Int)), (110, AV.int .i64 i), (111, AV.bool b), (137, shsV (Nd.qs n)), (138, AV.int .i64 ((List.length (List.map shV (Nd.qs n)) : Nat) : Int)), (139, AV.int .i64 (IntKind.wrap .i64 (j + 1))), (140, AV.bool (decide (j < ((List.length (List.map shV (Nd.qs n)) : Nat) : Int))))], b := [(1, (ndL n)), (13, [AV.int .i64 n_1, AV.int .i64 n_2, AV.sl m fl xs])], r := [], g := [], rd := [], wr := [] } else none) else none)) else none else zOp (Option.map AV.str (bytesOf (ofBytes t))) fun x => zSt x fun s => zRe (F 29 [wsV (Nd.qo n)] []) fun v bs => zSt v fun s_1 => zNi bs (bif decide (List.length s + List.length s_1 ≤ 4611686018427387904) then zRe (F 26 [AV.sl 1 true [AV.int .i64 (Nd.qf n), AV.int .i64 (Nd.qt n)]] []) fun v bs => zSt v fun s_2 => zNi bs (bif decide (List.length (s ++ s_1) + List.length s_2 ≤ 4611686018427387904) then some (AV.tup [AV.str (s ++ s_1 ++ s_2), AV.int .i64 0], []) else none) else none) := by kernel_rfl
theorem fm2 (p : Int → List UInt8) (a b : Int) : [a, b].flatMap p = p a ++ p b := by simp
theorem getSh (l : List Shot) (i : Nat) (h : i < l.length) : (l.map shV)[Int.toNat (i : Int)]? = some (.agg [.int .i64 l[i].1, .int .i64 l[i].2.1, wsV l[i].2.2]) := getM shV l i h
theorem x26two (k : Nat) (hk : 1100 ≤ k) (a b : Int) (ha : a < 9223372036854775808) (hb : b < 9223372036854775808) : W k 26 [.sl 1 true [.int .i64 a, .int .i64 b]] [] = some (.str (be8 a ++ be8 b), []) := by
 have h := W_arg (x26 k [a, b] hk (by simp; omega) (by simp)) (vs := [AV.sl 1 true [AV.int .i64 a, AV.int .i64 b]]) (by kernel_rfl)
 rw [fm2] at h
 exact h
theorem sets9 (k : Nat) (hk : 70200 ≤ k) (n : Nd) (hr : Rt n) (hb : NdB n) (s p q : List UInt8) (i : Int) (b : Bool) (t0 : List UInt8) (hs : t0.length ≤ 31000000000) (st : St) (hst : st.clean (zDe 9 1) = enT n s p q t0 i (0 : Nat) b) : loopA (zBy (W k) 9 1 k) (zDe 9 1) (zCt (W k) 9 1 k 0) k st = some (.tup [.str (t0 ++ (n.qs.flatMap shB ++ endB n)), .int .i64 0], []) := by
 have hq := hb.qs
 refine loopA_ind (fun a : Nat × List UInt8 => enT n s p q a.2 i a.1 b) (fun a => n.qs.length - a.1) (fun a r => a.1 ≤ n.qs.length → a.2.length ≤ 31000000000 + 3000 * a.1 → r = some (.tup [.str (a.2 ++ ((n.qs.drop a.1).flatMap shB ++ endB n)), .int .i64 0], [])) (fun a m ih h0 h1 => ?_) k (0, t0) st (by simp; omega) hst (by simp) (by simpa using hs)
 obtain ⟨j, t⟩ := a
 simp only at ih h0 h1 ⊢
 rw [c9]
 by_cases hj : j < n.qs.length
 ·obtain ⟨g1, g2, g3⟩ := hr.qk _ (List.getElem_mem hj)
  have e1 := be8_length n.qs[j].1
  have e2 := be8_length n.qs[j].2.1
  have e3 := putW_le g3
  have g4 := hb.qk _ (List.getElem_mem hj)
  refine qY (decide_eq_true (by first | omega | (simp only [List.length_append, List.length_cons, List.length_nil, List.length_map]; omega))) ?_
  refine qY (decide_eq_true (by first | omega | (simp only [List.length_append, List.length_cons, List.length_nil, List.length_map]; omega))) ?_
  refine qP (getSh _ _ hj) ?_
  repeat with_reducible first|apply qT|apply qC|apply qN|apply qS|apply qB|apply qI|apply qA|apply qL
  refine qO (x26two k (by omega) _ _ (by have := g1.2; omega) (by have := g2.2; omega)) ?_
  repeat with_reducible first|apply qT|apply qC|apply qN|apply qS|apply qB|apply qI|apply qA|apply qL
  refine qY (decide_eq_true (by refine ⟨by first | rfl | exact .inr rfl, fitsB_small ?_, ?_⟩ <;> simp only [ofBytes, List.length_map, List.length_append, List.length_cons, List.length_nil] <;> omega)) ?_
  refine qO (x29 k n.qs[j].2.2 (by omega) g4 g3) ?_
  repeat with_reducible first|apply qT|apply qC|apply qN|apply qS|apply qB|apply qI|apply qA|apply qL
  refine qY (decide_eq_true (by refine ⟨by first | rfl | exact .inr rfl, fitsB_small ?_, ?_⟩ <;> simp only [ofBytes, List.length_map, List.length_append, List.length_cons, List.length_nil] <;> omega)) ?_
  rw [ofBytes_append, ofBytes_append, wi (by omega)]
  refine (ih (j + 1, t ++ (be8 n.qs[j].1 ++ be8 n.qs[j].2.1) ++ putW n.qs[j].2.2) _ (by simp; omega) (by kernel_rfl) (by simp; omega) (by simp only [List.length_append]; omega)).trans ?_
  rw [List.drop_eq_getElem_cons hj]
  simp only [List.flatMap_cons, shB, List.append_assoc]
 ·have e1 := be8_length n.qf
  have e2 := be8_length n.qt
  have e3 := putW_le hr.qo
  have f1 := hr.qf.2
  have f2 := hr.qt.2
  refine qX (decide_eq_false (by rw [List.length_map]; omega)) ?_
  refine qP (v := .str t) (by rw [bytesOf_ofBytes]; rfl) ?_
  repeat with_reducible first|apply qT|apply qC|apply qN|apply qS|apply qB|apply qI|apply qA|apply qL
  refine qO (x29 k n.qo (by omega) hb.qo hr.qo) ?_
  repeat with_reducible first|apply qT|apply qC|apply qN|apply qS|apply qB|apply qI|apply qA|apply qL
  refine qY (decide_eq_true (by first | omega | (simp only [List.length_append, List.length_cons, List.length_nil, List.length_map]; omega))) ?_
  refine qO (x26two k (by omega) _ _ (by omega) (by omega)) ?_
  repeat with_reducible first|apply qT|apply qC|apply qN|apply qS|apply qB|apply qI|apply qA|apply qL
  refine qY (decide_eq_true (by first | omega | (simp only [List.length_append, List.length_cons, List.length_nil, List.length_map]; omega))) ?_
  rw [List.drop_eq_nil_of_le (by omega)]
  simp only [List.flatMap_nil, List.nil_append, endB, List.append_assoc]
theorem x9 (k : Nat) (hk : 70700 ≤ k) (n : Nd) (hb : NdB n) (hok : nodeOk n = true) (hq : n.qs.length ≤ 65535) : W k 9 [.agg (ndL n)] [] = some (.tup [.str (nodeB n), .int .i64 0], []) := by
 obtain ⟨k, rfl⟩ := succ1 (show 1 ≤ k by omega)
 refine (W_tree0 (head9 k (by omega) n hb hok hq) (by kernel_rfl)).trans ?_
 have hr := rt_of hok hb.cp
 have hs := hr.ss
 refine loopA_ind (fun a : Nat × List UInt8 => enS n a.2 (be 2 n.qs.length) (putB n.ch) a.1) (fun a => n.ss.length - a.1) (fun a r => a.1 ≤ n.ss.length → a.2.length ≤ 30500000000 + 3000 * a.1 → a.2 ++ (n.ss.drop a.1).flatMap shB = hdB n ++ n.ss.flatMap shB → r = some (.tup [.str (nodeB n), .int .i64 0], [])) (fun a m ih h0 h1 h2 => ?_) k (0, hdB n) _ (by simp; omega) (by kernel_rfl) (by simp) (by simpa using hdB_len hr) rfl
 obtain ⟨i, t⟩ := a
 simp only at ih h0 h1 h2 ⊢
 rw [b9]
 by_cases hi : i < n.ss.length
 ·obtain ⟨g1, g2, g3⟩ := hr.sk _ (List.getElem_mem hi)
  have e1 := be8_length n.ss[i].1
  have e2 := be8_length n.ss[i].2.1
  have e3 := putW_le g3
  have g4 := hb.sk _ (List.getElem_mem hi)
  rw [List.drop_eq_getElem_cons hi] at h2
  refine qY (decide_eq_true (by first | omega | (simp only [List.length_append, List.length_cons, List.length_nil, List.length_map]; omega))) ?_
  refine qY (decide_eq_true (by first | omega | (simp only [List.length_append, List.length_cons, List.length_nil, List.length_map]; omega))) ?_
  refine qP (getSh _ _ hi) ?_
  repeat with_reducible first|apply qT|apply qC|apply qN|apply qS|apply qB|apply qI|apply qA|apply qL
  refine qO (x26two k (by omega) _ _ (by have := g1.2; omega) (by have := g2.2; omega)) ?_
  repeat with_reducible first|apply qT|apply qC|apply qN|apply qS|apply qB|apply qI|apply qA|apply qL
  refine qO (x29 k n.ss[i].2.2 (by omega) g4 g3) ?_
  repeat with_reducible first|apply qT|apply qC|apply qN|apply qS|apply qB|apply qI|apply qA|apply qL
  refine qY (decide_eq_true (by first | omega | (simp only [List.length_append, List.length_cons, List.length_nil, List.length_map]; omega))) ?_
  refine qY (decide_eq_true (by first | omega | (simp only [List.length_append, List.length_cons, List.length_nil, List.length_map]; omega))) ?_
  rw [wi (by omega)]
  refine ih (i + 1, t ++ ((be8 n.ss[i].1 ++ be8 n.ss[i].2.1) ++ putW n.ss[i].2.2)) _ (by simp; omega) (by kernel_rfl) (by simp; omega) (by simp only [List.length_append]; omega) ?_
  rw [← h2]
  simp only [List.flatMap_cons, shB, List.append_assoc]
 ·have e3 := putW_le hr.cp
  rw [List.drop_eq_nil_of_le (by omega), List.flatMap_nil, List.append_nil] at h2
  refine qX (decide_eq_false (by rw [List.length_map]; omega)) ?_
  refine qO (x29 k n.cp (by omega) hb.cp hr.cp) ?_
  repeat with_reducible first|apply qT|apply qC|apply qN|apply qS|apply qB|apply qI|apply qA|apply qL
  have e4 := be2_len n.qs.length
  refine qY (decide_eq_true (by first | omega | (simp only [List.length_append, List.length_cons, List.length_nil, List.length_map]; omega))) ?_
  refine qY (decide_eq_true (by first | omega | (simp only [List.length_append, List.length_cons, List.length_nil, List.length_map]; omega))) ?_
  refine qY (decide_eq_true (by first | omega | (simp only [List.length_append, List.length_cons, List.length_nil, List.length_map]; omega))) ?_
  refine (sets9 k (by omega) n hr hb t (be 2 n.qs.length) (putB n.ch) i (decide ((i : Int) < (((n.ss.map shV).length : Nat) : Int))) (t ++ putW n.cp ++ be 2 n.qs.length) (by simp only [List.length_append, be2_len]; omega) _ (by kernel_rfl)).trans ?_
  rw [h2, nodeB]
  simp only [endB, List.append_assoc]
theorem t21 (F : Fns) (N : Nat) : runOf F 21 N [] [] =
 some (AV.agg [AV.int .i64 2, AV.bool false, AV.bool false, AV.int .i64 0, AV.sl 0 true [], AV.int .i64 0, AV.sl 0 true [], AV.bool false, AV.sl 0 true [], AV.sl 0 true [], AV.int .i64 0, AV.sl 0 true [], AV.sl 0 true [], AV.int .i64 0, AV.int .i64 0, AV.int .i64 0, AV.bool false, AV.sl 0 true [], AV.int .i64 0, AV.sl 0 true [], AV.sl 0 true [], AV.int .i64 0, AV.int .i64 0, AV.int .i64 0, AV.int .i64 0, AV.int .i64 0], []) := by kernel_rfl
theorem t8 (F : Fns) (N : Nat) : runOf F 8 N [] [] =
 zRe (F 21 [] []) fun v bs => zNd v fun n b b_1 n_1 m fl xs n_2 m_1 fl_1 xs_1 b_2 m_2 fl_2 xs_2 m_3 fl_3 xs_3 n_3 m_4 fl_4 xs_4 m_5 fl_5 xs_5 n_4 n_5 n_6 b_3 m_6 fl_6 xs_6 n_7 m_7 fl_7 xs_7 m_8 fl_8 xs_8 n_8 n_9 n_10 n_11 n_12 => (zNi bs (zRe (F 9 [AV.agg [AV.int .i64 n, AV.bool b, AV.bool b_1, AV.int .i64 n_1, AV.sl m fl xs, AV.int .i64 n_2, AV.sl m_1 fl_1 xs_1, AV.bool b_2, AV.sl m_2 fl_2 xs_2, AV.sl m_3 fl_3 xs_3, AV.int .i64 n_3, AV.sl m_4 fl_4 xs_4, AV.sl m_5 fl_5 xs_5, AV.int .i64 n_4, AV.int .i64 n_5, AV.int .i64 n_6, AV.bool b_3, AV.sl m_6 fl_6 xs_6, AV.int .i64 n_7, AV.sl m_7 fl_7 xs_7, AV.sl m_8 fl_8 xs_8, AV.int .i64 n_8, AV.int .i64 n_9, AV.int .i64 n_10, AV.int .i64 n_11, AV.int .i64 n_12]] []) fun v bs => zTC v fun v r => zSt v fun s => zCo r fun v r => zIn .i64 v fun n => zNi r (zNi bs (zRe (F 11 [AV.str s] []) fun v bs => zTC v fun v r => zNd v fun n_13 b b n_14 m fl xs n_15 m fl xs b m fl xs m fl xs n_16 m fl xs m fl xs n_17 n_18 n_19 b m fl xs n_20 m fl xs m fl xs n_21 n_22 n_23 n_24 n_25 => (zCo r fun v r => zIn .i64 v fun n_26 => zNi r (zNi bs (bif (s.length : Int) == 107 then bif n == 0 then bif n_13 == 2 then some (AV.bool (n_26 == 0), []) else some (AV.bool false, []) else some (AV.bool false, []) else some (AV.bool false, [])))))))) := by kernel_rfl
theorem t3 (F : Fns) (N : Nat) (n : Nd) : runOf F 3 N [.agg (ndL n)] [] =
 zRe (F 7 [AV.agg (ndL n)] []) fun v bs => zBo v fun b => zNi bs (bif !b then zRe (F 8 [] []) fun v bs => zBo v fun b => zNi bs (some (AV.bool b, [])) else zRe (F 9 [AV.agg (ndL n)] []) fun v bs => zTC v fun v r => zSt v fun s => zCo r fun v r => zIn .i64 v fun n_1 => zNi r (zNi bs (zRe (F 10 [AV.agg (ndL n)] []) fun v bs => zBo v fun b => zNi bs (bif !b then bif s == [] then bif n_1 == 1 then zRe (F 8 [] []) fun v bs => zBo v fun b => zNi bs (some (AV.bool b, [])) else some (AV.bool false, []) else some (AV.bool false, []) else zRe (F 11 [AV.str s] []) fun v bs => zTC v fun v r => zNd v fun n_2 b b_1 n_3 m fl xs n_4 m_1 fl_1 xs_1 b_2 m_2 fl_2 xs_2 m_3 fl_3 xs_3 n_5 m_4 fl_4 xs_4 m_5 fl_5 xs_5 n_6 n_7 n_8 b_3 m_6 fl_6 xs_6 n_9 m_7 fl_7 xs_7 m_8 fl_8 xs_8 n_10 n_11 n_12 n_13 n_14 => (zCo r fun v r => zIn .i64 v fun n_15 => zNi r (zNi bs (zRe (F 12 [AV.agg (ndL n)] []) fun v bs => zSt v fun s_1 => zNi bs (bif s == s_1 then bif n_1 == 0 then zRe (F 13 [AV.agg [AV.int .i64 n_2, AV.bool b, AV.bool b_1, AV.int .i64 n_3, AV.sl m fl xs, AV.int .i64 n_4, AV.sl m_1 fl_1 xs_1, AV.bool b_2, AV.sl m_2 fl_2 xs_2, AV.sl m_3 fl_3 xs_3, AV.int .i64 n_5, AV.sl m_4 fl_4 xs_4, AV.sl m_5 fl_5 xs_5, AV.int .i64 n_6, AV.int .i64 n_7, AV.int .i64 n_8, AV.bool b_3, AV.sl m_6 fl_6 xs_6, AV.int .i64 n_9, AV.sl m_7 fl_7 xs_7, AV.sl m_8 fl_8 xs_8, AV.int .i64 n_10, AV.int .i64 n_11, AV.int .i64 n_12, AV.int .i64 n_13, AV.int .i64 n_14], AV.agg (ndL n)] []) fun v bs => zBo v fun b => zNi bs (bif b then bif n_15 == 0 then zRe (F 8 [] []) fun v bs => zBo v fun b => zNi bs (some (AV.bool b, [])) else some (AV.bool false, []) else some (AV.bool false, [])) else some (AV.bool false, []) else some (AV.bool false, []))))))))) := by kernel_rfl
theorem t4 (F : Fns) (N : Nat) (s : List UInt8) : runOf F 4 N [.str s] [] =
 bif decide ((s.length : Int) > 8192) then zRe (F 8 [] []) fun v bs => zBo v fun b => zNi bs (some (AV.bool b, [])) else zRe (F 11 [AV.str s] []) fun v bs => zTC v fun v r => zNd v fun n b b_1 n_1 m fl xs n_2 m_1 fl_1 xs_1 b_2 m_2 fl_2 xs_2 m_3 fl_3 xs_3 n_3 m_4 fl_4 xs_4 m_5 fl_5 xs_5 n_4 n_5 n_6 b_3 m_6 fl_6 xs_6 n_7 m_7 fl_7 xs_7 m_8 fl_8 xs_8 n_8 n_9 n_10 n_11 n_12 => (zCo r fun v r => zIn .i64 v fun n_13 => zNi r (zNi bs (zRe (F 14 [AV.str s] []) fun v bs => zTC v fun v r => zNd v fun n_14 b_4 b_5 n_15 m_9 fl_9 xs_9 n_16 m_10 fl_10 xs_10 b_6 m_11 fl_11 xs_11 m_12 fl_12 xs_12 n_17 m_13 fl_13 xs_13 m_14 fl_14 xs_14 n_18 n_19 n_20 b_7 m_15 fl_15 xs_15 n_21 m_16 fl_16 xs_16 m_17 fl_17 xs_17 n_22 n_23 n_24 n_25 n_26 => (zCo r fun v r => zBo v fun b_8 => zNi r (zNi bs (bif !b_8 then zRe (F 13 [AV.agg [AV.int .i64 n, AV.bool b, AV.bool b_1, AV.int .i64 n_1, AV.sl m fl xs, AV.int .i64 n_2, AV.sl m_1 fl_1 xs_1, AV.bool b_2, AV.sl m_2 fl_2 xs_2, AV.sl m_3 fl_3 xs_3, AV.int .i64 n_3, AV.sl m_4 fl_4 xs_4, AV.sl m_5 fl_5 xs_5, AV.int .i64 n_4, AV.int .i64 n_5, AV.int .i64 n_6, AV.bool b_3, AV.sl m_6 fl_6 xs_6, AV.int .i64 n_7, AV.sl m_7 fl_7 xs_7, AV.sl m_8 fl_8 xs_8, AV.int .i64 n_8, AV.int .i64 n_9, AV.int .i64 n_10, AV.int .i64 n_11, AV.int .i64 n_12], AV.agg zdL] []) fun v bs => zBo v fun b => zNi bs (bif b then bif n_13 == 3 then zRe (F 8 [] []) fun v bs => zBo v fun b => zNi bs (some (AV.bool b, [])) else some (AV.bool false, []) else some (AV.bool false, [])) else zRe (F 13 [AV.agg [AV.int .i64 n, AV.bool b, AV.bool b_1, AV.int .i64 n_1, AV.sl m fl xs, AV.int .i64 n_2, AV.sl m_1 fl_1 xs_1, AV.bool b_2, AV.sl m_2 fl_2 xs_2, AV.sl m_3 fl_3 xs_3, AV.int .i64 n_3, AV.sl m_4 fl_4 xs_4, AV.sl m_5 fl_5 xs_5, AV.int .i64 n_4, AV.int .i64 n_5, AV.int .i64 n_6, AV.bool b_3, AV.sl m_6 fl_6 xs_6, AV.int .i64 n_7, AV.sl m_7 fl_7 xs_7, AV.sl m_8 fl_8 xs_8, AV.int .i64 n_8, AV.int .i64 n_9, AV.int .i64 n_10, AV.int .i64 n_11, AV.int .i64 n_12], AV.agg [AV.int .i64 n_14, AV.bool b_4, AV.bool b_5, AV.int .i64 n_15, AV.sl m_9 fl_9 xs_9, AV.int .i64 n_16, AV.sl m_10 fl_10 xs_10, AV.bool b_6, AV.sl m_11 fl_11 xs_11, AV.sl m_12 fl_12 xs_12, AV.int .i64 n_17, AV.sl m_13 fl_13 xs_13, AV.sl m_14 fl_14 xs_14, AV.int .i64 n_18, AV.int .i64 n_19, AV.int .i64 n_20, AV.bool b_7, AV.sl m_15 fl_15 xs_15, AV.int .i64 n_21, AV.sl m_16 fl_16 xs_16, AV.sl m_17 fl_17 xs_17, AV.int .i64 n_22, AV.int .i64 n_23, AV.int .i64 n_24, AV.int .i64 n_25, AV.int .i64 n_26]] []) fun v bs => zBo v fun b => zNi bs (bif b then bif n_13 == 0 then zRe (F 8 [] []) fun v bs => zBo v fun b => zNi bs (some (AV.bool b, [])) else some (AV.bool false, []) else some (AV.bool false, [])))))))) := by kernel_rfl
def nA : Nd := { zN with ro := 2 }
theorem nA_ok : nodeOk nA = true := (by kernel_rfl)
theorem nA_len : (nodeB nA).length = 107 := (by kernel_rfl)
theorem nA_B : NdB nA := ⟨by decide, by decide, by decide, by decide, by decide, by simp [UM, nA, zN], by decide, by simp [nA, zN], by decide, by decide, by simp [nA, zN], by decide, by decide⟩
theorem nA_is : IsB (nodeB nA) nA := ⟨nA_ok, nA_B, by decide, rfl⟩
theorem x21 (k : Nat) (hk : 1 ≤ k) : W k 21 [] [] = some (.agg (ndL nA), []) := by
 obtain ⟨k, rfl⟩ := succ1 (show 1 ≤ k by omega)
 exact (W_tree (t21 (W k) k) (by kernel_rfl)).trans (by kernel_rfl)
theorem x11ok (k : Nat) (hk : 70700 ≤ k) {s : List UInt8} {n : Nd} (h : IsB s n) : W k 11 [.str s] [] = okB n := by
 obtain ⟨m, r, hd, hw⟩ := x11 k hk s
 obtain ⟨h1, h2, h3, rfl⟩ := h
 obtain ⟨rfl, rfl⟩ := dec_put (rt_of h1 h2.cp) h2.um h3 hd
 rw [hw fun _ _ => h2]
 unfold outC
 rw [if_pos ⟨rfl, rfl, h1⟩]
theorem x8 (k : Nat) (hk : 70800 ≤ k) : W k 8 [] [] = some (.bool true, []) := by
 obtain ⟨k, rfl⟩ := succ1 (show 1 ≤ k by omega)
 refine (W_tree0 (t8 (W k) k) (by kernel_rfl)).trans ?_
 refine qO (x21 k (by omega)) ?_
 repeat with_reducible first|apply qT|apply qC|apply qN|apply qS|apply qB|apply qI|apply qA|apply qL
 refine qO (x9 k (by omega) nA nA_B nA_ok (by decide)) ?_
 repeat with_reducible first|apply qT|apply qC|apply qN|apply qS|apply qB|apply qI|apply qA|apply qL
 refine qO (x11ok k (by omega) nA_is) ?_
 repeat with_reducible first|apply qT|apply qC|apply qN|apply qS|apply qB|apply qI|apply qA|apply qL
 refine qY (by rw [nA_len]; rfl) ?_
 rfl
theorem vsOk_blocks : ∀ (l : List Vol) (z : Int), vsOk z l = true → ∀ v ∈ l, v.2.length ≤ 32
 | [], z, _ => by simp
 | v :: r, z, h => by
  rw [vsOk, Bool.and_eq_true, Bool.and_eq_true, decide_eq_true_eq] at h
  obtain ⟨⟨h1, h2, h3, h4⟩, h5, h6⟩ := h
  intro u hu
  rcases List.mem_cons.1 hu with rfl | hu
  ·exact h4
  ·exact vsOk_blocks r v.1 h6 u hu
theorem isB_C {s : List UInt8} {n : Nd} (h : IsB s n) : NdC n := by
 obtain ⟨h1, h2, h3, h4⟩ := h
 have hr := rt_of h1 h2.cp
 have hv : ∀ v ∈ n.vs, v.2.length ≤ 32 := by
  have := hr.vs
  rw [vOk, Bool.and_eq_true] at this
  exact vsOk_blocks _ _ this.2
 exact ⟨h2.ln, h2.al, by have := h2.vs; omega, fun v h => by have := hv v h; omega, by have := h2.kp; omega, by have := h2.ch; omega, h2.ss, fun s h => by have := h2.sk s h; omega, by have := h2.cp; omega, h2.qs, fun s h => by have := h2.qk s h; omega, by have := h2.qo; omega⟩
theorem x13s (k : Nat) (hk : 70500 ≤ k) (n : Nd) (hc : NdC n) : W k 13 [.agg (ndL n), .agg (ndL n)] [] = some (.bool true, []) := by
 have h := x13 k hk n n hc
 rwa [(eqN_iff n n).2 rfl] at h
section
variable {P : Program} {n t : Nat}
theorem Wt.str1 {l : List AV} (hu : P.underlying t = some .string) (h : Wt P (n + 1) t l) : ∃ s, l = [.str s] ∧ s.length ≤ reachBytes := by
 unfold Wt at h
 rw [hu] at h
 exact h
theorem WtV.str1 {x : AV} (hu : P.underlying t = some .string) (h : WtV P (n + 1) t x) : ∃ s, x = .str s ∧ s.length ≤ reachBytes := by
 unfold WtV at h
 rw [hu] at h
 exact h.2
end
theorem wt_str {n : Nat} {x : AV} (h : WtV Tryz.prog (n + 1) 9 x) : ∃ s, x = .str s ∧ s.length ≤ 140737488351232 := WtV.str1 Tryz.underlying9 h
theorem noLs : ∀ f fx, pr.f f = some (.inl fx) → fx.ls = [] := by
 have e : fnl.all (fun p => p.2.ls.isEmpty) = true := by kernel_rfl
 intro f fx h
 have h1 : find f fnl = some fx := by
  have h : mkF fnl [] f = some (.inl fx) := h
  simp only [mkF, find] at h
  cases hf : find f fnl with
  | none => rw [hf] at h; simp at h
  | some g => rw [hf] at h; simp at h; rw [h]
 have h2 : ∀ (l : List (Nat × Fx)), find f l = some fx → ∃ m, (m, fx) ∈ l := by
  intro l
  induction l with
  | nil => simp [find]
  | cons p r ih =>
   obtain ⟨m, v⟩ := p
   intro h
   rw [find] at h
   split at h
   ·simp only [Option.some.injEq] at h
    subst h
    exact ⟨m, List.mem_cons_self ..⟩
   ·obtain ⟨m', hm⟩ := ih h
    exact ⟨m', List.mem_cons_of_mem _ hm⟩
 obtain ⟨m, hm⟩ := h2 fnl h1
 have := List.all_eq_true.1 e _ hm
 simpa using this
theorem W_sound (k : Nat) : SoundF Tryz.prog (W k) := evW_sound pr_ok noLs old ct k
def ndV (n : Nd) : AV := .agg (ndL n)
abbrev ndsV (l : List Nd) : AV := .sl 26 false (l.map ndV)
theorem t15 (F : Fns) (N : Nat) (s : List UInt8) : runOf F 15 N [.str s] [] =
 zRe (F 64 [AV.str s] []) fun v bs => zTC v fun v r => asSl v fun m fl xs => zCo r fun v r => zSt v fun s_1 => zCo r fun v r => zIn .i64 v fun n => zNi r (zNi bs (bif n != 0 then some (AV.tup [AV.sl 0 true [], AV.int .i64 3], []) else bif !s_1 == [] then some (AV.tup [AV.sl 0 true [], AV.int .i64 3], []) else bif decide ((xs.length : Int) > 4) then some (AV.tup [AV.sl 0 true [], AV.int .i64 3], []) else loopA (zBy F 15 0 N) (zDe 15 0) (zCt F 15 0 N 0) N { nt := 48, t := [(0, AV.str s), (2, AV.sl 0 true []), (3, AV.int .i64 0), (4, AV.sl m fl xs), (5, AV.str s_1), (6, AV.int .i64 n), (7, AV.sl 0 true []), (28, AV.bool (decide ((xs.length : Int) > 4))), (29, AV.sl m fl xs), (30, AV.int .i64 (xs.length : Int)), (31, AV.int .i64 0)], b := [], r := [], g := [], rd := [], wr := [] })) := by kernel_rfl
theorem t5 (F : Fns) (N : Nat) (s : List UInt8) : runOf F 5 N [.str s] [] =
 bif decide ((s.length : Int) > 8192) then zRe (F 8 [] []) fun v bs => zBo v fun b => zNi bs (some (AV.bool b, [])) else zRe (F 15 [AV.str s] []) fun v bs => zTC v fun v r => asSl v fun m fl xs => zCo r fun v r => zIn .i64 v fun n => zNi r (zNi bs (zRe (F 16 [AV.str s] []) fun v bs => zTC v fun v r => asSl v fun m_1 fl_1 xs_1 => zCo r fun v r => zSt v fun s_1 => zCo r fun v r => zIn .i64 v fun n_1 => zNi r (zNi bs (bif n_1 == 0 then bif s_1 == [] then loopA (zBy F 5 0 N) (zDe 5 0) (zCt F 5 0 N 0) N { nt := 94, t := [(0, AV.str s), (2, AV.bool false), (3, AV.sl m fl xs), (4, AV.int .i64 n), (5, AV.sl m_1 fl_1 xs_1), (6, AV.str s_1), (7, AV.int .i64 n_1), (8, AV.bool (decide ((xs_1.length : Int) ≤ 4))), (9, AV.int .i64 0), (14, AV.bool (decide ((s.length : Int) > 8192)))], b := [], r := [], g := [], rd := [], wr := [] } else loopA (zBy F 5 0 N) (zDe 5 0) (zCt F 5 0 N 0) N { nt := 94, t := [(0, AV.str s), (2, AV.bool false), (3, AV.sl m fl xs), (4, AV.int .i64 n), (5, AV.sl m_1 fl_1 xs_1), (6, AV.str s_1), (7, AV.int .i64 n_1), (8, AV.bool false), (9, AV.int .i64 0), (14, AV.bool (decide ((s.length : Int) > 8192)))], b := [], r := [], g := [], rd := [], wr := [] } else loopA (zBy F 5 0 N) (zDe 5 0) (zCt F 5 0 N 0) N { nt := 94, t := [(0, AV.str s), (2, AV.bool false), (3, AV.sl m fl xs), (4, AV.int .i64 n), (5, AV.sl m_1 fl_1 xs_1), (6, AV.str s_1), (7, AV.int .i64 n_1), (8, AV.bool false), (9, AV.int .i64 0), (14, AV.bool (decide ((s.length : Int) > 8192)))], b := [], r := [], g := [], rd := [], wr := [] })))) := by kernel_rfl
def e5S (s : List UInt8) (tx : List (List UInt8)) (v : AV) (i : Int) : St := ⟨48, [(0, .str s), (2, .sl 0 true []), (3, .int .i64 0), (4, ssV tx), (5, .str []), (6, .int .i64 0), (7, v), (28, .bool false), (29, ssV tx), (30, .int .i64 ((List.length (List.map AV.str tx) : Nat) : Int)), (31, .int .i64 i)], [], [], [], [], []⟩
theorem b15a (F : Fns) (N : Nat) (s : List UInt8) (tx : List (List UInt8)) (i : Int) (KN : St → Res) : zBy F 15 0 N (e5S s tx (.sl 0 true []) i) (brk (zCt F 15 0 N 0) KN) =
 bif decide (i < ((List.length (List.map AV.str tx) : Nat) : Int)) then bif decide (0 ≤ i) then zOp (List.map AV.str tx)[Int.toNat i]? fun x => zSt x fun s_1 => zRe (F 11 [AV.str s_1] []) fun v bs => zTC v fun v r => zNd v fun n b b_1 n_1 m fl xs n_2 m_1 fl_1 xs_1 b_2 m_2 fl_2 xs_2 m_3 fl_3 xs_3 n_3 m_4 fl_4 xs_4 m_5 fl_5 xs_5 n_4 n_5 n_6 b_3 m_6 fl_6 xs_6 n_7 m_7 fl_7 xs_7 m_8 fl_8 xs_8 n_8 n_9 n_10 n_11 n_12 => (zCo r fun v r => zIn .i64 v fun n_13 => zNi r (zNi bs (bif n_13 != 0 then some (AV.tup [AV.sl 0 true [], AV.int .i64 3], []) else KN { nt := 48, t := [(0, AV.str s), (2, AV.sl 0 true []), (3, AV.int .i64 0), (4, ssV tx), (5, AV.str []), (6, AV.int .i64 0), (7, AV.tip 45 0 26 [AV.agg [AV.int .i64 n, AV.bool b, AV.bool b_1, AV.int .i64 n_1, AV.sl m fl xs, AV.int .i64 n_2, AV.sl m_1 fl_1 xs_1, AV.bool b_2, AV.sl m_2 fl_2 xs_2, AV.sl m_3 fl_3 xs_3, AV.int .i64 n_3, AV.sl m_4 fl_4 xs_4, AV.sl m_5 fl_5 xs_5, AV.int .i64 n_4, AV.int .i64 n_5, AV.int .i64 n_6, AV.bool b_3, AV.sl m_6 fl_6 xs_6, AV.int .i64 n_7, AV.sl m_7 fl_7 xs_7, AV.sl m_8 fl_8 xs_8, AV.int .i64 n_8, AV.int .i64 n_9, AV.int .i64 n_10, AV.int .i64 n_11, AV.int .i64 n_12]]), (9, AV.str s_1), (10, AV.ptr 10 0 0), (11, AV.int .i64 n_13), (28, AV.bool false), (29, ssV tx), (30, AV.int .i64 ((List.length (List.map AV.str tx) : Nat) : Int)), (31, AV.int .i64 (IntKind.wrap .i64 (i + 1))), (32, AV.bool (decide (i < ((List.length (List.map AV.str tx) : Nat) : Int)))), (41, AV.bool (n_13 != 0))], b := [(10, [AV.int .i64 n, AV.bool b, AV.bool b_1, AV.int .i64 n_1, AV.sl m fl xs, AV.int .i64 n_2, AV.sl m_1 fl_1 xs_1, AV.bool b_2, AV.sl m_2 fl_2 xs_2, AV.sl m_3 fl_3 xs_3, AV.int .i64 n_3, AV.sl m_4 fl_4 xs_4, AV.sl m_5 fl_5 xs_5, AV.int .i64 n_4, AV.int .i64 n_5, AV.int .i64 n_6, AV.bool b_3, AV.sl m_6 fl_6 xs_6, AV.int .i64 n_7, AV.sl m_7 fl_7 xs_7, AV.sl m_8 fl_8 xs_8, AV.int .i64 n_8, AV.int .i64 n_9, AV.int .i64 n_10, AV.int .i64 n_11, AV.int .i64 n_12])], r := [], g := [], rd := [], wr := [] }))) else none else some (AV.tup [AV.sl 0 true [], AV.int .i64 0], []) := by kernel_rfl
theorem b15 (F : Fns) (N : Nat) (s : List UInt8) (tx : List (List UInt8)) (ys : List AV) (i : Int) (KN : St → Res) : zBy F 15 0 N (e5S s tx (.tip 45 0 26 ys) i) (brk (zCt F 15 0 N 0) KN) =
 bif decide (i < ((List.length (List.map AV.str tx) : Nat) : Int)) then bif decide (0 ≤ i) then zOp (List.map AV.str tx)[Int.toNat i]? fun x => zSt x fun s_1 => zRe (F 11 [AV.str s_1] []) fun v bs => zTC v fun v r => zNd v fun n b b_1 n_1 m fl xs n_2 m_1 fl_1 xs_1 b_2 m_2 fl_2 xs_2 m_3 fl_3 xs_3 n_3 m_4 fl_4 xs_4 m_5 fl_5 xs_5 n_4 n_5 n_6 b_3 m_6 fl_6 xs_6 n_7 m_7 fl_7 xs_7 m_8 fl_8 xs_8 n_8 n_9 n_10 n_11 n_12 => (zCo r fun v r => zIn .i64 v fun n_13 => zNi r (zNi bs (bif n_13 != 0 then some (AV.tup [AV.sl 0 true [], AV.int .i64 3], []) else bif decide (26 = 26 ∧ fitsB (List.length ys + List.length [AV.agg [AV.int .i64 n, AV.bool b, AV.bool b_1, AV.int .i64 n_1, AV.sl m fl xs, AV.int .i64 n_2, AV.sl m_1 fl_1 xs_1, AV.bool b_2, AV.sl m_2 fl_2 xs_2, AV.sl m_3 fl_3 xs_3, AV.int .i64 n_3, AV.sl m_4 fl_4 xs_4, AV.sl m_5 fl_5 xs_5, AV.int .i64 n_4, AV.int .i64 n_5, AV.int .i64 n_6, AV.bool b_3, AV.sl m_6 fl_6 xs_6, AV.int .i64 n_7, AV.sl m_7 fl_7 xs_7, AV.sl m_8 fl_8 xs_8, AV.int .i64 n_8, AV.int .i64 n_9, AV.int .i64 n_10, AV.int .i64 n_11, AV.int .i64 n_12]]) 344 = true ∧ List.length ys + List.length [AV.agg [AV.int .i64 n, AV.bool b, AV.bool b_1, AV.int .i64 n_1, AV.sl m fl xs, AV.int .i64 n_2, AV.sl m_1 fl_1 xs_1, AV.bool b_2, AV.sl m_2 fl_2 xs_2, AV.sl m_3 fl_3 xs_3, AV.int .i64 n_3, AV.sl m_4 fl_4 xs_4, AV.sl m_5 fl_5 xs_5, AV.int .i64 n_4, AV.int .i64 n_5, AV.int .i64 n_6, AV.bool b_3, AV.sl m_6 fl_6 xs_6, AV.int .i64 n_7, AV.sl m_7 fl_7 xs_7, AV.sl m_8 fl_8 xs_8, AV.int .i64 n_8, AV.int .i64 n_9, AV.int .i64 n_10, AV.int .i64 n_11, AV.int .i64 n_12]] ≤ 4611686018427387904) then KN { nt := 48, t := [(0, AV.str s), (2, AV.sl 0 true []), (3, AV.int .i64 0), (4, ssV tx), (5, AV.str []), (6, AV.int .i64 0), (7, AV.tip 45 0 26 (ys ++ [AV.agg [AV.int .i64 n, AV.bool b, AV.bool b_1, AV.int .i64 n_1, AV.sl m fl xs, AV.int .i64 n_2, AV.sl m_1 fl_1 xs_1, AV.bool b_2, AV.sl m_2 fl_2 xs_2, AV.sl m_3 fl_3 xs_3, AV.int .i64 n_3, AV.sl m_4 fl_4 xs_4, AV.sl m_5 fl_5 xs_5, AV.int .i64 n_4, AV.int .i64 n_5, AV.int .i64 n_6, AV.bool b_3, AV.sl m_6 fl_6 xs_6, AV.int .i64 n_7, AV.sl m_7 fl_7 xs_7, AV.sl m_8 fl_8 xs_8, AV.int .i64 n_8, AV.int .i64 n_9, AV.int .i64 n_10, AV.int .i64 n_11, AV.int .i64 n_12]])), (9, AV.str s_1), (10, AV.ptr 10 0 0), (11, AV.int .i64 n_13), (28, AV.bool false), (29, ssV tx), (30, AV.int .i64 ((List.length (List.map AV.str tx) : Nat) : Int)), (31, AV.int .i64 (IntKind.wrap .i64 (i + 1))), (32, AV.bool (decide (i < ((List.length (List.map AV.str tx) : Nat) : Int)))), (41, AV.bool (n_13 != 0))], b := [(10, [AV.int .i64 n, AV.bool b, AV.bool b_1, AV.int .i64 n_1, AV.sl m fl xs, AV.int .i64 n_2, AV.sl m_1 fl_1 xs_1, AV.bool b_2, AV.sl m_2 fl_2 xs_2, AV.sl m_3 fl_3 xs_3, AV.int .i64 n_3, AV.sl m_4 fl_4 xs_4, AV.sl m_5 fl_5 xs_5, AV.int .i64 n_4, AV.int .i64 n_5, AV.int .i64 n_6, AV.bool b_3, AV.sl m_6 fl_6 xs_6, AV.int .i64 n_7, AV.sl m_7 fl_7 xs_7, AV.sl m_8 fl_8 xs_8, AV.int .i64 n_8, AV.int .i64 n_9, AV.int .i64 n_10, AV.int .i64 n_11, AV.int .i64 n_12])], r := [], g := [], rd := [], wr := [] } else none))) else none else some (AV.tup [AV.sl 26 false ys, AV.int .i64 0], []) := by kernel_rfl
def h5S (s : List UInt8) (ns : List Nd) (e : Int) (tx : List (List UInt8)) (u : List UInt8) (f : Int) (b : Bool) (i : Int) : St := ⟨94, [(0, .str s), (2, .bool false), (3, ndsV ns), (4, .int .i64 e), (5, ssV tx), (6, .str u), (7, .int .i64 f), (8, .bool b), (9, .int .i64 i), (14, .bool false)], [], [], [], [], []⟩
theorem b5 (F : Fns) (N : Nat) (s : List UInt8) (ns : List Nd) (e : Int) (tx : List (List UInt8)) (u : List UInt8) (f : Int) (b : Bool) (i : Int) (KN : St → Res) : zBy F 5 0 N (h5S s ns e tx u f b i) (brk (zCt F 5 0 N 0) KN) =
 bif decide (i < ((List.length (List.map AV.str tx) : Nat) : Int)) then bif b then bif decide (0 ≤ i) then zOp (List.map AV.str tx)[Int.toNat i]? fun x => zSt x fun s_1 => zRe (F 14 [AV.str s_1] []) fun v bs => zTC v fun v r => zNd v fun n b_1 b_2 n_1 m fl xs n_2 m_1 fl_1 xs_1 b_3 m_2 fl_2 xs_2 m_3 fl_3 xs_3 n_3 m_4 fl_4 xs_4 m_5 fl_5 xs_5 n_4 n_5 n_6 b_4 m_6 fl_6 xs_6 n_7 m_7 fl_7 xs_7 m_8 fl_8 xs_8 n_8 n_9 n_10 n_11 n_12 => (zCo r fun v r => zBo v fun b_5 => zNi r (zNi bs (bif b_5 then bif decide (i < ((List.length (List.map ndV ns) : Nat) : Int)) then bif decide (0 ≤ i) then zOp (List.map ndV ns)[Int.toNat i]? fun x => zNd x fun n_13 b_6 b_7 n_14 m_9 fl_9 xs_9 n_15 m_10 fl_10 xs_10 b_8 m_11 fl_11 xs_11 m_12 fl_12 xs_12 n_16 m_13 fl_13 xs_13 m_14 fl_14 xs_14 n_17 n_18 n_19 b_9 m_15 fl_15 xs_15 n_20 m_16 fl_16 xs_16 m_17 fl_17 xs_17 n_21 n_22 n_23 n_24 n_25 => (zRe (F 13 [AV.agg [AV.int .i64 n_13, AV.bool b_6, AV.bool b_7, AV.int .i64 n_14, AV.sl m_9 fl_9 xs_9, AV.int .i64 n_15, AV.sl m_10 fl_10 xs_10, AV.bool b_8, AV.sl m_11 fl_11 xs_11, AV.sl m_12 fl_12 xs_12, AV.int .i64 n_16, AV.sl m_13 fl_13 xs_13, AV.sl m_14 fl_14 xs_14, AV.int .i64 n_17, AV.int .i64 n_18, AV.int .i64 n_19, AV.bool b_9, AV.sl m_15 fl_15 xs_15, AV.int .i64 n_20, AV.sl m_16 fl_16 xs_16, AV.sl m_17 fl_17 xs_17, AV.int .i64 n_21, AV.int .i64 n_22, AV.int .i64 n_23, AV.int .i64 n_24, AV.int .i64 n_25], AV.agg [AV.int .i64 n, AV.bool b_1, AV.bool b_2, AV.int .i64 n_1, AV.sl m fl xs, AV.int .i64 n_2, AV.sl m_1 fl_1 xs_1, AV.bool b_3, AV.sl m_2 fl_2 xs_2, AV.sl m_3 fl_3 xs_3, AV.int .i64 n_3, AV.sl m_4 fl_4 xs_4, AV.sl m_5 fl_5 xs_5, AV.int .i64 n_4, AV.int .i64 n_5, AV.int .i64 n_6, AV.bool b_4, AV.sl m_6 fl_6 xs_6, AV.int .i64 n_7, AV.sl m_7 fl_7 xs_7, AV.sl m_8 fl_8 xs_8, AV.int .i64 n_8, AV.int .i64 n_9, AV.int .i64 n_10, AV.int .i64 n_11, AV.int .i64 n_12]] []) fun v bs => zBo v fun b_10 => zNi bs (KN { nt := 94, t := [(0, AV.str s), (2, AV.bool false), (3, ndsV ns), (4, AV.int .i64 e), (5, ssV tx), (6, AV.str u), (7, AV.int .i64 f), (8, AV.bool b_10), (9, AV.int .i64 (IntKind.wrap .i64 (i + 1))), (10, AV.ptr 10 0 0), (11, AV.bool b_5), (14, AV.bool false), (44, AV.bool b)], b := [(10, [AV.int .i64 n, AV.bool b_1, AV.bool b_2, AV.int .i64 n_1, AV.sl m fl xs, AV.int .i64 n_2, AV.sl m_1 fl_1 xs_1, AV.bool b_3, AV.sl m_2 fl_2 xs_2, AV.sl m_3 fl_3 xs_3, AV.int .i64 n_3, AV.sl m_4 fl_4 xs_4, AV.sl m_5 fl_5 xs_5, AV.int .i64 n_4, AV.int .i64 n_5, AV.int .i64 n_6, AV.bool b_4, AV.sl m_6 fl_6 xs_6, AV.int .i64 n_7, AV.sl m_7 fl_7 xs_7, AV.sl m_8 fl_8 xs_8, AV.int .i64 n_8, AV.int .i64 n_9, AV.int .i64 n_10, AV.int .i64 n_11, AV.int .i64 n_12])], r := [], g := [], rd := [], wr := [] })) else none else KN { nt := 94, t := [(0, AV.str s), (2, AV.bool false), (3, ndsV ns), (4, AV.int .i64 e), (5, ssV tx), (6, AV.str u), (7, AV.int .i64 f), (8, AV.bool false), (9, AV.int .i64 (IntKind.wrap .i64 (i + 1))), (10, AV.ptr 10 0 0), (11, AV.bool b_5), (14, AV.bool false), (44, AV.bool b)], b := [(10, [AV.int .i64 n, AV.bool b_1, AV.bool b_2, AV.int .i64 n_1, AV.sl m fl xs, AV.int .i64 n_2, AV.sl m_1 fl_1 xs_1, AV.bool b_3, AV.sl m_2 fl_2 xs_2, AV.sl m_3 fl_3 xs_3, AV.int .i64 n_3, AV.sl m_4 fl_4 xs_4, AV.sl m_5 fl_5 xs_5, AV.int .i64 n_4, AV.int .i64 n_5, AV.int .i64 n_6, AV.bool b_4, AV.sl m_6 fl_6 xs_6, AV.int .i64 n_7, AV.sl m_7 fl_7 xs_7, AV.sl m_8 fl_8 xs_8, AV.int .i64 n_8, AV.int .i64 n_9, AV.int .i64 n_10, AV.int .i64 n_11, AV.int .i64 n_12])], r := [], g := [], rd := [], wr := [] } else KN { nt := 94, t := [(0, AV.str s), (2, AV.bool false), (3, ndsV ns), (4, AV.int .i64 e), (5, ssV tx), (6, AV.str u), (7, AV.int .i64 f), (8, AV.bool false), (9, AV.int .i64 (IntKind.wrap .i64 (i + 1))), (10, AV.ptr 10 0 0), (11, AV.bool b_5), (14, AV.bool false), (44, AV.bool b)], b := [(10, [AV.int .i64 n, AV.bool b_1, AV.bool b_2, AV.int .i64 n_1, AV.sl m fl xs, AV.int .i64 n_2, AV.sl m_1 fl_1 xs_1, AV.bool b_3, AV.sl m_2 fl_2 xs_2, AV.sl m_3 fl_3 xs_3, AV.int .i64 n_3, AV.sl m_4 fl_4 xs_4, AV.sl m_5 fl_5 xs_5, AV.int .i64 n_4, AV.int .i64 n_5, AV.int .i64 n_6, AV.bool b_4, AV.sl m_6 fl_6 xs_6, AV.int .i64 n_7, AV.sl m_7 fl_7 xs_7, AV.sl m_8 fl_8 xs_8, AV.int .i64 n_8, AV.int .i64 n_9, AV.int .i64 n_10, AV.int .i64 n_11, AV.int .i64 n_12])], r := [], g := [], rd := [], wr := [] }))) else none else bif !b then bif ((List.length (List.map ndV ns) : Nat) : Int) == 0 then bif e == 3 then zRe (F 8 [] []) fun v bs => zBo v fun b => zNi bs (some (AV.bool b, [])) else some (AV.bool false, []) else some (AV.bool false, []) else bif ((List.length (List.map ndV ns) : Nat) : Int) == ((List.length (List.map AV.str tx) : Nat) : Int) then bif e == 0 then zRe (F 8 [] []) fun v bs => zBo v fun b => zNi bs (some (AV.bool b, [])) else some (AV.bool false, []) else some (AV.bool false, []) else bif !b then bif ((List.length (List.map ndV ns) : Nat) : Int) == 0 then bif e == 3 then zRe (F 8 [] []) fun v bs => zBo v fun b => zNi bs (some (AV.bool b, [])) else some (AV.bool false, []) else some (AV.bool false, []) else bif ((List.length (List.map ndV ns) : Nat) : Int) == ((List.length (List.map AV.str tx) : Nat) : Int) then bif e == 0 then zRe (F 8 [] []) fun v bs => zBo v fun b => zNi bs (some (AV.bool b, [])) else some (AV.bool false, []) else some (AV.bool false, []) := by kernel_rfl
def AllB : List (List UInt8) → List Nd → Prop
 | [], [] => True
 | s :: r, n :: ns => IsB s n ∧ AllB r ns
 | [], _ :: _ => False
 | _ :: _, [] => False
theorem allB_len : ∀ (tx : List (List UInt8)) (ns : List Nd), AllB tx ns → ns.length = tx.length
 | [], [], _ => rfl
 | s :: r, n :: ns, h => by rw [List.length_cons, List.length_cons, allB_len r ns h.2]
 | [], _ :: _, h => h.elim
 | _ :: _, [], h => h.elim
theorem allB_get : ∀ (tx : List (List UInt8)) (ns : List Nd), AllB tx ns → ∀ (i : Nat) (h : i < tx.length) (h' : i < ns.length), IsB tx[i] ns[i]
 | [], [], _, i, h, h' => absurd h (by simp)
 | s :: r, n :: ns, h, 0, h1, h2 => h.1
 | s :: r, n :: ns, h, i + 1, h1, h2 => allB_get r ns h.2 i (by simpa using h1) (by simpa using h2)
 | [], _ :: _, h, _, _, _ => h.elim
 | _ :: _, [], h, _, _, _ => h.elim
theorem takeT_short {s a t : List UInt8} (h : takeT s = some (a, t)) : a.length ≤ 65535 := by
 unfold takeT at h
 split at h
 ·simp at h
 ·rename_i m u h5
  split at h
  ·simp at h
  ·simp only [Option.some.injEq, Prod.mk.injEq] at h
   have := (num_lt h5).1
   rw [← h.1, List.length_take]
   omega
theorem txts_short : ∀ (n : Nat) (s : List UInt8) (l : List (List UInt8)) (t : List UInt8), txts n s = some (l, t) → ∀ x ∈ l, x.length ≤ 65535
 | 0, s, l, t, h => by
  simp only [txts, Option.some.injEq, Prod.mk.injEq] at h
  rw [← h.1]
  simp
 | n + 1, s, l, t, h => by
  simp only [txts] at h
  split at h
  ·simp at h
  ·rename_i a s1 h1
   split at h
   ·simp at h
   ·rename_i l2 s2 h2
    simp only [Option.some.injEq, Prod.mk.injEq] at h
    rw [← h.1]
    intro x hx
    rcases List.mem_cons.1 hx with rfl | hx
    ·exact takeT_short h1
    ·exact txts_short n s1 l2 s2 h2 x hx
theorem items_short {s : List UInt8} {l : List (List UInt8)} {t : List UInt8} (h : items s = some (l, t)) : ∀ x ∈ l, x.length ≤ 65535 := by
 unfold items at h
 split at h
 ·simp at h
 ·exact txts_short _ _ _ _ h
theorem getNd (l : List Nd) (i : Nat) (h : i < l.length) : (l.map ndV)[Int.toNat (i : Int)]? = some (.agg (ndL l[i])) := getM ndV l i h
theorem getTx (l : List (List UInt8)) (i : Nat) (h : i < l.length) : (l.map AV.str)[Int.toNat (i : Int)]? = some (.str l[i]) := getM AV.str l i h
def OutE (tx : List (List UInt8)) (acc : List Nd) (X : Res) : Prop := (∃ ns, AllB (tx.drop acc.length) ns ∧ X = some (.tup [gsV 26 ((acc ++ ns).map ndV), .int .i64 0], [])) ∨ ((∀ ns, ¬ AllB (tx.drop acc.length) ns) ∧ X = some (.tup [.sl 0 true [], .int .i64 3], []))
theorem outE_ex (tx : List (List UInt8)) (acc : List Nd) : ∃ X, OutE tx acc X := by
 by_cases h : ∃ ns, AllB (tx.drop acc.length) ns
 ·obtain ⟨ns, h⟩ := h
  exact ⟨_, .inl ⟨ns, h, rfl⟩⟩
 ·exact ⟨_, .inr ⟨fun ns hn => h ⟨ns, hn⟩, rfl⟩⟩
theorem outE_step {tx : List (List UInt8)} {acc : List Nd} {X : Res} (hi : acc.length < tx.length) {n : Nd} (hn : IsB tx[acc.length] n) (h : OutE tx acc X) : OutE tx (acc ++ [n]) X := by
 unfold OutE at h ⊢
 rw [List.drop_eq_getElem_cons hi] at h
 rw [List.length_append, List.length_singleton]
 rcases h with ⟨ns, h1, h2⟩ | ⟨h1, h2⟩
 ·cases ns with
  | nil => exact h1.elim
  | cons m r =>
   obtain rfl := isB_one h1.1 hn
   refine .inl ⟨r, h1.2, ?_⟩
   rw [h2, List.append_assoc, List.singleton_append]
 ·exact .inr ⟨fun ns hb => h1 (n :: ns) ⟨hn, hb⟩, h2⟩
theorem outE_bad {tx : List (List UInt8)} {acc : List Nd} {X : Res} (hi : acc.length < tx.length) (hn : ∀ n, ¬ IsB tx[acc.length] n) (h : OutE tx acc X) : X = some (.tup [.sl 0 true [], .int .i64 3], []) := by
 unfold OutE at h
 rw [List.drop_eq_getElem_cons hi] at h
 rcases h with ⟨ns, h1, h2⟩ | ⟨h1, h2⟩
 ·cases ns with
  | nil => exact h1.elim
  | cons m r => exact absurd h1.1 (hn m)
 ·exact h2
theorem outE_end {tx : List (List UInt8)} {acc : List Nd} {X : Res} (hi : ¬ acc.length < tx.length) (h : OutE tx acc X) : X = some (.tup [gsV 26 (acc.map ndV), .int .i64 0], []) := by
 unfold OutE at h
 rw [List.drop_eq_nil_of_le (by omega)] at h
 rcases h with ⟨ns, h1, h2⟩ | ⟨h1, h2⟩
 ·cases ns with
  | nil => rw [h2, List.append_nil]
  | cons m r => exact h1.elim
 ·exact absurd (show AllB [] [] from trivial) (h1 [])
theorem each15 (k : Nat) (hk : 70800 ≤ k) (s : List UInt8) (tx : List (List UInt8)) (hn : tx.length ≤ 4) (hx : ∀ x ∈ tx, x.length ≤ 65535) (X : Res) (hX : OutE tx [] X) (st : St) (hst : st.clean (zDe 15 0) = e5S s tx (.sl 0 true []) (0 : Nat)) : loopA (zBy (W k) 15 0 k) (zDe 15 0) (zCt (W k) 15 0 k 0) k st = X := by
 refine loopA_ind (fun a : List Nd => e5S s tx (gtV 45 26 (a.map ndV)) a.length) (fun a => tx.length - a.length) (fun a r => a.length ≤ tx.length → OutE tx a X → r = X) (fun acc m ih h0 hO => ?_) k [] st (by simp; omega) hst (by simp) hX
 have hw := wi (n := acc.length) (by omega)
 have hgo : ∀ (n : Nd) (st : St) (hi : acc.length < tx.length), IsB tx[acc.length] n → st.clean (zDe 15 0) = e5S s tx (gtV 45 26 (acc.map ndV ++ [ndV n])) ((acc.length + 1 : Nat) : Int) → loopA (zBy (W k) 15 0 k) (zDe 15 0) (zCt (W k) 15 0 k 0) m st = X := by
  intro n st hi hb hst
  exact ih (acc ++ [n]) st (by simp; omega) (by rw [List.map_append, List.length_append]; exact hst) (by simp; omega) (outE_step hi hb hO)
 cases acc with
 | nil =>
  rw [List.map_nil, gtV, b15a]
  by_cases hi : ([] : List Nd).length < tx.length
  ·have hl := hx _ (List.getElem_mem hi)
   refine qY (decide_eq_true (by rw [List.length_map]; exact_mod_cast hi)) ?_
   refine qY (decide_eq_true (by first | omega | (simp only [List.length_append, List.length_cons, List.length_nil, List.length_map]; omega))) ?_
   refine qP (getTx tx _ hi) ?_
   repeat with_reducible first|apply qT|apply qC|apply qN|apply qS|apply qB|apply qI|apply qA|apply qL
   rcases x11d k (by omega) _ (show tx[([] : List Nd).length].length ≤ 240000 by omega) with ⟨n, hb, h1⟩ | ⟨hb, h1⟩
   ·refine qO h1 ?_
    repeat with_reducible first|apply qT|apply qC|apply qN|apply qS|apply qB|apply qI|apply qA|apply qL
    refine qX rfl ?_
    rw [hw]
    exact hgo n _ hi hb (by kernel_rfl)
   ·refine qO h1 ?_
    repeat with_reducible first|apply qT|apply qC|apply qN|apply qS|apply qB|apply qI|apply qA|apply qL
    refine qY rfl ?_
    exact (outE_bad hi hb hO).symm
  ·refine qX (decide_eq_false (by rw [List.length_map]; exact_mod_cast hi)) ?_
   exact (outE_end hi hO).symm
 | cons y z =>
  rw [List.map_cons, gtV, b15]
  by_cases hi : (y :: z).length < tx.length
  ·have hl := hx _ (List.getElem_mem hi)
   refine qY (decide_eq_true (by rw [List.length_map]; exact_mod_cast hi)) ?_
   refine qY (decide_eq_true (by first | omega | (simp only [List.length_append, List.length_cons, List.length_nil, List.length_map]; omega))) ?_
   refine qP (getTx tx _ hi) ?_
   repeat with_reducible first|apply qT|apply qC|apply qN|apply qS|apply qB|apply qI|apply qA|apply qL
   rcases x11d k (by omega) _ (show tx[(y :: z).length].length ≤ 240000 by omega) with ⟨n, hb, h1⟩ | ⟨hb, h1⟩
   ·refine qO h1 ?_
    repeat with_reducible first|apply qT|apply qC|apply qN|apply qS|apply qB|apply qI|apply qA|apply qL
    refine qX rfl ?_
    have hi2 := hi
    simp only [List.length_cons] at hi2
    refine qY (decide_eq_true (by refine ⟨by first | rfl | exact .inr rfl, fitsB_small ?_, ?_⟩ <;> simp only [ofBytes, List.length_map, List.length_append, List.length_cons, List.length_nil] <;> omega)) ?_
    rw [hw]
    exact hgo n _ hi hb (by kernel_rfl)
   ·refine qO h1 ?_
    repeat with_reducible first|apply qT|apply qC|apply qN|apply qS|apply qB|apply qI|apply qA|apply qL
    refine qY rfl ?_
    exact (outE_bad hi hb hO).symm
  ·refine qX (decide_eq_false (by rw [List.length_map]; exact_mod_cast hi)) ?_
   exact (outE_end hi hO).symm
def EachB (s : List UInt8) (ns : List Nd) : Prop := ∃ tx, items s = some (tx, []) ∧ tx.length ≤ 4 ∧ AllB tx ns
theorem canr15g (ns : List Nd) : cRes (ctR ct 15) (some (.tup [gsV 26 (ns.map ndV), .int .i64 0], [])) = some (.tup [ndsV ns, .int .i64 0], []) := by cases ns <;> exact (by kernel_rfl)
theorem canr15b : cRes (ctR ct 15) (some (.tup [.sl 0 true [], .int .i64 3], [])) = some (.tup [ndsV [], .int .i64 3], []) := (by kernel_rfl)
theorem x15 (k : Nat) (hk : 70900 ≤ k) (s : List UInt8) : (∃ ns, EachB s ns ∧ W k 15 [.str s] [] = some (.tup [ndsV ns, .int .i64 0], [])) ∨ ((∀ ns, ¬ EachB s ns) ∧ W k 15 [.str s] [] = some (.tup [ndsV [], .int .i64 3], [])) := by
 obtain ⟨k, rfl⟩ := succ1 (show 1 ≤ k by omega)
 have h64 := x64 k (by omega) s
 have key : ∀ X Y, runOf (W k) 15 k [.str s] [] = X → cRes (ctR ct 15) X = Y → W (k + 1) 15 [.str s] [] = Y := fun X Y h1 h2 => (W_tree h1 (by kernel_rfl)).trans h2
 cases hx : items s with
 | none =>
  rw [hx] at h64
  refine .inr ⟨fun ns ⟨tx, h1, _⟩ => (by rw [hx] at h1; simp at h1), key _ _ ?_ canr15b⟩
  rw [t15]
  refine qO h64 ?_
  repeat with_reducible first|apply qT|apply qC|apply qN|apply qS|apply qB|apply qI|apply qA|apply qL
  refine qY rfl ?_
  rfl
 | some a =>
  obtain ⟨tx, u⟩ := a
  rw [hx] at h64
  have h64 : W k 64 [.str s] [] = some (.tup [ssV tx, .str u, .int .i64 0], []) := h64
  by_cases hu : u = []
  ·subst hu
   by_cases h4 : tx.length ≤ 4
   ·obtain ⟨X, hX⟩ := outE_ex tx []
    have hrun : runOf (W k) 15 k [.str s] [] = X := by
     rw [t15]
     refine qO h64 ?_
     repeat with_reducible first|apply qT|apply qC|apply qN|apply qS|apply qB|apply qI|apply qA|apply qL
     refine qX rfl ?_
     refine qX rfl ?_
     refine qX (decide_eq_false (by rw [List.length_map]; omega)) ?_
     rw [decide_eq_false (show ¬ (((List.map AV.str tx).length : Nat) : Int) > 4 by rw [List.length_map]; omega)]
     exact each15 k (by omega) s tx h4 (items_short hx) X hX _ (by kernel_rfl)
    rcases hX with ⟨ns, h1, h2⟩ | ⟨h1, h2⟩
    ·refine .inl ⟨ns, ⟨tx, hx, h4, h1⟩, key _ _ hrun ?_⟩
     rw [h2]
     exact canr15g ns
    ·refine .inr ⟨fun ns ⟨tx', e1, e2, e3⟩ => ?_, key _ _ hrun ?_⟩
     ·rw [hx] at e1
      simp only [Option.some.injEq, Prod.mk.injEq, and_true] at e1
      subst e1
      exact h1 ns e3
     ·rw [h2]
      exact canr15b
   ·refine .inr ⟨fun ns ⟨tx', e1, e2, e3⟩ => ?_, key _ _ ?_ canr15b⟩
    ·rw [hx] at e1
     simp only [Option.some.injEq, Prod.mk.injEq, and_true] at e1
     subst e1
     exact h4 e2
    ·rw [t15]
     refine qO h64 ?_
     repeat with_reducible first|apply qT|apply qC|apply qN|apply qS|apply qB|apply qI|apply qA|apply qL
     refine qX rfl ?_
     refine qX rfl ?_
     refine qY (decide_eq_true (by rw [List.length_map]; omega)) ?_
     rfl
  ·refine .inr ⟨fun ns ⟨tx', e1, e2, e3⟩ => ?_, key _ _ ?_ canr15b⟩
   ·rw [hx] at e1
    simp only [Option.some.injEq, Prod.mk.injEq] at e1
    exact hu e1.2
   ·rw [t15]
    refine qO h64 ?_
    repeat with_reducible first|apply qT|apply qC|apply qN|apply qS|apply qB|apply qI|apply qA|apply qL
    refine qX rfl ?_
    refine qY (by simpa using hu) ?_
    rfl
theorem loop5g (k : Nat) (hk : 71100 ≤ k) (s : List UInt8) (ns : List Nd) (tx : List (List UInt8)) (h4 : tx.length ≤ 4) (hx : ∀ x ∈ tx, x.length ≤ 65535) (hb : AllB tx ns) (st : St) (hst : st.clean (zDe 5 0) = h5S s ns 0 tx [] 0 true (0 : Nat)) : loopA (zBy (W k) 5 0 k) (zDe 5 0) (zCt (W k) 5 0 k 0) k st = some (.bool true, []) := by
 have hlen := allB_len tx ns hb
 refine loopA_ind (fun a : Nat => h5S s ns 0 tx [] 0 true a) (fun a => tx.length - a) (fun a r => a ≤ tx.length → r = some (.bool true, [])) (fun i m ih h0 => ?_) k 0 st (by omega) hst (by omega)
 rw [b5]
 by_cases hi : i < tx.length
 ·have hl := hx _ (List.getElem_mem hi)
  have hg := allB_get tx ns hb i hi (by omega)
  refine qY (decide_eq_true (by rw [List.length_map]; omega)) ?_
  refine qY rfl ?_
  refine qY (decide_eq_true (by first | omega | (simp only [List.length_append, List.length_cons, List.length_nil, List.length_map]; omega))) ?_
  refine qP (getTx tx i hi) ?_
  repeat with_reducible first|apply qT|apply qC|apply qN|apply qS|apply qB|apply qI|apply qA|apply qL
  rcases x14d k (by omega) _ (show tx[i].length ≤ 240000 by omega) with ⟨n, hn, h1⟩ | ⟨hn, h1⟩
  ·obtain rfl := isB_one hg hn
   refine qO h1 ?_
   repeat with_reducible first|apply qT|apply qC|apply qN|apply qS|apply qB|apply qI|apply qA|apply qL
   refine qY rfl ?_
   refine qY (decide_eq_true (by rw [List.length_map]; omega)) ?_
   refine qY (decide_eq_true (by first | omega | (simp only [List.length_append, List.length_cons, List.length_nil, List.length_map]; omega))) ?_
   refine qP (getNd ns i (by omega)) ?_
   repeat with_reducible first|apply qT|apply qC|apply qN|apply qS|apply qB|apply qI|apply qA|apply qL
   refine qO (x13s k (by omega) _ (isB_C hn)) ?_
   repeat with_reducible first|apply qT|apply qC|apply qN|apply qS|apply qB|apply qI|apply qA|apply qL
   rw [wi (by omega)]
   exact ih (i + 1) _ (by omega) (by kernel_rfl) (by omega)
  ·exact absurd hg (hn _)
 ·refine qX (decide_eq_false (by rw [List.length_map]; omega)) ?_
  refine qX rfl ?_
  refine qY (by rw [List.length_map, List.length_map, hlen]; simp) ?_
  refine qY rfl ?_
  refine qO (x8 k (by omega)) ?_
  repeat with_reducible first|apply qT|apply qC|apply qN|apply qS|apply qB|apply qI|apply qA|apply qL
  rfl
theorem loop5f (k : Nat) (hk : 71100 ≤ k) (s : List UInt8) (tx : List (List UInt8)) (u : List UInt8) (f : Int) (i : Int) (m : Nat) (st : St) (hm : 1 ≤ m) (hst : st.clean (zDe 5 0) = h5S s [] 3 tx u f false i) : loopA (zBy (W k) 5 0 k) (zDe 5 0) (zCt (W k) 5 0 k 0) m st = some (.bool true, []) := by
 obtain ⟨m, rfl⟩ := succ1 hm
 rw [loopA_succ, hst, b5]
 have htail : (zRe (W k 8 [] []) fun v bs => zBo v fun b => zNi bs (some (AV.bool b, []))) = some (.bool true, []) := by
  refine qO (x8 k (by omega)) ?_
  repeat with_reducible first|apply qT|apply qC|apply qN|apply qS|apply qB|apply qI|apply qA|apply qL
  rfl
 cases decide (i < (((List.map AV.str tx).length : Nat) : Int)) with
 | true =>
  refine qY rfl ?_
  refine qX rfl ?_
  refine qY rfl ?_
  refine qY rfl ?_
  refine qY rfl ?_
  exact htail
 | false =>
  refine qX rfl ?_
  refine qY rfl ?_
  refine qY rfl ?_
  refine qY rfl ?_
  exact htail
theorem loop5b (k : Nat) (hk : 71100 ≤ k) (s : List UInt8) (tx : List (List UInt8)) (hx : ∀ x ∈ tx, x.length ≤ 65535) (hb : ∀ ns, ¬ AllB tx ns) (st : St) (hst : st.clean (zDe 5 0) = h5S s [] 3 tx [] 0 true (0 : Nat)) : loopA (zBy (W k) 5 0 k) (zDe 5 0) (zCt (W k) 5 0 k 0) k st = some (.bool true, []) := by
 have hk2 : ∃ m, k = m + 1 := succ1 (by omega)
 obtain ⟨m, hm⟩ := hk2
 have hgo : ∀ st i, st.clean (zDe 5 0) = h5S s [] 3 tx [] 0 false i → loopA (zBy (W k) 5 0 k) (zDe 5 0) (zCt (W k) 5 0 k 0) m st = some (.bool true, []) := fun st i h => loop5f k hk s tx [] 0 i m st (by omega) h
 cases tx with
 | nil => exact absurd (show AllB [] [] from trivial) (hb [])
 | cons t r =>
  have hi : 0 < (t :: r).length := by simp
  have hl := hx _ (List.getElem_mem hi)
  have e : loopA (zBy (W k) 5 0 k) (zDe 5 0) (zCt (W k) 5 0 k 0) (m + 1) st = some (.bool true, []) := by
   rw [loopA_succ, hst, b5]
   refine qY (decide_eq_true (by rw [List.length_map]; simp only [List.length_cons]; omega)) ?_
   refine qY rfl ?_
   refine qY (decide_eq_true (by first | omega | (simp only [List.length_append, List.length_cons, List.length_nil, List.length_map]; omega))) ?_
   refine qP (getTx (t :: r) 0 hi) ?_
   repeat with_reducible first|apply qT|apply qC|apply qN|apply qS|apply qB|apply qI|apply qA|apply qL
   rcases x14d k (by omega) _ (show (t :: r)[0].length ≤ 240000 by omega) with ⟨n, hn, h1⟩ | ⟨hn, h1⟩
   ·refine qO h1 ?_
    repeat with_reducible first|apply qT|apply qC|apply qN|apply qS|apply qB|apply qI|apply qA|apply qL
    refine qY rfl ?_
    refine qX rfl ?_
    exact hgo _ (IntKind.wrap .i64 (((0 : Nat) : Int) + 1)) (by kernel_rfl)
   ·refine qO h1 ?_
    repeat with_reducible first|apply qT|apply qC|apply qN|apply qS|apply qB|apply qI|apply qA|apply qL
    refine qX rfl ?_
    exact hgo _ (IntKind.wrap .i64 (((0 : Nat) : Int) + 1)) (by kernel_rfl)
  rwa [← hm] at e
theorem bookEach (k : Nat) (hk : 71200 ≤ k) (s : List UInt8) : W k 5 [.str s] [] = some (.bool true, []) := by
 obtain ⟨k, rfl⟩ := succ1 (show 1 ≤ k by omega)
 refine (W_tree0 (t5 (W k) k s) (by kernel_rfl)).trans ?_
 by_cases hl : s.length > 8192
 ·refine qY (decide_eq_true (by omega)) ?_
  refine qO (x8 k (by omega)) ?_
  repeat with_reducible first|apply qT|apply qC|apply qN|apply qS|apply qB|apply qI|apply qA|apply qL
  rfl
 ·refine qX (decide_eq_false (by omega)) ?_
  have h16 := x16 k (by omega) s (by omega)
  have hd : decide ((s.length : Int) > 8192) = false := decide_eq_false (by omega)
  rw [hd]
  rcases x15 k (by omega) s with ⟨ns, ⟨tx, e1, e2, e3⟩, h15⟩ | ⟨hn, h15⟩
  ·rw [e1] at h16
   have h16 : W k 16 [.str s] [] = some (.tup [ssV tx, .str [], .int .i64 0], []) := h16
   refine qO h15 ?_
   repeat with_reducible first|apply qT|apply qC|apply qN|apply qS|apply qB|apply qI|apply qA|apply qL
   refine qO h16 ?_
   repeat with_reducible first|apply qT|apply qC|apply qN|apply qS|apply qB|apply qI|apply qA|apply qL
   refine qY rfl ?_
   refine qY rfl ?_
   rw [decide_eq_true (show (((List.map AV.str tx).length : Nat) : Int) ≤ 4 by rw [List.length_map]; omega)]
   exact loop5g k (by omega) s ns tx e2 (items_short e1) e3 _ (by kernel_rfl)
  ·refine qO h15 ?_
   repeat with_reducible first|apply qT|apply qC|apply qN|apply qS|apply qB|apply qI|apply qA|apply qL
   cases hx : items s with
   | none =>
    rw [hx] at h16
    have h16 : W k 16 [.str s] [] = some (.tup [ssV [], .str [], .int .i64 2], []) := h16
    refine qO h16 ?_
    repeat with_reducible first|apply qT|apply qC|apply qN|apply qS|apply qB|apply qI|apply qA|apply qL
    refine qX rfl ?_
    exact loop5f k (by omega) s [] [] 2 0 k _ (by omega) (by kernel_rfl)
   | some a =>
    obtain ⟨tx, u⟩ := a
    rw [hx] at h16
    have h16 : W k 16 [.str s] [] = some (.tup [ssV tx, .str u, .int .i64 0], []) := h16
    refine qO h16 ?_
    repeat with_reducible first|apply qT|apply qC|apply qN|apply qS|apply qB|apply qI|apply qA|apply qL
    refine qY rfl ?_
    by_cases hu : u = []
    ·subst hu
     refine qY rfl ?_
     by_cases h4 : tx.length ≤ 4
     ·rw [decide_eq_true (show (((List.map AV.str tx).length : Nat) : Int) ≤ 4 by rw [List.length_map]; omega)]
      exact loop5b k (by omega) s tx (items_short hx) (fun ns hb => hn ns ⟨tx, hx, h4, hb⟩) _ (by kernel_rfl)
     ·rw [decide_eq_false (show ¬ (((List.map AV.str tx).length : Nat) : Int) ≤ 4 by rw [List.length_map]; omega)]
      exact loop5f k (by omega) s tx [] 0 0 k _ (by omega) (by kernel_rfl)
    ·refine qX (by simpa using hu) ?_
     exact loop5f k (by omega) s tx u 0 0 k _ (by omega) (by kernel_rfl)
def a7S (l : List Nd) (v : AV) (i : Int) : St := ⟨35, [(0, ndsV l), (2, .str []), (3, .int .i64 0), (4, v), (9, ndsV l), (10, .int .i64 ((List.length (List.map ndV l) : Nat) : Int)), (11, .int .i64 i)], [], [], [], [], []⟩
theorem b17a (F : Fns) (N : Nat) (l : List Nd) (i : Int) (KN : St → Res) : zBy F 17 0 N (a7S l (.sl 0 true []) i) (brk (zCt F 17 0 N 0) KN) =
 bif decide (i < ((List.length (List.map ndV l) : Nat) : Int)) then bif decide (0 ≤ i) then zOp (List.map ndV l)[Int.toNat i]? fun x => zNd x fun n b b_1 n_1 m fl xs n_2 m_1 fl_1 xs_1 b_2 m_2 fl_2 xs_2 m_3 fl_3 xs_3 n_3 m_4 fl_4 xs_4 m_5 fl_5 xs_5 n_4 n_5 n_6 b_3 m_6 fl_6 xs_6 n_7 m_7 fl_7 xs_7 m_8 fl_8 xs_8 n_8 n_9 n_10 n_11 n_12 => (zRe (F 9 [AV.agg [AV.int .i64 n, AV.bool b, AV.bool b_1, AV.int .i64 n_1, AV.sl m fl xs, AV.int .i64 n_2, AV.sl m_1 fl_1 xs_1, AV.bool b_2, AV.sl m_2 fl_2 xs_2, AV.sl m_3 fl_3 xs_3, AV.int .i64 n_3, AV.sl m_4 fl_4 xs_4, AV.sl m_5 fl_5 xs_5, AV.int .i64 n_4, AV.int .i64 n_5, AV.int .i64 n_6, AV.bool b_3, AV.sl m_6 fl_6 xs_6, AV.int .i64 n_7, AV.sl m_7 fl_7 xs_7, AV.sl m_8 fl_8 xs_8, AV.int .i64 n_8, AV.int .i64 n_9, AV.int .i64 n_10, AV.int .i64 n_11, AV.int .i64 n_12]] []) fun v bs => zTC v fun v r => zSt v fun s => zCo r fun v r => zIn .i64 v fun n_13 => zNi r (zNi bs (bif n_13 != 0 then some (AV.tup [AV.str (Array.toList (ByteArray.data { data := #[] })), AV.int .i64 n_13], []) else KN { nt := 35, t := [(0, ndsV l), (2, AV.str []), (3, AV.int .i64 0), (4, AV.tip 26 0 1 [AV.str s]), (6, AV.ptr 6 0 0), (7, AV.str s), (8, AV.int .i64 n_13), (9, ndsV l), (10, AV.int .i64 ((List.length (List.map ndV l) : Nat) : Int)), (11, AV.int .i64 (IntKind.wrap .i64 (i + 1))), (12, AV.bool (decide (i < ((List.length (List.map ndV l) : Nat) : Int)))), (21, AV.bool (n_13 != 0))], b := [(6, [AV.int .i64 n, AV.bool b, AV.bool b_1, AV.int .i64 n_1, AV.sl m fl xs, AV.int .i64 n_2, AV.sl m_1 fl_1 xs_1, AV.bool b_2, AV.sl m_2 fl_2 xs_2, AV.sl m_3 fl_3 xs_3, AV.int .i64 n_3, AV.sl m_4 fl_4 xs_4, AV.sl m_5 fl_5 xs_5, AV.int .i64 n_4, AV.int .i64 n_5, AV.int .i64 n_6, AV.bool b_3, AV.sl m_6 fl_6 xs_6, AV.int .i64 n_7, AV.sl m_7 fl_7 xs_7, AV.sl m_8 fl_8 xs_8, AV.int .i64 n_8, AV.int .i64 n_9, AV.int .i64 n_10, AV.int .i64 n_11, AV.int .i64 n_12])], r := [], g := [], rd := [], wr := [] }))) else none else bif decide (((List.length (List.map ndV l) : Nat) : Int) > 4) then some (AV.tup [AV.str [], AV.int .i64 5], []) else zRe (F 66 [AV.sl 0 true []] []) fun v bs => zTC v fun v r => zSt v fun s => zCo r fun v r => zIn .i64 v fun n => zNi r (zNi bs (some (AV.tup [AV.str s, AV.int .i64 n], []))) := by kernel_rfl
theorem b17 (F : Fns) (N : Nat) (l : List Nd) (ys : List AV) (i : Int) (KN : St → Res) : zBy F 17 0 N (a7S l (.tip 26 0 1 ys) i) (brk (zCt F 17 0 N 0) KN) =
 bif decide (i < ((List.length (List.map ndV l) : Nat) : Int)) then bif decide (0 ≤ i) then zOp (List.map ndV l)[Int.toNat i]? fun x => zNd x fun n b b_1 n_1 m fl xs n_2 m_1 fl_1 xs_1 b_2 m_2 fl_2 xs_2 m_3 fl_3 xs_3 n_3 m_4 fl_4 xs_4 m_5 fl_5 xs_5 n_4 n_5 n_6 b_3 m_6 fl_6 xs_6 n_7 m_7 fl_7 xs_7 m_8 fl_8 xs_8 n_8 n_9 n_10 n_11 n_12 => (zRe (F 9 [AV.agg [AV.int .i64 n, AV.bool b, AV.bool b_1, AV.int .i64 n_1, AV.sl m fl xs, AV.int .i64 n_2, AV.sl m_1 fl_1 xs_1, AV.bool b_2, AV.sl m_2 fl_2 xs_2, AV.sl m_3 fl_3 xs_3, AV.int .i64 n_3, AV.sl m_4 fl_4 xs_4, AV.sl m_5 fl_5 xs_5, AV.int .i64 n_4, AV.int .i64 n_5, AV.int .i64 n_6, AV.bool b_3, AV.sl m_6 fl_6 xs_6, AV.int .i64 n_7, AV.sl m_7 fl_7 xs_7, AV.sl m_8 fl_8 xs_8, AV.int .i64 n_8, AV.int .i64 n_9, AV.int .i64 n_10, AV.int .i64 n_11, AV.int .i64 n_12]] []) fun v bs => zTC v fun v r => zSt v fun s => zCo r fun v r => zIn .i64 v fun n_13 => zNi r (zNi bs (bif n_13 != 0 then some (AV.tup [AV.str (Array.toList (ByteArray.data { data := #[] })), AV.int .i64 n_13], []) else bif decide (1 = 1 ∧ fitsB (List.length ys + List.length [AV.str s]) 16 = true ∧ List.length ys + List.length [AV.str s] ≤ 4611686018427387904) then KN { nt := 35, t := [(0, ndsV l), (2, AV.str []), (3, AV.int .i64 0), (4, AV.tip 26 0 1 (ys ++ [AV.str s])), (6, AV.ptr 6 0 0), (7, AV.str s), (8, AV.int .i64 n_13), (9, ndsV l), (10, AV.int .i64 ((List.length (List.map ndV l) : Nat) : Int)), (11, AV.int .i64 (IntKind.wrap .i64 (i + 1))), (12, AV.bool (decide (i < ((List.length (List.map ndV l) : Nat) : Int)))), (21, AV.bool (n_13 != 0))], b := [(6, [AV.int .i64 n, AV.bool b, AV.bool b_1, AV.int .i64 n_1, AV.sl m fl xs, AV.int .i64 n_2, AV.sl m_1 fl_1 xs_1, AV.bool b_2, AV.sl m_2 fl_2 xs_2, AV.sl m_3 fl_3 xs_3, AV.int .i64 n_3, AV.sl m_4 fl_4 xs_4, AV.sl m_5 fl_5 xs_5, AV.int .i64 n_4, AV.int .i64 n_5, AV.int .i64 n_6, AV.bool b_3, AV.sl m_6 fl_6 xs_6, AV.int .i64 n_7, AV.sl m_7 fl_7 xs_7, AV.sl m_8 fl_8 xs_8, AV.int .i64 n_8, AV.int .i64 n_9, AV.int .i64 n_10, AV.int .i64 n_11, AV.int .i64 n_12])], r := [], g := [], rd := [], wr := [] } else none))) else none else bif decide (((List.length (List.map ndV l) : Nat) : Int) > 4) then some (AV.tup [AV.str [], AV.int .i64 5], []) else zRe (F 66 [AV.sl 1 false ys] []) fun v bs => zTC v fun v r => zSt v fun s => zCo r fun v r => zIn .i64 v fun n => zNi r (zNi bs (some (AV.tup [AV.str s, AV.int .i64 n], []))) := by kernel_rfl
def g6S (l : List Nd) (w i : Int) : St := ⟨141, [(0, ndsV l), (2, .bool false), (3, .int .i64 w), (4, .sl 0 true []), (17, .bool false), (20, .int .i64 ((List.length (List.map ndV l) : Nat) : Int)), (21, .int .i64 i)], [], [], [], [], []⟩
theorem b6 (F : Fns) (N : Nat) (l : List Nd) (w i : Int) (KN : St → Res) : zBy F 6 0 N (g6S l w i) (brk (zCt F 6 0 N 0) KN) =
 bif decide (i < ((List.length (List.map ndV l) : Nat) : Int)) then bif decide (0 ≤ i) then zOp (List.map ndV l)[Int.toNat i]? fun x => zNd x fun n b b_1 n_1 m fl xs n_2 m_1 fl_1 xs_1 b_2 m_2 fl_2 xs_2 m_3 fl_3 xs_3 n_3 m_4 fl_4 xs_4 m_5 fl_5 xs_5 n_4 n_5 n_6 b_3 m_6 fl_6 xs_6 n_7 m_7 fl_7 xs_7 m_8 fl_8 xs_8 n_8 n_9 n_10 n_11 n_12 => (zRe (F 7 [AV.agg [AV.int .i64 n, AV.bool b, AV.bool b_1, AV.int .i64 n_1, AV.sl m fl xs, AV.int .i64 n_2, AV.sl m_1 fl_1 xs_1, AV.bool b_2, AV.sl m_2 fl_2 xs_2, AV.sl m_3 fl_3 xs_3, AV.int .i64 n_3, AV.sl m_4 fl_4 xs_4, AV.sl m_5 fl_5 xs_5, AV.int .i64 n_4, AV.int .i64 n_5, AV.int .i64 n_6, AV.bool b_3, AV.sl m_6 fl_6 xs_6, AV.int .i64 n_7, AV.sl m_7 fl_7 xs_7, AV.sl m_8 fl_8 xs_8, AV.int .i64 n_8, AV.int .i64 n_9, AV.int .i64 n_10, AV.int .i64 n_11, AV.int .i64 n_12]] []) fun v bs => zBo v fun b => zNi bs (bif !b then zRe (F 8 [] []) fun v bs => zBo v fun b => zNi bs (some (AV.bool b, [])) else bif decide (0 ≤ i) then zOp (List.map ndV l)[Int.toNat i]? fun x => zNd x fun n b_4 b_5 n_13 m fl xs n_14 m_9 fl_9 xs_9 b_6 m_10 fl_10 xs_10 m_11 fl_11 xs_11 n_15 m_12 fl_12 xs_12 m_13 fl_13 xs_13 n_16 n_17 n_18 b_7 m_14 fl_14 xs_14 n_19 m_15 fl_15 xs_15 m_16 fl_16 xs_16 n_20 n_21 n_22 n_23 n_24 => (zRe (F 10 [AV.agg [AV.int .i64 n, AV.bool b_4, AV.bool b_5, AV.int .i64 n_13, AV.sl m fl xs, AV.int .i64 n_14, AV.sl m_9 fl_9 xs_9, AV.bool b_6, AV.sl m_10 fl_10 xs_10, AV.sl m_11 fl_11 xs_11, AV.int .i64 n_15, AV.sl m_12 fl_12 xs_12, AV.sl m_13 fl_13 xs_13, AV.int .i64 n_16, AV.int .i64 n_17, AV.int .i64 n_18, AV.bool b_7, AV.sl m_14 fl_14 xs_14, AV.int .i64 n_19, AV.sl m_15 fl_15 xs_15, AV.sl m_16 fl_16 xs_16, AV.int .i64 n_20, AV.int .i64 n_21, AV.int .i64 n_22, AV.int .i64 n_23, AV.int .i64 n_24]] []) fun v bs => zBo v fun b_8 => zNi bs (bif !b_8 then KN { nt := 141, t := [(0, ndsV l), (2, AV.bool false), (3, AV.int .i64 1), (4, AV.sl 0 true []), (5, AV.int .i64 i), (17, AV.bool false), (20, AV.int .i64 ((List.length (List.map ndV l) : Nat) : Int)), (21, AV.int .i64 (IntKind.wrap .i64 (i + 1))), (22, AV.bool (decide (i < ((List.length (List.map ndV l) : Nat) : Int)))), (29, AV.bool !b), (36, AV.bool !b_8)], b := [], r := [], g := [], rd := [], wr := [] } else KN { nt := 141, t := [(0, ndsV l), (2, AV.bool false), (3, AV.int .i64 w), (4, AV.sl 0 true []), (5, AV.int .i64 i), (17, AV.bool false), (20, AV.int .i64 ((List.length (List.map ndV l) : Nat) : Int)), (21, AV.int .i64 (IntKind.wrap .i64 (i + 1))), (22, AV.bool (decide (i < ((List.length (List.map ndV l) : Nat) : Int)))), (29, AV.bool !b), (36, AV.bool !b_8)], b := [], r := [], g := [], rd := [], wr := [] })) else none)) else none else loopA (zBy F 6 1 N) (zDe 6 1) (zCt F 6 1 N 0) N { nt := 141, t := [(0, ndsV l), (2, AV.bool false), (3, AV.int .i64 w), (4, AV.sl 0 true []), (6, AV.int .i64 0), (17, AV.bool false), (20, AV.int .i64 ((List.length (List.map ndV l) : Nat) : Int)), (21, AV.int .i64 i), (22, AV.bool (decide (i < ((List.length (List.map ndV l) : Nat) : Int))))], b := [], r := [], g := [], rd := [], wr := [] } := by kernel_rfl
theorem t17 (F : Fns) (N : Nat) (l : List Nd) : runOf F 17 N [ndsV l] [] =
 loopA (zBy F 17 0 N) (zDe 17 0) (zCt F 17 0 N 0) N { nt := 35, t := [(0, ndsV l), (2, AV.str []), (3, AV.int .i64 0), (4, AV.sl 0 true []), (9, ndsV l), (10, AV.int .i64 ((List.length (List.map ndV l) : Nat) : Int)), (11, AV.int .i64 0)], b := [], r := [], g := [], rd := [], wr := [] } := by kernel_rfl
theorem t6 (F : Fns) (N : Nat) (l : List Nd) : runOf F 6 N [ndsV l] [] =
 bif decide (((List.length (List.map ndV l) : Nat) : Int) > 6) then zRe (F 8 [] []) fun v bs => zBo v fun b => zNi bs (some (AV.bool b, [])) else loopA (zBy F 6 0 N) (zDe 6 0) (zCt F 6 0 N 0) N { nt := 141, t := [(0, ndsV l), (2, AV.bool false), (3, AV.int .i64 0), (4, AV.sl 0 true []), (17, AV.bool (decide (((List.length (List.map ndV l) : Nat) : Int) > 6))), (20, AV.int .i64 ((List.length (List.map ndV l) : Nat) : Int)), (21, AV.int .i64 0)], b := [], r := [], g := [], rd := [], wr := [] } := by kernel_rfl
def allOut (l : List Nd) : List UInt8 × Int := if l.any (fun n => !nodeOk n) then ([], 1) else if l.length > 4 then ([], 5) else listE (l.map nodeB)
theorem x66c (k : Nat) (hk : 66000 ≤ k) (l : List (List UInt8)) (h : l = []) : W k 66 [.sl 0 true []] [] = some (.tup [.str (listE l).1, .int .i64 (listE l).2], []) := by
 subst h
 exact W_arg (x66 k hk []) (by kernel_rfl)
theorem any_take {l : List Nd} {i : Nat} (hi : ¬ i < l.length) (h : (l.take i).any (fun n => !nodeOk n) = false) : l.any (fun n => !nodeOk n) = false := by
 rwa [List.take_of_length_le (by omega)] at h
theorem take_one {α : Type} {l : List α} {i : Nat} (hi : i < l.length) : l.take (i + 1) = l.take i ++ [l[i]] := by
 rw [List.take_add_one, List.getElem?_eq_getElem hi]
 rfl
theorem x17 (k : Nat) (hk : 71000 ≤ k) (l : List Nd) (hl : l.length ≤ 1000) (hB : ∀ n ∈ l, NdB n ∧ n.qs.length ≤ 65535) : W k 17 [ndsV l] [] = some (.tup [.str (allOut l).1, .int .i64 (allOut l).2], []) := by
 obtain ⟨k, rfl⟩ := succ1 (show 1 ≤ k by omega)
 refine (W_tree0 (t17 (W k) k l) (by kernel_rfl)).trans ?_
 refine loopA_ind (fun i : Nat => a7S l (gtV 26 1 (((l.take i).map nodeB).map AV.str)) i) (fun i => l.length - i) (fun i r => i ≤ l.length → (l.take i).any (fun n => !nodeOk n) = false → r = some (.tup [.str (allOut l).1, .int .i64 (allOut l).2], [])) (fun i m ih h0 hO => ?_) k 0 _ (by omega) (by kernel_rfl) (by omega) (by simp)
 have hw := wi (n := i) (by omega)
 have hgo : ∀ (st : St) (hi : i < l.length), nodeOk l[i] = true → st.clean (zDe 17 0) = a7S l (gtV 26 1 (((l.take i).map nodeB).map AV.str ++ [AV.str (nodeB l[i])])) ((i + 1 : Nat) : Int) → loopA (zBy (W k) 17 0 k) (zDe 17 0) (zCt (W k) 17 0 k 0) m st = some (.tup [.str (allOut l).1, .int .i64 (allOut l).2], []) := by
  intro st hi hok hst
  refine ih (i + 1) st (by omega) ?_ (by omega) ?_
  ·rw [take_one hi, List.map_append, List.map_append]
   exact hst
  ·rw [take_one hi, List.any_append, hO]
   simp [hok]
 have hbad : ∀ (hi : i < l.length), nodeOk l[i] = false → allOut l = ([], 1) := by
  intro hi hok
  unfold allOut
  rw [if_pos (List.any_eq_true.2 ⟨l[i], List.getElem_mem hi, by rw [hok]; rfl⟩)]
 have hend : ¬ i < l.length → allOut l = (if l.length > 4 then ([], 5) else listE (l.map nodeB)) := by
  intro hi
  unfold allOut
  rw [if_neg (by rw [any_take hi hO]; simp)]
 have hlen : ((l.take i).map nodeB).length = i := by rw [List.length_map, List.length_take]; omega
 have htk : ¬ i < l.length → (l.take i).map nodeB = l.map nodeB := fun hi => by rw [List.take_of_length_le (by omega)]
 clear ih
 generalize (l.take i).map nodeB = tx at *
 cases tx with
 | nil =>
  rw [List.map_nil, gtV, b17a]
  by_cases hi : i < l.length
  ·obtain ⟨g1, g2⟩ := hB _ (List.getElem_mem hi)
   refine qY (decide_eq_true (by rw [List.length_map]; omega)) ?_
   refine qY (decide_eq_true (by first | omega | (simp only [List.length_append, List.length_cons, List.length_nil, List.length_map]; omega))) ?_
   refine qP (getNd l i hi) ?_
   repeat with_reducible first|apply qT|apply qC|apply qN|apply qS|apply qB|apply qI|apply qA|apply qL
   cases hok : nodeOk l[i] with
   | false =>
    rw [hbad hi hok]
    refine qO (bad9 k (by omega) l[i] g1 hok) ?_
    repeat with_reducible first|apply qT|apply qC|apply qN|apply qS|apply qB|apply qI|apply qA|apply qL
    rfl
   | true =>
    refine qO (x9 k (by omega) l[i] g1 hok g2) ?_
    repeat with_reducible first|apply qT|apply qC|apply qN|apply qS|apply qB|apply qI|apply qA|apply qL
    refine qX rfl ?_
    rw [hw]
    exact hgo _ hi hok (by kernel_rfl)
  ·rw [hend hi]
   refine qX (decide_eq_false (by rw [List.length_map]; omega)) ?_
   by_cases h4 : l.length > 4
   ·refine qY (decide_eq_true (by rw [List.length_map]; omega)) ?_
    rw [if_pos h4]
   ·refine qX (decide_eq_false (by rw [List.length_map]; omega)) ?_
    rw [if_neg h4]
    refine qO (x66c k (by omega) (l.map nodeB) (htk hi).symm) ?_
    repeat with_reducible first|apply qT|apply qC|apply qN|apply qS|apply qB|apply qI|apply qA|apply qL
    rfl
 | cons y z =>
  rw [List.map_cons, gtV, b17]
  by_cases hi : i < l.length
  ·obtain ⟨g1, g2⟩ := hB _ (List.getElem_mem hi)
   refine qY (decide_eq_true (by rw [List.length_map]; omega)) ?_
   refine qY (decide_eq_true (by first | omega | (simp only [List.length_append, List.length_cons, List.length_nil, List.length_map]; omega))) ?_
   refine qP (getNd l i hi) ?_
   repeat with_reducible first|apply qT|apply qC|apply qN|apply qS|apply qB|apply qI|apply qA|apply qL
   cases hok : nodeOk l[i] with
   | false =>
    rw [hbad hi hok]
    refine qO (bad9 k (by omega) l[i] g1 hok) ?_
    repeat with_reducible first|apply qT|apply qC|apply qN|apply qS|apply qB|apply qI|apply qA|apply qL
    rfl
   | true =>
    refine qO (x9 k (by omega) l[i] g1 hok g2) ?_
    repeat with_reducible first|apply qT|apply qC|apply qN|apply qS|apply qB|apply qI|apply qA|apply qL
    refine qX rfl ?_
    simp only [List.length_cons] at hlen
    refine qY (decide_eq_true (by refine ⟨by first | rfl | exact .inr rfl, fitsB_small ?_, ?_⟩ <;> simp only [ofBytes, List.length_map, List.length_append, List.length_cons, List.length_nil] <;> omega)) ?_
    rw [hw]
    exact hgo _ hi hok (by kernel_rfl)
  ·rw [hend hi]
   refine qX (decide_eq_false (by rw [List.length_map]; omega)) ?_
   by_cases h4 : l.length > 4
   ·refine qY (decide_eq_true (by rw [List.length_map]; omega)) ?_
    rw [if_pos h4]
   ·refine qX (decide_eq_false (by rw [List.length_map]; omega)) ?_
    rw [if_neg h4, ← htk hi]
    refine qO (x66 k (by omega) (y :: z)) ?_
    repeat with_reducible first|apply qT|apply qC|apply qN|apply qS|apply qB|apply qI|apply qA|apply qL
    rfl
theorem law_bookEach (avs : List AV) (h : WtArgs Tryz.prog 9 [9] avs) : ∃ k, W k 5 avs [] = some (.bool true, []) := by
 obtain ⟨x, r, rfl, h1, h2⟩ := h
 obtain rfl : r = [] := h2
 obtain ⟨s, rfl, hs⟩ := wt_str h1
 exact ⟨71200, bookEach 71200 (by omega) s⟩
end Go.AM.YtnhfjkckgicidaaGreat
