/- Messages: what is read is what would be written, plain. -/
import Derived.Test.YtnhfjkckgicidaaAmNL
set_option linter.unusedVariables false
set_option linter.unusedSimpArgs false
namespace Go.AM.Ytnhfjkckgicidaa
open Go.AM Go.Proofs Go

theorem num_back {w : Nat} {s : List UInt8} {n : Nat} {t : List UInt8} (h : num w s = some (n, t)) : s = be w n ++ t := by
  obtain ⟨h1, h2, h3⟩ := num_at h
  have hw := (num_suffix h).2
  have hl : (s.take w).length = w := by rw [List.length_take]; omega
  have hb := be_unbe (s.take w)
  rw [hl] at hb
  have hn : n = unbe (s.take w) 0 := by rw [← h2, numN, if_pos h1]
  rw [hn, hb, h3, List.take_append_drop]
theorem brs_back : ∀ (n : Nat) (s : List UInt8) (l : List (Int × Int)) (t : List UInt8), brs n s = some (l, t) → s = l.flatMap brB ++ t
  | 0, s, l, t, h => by
    simp only [brs, Option.some.injEq, Prod.mk.injEq] at h
    obtain ⟨rfl, rfl⟩ := h
    rfl
  | n + 1, s, l, t, h => by
    simp only [brs] at h
    split at h
    · simp at h
    · rename_i e s1 h1
      split at h
      · simp at h
      · rename_i a s2 h2
        split at h
        · simp at h
        · rename_i l' s3 h3
          simp only [Option.some.injEq, Prod.mk.injEq] at h
          obtain ⟨rfl, rfl⟩ := h
          have e1 := num_back h1
          have e2 := num_back h2
          have e3 := brs_back n s2 l' s3 h3
          rw [List.flatMap_cons, brB, be8_nat e (num_lt h1).2, be8_nat a (num_lt h2).2, List.append_assoc, List.append_assoc, ← e3, ← e2, ← e1]
theorem takeL_back {s : List UInt8} {l : List (Int × Int)} {t : List UInt8} (h : takeL s = some (l, t)) : s = putL l ++ t := by
  unfold takeL at h
  split at h
  · simp at h
  · rename_i n s1 h1
    split at h
    · simp at h
    · rename_i l' s2 h2
      split at h
      · simp only [Option.some.injEq, Prod.mk.injEq] at h
        obtain ⟨rfl, rfl⟩ := h
        have e1 := num_back h1
        have e2 := brs_back n s1 l' s2 h2
        have hl := (brs_spec n s1 l' s2 h2).2.1
        have hlt := (num_lt h1).1
        rw [be1 n (by omega)] at e1
        rw [putL, hl, List.cons_append, ← e2, e1]
        rfl
      · simp at h
theorem zs_back : ∀ (n : Nat) (s : List UInt8) (l : List Int) (t : List UInt8), zs n s = some (l, t) → s = l.map byteI ++ t ∧ l.length = n
  | 0, s, l, t, h => by
    simp only [zs, Option.some.injEq, Prod.mk.injEq] at h
    obtain ⟨rfl, rfl⟩ := h
    exact ⟨rfl, rfl⟩
  | n + 1, s, l, t, h => by
    simp only [zs, Option.bind_eq_some_iff, Option.some.injEq, Prod.mk.injEq] at h
    obtain ⟨p, h1, q, h2, rfl, rfl⟩ := h
    obtain ⟨v, s1⟩ := p
    obtain ⟨l', s2⟩ := q
    have e1 := num_back h1
    have hlt := (num_lt h1).1
    obtain ⟨e2, e3⟩ := zs_back n s1 l' s2 h2
    rw [be1 v (by omega)] at e1
    refine ⟨?_, by simp [e3]⟩
    rw [List.map_cons, byteI, Int.toNat_natCast, List.cons_append, ← e2, e1]
    rfl
theorem bt1_back (s : List UInt8) (h : 5 ≤ s.length) : s = btB (bt1 s) ++ s.drop 5 := by
  obtain ⟨a, b, c, d, e, r, hs⟩ := five s 0 (by omega)
  rw [List.drop_zero] at hs
  subst hs
  have hu := be_unbe [b, c, d, e]
  simp only [List.length_cons, List.length_nil] at hu
  have hb : bt1 (a :: b :: c :: d :: e :: r) = (((a.toNat : Nat) : Int), ((unbe [b, c, d, e] 0 : Nat) : Int)) := rfl
  rw [hb, btB, Int.toNat_natCast, Int.toNat_natCast, hu]
  simp
theorem bts_back : ∀ (n : Nat) (s : List UInt8), 5 * n ≤ s.length → s = (bts n s).flatMap btB ++ s.drop (5 * n)
  | 0, s, h => rfl
  | n + 1, s, h => by
    have e1 := bt1_back s (by omega)
    have e2 := bts_back n (s.drop 5) (by rw [List.length_drop]; omega)
    rw [List.drop_drop, show 5 + 5 * n = 5 * (n + 1) by omega] at e2
    rw [bts, List.flatMap_cons, List.append_assoc, ← e2]
    exact e1
theorem parseB_back {s : List UInt8} {l : List (Int × Int)} {t : List UInt8} (h : parseB s = some (l, t)) : s = putB l ++ t ∧ UM l ∧ bOk l = true := by
  unfold parseB at h
  split at h
  · simp at h
  · rename_i n s1 h1
    split at h
    · simp at h
    · rename_i hl
      split at h
      · rename_i hok
        simp only [Option.some.injEq, Prod.mk.injEq] at h
        obtain ⟨rfl, rfl⟩ := h
        have e1 := num_back h1
        have hlt := (num_lt h1).1
        have e2 := bts_back n s1 (by omega)
        rw [be1 n (by omega)] at e1
        refine ⟨?_, bts_um n s1, hok⟩
        rw [putB, bts_length, List.cons_append, ← e2, e1]
        rfl
      · simp at h
theorem takeT_back {s d t : List UInt8} (h : takeT s = some (d, t)) : s = be 2 d.length ++ d ++ t := by
  unfold takeT at h
  split at h
  · simp at h
  · rename_i n s1 h1
    split at h
    · simp at h
    · rename_i hl
      simp only [Option.some.injEq, Prod.mk.injEq] at h
      obtain ⟨rfl, rfl⟩ := h
      have e1 := num_back h1
      have hlen : (s1.take n).length = n := by rw [List.length_take]; omega
      rw [hlen, List.append_assoc, List.take_append_drop, ← e1]
theorem wr1_back {s : List UInt8} {w : Wr} {t : List UInt8} (h : wr1 s = some (w, t)) : s = wrB w ++ t := by
  unfold wr1 at h
  split at h
  · simp at h
  · rename_i v s1 h1
    split at h
    · simp at h
    · rename_i b s2 h2
      split at h
      · simp at h
      · rename_i d s3 h3
        simp only [Option.some.injEq, Prod.mk.injEq] at h
        obtain ⟨rfl, rfl⟩ := h
        have e1 := num_back h1
        have e2 := num_back h2
        have e3 := takeT_back h3
        have l1 := (num_lt h1).1
        have l2 := (num_lt h2).1
        rw [be1 v (by omega)] at e1
        rw [be1 b (by omega)] at e2
        rw [e1, e2, e3, wrB]
        simp
theorem wrs_back : ∀ (n : Nat) (s : List UInt8) (l : List Wr) (t : List UInt8), wrs n s = some (l, t) → s = l.flatMap wrB ++ t
  | 0, s, l, t, h => by
    simp only [wrs, Option.some.injEq, Prod.mk.injEq] at h
    obtain ⟨rfl, rfl⟩ := h
    rfl
  | n + 1, s, l, t, h => by
    simp only [wrs] at h
    split at h
    · simp at h
    · rename_i w s1 h1
      split at h
      · simp at h
      · rename_i l' s2 h2
        simp only [Option.some.injEq, Prod.mk.injEq] at h
        obtain ⟨rfl, rfl⟩ := h
        have e1 := wr1_back h1
        have e2 := wrs_back n s1 l' s2 h2
        rw [List.flatMap_cons, List.append_assoc, ← e2, ← e1]
theorem takeW_back {s : List UInt8} {l : List Wr} {t : List UInt8} (h : takeW s = some (l, t)) : s = putW l ++ t := by
  unfold takeW at h
  split at h
  · simp at h
  · rename_i n s1 h1
    split at h
    · simp at h
    · rename_i l' s2 h2
      split at h
      · simp only [Option.some.injEq, Prod.mk.injEq] at h
        obtain ⟨rfl, rfl⟩ := h
        have e1 := num_back h1
        have e2 := wrs_back n s1 l' s2 h2
        have hl := (wrs_suffix n s1 l' s2 h2).2
        rw [putW, hl, List.append_assoc, ← e2, ← e1]
      · simp at h
theorem parseM_back {s : List UInt8} {m : Ms} (h : parseM s = some m) : okM m = true ∧ mB m = s ∧ UM m.bt := by
  simp only [parseM, Option.bind_eq_some_iff] at h
  obtain ⟨⟨v1, s1⟩, g1, ⟨v2, s2⟩, g2, ⟨l3, s3⟩, g3, ⟨v4, s4⟩, g4, ⟨v5, s5⟩, g5, ⟨v6, s6⟩, g6, ⟨v7, s7⟩, g7, ⟨l8, s8⟩, g8, ⟨v9, s9⟩, g9, ⟨l10, s10⟩, g10, h⟩ := h
  simp only at g2 g3 g4 g5 g6 g7 g8 g9 g10 h
  split at h
  · simp at h
  · rename_i h7
    simp only [Option.bind_eq_some_iff] at h
    obtain ⟨⟨v11, s11⟩, g11, ⟨l12, s12⟩, g12, h⟩ := h
    simp only at g12 h
    simp only [finM, Option.bind_eq_some_iff] at h
    obtain ⟨⟨v13, s13⟩, g13, ⟨v14, s14⟩, g14, ⟨l15, s15⟩, g15, h⟩ := h
    simp only at g14 g15 h
    split at h
    · rename_i hok
      obtain ⟨hs, hok⟩ := hok
      simp only [Option.some.injEq] at h
      obtain ⟨e10, hu, _⟩ := parseB_back g10
      obtain ⟨e12, hl12⟩ := zs_back _ _ _ _ g12
      subst h
      refine ⟨hok, ?_, hu⟩
      have b2 := be8_nat v2 (num_lt g2).2
      have b4 := be8_nat v4 (num_lt g4).2
      have b5 := be8_nat v5 (num_lt g5).2
      have b6 := be8_nat v6 (num_lt g6).2
      have b9 := be8_nat v9 (num_lt g9).2
      have b13 := be8_nat v13 (num_lt g13).2
      have b14 := be8_nat v14 (num_lt g14).2
      have q1 := (num_lt g1).1
      have q11 := (num_lt g11).1
      have e1 := num_back g1
      have e11 := num_back g11
      have e7 := num_back g7
      rw [be1 v1 (by omega)] at e1
      rw [be1 v11 (by omega)] at e11
      rw [be1 v7 (by omega)] at e7
      have hf : fullB ((v7 : Int) == 1) = UInt8.ofNat v7 := by
        have : v7 = 0 ∨ v7 = 1 := by omega
        rcases this with rfl | rfl <;> rfl
      rw [e1, num_back g2, takeL_back g3, num_back g4, num_back g5, num_back g6, e7, takeL_back g8, num_back g9, e10, e11, e12, num_back g13, num_back g14, takeW_back g15, hs, ← hl12, ← b2, ← b4, ← b5, ← b6, ← b9, ← b13, ← b14]
      simp [mB, mBw, szB, hf, byteI, List.append_assoc]
    · simp at h

end Go.AM.Ytnhfjkckgicidaa
