/- A part of the proof: machine and program. -/
import Derived.Test.YtpdifkaeiecdpaaAm24
import Derived.Test.YtpdifkaeiecdpaaAm23
set_option linter.unusedVariables false
set_option maxRecDepth 100000
namespace Go.AM.Ytpdifkaeiecdpaa
open Go.AM Go.Proofs Go
abbrev LL := List (List UInt8)
abbrev V3 := Dk × LL × LL × LL × LL × LL × LL × Int
theorem in0 (N : Nat) (l l2 : List T30) (ks : List Bool) (RC3 : V3 → Option Ret) (s : List UInt8) (i : Int) (z : Dk) (a a1 a2 a3 a4 a5 : LL) (hl : a.length < 4611686018427387904) : ∀ (r j m : Nat) (b : Bool), j + r = a.length → r < m → (b || (a.drop j).any (s == ·)) = true →
    L3_4 N l l2 ks RC3 m (s, 0, ((a.length : Nat) : Int), z, a, a1, a2, a3, a4, a5, b, (j : Int), i) = RC3 (z, a, a1, a2, a3, a4, a5, IntKind.wrap .i64 (i + 1)) := by
  intro r
  induction r with
  | zero =>
    intro j m b hj hm hb
    obtain ⟨m, rfl⟩ : ∃ m', m = m' + 1 := ⟨m - 1, by omega⟩
    rw [u3_4]
    unfold G3_4
    simp only []
    rw [decide_eq_false (by omega)]
    rw [List.drop_eq_nil_of_le (by omega)] at hb
    simp at hb
    subst hb
    rfl
  | succ r ih =>
    intro j m b hj hm hb
    obtain ⟨m, rfl⟩ : ∃ m', m = m' + 1 := ⟨m - 1, by omega⟩
    rw [u3_4]
    unfold G3_4
    simp only []
    have hlt : j < a.length := by omega
    rw [decide_eq_true (by omega), decide_eq_true (show 0 ≤ (j : Int) ∧ (j : Int) < ((a.length : Nat) : Int) by omega)]
    simp only [cond_true, Nat.zero_add, Int.toNat_natCast, List.getElem?_eq_getElem hlt, getO]
    rw [wrap_id0 (by omega) (by omega), show (j : Int) + 1 = ((j + 1 : Nat) : Int) by omega]
    rw [List.drop_eq_getElem_cons hlt, List.any_cons] at hb
    cases b
    · exact ih (j + 1) m _ (by omega) (by omega) (by simpa using hb)
    · exact ih (j + 1) m true (by omega) (by omega) (by simp)
theorem in1 (N : Nat) (l l2 : List T30) (ks : List Bool) (RC3 : V3 → Option Ret) (s : List UInt8) (i : Int) (z : Dk) (a a1 a2 a3 a4 a5 : LL) (hl : a.length < 4611686018427387904) : ∀ (r j m : Nat) (b : Bool), j + r = a.length → r < m → (b || (a.drop j).any (s == ·)) = true →
    L3_100004 N l l2 ks RC3 m (s, 0, i, ((a.length : Nat) : Int), z, a, a1, a2, a3, a4, a5, b, (j : Int)) = RC3 (z, a1, a, a2, a3, a4, a5, IntKind.wrap .i64 (i + 1)) := by
  intro r
  induction r with
  | zero =>
    intro j m b hj hm hb
    obtain ⟨m, rfl⟩ : ∃ m', m = m' + 1 := ⟨m - 1, by omega⟩
    rw [u3_100004]
    unfold G3_100004
    simp only []
    rw [decide_eq_false (by omega)]
    rw [List.drop_eq_nil_of_le (by omega)] at hb
    simp at hb
    subst hb
    rfl
  | succ r ih =>
    intro j m b hj hm hb
    obtain ⟨m, rfl⟩ : ∃ m', m = m' + 1 := ⟨m - 1, by omega⟩
    rw [u3_100004]
    unfold G3_100004
    simp only []
    have hlt : j < a.length := by omega
    rw [decide_eq_true (by omega), decide_eq_true (show 0 ≤ (j : Int) ∧ (j : Int) < ((a.length : Nat) : Int) by omega)]
    simp only [cond_true, Nat.zero_add, Int.toNat_natCast, List.getElem?_eq_getElem hlt, getO]
    rw [wrap_id0 (by omega) (by omega), show (j : Int) + 1 = ((j + 1 : Nat) : Int) by omega]
    rw [List.drop_eq_getElem_cons hlt, List.any_cons] at hb
    cases b
    · exact ih (j + 1) m _ (by omega) (by omega) (by simpa using hb)
    · exact ih (j + 1) m true (by omega) (by omega) (by simp)
theorem in2 (N : Nat) (l l2 : List T30) (ks : List Bool) (RC3 : V3 → Option Ret) (s : List UInt8) (i : Int) (z : Dk) (a a1 a2 a3 a4 a5 : LL) (hl : a.length < 4611686018427387904) : ∀ (r j m : Nat) (b : Bool), j + r = a.length → r < m → (b || (a.drop j).any (s == ·)) = true →
    L3_200004 N l l2 ks RC3 m (s, 0, i, ((a.length : Nat) : Int), z, a, a1, a2, a3, a4, a5, b, (j : Int)) = RC3 (z, a1, a2, a, a3, a4, a5, IntKind.wrap .i64 (i + 1)) := by
  intro r
  induction r with
  | zero =>
    intro j m b hj hm hb
    obtain ⟨m, rfl⟩ : ∃ m', m = m' + 1 := ⟨m - 1, by omega⟩
    rw [u3_200004]
    unfold G3_200004
    simp only []
    rw [decide_eq_false (by omega)]
    rw [List.drop_eq_nil_of_le (by omega)] at hb
    simp at hb
    subst hb
    rfl
  | succ r ih =>
    intro j m b hj hm hb
    obtain ⟨m, rfl⟩ : ∃ m', m = m' + 1 := ⟨m - 1, by omega⟩
    rw [u3_200004]
    unfold G3_200004
    simp only []
    have hlt : j < a.length := by omega
    rw [decide_eq_true (by omega), decide_eq_true (show 0 ≤ (j : Int) ∧ (j : Int) < ((a.length : Nat) : Int) by omega)]
    simp only [cond_true, Nat.zero_add, Int.toNat_natCast, List.getElem?_eq_getElem hlt, getO]
    rw [wrap_id0 (by omega) (by omega), show (j : Int) + 1 = ((j + 1 : Nat) : Int) by omega]
    rw [List.drop_eq_getElem_cons hlt, List.any_cons] at hb
    cases b
    · exact ih (j + 1) m _ (by omega) (by omega) (by simpa using hb)
    · exact ih (j + 1) m true (by omega) (by omega) (by simp)
theorem in3 (N : Nat) (l l2 : List T30) (ks : List Bool) (RC3 : V3 → Option Ret) (s : List UInt8) (i : Int) (z : Dk) (a a1 a2 a3 a4 a5 : LL) (hl : a.length < 4611686018427387904) : ∀ (r j m : Nat) (b : Bool), j + r = a.length → r < m → (b || (a.drop j).any (s == ·)) = true →
    L3_300004 N l l2 ks RC3 m (s, 0, i, ((a.length : Nat) : Int), z, a, a1, a2, a3, a4, a5, b, (j : Int)) = RC3 (z, a1, a2, a3, a, a4, a5, IntKind.wrap .i64 (i + 1)) := by
  intro r
  induction r with
  | zero =>
    intro j m b hj hm hb
    obtain ⟨m, rfl⟩ : ∃ m', m = m' + 1 := ⟨m - 1, by omega⟩
    rw [u3_300004]
    unfold G3_300004
    simp only []
    rw [decide_eq_false (by omega)]
    rw [List.drop_eq_nil_of_le (by omega)] at hb
    simp at hb
    subst hb
    rfl
  | succ r ih =>
    intro j m b hj hm hb
    obtain ⟨m, rfl⟩ : ∃ m', m = m' + 1 := ⟨m - 1, by omega⟩
    rw [u3_300004]
    unfold G3_300004
    simp only []
    have hlt : j < a.length := by omega
    rw [decide_eq_true (by omega), decide_eq_true (show 0 ≤ (j : Int) ∧ (j : Int) < ((a.length : Nat) : Int) by omega)]
    simp only [cond_true, Nat.zero_add, Int.toNat_natCast, List.getElem?_eq_getElem hlt, getO]
    rw [wrap_id0 (by omega) (by omega), show (j : Int) + 1 = ((j + 1 : Nat) : Int) by omega]
    rw [List.drop_eq_getElem_cons hlt, List.any_cons] at hb
    cases b
    · exact ih (j + 1) m _ (by omega) (by omega) (by simpa using hb)
    · exact ih (j + 1) m true (by omega) (by omega) (by simp)
theorem in4 (N : Nat) (l l2 : List T30) (ks : List Bool) (RC3 : V3 → Option Ret) (s : List UInt8) (i : Int) (z : Dk) (a a1 a2 a3 a4 a5 : LL) (hl : a.length < 4611686018427387904) : ∀ (r j m : Nat) (b : Bool), j + r = a.length → r < m → (b || (a.drop j).any (s == ·)) = true →
    L3_400004 N l l2 ks RC3 m (s, 0, i, ((a.length : Nat) : Int), z, a, a1, a2, a3, a4, a5, b, (j : Int)) = RC3 (z, a1, a2, a3, a4, a, a5, IntKind.wrap .i64 (i + 1)) := by
  intro r
  induction r with
  | zero =>
    intro j m b hj hm hb
    obtain ⟨m, rfl⟩ : ∃ m', m = m' + 1 := ⟨m - 1, by omega⟩
    rw [u3_400004]
    unfold G3_400004
    simp only []
    rw [decide_eq_false (by omega)]
    rw [List.drop_eq_nil_of_le (by omega)] at hb
    simp at hb
    subst hb
    rfl
  | succ r ih =>
    intro j m b hj hm hb
    obtain ⟨m, rfl⟩ : ∃ m', m = m' + 1 := ⟨m - 1, by omega⟩
    rw [u3_400004]
    unfold G3_400004
    simp only []
    have hlt : j < a.length := by omega
    rw [decide_eq_true (by omega), decide_eq_true (show 0 ≤ (j : Int) ∧ (j : Int) < ((a.length : Nat) : Int) by omega)]
    simp only [cond_true, Nat.zero_add, Int.toNat_natCast, List.getElem?_eq_getElem hlt, getO]
    rw [wrap_id0 (by omega) (by omega), show (j : Int) + 1 = ((j + 1 : Nat) : Int) by omega]
    rw [List.drop_eq_getElem_cons hlt, List.any_cons] at hb
    cases b
    · exact ih (j + 1) m _ (by omega) (by omega) (by simpa using hb)
    · exact ih (j + 1) m true (by omega) (by omega) (by simp)
theorem in5 (N : Nat) (l l2 : List T30) (ks : List Bool) (RC3 : V3 → Option Ret) (s : List UInt8) (i : Int) (z : Dk) (a a1 a2 a3 a4 a5 : LL) (hl : a.length < 4611686018427387904) : ∀ (r j m : Nat) (b : Bool), j + r = a.length → r < m → (b || (a.drop j).any (s == ·)) = true →
    L3_500004 N l l2 ks RC3 m (s, 0, i, ((a.length : Nat) : Int), z, a, a1, a2, a3, a4, a5, b, (j : Int)) = RC3 (z, a1, a2, a3, a4, a5, a, IntKind.wrap .i64 (i + 1)) := by
  intro r
  induction r with
  | zero =>
    intro j m b hj hm hb
    obtain ⟨m, rfl⟩ : ∃ m', m = m' + 1 := ⟨m - 1, by omega⟩
    rw [u3_500004]
    unfold G3_500004
    simp only []
    rw [decide_eq_false (by omega)]
    rw [List.drop_eq_nil_of_le (by omega)] at hb
    simp at hb
    subst hb
    rfl
  | succ r ih =>
    intro j m b hj hm hb
    obtain ⟨m, rfl⟩ : ∃ m', m = m' + 1 := ⟨m - 1, by omega⟩
    rw [u3_500004]
    unfold G3_500004
    simp only []
    have hlt : j < a.length := by omega
    rw [decide_eq_true (by omega), decide_eq_true (show 0 ≤ (j : Int) ∧ (j : Int) < ((a.length : Nat) : Int) by omega)]
    simp only [cond_true, Nat.zero_add, Int.toNat_natCast, List.getElem?_eq_getElem hlt, getO]
    rw [wrap_id0 (by omega) (by omega), show (j : Int) + 1 = ((j + 1 : Nat) : Int) by omega]
    rw [List.drop_eq_getElem_cons hlt, List.any_cons] at hb
    cases b
    · exact ih (j + 1) m _ (by omega) (by omega) (by simpa using hb)
    · exact ih (j + 1) m true (by omega) (by omega) (by simp)
theorem end3 (N : Nat) (hN : 100 ≤ N) (l l2 : List T30) (ks : List Bool) (x : Int) (f0 f1 f2 f3 f4 f5 : List UInt8) (m0 m1 m2 m3 m4 m5 : LL) (m : Nat)
    (b0 : m0.length < 50) (b1 : m1.length < 50) (b2 : m2.length < 50) (b3 : m3.length < 50) (b4 : m4.length < 50) (b5 : m5.length < 50)
    (h0 : m0.any (f0 == ·) = true) (h1 : m1.any (f1 == ·) = true) (h2 : m2.any (f2 == ·) = true) (h3 : m3.any (f3 == ·) = true) (h4 : m4.any (f4 == ·) = true) (h5 : m5.any (f5 == ·) = true) :
    L3_3 N l l2 ks (m + 7) (⟨x, false, false, [f0, f1, f2, f3, f4, f5], []⟩, m0, m1, m2, m3, m4, m5, 0) = some (.bool true, []) := by
  have e0 : L3_3 N l l2 ks (m + 7) (⟨x, false, false, [f0, f1, f2, f3, f4, f5], []⟩, m0, m1, m2, m3, m4, m5, 0) = L3_4 N l l2 ks (L3_3 N l l2 ks (m + 6)) N (f0, 0, ((m0.length : Nat) : Int), ⟨x, false, false, [f0, f1, f2, f3, f4, f5], []⟩, m0, m1, m2, m3, m4, m5, false, 0, 0) := by kernel_rfl
  have g0 := in0 N l l2 ks (L3_3 N l l2 ks (m + 6)) f0 0 ⟨x, false, false, [f0, f1, f2, f3, f4, f5], []⟩ m0 m1 m2 m3 m4 m5 (by omega) m0.length 0 N false (by omega) (by omega) (by simpa using h0)
  have e1 : L3_3 N l l2 ks (m + 6) (⟨x, false, false, [f0, f1, f2, f3, f4, f5], []⟩, m0, m1, m2, m3, m4, m5, 1) = L3_100004 N l l2 ks (L3_3 N l l2 ks (m + 5)) N (f1, 0, 1, ((m1.length : Nat) : Int), ⟨x, false, false, [f0, f1, f2, f3, f4, f5], []⟩, m1, m0, m2, m3, m4, m5, false, 0) := by kernel_rfl
  have g1 := in1 N l l2 ks (L3_3 N l l2 ks (m + 5)) f1 1 ⟨x, false, false, [f0, f1, f2, f3, f4, f5], []⟩ m1 m0 m2 m3 m4 m5 (by omega) m1.length 0 N false (by omega) (by omega) (by simpa using h1)
  have e2 : L3_3 N l l2 ks (m + 5) (⟨x, false, false, [f0, f1, f2, f3, f4, f5], []⟩, m0, m1, m2, m3, m4, m5, 2) = L3_200004 N l l2 ks (L3_3 N l l2 ks (m + 4)) N (f2, 0, 2, ((m2.length : Nat) : Int), ⟨x, false, false, [f0, f1, f2, f3, f4, f5], []⟩, m2, m0, m1, m3, m4, m5, false, 0) := by kernel_rfl
  have g2 := in2 N l l2 ks (L3_3 N l l2 ks (m + 4)) f2 2 ⟨x, false, false, [f0, f1, f2, f3, f4, f5], []⟩ m2 m0 m1 m3 m4 m5 (by omega) m2.length 0 N false (by omega) (by omega) (by simpa using h2)
  have e3 : L3_3 N l l2 ks (m + 4) (⟨x, false, false, [f0, f1, f2, f3, f4, f5], []⟩, m0, m1, m2, m3, m4, m5, 3) = L3_300004 N l l2 ks (L3_3 N l l2 ks (m + 3)) N (f3, 0, 3, ((m3.length : Nat) : Int), ⟨x, false, false, [f0, f1, f2, f3, f4, f5], []⟩, m3, m0, m1, m2, m4, m5, false, 0) := by kernel_rfl
  have g3 := in3 N l l2 ks (L3_3 N l l2 ks (m + 3)) f3 3 ⟨x, false, false, [f0, f1, f2, f3, f4, f5], []⟩ m3 m0 m1 m2 m4 m5 (by omega) m3.length 0 N false (by omega) (by omega) (by simpa using h3)
  have e4 : L3_3 N l l2 ks (m + 3) (⟨x, false, false, [f0, f1, f2, f3, f4, f5], []⟩, m0, m1, m2, m3, m4, m5, 4) = L3_400004 N l l2 ks (L3_3 N l l2 ks (m + 2)) N (f4, 0, 4, ((m4.length : Nat) : Int), ⟨x, false, false, [f0, f1, f2, f3, f4, f5], []⟩, m4, m0, m1, m2, m3, m5, false, 0) := by kernel_rfl
  have g4 := in4 N l l2 ks (L3_3 N l l2 ks (m + 2)) f4 4 ⟨x, false, false, [f0, f1, f2, f3, f4, f5], []⟩ m4 m0 m1 m2 m3 m5 (by omega) m4.length 0 N false (by omega) (by omega) (by simpa using h4)
  have e5 : L3_3 N l l2 ks (m + 2) (⟨x, false, false, [f0, f1, f2, f3, f4, f5], []⟩, m0, m1, m2, m3, m4, m5, 5) = L3_500004 N l l2 ks (L3_3 N l l2 ks (m + 1)) N (f5, 0, 5, ((m5.length : Nat) : Int), ⟨x, false, false, [f0, f1, f2, f3, f4, f5], []⟩, m5, m0, m1, m2, m3, m4, false, 0) := by kernel_rfl
  have g5 := in5 N l l2 ks (L3_3 N l l2 ks (m + 1)) f5 5 ⟨x, false, false, [f0, f1, f2, f3, f4, f5], []⟩ m5 m0 m1 m2 m3 m4 (by omega) m5.length 0 N false (by omega) (by omega) (by simpa using h5)
  refine e0.trans (g0.trans ?_)
  rw [show IntKind.wrap .i64 ((0 : Int) + 1) = 1 from rfl]
  refine e1.trans (g1.trans ?_)
  rw [show IntKind.wrap .i64 ((1 : Int) + 1) = 2 from rfl]
  refine e2.trans (g2.trans ?_)
  rw [show IntKind.wrap .i64 ((2 : Int) + 1) = 3 from rfl]
  refine e3.trans (g3.trans ?_)
  rw [show IntKind.wrap .i64 ((3 : Int) + 1) = 4 from rfl]
  refine e4.trans (g4.trans ?_)
  rw [show IntKind.wrap .i64 ((4 : Int) + 1) = 5 from rfl]
  refine e5.trans (g5.trans ?_)
  rw [show IntKind.wrap .i64 ((5 : Int) + 1) = 6 from rfl]
  rfl
theorem write_keep {x : Dk} (hd : x.d = false) (ha : x.a = false) (i : Int) (s : List UInt8) : (writeM x i s).2.d = false ∧ (writeM x i s).2.a = false ∧ (writeM x i s).2.f = x.f ∧
    ((writeM x i s).1 = 0 ∧ 0 ≤ i ∧ i < (x.f.length : Int) ∧ s.length ≤ 32 ∧ (writeM x i s).2.p = x.p ++ [⟨i, s ++ pad (32 - s.length)⟩] ∨ (writeM x i s).1 ≠ 0 ∧ (writeM x i s).2.p = x.p) := by
  obtain ⟨xl, xa, xd, xf, xp⟩ := x
  simp only at hd ha
  subst hd ha
  unfold writeM
  cases h1 : decide (i < 0)
  · cases h2 : decide (i ≥ ((xf.length : Nat) : Int))
    · cases h3 : decide (((s.length : Nat) : Int) > 32)
      · have h1 := of_decide_eq_false h1
        have h2 := of_decide_eq_false h2
        have h3 := of_decide_eq_false h3
        simp only [h2, cond_false, Bool.false_and]
        exact ⟨trivial, trivial, trivial, .inl ⟨trivial, by omega, by omega, by omega, trivial⟩⟩
      · simp [h2]
    · simp [h2]
  · simp
structure J0 (x : Dk) (k : Nat) : Prop where
  ok : okD x = true
  len : x.p.length ≤ k
  d : x.d = false
  a : x.a = false
  fl : x.f.length = 6
theorem J0.write {x : Dk} {k : Nat} (h : J0 x k) (hk : k < 1000) (i : Int) (s : List UInt8) : J0 (writeM x i s).2 (k + 1) := by
  obtain ⟨h1, h2⟩ := okD_write i s h.ok h.len (by omega)
  obtain ⟨g1, g2, g3, _⟩ := write_keep h.d h.a i s
  exact ⟨h1, h2, g1, g2, by rw [g3]; exact h.fl⟩
/-- What may stand in each sector. -/
def nth (m0 m1 m2 m3 m4 m5 : LL) : Nat → LL
  | 0 => m0 | 1 => m1 | 2 => m2 | 3 => m3 | 4 => m4 | 5 => m5 | _ => []
structure J2 (x : Dk) (k : Nat) (m0 m1 m2 m3 m4 m5 : LL) : Prop where
  j : J0 x k
  small : ∀ i, (nth m0 m1 m2 m3 m4 m5 i).length ≤ k + 1
  firm : ∀ i, i < 6 → ∀ s, x.f[i]? = some s → s ∈ nth m0 m1 m2 m3 m4 m5 i
  loose : ∀ y ∈ x.p, y.s ∈ nth m0 m1 m2 m3 m4 m5 y.at_.toNat
theorem crF_mem (M : Nat → LL) : ∀ (p : List T77) (ks : List Bool) (f : LL), (∀ i, i < 6 → ∀ s, f[i]? = some s → s ∈ M i) → (∀ y ∈ p, y.s ∈ M y.at_.toNat) → (crF p ks f).length = f.length ∧ ∀ i, i < 6 → ∀ s, (crF p ks f)[i]? = some s → s ∈ M i
  | [], ks, f, h, _ => ⟨rfl, h⟩
  | y :: p, [], f, h, _ => ⟨rfl, h⟩
  | y :: p, b :: ks, f, h, hp => by
    have hp' : ∀ z ∈ p, z.s ∈ M z.at_.toNat := fun z hz => hp z (by simp [hz])
    cases b
    · exact crF_mem M p ks f h hp'
    · obtain ⟨g1, g2⟩ := crF_mem M p ks (setF f y) (fun i hi s hs => by
        unfold setF at hs
        rw [List.getElem?_set] at hs
        split at hs
        · rename_i e
          split at hs
          · simp only [Option.some.injEq] at hs
            subst hs
            rw [← e]
            exact hp y (by simp)
          · cases hs
        · exact h i hi s hs) hp'
      exact ⟨g1.trans (by simp [setF]), g2⟩
theorem six {f : LL} (h : f.length = 6) : ∃ f0 f1 f2 f3 f4 f5, f = [f0, f1, f2, f3, f4, f5] := by
  match f, h with
  | [a, b, c, d, e, g], _ => exact ⟨a, b, c, d, e, g, rfl⟩
theorem any_mem {m : LL} {s : List UInt8} (h : s ∈ m) : m.any (s == ·) = true := List.any_eq_true.2 ⟨s, h, by simp⟩
theorem J2.end_ {x : Dk} {k : Nat} {m0 m1 m2 m3 m4 m5 : LL} (h : J2 x k m0 m1 m2 m3 m4 m5) (hk : k ≤ 31) (N : Nat) (hN : 100 ≤ N) (l l2 : List T30) (ks : List Bool) : L3_3 N l l2 ks N (crashM x ks, m0, m1, m2, m3, m4, m5, 0) = some (.bool true, []) := by
  obtain ⟨g1, g2⟩ := crF_mem (nth m0 m1 m2 m3 m4 m5) x.p ks x.f h.firm h.loose
  obtain ⟨f0, f1, f2, f3, f4, f5, hf⟩ := six (g1.trans h.j.fl)
  obtain ⟨n, rfl⟩ : ∃ n, N = n + 7 := ⟨N - 7, by omega⟩
  have hs := h.small
  unfold crashM
  rw [hf] at g2 ⊢
  exact end3 (n + 7) hN l l2 ks 0 f0 f1 f2 f3 f4 f5 m0 m1 m2 m3 m4 m5 n (Nat.lt_of_le_of_lt (hs 0) (by omega)) (Nat.lt_of_le_of_lt (hs 1) (by omega)) (Nat.lt_of_le_of_lt (hs 2) (by omega)) (Nat.lt_of_le_of_lt (hs 3) (by omega)) (Nat.lt_of_le_of_lt (hs 4) (by omega)) (Nat.lt_of_le_of_lt (hs 5) (by omega)) (any_mem (g2 0 (by omega) f0 rfl)) (any_mem (g2 1 (by omega) f1 rfl)) (any_mem (g2 2 (by omega) f2 rfl)) (any_mem (g2 3 (by omega) f3 rfl)) (any_mem (g2 4 (by omega) f4 rfl)) (any_mem (g2 5 (by omega) f5 rfl))
theorem J0.mono {x : Dk} {k k' : Nat} (h : J0 x k) (hk : k ≤ k') : J0 x k' := ⟨h.ok, Nat.le_trans h.len hk, h.d, h.a, h.fl⟩
theorem read_last {x : Dk} {p : List T77} {i : Int} {s : List UInt8} (hd : x.d = false) (h0 : 0 ≤ i) (h1 : i < (x.f.length : Int)) (hp : x.p = p ++ [⟨i, s⟩]) : readM x i = (s, 0) := by
  unfold readM
  rw [hd, decide_eq_false (by omega), decide_eq_false (by omega), hp]
  simp only [cond_false, List.length_append, List.length_singleton]
  unfold rdN
  simp
theorem pad_len (n : Nat) : (pad n).length = n := by simp [pad]
theorem fitsOk {m : LL} {s : List UInt8} (h : m.length < 60) : (fitsB (m.length + [s].length) 16 && decide (m.length + [s].length ≤ big62)) = true := by
  simp only [List.length_singleton]
  rw [fits_lt (by omega) (by omega), big_lt (by omega)]
  rfl
theorem nth_small {m0 m1 m2 m3 m4 m5 : LL} {n : Nat} (h0 : m0.length ≤ n) (h1 : m1.length ≤ n) (h2 : m2.length ≤ n) (h3 : m3.length ≤ n) (h4 : m4.length ≤ n) (h5 : m5.length ≤ n) : ∀ i, (nth m0 m1 m2 m3 m4 m5 i).length ≤ n
  | 0 => h0 | 1 => h1 | 2 => h2 | 3 => h3 | 4 => h4 | 5 => h5
  | _ + 6 => Nat.zero_le _
theorem c27_0 (N : Nat) (l l2 : List T30) (ks : List Bool) (RC2 : V3 → Option Ret) (s : List UInt8) (x : Dk) (kd n : Int) (data : List UInt8) (keep : List Bool) (m0 m1 m2 m3 m4 m5 : LL) (k : Int) (hs : m0.length < 60) :
    G3_1027 N l l2 ks RC2 (s, false, x, ⟨kd, 0, n, data, keep⟩, m0, m1, m2, m3, m4, m5, k) = RC2 (x, m0 ++ [s], m1, m2, m3, m4, m5, IntKind.wrap .i64 (k + 1)) := by
  have e : G3_1027 N l l2 ks RC2 (s, false, x, ⟨kd, 0, n, data, keep⟩, m0, m1, m2, m3, m4, m5, k) = bif fitsB (m0.length + [s].length) 16 && decide (m0.length + [s].length ≤ big62) then RC2 (x, m0 ++ [s], m1, m2, m3, m4, m5, IntKind.wrap .i64 (k + 1)) else none := by kernel_rfl
  rw [e, fitsOk hs]
  rfl
theorem J2.add0 {x x' : Dk} {k : Nat} {m0 m1 m2 m3 m4 m5 : LL} {s : List UInt8} (h : J2 x k m0 m1 m2 m3 m4 m5) (hj : J0 x' (k + 1)) (hf : x'.f = x.f) (hp : x'.p = x.p ++ [⟨0, s⟩]) : J2 x' (k + 1) (m0 ++ [s]) m1 m2 m3 m4 m5 := by
  have hm : ∀ i t, t ∈ nth m0 m1 m2 m3 m4 m5 i → t ∈ nth (m0 ++ [s]) m1 m2 m3 m4 m5 i := fun i t ht => by
    match i, ht with
    | 0, ht => first | exact ht | exact List.mem_append_left _ ht
    | 1, ht => first | exact ht | exact List.mem_append_left _ ht
    | 2, ht => first | exact ht | exact List.mem_append_left _ ht
    | 3, ht => first | exact ht | exact List.mem_append_left _ ht
    | 4, ht => first | exact ht | exact List.mem_append_left _ ht
    | 5, ht => first | exact ht | exact List.mem_append_left _ ht
    | _ + 6, ht => cases ht
  have hs := h.small
  have q0 := hs 0; have q1 := hs 1; have q2 := hs 2; have q3 := hs 3; have q4 := hs 4; have q5 := hs 5
  simp only [nth] at q0 q1 q2 q3 q4 q5
  refine ⟨hj, nth_small (by simp; omega) (by omega) (by omega) (by omega) (by omega) (by omega), fun i hi t ht => hm i t (h.firm i hi t (by rw [← hf]; exact ht)), fun y hy => ?_⟩
  rw [hp, List.mem_append] at hy
  rcases hy with hy | hy
  · exact hm _ _ (h.loose y hy)
  · simp only [List.mem_singleton] at hy
    subst hy
    exact List.mem_append_right _ (List.mem_singleton.2 rfl)
theorem c27_1 (N : Nat) (l l2 : List T30) (ks : List Bool) (RC2 : V3 → Option Ret) (s : List UInt8) (x : Dk) (kd n : Int) (data : List UInt8) (keep : List Bool) (m0 m1 m2 m3 m4 m5 : LL) (k : Int) (hs : m1.length < 60) :
    G3_1027 N l l2 ks RC2 (s, false, x, ⟨kd, 1, n, data, keep⟩, m0, m1, m2, m3, m4, m5, k) = RC2 (x, m0, m1 ++ [s], m2, m3, m4, m5, IntKind.wrap .i64 (k + 1)) := by
  have e : G3_1027 N l l2 ks RC2 (s, false, x, ⟨kd, 1, n, data, keep⟩, m0, m1, m2, m3, m4, m5, k) = bif fitsB (m1.length + [s].length) 16 && decide (m1.length + [s].length ≤ big62) then RC2 (x, m0, m1 ++ [s], m2, m3, m4, m5, IntKind.wrap .i64 (k + 1)) else none := by kernel_rfl
  rw [e, fitsOk hs]
  rfl
theorem J2.add1 {x x' : Dk} {k : Nat} {m0 m1 m2 m3 m4 m5 : LL} {s : List UInt8} (h : J2 x k m0 m1 m2 m3 m4 m5) (hj : J0 x' (k + 1)) (hf : x'.f = x.f) (hp : x'.p = x.p ++ [⟨1, s⟩]) : J2 x' (k + 1) m0 (m1 ++ [s]) m2 m3 m4 m5 := by
  have hm : ∀ i t, t ∈ nth m0 m1 m2 m3 m4 m5 i → t ∈ nth m0 (m1 ++ [s]) m2 m3 m4 m5 i := fun i t ht => by
    match i, ht with
    | 0, ht => first | exact ht | exact List.mem_append_left _ ht
    | 1, ht => first | exact ht | exact List.mem_append_left _ ht
    | 2, ht => first | exact ht | exact List.mem_append_left _ ht
    | 3, ht => first | exact ht | exact List.mem_append_left _ ht
    | 4, ht => first | exact ht | exact List.mem_append_left _ ht
    | 5, ht => first | exact ht | exact List.mem_append_left _ ht
    | _ + 6, ht => cases ht
  have hs := h.small
  have q0 := hs 0; have q1 := hs 1; have q2 := hs 2; have q3 := hs 3; have q4 := hs 4; have q5 := hs 5
  simp only [nth] at q0 q1 q2 q3 q4 q5
  refine ⟨hj, nth_small (by omega) (by simp; omega) (by omega) (by omega) (by omega) (by omega), fun i hi t ht => hm i t (h.firm i hi t (by rw [← hf]; exact ht)), fun y hy => ?_⟩
  rw [hp, List.mem_append] at hy
  rcases hy with hy | hy
  · exact hm _ _ (h.loose y hy)
  · simp only [List.mem_singleton] at hy
    subst hy
    exact List.mem_append_right _ (List.mem_singleton.2 rfl)
theorem c27_2 (N : Nat) (l l2 : List T30) (ks : List Bool) (RC2 : V3 → Option Ret) (s : List UInt8) (x : Dk) (kd n : Int) (data : List UInt8) (keep : List Bool) (m0 m1 m2 m3 m4 m5 : LL) (k : Int) (hs : m2.length < 60) :
    G3_1027 N l l2 ks RC2 (s, false, x, ⟨kd, 2, n, data, keep⟩, m0, m1, m2, m3, m4, m5, k) = RC2 (x, m0, m1, m2 ++ [s], m3, m4, m5, IntKind.wrap .i64 (k + 1)) := by
  have e : G3_1027 N l l2 ks RC2 (s, false, x, ⟨kd, 2, n, data, keep⟩, m0, m1, m2, m3, m4, m5, k) = bif fitsB (m2.length + [s].length) 16 && decide (m2.length + [s].length ≤ big62) then RC2 (x, m0, m1, m2 ++ [s], m3, m4, m5, IntKind.wrap .i64 (k + 1)) else none := by kernel_rfl
  rw [e, fitsOk hs]
  rfl
theorem J2.add2 {x x' : Dk} {k : Nat} {m0 m1 m2 m3 m4 m5 : LL} {s : List UInt8} (h : J2 x k m0 m1 m2 m3 m4 m5) (hj : J0 x' (k + 1)) (hf : x'.f = x.f) (hp : x'.p = x.p ++ [⟨2, s⟩]) : J2 x' (k + 1) m0 m1 (m2 ++ [s]) m3 m4 m5 := by
  have hm : ∀ i t, t ∈ nth m0 m1 m2 m3 m4 m5 i → t ∈ nth m0 m1 (m2 ++ [s]) m3 m4 m5 i := fun i t ht => by
    match i, ht with
    | 0, ht => first | exact ht | exact List.mem_append_left _ ht
    | 1, ht => first | exact ht | exact List.mem_append_left _ ht
    | 2, ht => first | exact ht | exact List.mem_append_left _ ht
    | 3, ht => first | exact ht | exact List.mem_append_left _ ht
    | 4, ht => first | exact ht | exact List.mem_append_left _ ht
    | 5, ht => first | exact ht | exact List.mem_append_left _ ht
    | _ + 6, ht => cases ht
  have hs := h.small
  have q0 := hs 0; have q1 := hs 1; have q2 := hs 2; have q3 := hs 3; have q4 := hs 4; have q5 := hs 5
  simp only [nth] at q0 q1 q2 q3 q4 q5
  refine ⟨hj, nth_small (by omega) (by omega) (by simp; omega) (by omega) (by omega) (by omega), fun i hi t ht => hm i t (h.firm i hi t (by rw [← hf]; exact ht)), fun y hy => ?_⟩
  rw [hp, List.mem_append] at hy
  rcases hy with hy | hy
  · exact hm _ _ (h.loose y hy)
  · simp only [List.mem_singleton] at hy
    subst hy
    exact List.mem_append_right _ (List.mem_singleton.2 rfl)
theorem c27_3 (N : Nat) (l l2 : List T30) (ks : List Bool) (RC2 : V3 → Option Ret) (s : List UInt8) (x : Dk) (kd n : Int) (data : List UInt8) (keep : List Bool) (m0 m1 m2 m3 m4 m5 : LL) (k : Int) (hs : m3.length < 60) :
    G3_1027 N l l2 ks RC2 (s, false, x, ⟨kd, 3, n, data, keep⟩, m0, m1, m2, m3, m4, m5, k) = RC2 (x, m0, m1, m2, m3 ++ [s], m4, m5, IntKind.wrap .i64 (k + 1)) := by
  have e : G3_1027 N l l2 ks RC2 (s, false, x, ⟨kd, 3, n, data, keep⟩, m0, m1, m2, m3, m4, m5, k) = bif fitsB (m3.length + [s].length) 16 && decide (m3.length + [s].length ≤ big62) then RC2 (x, m0, m1, m2, m3 ++ [s], m4, m5, IntKind.wrap .i64 (k + 1)) else none := by kernel_rfl
  rw [e, fitsOk hs]
  rfl
theorem J2.add3 {x x' : Dk} {k : Nat} {m0 m1 m2 m3 m4 m5 : LL} {s : List UInt8} (h : J2 x k m0 m1 m2 m3 m4 m5) (hj : J0 x' (k + 1)) (hf : x'.f = x.f) (hp : x'.p = x.p ++ [⟨3, s⟩]) : J2 x' (k + 1) m0 m1 m2 (m3 ++ [s]) m4 m5 := by
  have hm : ∀ i t, t ∈ nth m0 m1 m2 m3 m4 m5 i → t ∈ nth m0 m1 m2 (m3 ++ [s]) m4 m5 i := fun i t ht => by
    match i, ht with
    | 0, ht => first | exact ht | exact List.mem_append_left _ ht
    | 1, ht => first | exact ht | exact List.mem_append_left _ ht
    | 2, ht => first | exact ht | exact List.mem_append_left _ ht
    | 3, ht => first | exact ht | exact List.mem_append_left _ ht
    | 4, ht => first | exact ht | exact List.mem_append_left _ ht
    | 5, ht => first | exact ht | exact List.mem_append_left _ ht
    | _ + 6, ht => cases ht
  have hs := h.small
  have q0 := hs 0; have q1 := hs 1; have q2 := hs 2; have q3 := hs 3; have q4 := hs 4; have q5 := hs 5
  simp only [nth] at q0 q1 q2 q3 q4 q5
  refine ⟨hj, nth_small (by omega) (by omega) (by omega) (by simp; omega) (by omega) (by omega), fun i hi t ht => hm i t (h.firm i hi t (by rw [← hf]; exact ht)), fun y hy => ?_⟩
  rw [hp, List.mem_append] at hy
  rcases hy with hy | hy
  · exact hm _ _ (h.loose y hy)
  · simp only [List.mem_singleton] at hy
    subst hy
    exact List.mem_append_right _ (List.mem_singleton.2 rfl)
theorem c27_4 (N : Nat) (l l2 : List T30) (ks : List Bool) (RC2 : V3 → Option Ret) (s : List UInt8) (x : Dk) (kd n : Int) (data : List UInt8) (keep : List Bool) (m0 m1 m2 m3 m4 m5 : LL) (k : Int) (hs : m4.length < 60) :
    G3_1027 N l l2 ks RC2 (s, false, x, ⟨kd, 4, n, data, keep⟩, m0, m1, m2, m3, m4, m5, k) = RC2 (x, m0, m1, m2, m3, m4 ++ [s], m5, IntKind.wrap .i64 (k + 1)) := by
  have e : G3_1027 N l l2 ks RC2 (s, false, x, ⟨kd, 4, n, data, keep⟩, m0, m1, m2, m3, m4, m5, k) = bif fitsB (m4.length + [s].length) 16 && decide (m4.length + [s].length ≤ big62) then RC2 (x, m0, m1, m2, m3, m4 ++ [s], m5, IntKind.wrap .i64 (k + 1)) else none := by kernel_rfl
  rw [e, fitsOk hs]
  rfl
theorem J2.add4 {x x' : Dk} {k : Nat} {m0 m1 m2 m3 m4 m5 : LL} {s : List UInt8} (h : J2 x k m0 m1 m2 m3 m4 m5) (hj : J0 x' (k + 1)) (hf : x'.f = x.f) (hp : x'.p = x.p ++ [⟨4, s⟩]) : J2 x' (k + 1) m0 m1 m2 m3 (m4 ++ [s]) m5 := by
  have hm : ∀ i t, t ∈ nth m0 m1 m2 m3 m4 m5 i → t ∈ nth m0 m1 m2 m3 (m4 ++ [s]) m5 i := fun i t ht => by
    match i, ht with
    | 0, ht => first | exact ht | exact List.mem_append_left _ ht
    | 1, ht => first | exact ht | exact List.mem_append_left _ ht
    | 2, ht => first | exact ht | exact List.mem_append_left _ ht
    | 3, ht => first | exact ht | exact List.mem_append_left _ ht
    | 4, ht => first | exact ht | exact List.mem_append_left _ ht
    | 5, ht => first | exact ht | exact List.mem_append_left _ ht
    | _ + 6, ht => cases ht
  have hs := h.small
  have q0 := hs 0; have q1 := hs 1; have q2 := hs 2; have q3 := hs 3; have q4 := hs 4; have q5 := hs 5
  simp only [nth] at q0 q1 q2 q3 q4 q5
  refine ⟨hj, nth_small (by omega) (by omega) (by omega) (by omega) (by simp; omega) (by omega), fun i hi t ht => hm i t (h.firm i hi t (by rw [← hf]; exact ht)), fun y hy => ?_⟩
  rw [hp, List.mem_append] at hy
  rcases hy with hy | hy
  · exact hm _ _ (h.loose y hy)
  · simp only [List.mem_singleton] at hy
    subst hy
    exact List.mem_append_right _ (List.mem_singleton.2 rfl)
theorem c27_5 (N : Nat) (l l2 : List T30) (ks : List Bool) (RC2 : V3 → Option Ret) (s : List UInt8) (x : Dk) (kd n : Int) (data : List UInt8) (keep : List Bool) (m0 m1 m2 m3 m4 m5 : LL) (k : Int) (hs : m5.length < 60) :
    G3_1027 N l l2 ks RC2 (s, false, x, ⟨kd, 5, n, data, keep⟩, m0, m1, m2, m3, m4, m5, k) = RC2 (x, m0, m1, m2, m3, m4, m5 ++ [s], IntKind.wrap .i64 (k + 1)) := by
  have e : G3_1027 N l l2 ks RC2 (s, false, x, ⟨kd, 5, n, data, keep⟩, m0, m1, m2, m3, m4, m5, k) = bif fitsB (m5.length + [s].length) 16 && decide (m5.length + [s].length ≤ big62) then RC2 (x, m0, m1, m2, m3, m4, m5 ++ [s], IntKind.wrap .i64 (k + 1)) else none := by kernel_rfl
  rw [e, fitsOk hs]
  rfl
theorem J2.add5 {x x' : Dk} {k : Nat} {m0 m1 m2 m3 m4 m5 : LL} {s : List UInt8} (h : J2 x k m0 m1 m2 m3 m4 m5) (hj : J0 x' (k + 1)) (hf : x'.f = x.f) (hp : x'.p = x.p ++ [⟨5, s⟩]) : J2 x' (k + 1) m0 m1 m2 m3 m4 (m5 ++ [s]) := by
  have hm : ∀ i t, t ∈ nth m0 m1 m2 m3 m4 m5 i → t ∈ nth m0 m1 m2 m3 m4 (m5 ++ [s]) i := fun i t ht => by
    match i, ht with
    | 0, ht => first | exact ht | exact List.mem_append_left _ ht
    | 1, ht => first | exact ht | exact List.mem_append_left _ ht
    | 2, ht => first | exact ht | exact List.mem_append_left _ ht
    | 3, ht => first | exact ht | exact List.mem_append_left _ ht
    | 4, ht => first | exact ht | exact List.mem_append_left _ ht
    | 5, ht => first | exact ht | exact List.mem_append_left _ ht
    | _ + 6, ht => cases ht
  have hs := h.small
  have q0 := hs 0; have q1 := hs 1; have q2 := hs 2; have q3 := hs 3; have q4 := hs 4; have q5 := hs 5
  simp only [nth] at q0 q1 q2 q3 q4 q5
  refine ⟨hj, nth_small (by omega) (by omega) (by omega) (by omega) (by omega) (by simp; omega), fun i hi t ht => hm i t (h.firm i hi t (by rw [← hf]; exact ht)), fun y hy => ?_⟩
  rw [hp, List.mem_append] at hy
  rcases hy with hy | hy
  · exact hm _ _ (h.loose y hy)
  · simp only [List.mem_singleton] at hy
    subst hy
    exact List.mem_append_right _ (List.mem_singleton.2 rfl)
theorem loop2 (N : Nat) (hN : 100 ≤ N) (l l2 : List T30) (ks : List Bool) : ∀ (r k m : Nat) (x : Dk) (m0 m1 m2 m3 m4 m5 : LL), k + r = 30 → r < m → J2 x k m0 m1 m2 m3 m4 m5 → L3_2 N l l2 ks m (x, m0, m1, m2, m3, m4, m5, (k : Int)) = some (.bool true, []) := by
  intro r
  induction r with
  | zero =>
    intro k m x m0 m1 m2 m3 m4 m5 hk hm h
    obtain ⟨m, rfl⟩ : ∃ m', m = m' + 1 := ⟨m - 1, by omega⟩
    have e := h.end_ (by omega) N hN l l2 ks
    rw [u3_2]
    unfold G3_2
    simp only []
    rw [decide_eq_false (show ¬ ((k : Int) < 30) by omega), h.j.ok, e]
    cases decide ((k : Int) < ((l2.length : Nat) : Int)) <;> rfl
  | succ r ih =>
    intro k m x m0 m1 m2 m3 m4 m5 hk hm h
    obtain ⟨m, rfl⟩ : ∃ m', m = m' + 1 := ⟨m - 1, by omega⟩
    have e := h.end_ (by omega) N hN l l2 ks
    have hsm := h.small
    have hlen := h.j.len
    rw [u3_2]
    unfold G3_2
    simp only []
    rw [h.j.ok, e]
    cases hl : decide ((k : Int) < ((l2.length : Nat) : Int))
    · rfl
    have hl := of_decide_eq_true hl
    rw [decide_eq_true (show (k : Int) < 30 by omega), decide_eq_true (show 0 ≤ (k : Int) by omega)]
    have hx := List.getElem?_eq_getElem (show k < l2.length by omega)
    generalize l2[k] = y at hx
    simp only [cond_true, Int.toNat_natCast, hx, getO]
    rw [decide_eq_true (show x.p.length < 1000000 by omega), wrap_id0 (show -9223372036854775808 ≤ (k : Int) + 1 by omega) (by omega), show (k : Int) + 1 = ((k + 1 : Nat) : Int) by omega]
    have hj := h.j.write (by omega) y.at_ y.data
    obtain ⟨w1, w2, w3, hw⟩ := write_keep h.j.d h.j.a y.at_ y.data
    simp only [cond_true]
    rcases hw with ⟨g1, g2, g3, g4, g5⟩ | ⟨g1, g2⟩
    · have hfl := h.j.fl
      have hr := read_last (x := (writeM x y.at_ y.data).2) w1 g2 (by rw [w3]; exact g3) g5
      have hl5 := hj.len
      rw [g1, hr, decide_eq_true (show (writeM x y.at_ y.data).2.p.length < 4611686018427387904 by omega), decide_eq_false (show ¬ y.at_ < 0 by omega), decide_eq_false (show ¬ y.at_ > 5 by omega)]
      have hlen2 : (y.data ++ pad (32 - y.data.length)).length = 32 := by simp [pad_len]; omega
      simp only [hlen2]
      rw [decide_eq_true (show (0 : Int) ≤ 0 ∧ 0 ≤ ((y.data.length : Nat) : Int) ∧ ((y.data.length : Nat) : Int) ≤ ((32 : Nat) : Int) by omega)]
      have ht : (!List.drop (Int.toNat 0) (List.take y.data.length (y.data ++ pad (32 - y.data.length))) == y.data) = false := by simp
      rw [ht]
      simp only [bne_self_eq_false, cond_false, cond_true]
      show G3_1027 N l l2 ks (L3_2 N l l2 ks m) _ = _
      obtain ⟨kd, at_, n, data, keep⟩ := y
      simp only at g2 g3 g5 hj w3 ⊢
      have hcase : at_ = 0 ∨ at_ = 1 ∨ at_ = 2 ∨ at_ = 3 ∨ at_ = 4 ∨ at_ = 5 := by omega
      rcases hcase with rfl | rfl | rfl | rfl | rfl | rfl
      · rw [c27_0 _ _ _ _ _ _ _ _ _ _ _ _ _ _ _ _ _ _ (show m0.length < 60 from Nat.lt_of_le_of_lt (hsm 0) (by omega)), wrap_id0 (show -9223372036854775808 ≤ (k : Int) + 1 by omega) (by omega), show (k : Int) + 1 = ((k + 1 : Nat) : Int) by omega]
        exact ih (k + 1) m _ _ _ _ _ _ _ (by omega) (by omega) (h.add0 hj w3 g5)
      · rw [c27_1 _ _ _ _ _ _ _ _ _ _ _ _ _ _ _ _ _ _ (show m1.length < 60 from Nat.lt_of_le_of_lt (hsm 1) (by omega)), wrap_id0 (show -9223372036854775808 ≤ (k : Int) + 1 by omega) (by omega), show (k : Int) + 1 = ((k + 1 : Nat) : Int) by omega]
        exact ih (k + 1) m _ _ _ _ _ _ _ (by omega) (by omega) (h.add1 hj w3 g5)
      · rw [c27_2 _ _ _ _ _ _ _ _ _ _ _ _ _ _ _ _ _ _ (show m2.length < 60 from Nat.lt_of_le_of_lt (hsm 2) (by omega)), wrap_id0 (show -9223372036854775808 ≤ (k : Int) + 1 by omega) (by omega), show (k : Int) + 1 = ((k + 1 : Nat) : Int) by omega]
        exact ih (k + 1) m _ _ _ _ _ _ _ (by omega) (by omega) (h.add2 hj w3 g5)
      · rw [c27_3 _ _ _ _ _ _ _ _ _ _ _ _ _ _ _ _ _ _ (show m3.length < 60 from Nat.lt_of_le_of_lt (hsm 3) (by omega)), wrap_id0 (show -9223372036854775808 ≤ (k : Int) + 1 by omega) (by omega), show (k : Int) + 1 = ((k + 1 : Nat) : Int) by omega]
        exact ih (k + 1) m _ _ _ _ _ _ _ (by omega) (by omega) (h.add3 hj w3 g5)
      · rw [c27_4 _ _ _ _ _ _ _ _ _ _ _ _ _ _ _ _ _ _ (show m4.length < 60 from Nat.lt_of_le_of_lt (hsm 4) (by omega)), wrap_id0 (show -9223372036854775808 ≤ (k : Int) + 1 by omega) (by omega), show (k : Int) + 1 = ((k + 1 : Nat) : Int) by omega]
        exact ih (k + 1) m _ _ _ _ _ _ _ (by omega) (by omega) (h.add4 hj w3 g5)
      · rw [c27_5 _ _ _ _ _ _ _ _ _ _ _ _ _ _ _ _ _ _ (show m5.length < 60 from Nat.lt_of_le_of_lt (hsm 5) (by omega)), wrap_id0 (show -9223372036854775808 ≤ (k : Int) + 1 by omega) (by omega), show (k : Int) + 1 = ((k + 1 : Nat) : Int) by omega]
        exact ih (k + 1) m _ _ _ _ _ _ _ (by omega) (by omega) (h.add5 hj w3 g5)
    · rw [show ((writeM x y.at_ y.data).1 != 0) = true by simp [g1]]
      simp only [cond_true]
      exact ih (k + 1) m _ _ _ _ _ _ _ (by omega) (by omega) ⟨hj, fun i => Nat.le_succ_of_le (hsm i), fun i hi s hs => h.firm i hi s (by rw [← w3]; exact hs), fun z hz => h.loose z (by rw [← g2]; exact hz)⟩
theorem loop1 (N : Nat) (hN : 100 ≤ N) (l l2 : List T30) (ks : List Bool) (x : Dk) (h : J0 x 0) (hp : x.p = []) : L3_1 N l l2 ks N (x, 0, [], [], [], [], [], []) = some (.bool true, []) := by
  obtain ⟨xl, xa, xd, xf, xp⟩ := x
  have hd := h.d
  have ha := h.a
  simp only at hd ha hp
  subst hd ha hp
  obtain ⟨f0, f1, f2, f3, f4, f5, hf⟩ := six h.fl
  simp only at hf
  subst hf
  obtain ⟨n, rfl⟩ : ∃ n, N = n + 7 := ⟨N - 7, by omega⟩
  have key := loop2 (n + 7) hN l l2 ks 30 0 (n + 7) ⟨xl, false, false, [f0, f1, f2, f3, f4, f5], []⟩ [f0] [f1] [f2] [f3] [f4] [f5] (by omega) (by omega) ⟨h, nth_small (by simp) (by simp) (by simp) (by simp) (by simp) (by simp), fun i hi s hs => by
      match i, hi with
      | 0, _ => simpa [nth, eq_comm] using hs
      | 1, _ => simpa [nth, eq_comm] using hs
      | 2, _ => simpa [nth, eq_comm] using hs
      | 3, _ => simpa [nth, eq_comm] using hs
      | 4, _ => simpa [nth, eq_comm] using hs
      | 5, _ => simpa [nth, eq_comm] using hs, fun y hy => by cases hy⟩
  exact Eq.trans (by kernel_rfl) key
theorem loop0 (N : Nat) (hN : 100 ≤ N) (l l2 : List T30) (ks : List Bool) : ∀ (r k m : Nat) (x : Dk), k + r = 30 → r < m → J0 x k → L3_0 N l l2 ks m ((k : Int), x) = some (.bool true, []) := by
  have fin : ∀ {x : Dk} {k : Nat}, J0 x k → (bif okD x then bif (flushM x).fst != 0 then some (AV.bool false, []) else bif (((flushM x).snd.p.length : Nat) : Int) != 0 then some (AV.bool false, []) else L3_1 N l l2 ks N ((flushM x).snd, 0, [], [], [], [], [], []) else none) = some (.bool true, []) := by
    intro x k h
    have hfl : (x.p.foldl setF x.f).length = x.f.length := by
      generalize x.f = f
      induction x.p generalizing f with
      | nil => rfl
      | cons y p ih => exact (ih _).trans (by simp [setF])
    have e : flushM x = (0, ⟨x.l, false, false, x.p.foldl setF x.f, []⟩) := by
      unfold flushM
      rw [h.d, h.a]
      rfl
    rw [h.ok, e]
    have key := loop1 N hN l l2 ks ⟨x.l, false, false, x.p.foldl setF x.f, []⟩ ⟨okD_mk (by simp) (by simp), by simp, rfl, rfl, hfl.trans h.fl⟩ rfl
    exact Eq.trans (by rfl) key
  intro r
  induction r with
  | zero =>
    intro k m x hk hm h
    obtain ⟨m, rfl⟩ : ∃ m', m = m' + 1 := ⟨m - 1, by omega⟩
    rw [u3_0]
    unfold G3_0
    simp only []
    rw [decide_eq_false (show ¬ ((k : Int) < 30) by omega), fin h]
    cases decide ((k : Int) < ((l.length : Nat) : Int)) <;> rfl
  | succ r ih =>
    intro k m x hk hm h
    obtain ⟨m, rfl⟩ : ∃ m', m = m' + 1 := ⟨m - 1, by omega⟩
    rw [u3_0]
    unfold G3_0
    simp only []
    rw [fin h]
    cases hl : decide ((k : Int) < ((l.length : Nat) : Int))
    · rfl
    have hl := of_decide_eq_true hl
    have hlen := h.len
    rw [decide_eq_true (show (k : Int) < 30 by omega), decide_eq_true (show 0 ≤ (k : Int) by omega)]
    have hx := List.getElem?_eq_getElem (show k < l.length by omega)
    generalize l[k] = y at hx
    simp only [cond_true, Int.toNat_natCast, hx, getO]
    rw [decide_eq_true (show x.p.length < 1000000 by omega), wrap_id0 (show -9223372036854775808 ≤ (k : Int) + 1 by omega) (by omega), show (k : Int) + 1 = ((k + 1 : Nat) : Int) by omega]
    exact ih (k + 1) m _ (by omega) (by omega) (h.write (by omega) y.at_ y.data)
theorem law3 (N : Nat) (hN : 100 ≤ N) (l l2 : List T30) (ks : List Bool) : m3 N l l2 ks = some (.bool true, []) := by
  unfold m3 G3
  cases decide (((ks.length : Nat) : Int) > 100)
  · exact loop0 N hN l l2 ks 30 0 N (newM 6) (by omega) (by omega) ⟨by decide, by decide, rfl, rfl, rfl⟩
  · rfl
def o3 : Over := fun vs os => match vs, os with
  | [.sl 30 false l, .sl 30 false l2, .sl 4 false ks], [] => .ret (.bool true, [])
  | _, _ => .fail
theorem p3 : OverOk Try.prog 3 o3 := OverOk.of (FF3_ok 100) tb_ok ok3 fun vs os r h => by
  unfold o3 at h
  split at h
  · rename_i l l2 ks
    exact ⟨100, (e3 100 l l2 ks).trans ((law3 100 (Nat.le_refl _) l l2 ks).trans h)⟩
  · cases h
end Go.AM.Ytpdifkaeiecdpaa
