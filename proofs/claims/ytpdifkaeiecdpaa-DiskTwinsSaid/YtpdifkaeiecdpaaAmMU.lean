/- Soundness: what is handed over ahead of a call. -/
import Derived.Test.YtpdifkaeiecdpaaAmMS
namespace Go.AM
open Go.RowKit Go.Lib
section
variable [Reg]
section
variable {P : Program} {c : Ctx} {γ γ' γ'' : Gh} {D D' D'' : Dead} {st : St} {a : Act} {w w' w'' : World} {tb : Tb} {H : Hints} {h h' h'' : Heap} {u u' u'' : List Nat}

/-! ### Rows that are frozen -/
/-- Values, one by one. -/
def RepLs (Q : AV → Value → Prop) : List AV → List Value → Prop
  | [], [] => True
  | c :: cs, v :: vs => Q c v ∧ RepLs Q cs vs
  | _, _ => False
theorem RepLs.get {Q : AV → Value → Prop} : ∀ {cs : List AV} {vs : List Value}, RepLs Q cs vs → vs.length = cs.length ∧ ∀ (i : Nat) (c : AV) (v : Value), cs[i]? = some c → vs[i]? = some v → Q c v
  | [], [], _ => ⟨rfl, by simp⟩
  | [], _ :: _, h => h.elim
  | _ :: _, [], h => h.elim
  | c :: cs, v :: vs, h => by
    obtain ⟨h1, h2⟩ := RepLs.get h.2
    refine ⟨by simp [h1], fun i c' v' hi hj => ?_⟩
    cases i with
    | zero => simp at hi hj; subst hi; subst hj; exact h.1
    | succ i => exact h2 i c' v' (by simpa using hi) (by simpa using hj)
theorem RepLs.of {Q : AV → Value → Prop} : ∀ {cs : List AV} {vs : List Value}, vs.length = cs.length → (∀ (i : Nat) (c : AV) (v : Value), cs[i]? = some c → vs[i]? = some v → Q c v) → RepLs Q cs vs
  | [], [], _, _ => trivial
  | [], _ :: _, h, _ => by simp at h
  | _ :: _, [], h, _ => by simp at h
  | c :: cs, v :: vs, h, hh => ⟨hh 0 c v rfl rfl, RepLs.of (by simpa using h) fun i c' v' hi hj => hh (i + 1) c' v' (by simpa using hi) (by simpa using hj)⟩
theorem RepLs.mono {Q Q' : AV → Value → Prop} (hq : ∀ c v, Q c v → Q' c v) : ∀ {cs : List AV} {vs : List Value}, RepLs Q cs vs → RepLs Q' cs vs
  | [], [], _ => trivial
  | [], _ :: _, h => h.elim
  | _ :: _, [], h => h.elim
  | _c :: _cs, _v :: _vs, h => ⟨hq _ _ h.1, RepLs.mono hq h.2⟩
def CC (γ : Gh) (h : Heap) (u : List Nat) (w : World) (D : Dead) (c : AV) (v : Value) : Prop := RepC γ h u w D c v ∧ Cell c
theorem CC.step (s : Stp γ γ' h h' u u' w w' D D') {x : AV} {v : Value} (hx : CC γ h u w D x v) : CC γ' h' u' w' D' x v := ⟨hx.1.mono s.pres s.dd s.uu s.same, hx.2⟩

theorem stp_fz (hi : Inv c γ D st a w) {k t : Nat} {xs : List (R t)} (hk : find k st.h = some (.row t xs)) : ∃ γ' D', Stp γ γ' st.h (AM.put k (.fz t xs) st.h) st.u st.u w w D D' := by
  by_cases hown : γ.own (γ.g k).1 = some k
  · refine ⟨_, fun b o => D b o ∨ (γ.own b = some k ∧ (γ.g k).2 ≤ o), stp_del hi k ⟨fun _ _ h => .inl h, fun b o hne h => h.resolve_right fun h2 => hne h2.1, fun b o h => ?_⟩ (fun j hj => find_put_ne hj _ _) (.inr ⟨t, xs, find_put_same _ _ _, hk, ?_⟩)⟩
    · rcases h with h | ⟨h, _⟩
      · exact hi.dl b o h
      · exact (hi.hp.own b k h).1
    · refine (hi.hp.row k t xs hk).imp id ?_
      rintro ⟨_, vs, E, h2, h3, h4⟩
      refine ⟨fun q => vs.getD ((γ.g k).2 + q) Go.undef, fun q c' hq => ?_⟩
      have hlt : (γ.g k).2 + q < vs.size := by
        have := (List.getElem?_eq_some_iff.1 hq).1
        rw [flat_len] at this
        omega
      have e1 : vs.getD ((γ.g k).2 + q) Go.undef = vs[(γ.g k).2 + q] := by simp [hlt]
      dsimp only
      rw [e1]
      exact ⟨.inr ⟨hown, by omega⟩, by rw [cell_of_block h2, Array.getElem?_eq_getElem hlt], (h4 q c' _ hq (Array.getElem?_eq_getElem hlt)).mono (fun _ _ _ => rfl) (fun _ _ h => .inl h)⟩
  · refine ⟨_, D, stp_del hi k (Dies.refl hi k) (fun j hj => find_put_ne hj _ _) (.inr ⟨t, xs, find_put_same _ _ _, hk, ?_⟩)⟩
    rcases hi.hp.row k t xs hk with e | ⟨h1, _⟩
    · exact .inl e
    · exact absurd h1 hown

theorem frC_sound (hi : Inv c γ D st a w) {x : AV} {v : Value} (hx : CC γ st.h st.u w D x v) : ∃ γ' D', Stp γ γ' st.h (frC st.h x).2 st.u st.u w w D D' ∧ CC γ' (frC st.h x).2 st.u w D' (frC st.h x).1 v := by
  have same : ∃ γ' D', Stp γ γ' st.h st.h st.u st.u w w D D' ∧ CC γ' st.h st.u w D' x v := ⟨γ, D, stp_ext hi fun _ => rfl, hx⟩
  have und : ∃ γ' D', Stp γ γ' st.h st.h st.u st.u w w D D' ∧ CC γ' st.h st.u w D' .undef v := ⟨γ, D, stp_ext hi fun _ => rfl, trivial, .inl rfl⟩
  unfold frC
  split
  · rename_i k t
    split
    · rename_i t' xs hk
      split
      · rename_i e
        subst e
        obtain ⟨γ', D', s⟩ := stp_fz hi hk
        exact ⟨γ', D', s, ((hx.step s).1.2.2.2 xs (find_put_same _ _ _)).c, .inr rfl⟩
      · exact und
    · rename_i t' xs hk
      split
      · rename_i e
        subst e
        exact ⟨γ, D, stp_ext hi fun _ => rfl, (hx.1.2.2.2 xs hk).c, .inr rfl⟩
      · exact und
    · exact und
  · rename_i k t lo n
    split
    · rename_i t' xs hk
      split
      · rename_i e
        subst e
        obtain ⟨γ', D', s⟩ := stp_fz hi hk
        exact ⟨γ', D', s, ((hx.step s).1.2.2.2 xs (find_put_same _ _ _)).1.c, .inr rfl⟩
      · exact und
    · rename_i t' xs hk
      split
      · rename_i e
        subst e
        exact ⟨γ, D, stp_ext hi fun _ => rfl, (hx.1.2.2.2 xs hk).1.c, .inr rfl⟩
      · exact und
    · exact und
  · exact same

/-- Something that stays true when memory is stepped on. -/
theorem frCs_sound {E : AV → Value → Prop} : ∀ {cs : List AV} {vs : List Value} {γ : Gh} {D : Dead} {st : St}, Inv c γ D st a w → RepLs (CC γ st.h st.u w D) cs vs →
    ∃ γ' D', Inv c γ' D' { st with h := (frCs st.h cs).2 } a w ∧ RepLs (CC γ' (frCs st.h cs).2 st.u w D') (frCs st.h cs).1 vs ∧ (∀ x v, CC γ st.h st.u w D x v → CC γ' (frCs st.h cs).2 st.u w D' x v) ∧ ∀ x v, RepB γ st.h st.u w D x v → RepB γ' (frCs st.h cs).2 st.u w D' x v
  | [], [], γ, D, st, hi, _ => ⟨γ, D, hi, trivial, fun _ _ h => h, fun _ _ h => h⟩
  | [], _ :: _, γ, D, st, hi, h => h.elim
  | _ :: _, [], γ, D, st, hi, h => h.elim
  | x :: cs, v :: vs, γ, D, st, hi, hR => by
    obtain ⟨γ1, D1, s1, h1⟩ := frC_sound hi hR.1
    have hi1 := hi.step s1
    have hR1 : RepLs (CC γ1 (frC st.h x).2 st.u w D1) cs vs := RepLs.mono (fun c' v' h => h.step s1) hR.2
    obtain ⟨γ2, D2, hi2, h2, h3, h4⟩ := frCs_sound (E := E) (st := { st with h := (frC st.h x).2 }) hi1 hR1
    exact ⟨γ2, D2, hi2, ⟨h3 _ _ h1, h2⟩, fun x' v' h => h3 _ _ (h.step s1), fun x' v' h => h4 _ _ (h.mono s1.pres s1.dd s1.uu s1.same)⟩

theorem frV_sound (hi : Inv c γ D st a w) {x : AV} {v : Value} (hx : RepB γ st.h st.u w D x v) : ∃ γ' D', Inv c γ' D' { st with h := (frV st.h x).2 } a w ∧ RepB γ' (frV st.h x).2 st.u w D' (frV st.h x).1 v ∧ ∀ y z, RepB γ st.h st.u w D y z → RepB γ' (frV st.h x).2 st.u w D' y z := by
  have cell : ∀ {x : AV}, RepB γ st.h st.u w D x v → Cell x → ∃ γ' D', Inv c γ' D' { st with h := (frC st.h x).2 } a w ∧ RepB γ' (frC st.h x).2 st.u w D' (frC st.h x).1 v ∧ ∀ y z, RepB γ st.h st.u w D y z → RepB γ' (frC st.h x).2 st.u w D' y z := fun {x} hx hc => by
    obtain ⟨γ', D', s, h1⟩ := frC_sound hi ⟨hx.toC hc, hc⟩
    exact ⟨γ', D', hi.step s, h1.1.b, fun y z h => h.mono s.pres s.dd s.uu s.same⟩
  cases x with
  | agg cs =>
    obtain ⟨vs, rfl, hn, hh⟩ := hx
    obtain ⟨γ', D', h1, h2, _, h4⟩ := frCs_sound (E := fun _ _ => True) hi (cs := cs) (vs := vs.toList) (RepLs.of (by simpa using hn) fun i c' v' hi' hj => hh i c' v' hi' (by simpa using hj))
    obtain ⟨g1, g2⟩ := h2.get
    exact ⟨γ', D', h1, ⟨vs, rfl, by simpa using g1, fun i c' v' hi' hj => g2 i c' v' hi' (by simpa using hj)⟩, h4⟩
  | undef => exact cell hx (.inl rfl)
  | tup vs => exact (nomatch (show RepD w D (.tup vs) v from hx))
  | ow t xs => exact (nomatch (show RepD w D (.ow t xs) v from hx))
  | _ => exact cell hx (.inr rfl)
theorem frVs_sound : ∀ {xs : List AV} {vs : List Value} {γ : Gh} {D : Dead} {st : St}, Inv c γ D st a w → RepLs (RepB γ st.h st.u w D) xs vs →
    ∃ γ' D', Inv c γ' D' { st with h := (frVs st.h xs).2 } a w ∧ RepLs (RepB γ' (frVs st.h xs).2 st.u w D') (frVs st.h xs).1 vs ∧ ∀ y z, RepB γ st.h st.u w D y z → RepB γ' (frVs st.h xs).2 st.u w D' y z
  | [], [], γ, D, st, hi, _ => ⟨γ, D, hi, trivial, fun _ _ h => h⟩
  | [], _ :: _, γ, D, st, hi, h => h.elim
  | _ :: _, [], γ, D, st, hi, h => h.elim
  | x :: xs, v :: vs, γ, D, st, hi, hR => by
    obtain ⟨γ1, D1, hi1, h1, k1⟩ := frV_sound hi hR.1
    obtain ⟨γ2, D2, hi2, h2, k2⟩ := frVs_sound (st := { st with h := (frV st.h x).2 }) hi1 (RepLs.mono k1 hR.2)
    exact ⟨γ2, D2, hi2, ⟨k2 _ _ h1, h2⟩, fun y z h => k2 _ _ (k1 _ _ h)⟩

/-! ### Lists of numbers -/
omit [Reg] in
theorem nodupB_iff : ∀ {l : List Nat}, nodupB l = true → l.Nodup
  | [], _ => List.nodup_nil
  | k :: r, h => by
    simp only [nodupB, Bool.and_eq_true, Bool.not_eq_true'] at h
    exact List.nodup_cons.2 ⟨by simpa using h.1, nodupB_iff h.2⟩
omit [Reg] in
theorem idxOf_at {k : Nat} : ∀ {ks : List Nat} {i m : Nat}, ks.Nodup → ks[m]? = some k → idxOf k ks i = some (i + m)
  | [], i, m, _, h => by simp at h
  | x :: r, i, m, hn, h => by
    unfold idxOf
    obtain ⟨h1, h2⟩ := List.nodup_cons.1 hn
    cases m with
    | zero =>
      simp at h
      subst h
      simp
    | succ m =>
      have hk : r[m]? = some k := by simpa using h
      have hne : Nat.beq k x = false := by
        cases hb : Nat.beq k x with
        | false => rfl
        | true => rw [Nat.eq_of_beq_eq_true hb] at hk; exact absurd (List.mem_of_getElem? hk) h1
      rw [hne]
      simp only [cond_false]
      rw [idxOf_at h2 hk]
      congr 1
      omega
omit [Reg] in
theorem idxOf_none {k : Nat} : ∀ {ks : List Nat} {i : Nat}, k ∉ ks → idxOf k ks i = none
  | [], i, _ => rfl
  | x :: r, i, h => by
    simp only [List.mem_cons, not_or] at h
    unfold idxOf
    have hne : Nat.beq k x = false := by
      cases hb : Nat.beq k x with
      | false => rfl
      | true => exact absurd (Nat.eq_of_beq_eq_true hb) h.1
    rw [hne]
    exact idxOf_none h.2

/-- Where a row lies in a box. -/
def rowPos (k : Nat) : Nat → List AV → Option Nat
  | _, [] => none
  | i, c :: r => match c with | .vw k' _ => (bif Nat.beq k' k then some i else rowPos k (i + 1) r) | _ => rowPos k (i + 1) r
def rowsOfBox (h : Heap) (k : Nat) : List Nat := match find k h with | some (.box cs) => rowRefs cs | _ => []
def rowIx (h : Heap) (k : Nat) : Nat → List Nat → Option (Nat × Nat)
  | _, [] => none
  | n, k0 :: r => match find k0 h with | some (.box cs) => (match rowPos k 0 cs with | some i => some (n, i) | none => rowIx h k (n + 1) r) | _ => rowIx h k (n + 1) r
theorem rowRefs_cons (c : AV) (r : List AV) : rowRefs (c :: r) = (match c with | .vw k _ => [k] | _ => []) ++ rowRefs r := rfl
theorem rowPos_at {k t : Nat} : ∀ {cs : List AV} {i m : Nat}, (rowRefs cs).Nodup → cs[i]? = some (.vw k t) → rowPos k m cs = some (m + i)
  | [], i, m, _, h => by simp at h
  | c :: r, i, m, hn, h => by
    rw [rowRefs_cons] at hn
    cases i with
    | zero =>
      simp at h
      subst h
      simp [rowPos]
    | succ i =>
      have hk : r[i]? = some (.vw k t) := by simpa using h
      have hin : k ∈ rowRefs r := by
        refine List.mem_flatMap.2 ⟨.vw k t, List.mem_of_getElem? hk, by simp⟩
      have hn2 : (rowRefs r).Nodup := (List.nodup_append.1 hn).2.1
      have ih := rowPos_at (m := m + 1) hn2 hk
      unfold rowPos
      split
      · rename_i k' t'
        have hne : Nat.beq k' k = false := by
          cases hb : Nat.beq k' k with
          | false => rfl
          | true =>
            have := Nat.eq_of_beq_eq_true hb
            subst this
            exact absurd rfl ((List.nodup_append.1 hn).2.2 k' (by simp) k' hin)
        rw [hne]
        simp only [cond_false, ih]
        congr 1
        omega
      · rw [ih]
        congr 1
        omega
theorem rowPos_spec {k : Nat} : ∀ {cs : List AV} {i m : Nat}, rowPos k m cs = some i → m ≤ i ∧ ∃ t, cs[i - m]? = some (.vw k t)
  | [], i, m, h => by simp [rowPos] at h
  | c :: r, i, m, h => by
    unfold rowPos at h
    have go : rowPos k (m + 1) r = some i → m ≤ i ∧ ∃ t, (c :: r)[i - m]? = some (.vw k t) := fun h => by
      obtain ⟨h1, t, h2⟩ := rowPos_spec h
      refine ⟨by omega, t, ?_⟩
      rw [show i - m = (i - (m + 1)) + 1 by omega, List.getElem?_cons_succ]
      exact h2
    split at h
    · rename_i k' t'
      cases hb : Nat.beq k' k with
      | true =>
        rw [hb] at h
        simp only [cond_true, Option.some.injEq] at h
        subst h
        rw [Nat.eq_of_beq_eq_true hb]
        exact ⟨Nat.le_refl _, t', by simp⟩
      | false => rw [hb] at h; exact go h
    · exact go h
theorem rowIx_at {k t : Nat} : ∀ {ks : List Nat} {n m i k0 : Nat} {cs : List AV}, (inls h ks).Nodup → ks[n]? = some k0 → find k0 h = some (.box cs) → cs[i]? = some (.vw k t) → rowIx h k m ks = some (m + n, i)
  | [], n, m, i, k0, cs, _, h1, _, _ => by simp at h1
  | k1 :: r, n, m, i, k0, cs, hn, h1, h2, h3 => by
    have e : inls h (k1 :: r) = rowsOfBox h k1 ++ inls h r := rfl
    rw [e] at hn
    obtain ⟨n1, n2, n3⟩ := List.nodup_append.1 hn
    cases n with
    | zero =>
      simp at h1
      subst h1
      unfold rowIx
      rw [h2]
      simp only
      have hn1 : (rowRefs cs).Nodup := by unfold rowsOfBox at n1; rw [h2] at n1; exact n1
      rw [rowPos_at (m := 0) hn1 h3]
      simp
    | succ n =>
      have h1' : r[n]? = some k0 := by simpa using h1
      have ih := rowIx_at (m := m + 1) n2 h1' h2 h3
      have hin : k ∈ inls h r := by
        refine List.mem_flatMap.2 ⟨k0, List.mem_of_getElem? h1', ?_⟩
        rw [h2]
        exact List.mem_flatMap.2 ⟨.vw k t, List.mem_of_getElem? h3, by simp⟩
      have go : rowIx h k (m + 1) r = some (m + (n + 1), i) := by rw [ih]; congr 2; omega
      unfold rowIx
      split
      · rename_i cs1 hb
        split
        · rename_i j hj
          obtain ⟨_, t', hj⟩ := rowPos_spec hj
          exfalso
          refine n3 k ?_ k hin rfl
          unfold rowsOfBox
          rw [hb]
          exact List.mem_flatMap.2 ⟨.vw k t', List.mem_of_getElem? hj, by simp⟩
        · exact go
      · exact go
theorem rowIx_spec {k : Nat} : ∀ {ks : List Nat} {n m i : Nat}, rowIx h k m ks = some (n, i) → m ≤ n ∧ ∃ k0 cs t, ks[n - m]? = some k0 ∧ find k0 h = some (.box cs) ∧ cs[i]? = some (.vw k t)
  | [], n, m, i, e => by simp [rowIx] at e
  | k1 :: r, n, m, i, e => by
    unfold rowIx at e
    have go : rowIx h k (m + 1) r = some (n, i) → m ≤ n ∧ ∃ k0 cs t, (k1 :: r)[n - m]? = some k0 ∧ find k0 h = some (.box cs) ∧ cs[i]? = some (.vw k t) := fun e => by
      obtain ⟨h1, k0, cs, t, h2, h3⟩ := rowIx_spec e
      refine ⟨by omega, k0, cs, t, ?_, h3⟩
      rw [show n - m = (n - (m + 1)) + 1 by omega, List.getElem?_cons_succ]
      exact h2
    split at e
    · rename_i cs hb
      split at e
      · rename_i j hj
        simp only [Option.some.injEq, Prod.mk.injEq] at e
        obtain ⟨rfl, rfl⟩ := e
        obtain ⟨_, t, hj⟩ := rowPos_spec hj
        exact ⟨Nat.le_refl _, k1, cs, t, by simp, hb, by simpa using hj⟩
      · exact go e
    · exact go e
end
end
end Go.AM
