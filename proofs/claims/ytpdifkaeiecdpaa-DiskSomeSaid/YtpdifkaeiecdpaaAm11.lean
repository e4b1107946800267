/- A part of the proof: machine and program. -/
import Derived.Test.YtpdifkaeiecdpaaAm10
namespace Go.AM
open Go.RowKit Go.Lib
section
variable [Reg]
section
variable {P : Program} {c : Ctx} {γ γ' γ'' : Gh} {D D' D'' : Dead} {st : St} {a : Act} {w w' w'' : World} {tb : Tb} {H : Hints} {h h' h'' : Heap} {u u' u'' : List Nat}

/-! ### Rows that are frozen -/
/-- Values, one by one. -/
def RepLs (Q : AV → Value → Prop) : List AV → List Value → Prop
  | [], [] => True
  | c :: cs, v :: vs => Q c v ∧ RepLs Q cs vs
  | _, _ => False
theorem RepLs.get {Q : AV → Value → Prop} : ∀ {cs : List AV} {vs : List Value}, RepLs Q cs vs → vs.length = cs.length ∧ ∀ (i : Nat) (c : AV) (v : Value), cs[i]? = some c → vs[i]? = some v → Q c v
  | [], [], _ => ⟨rfl, by simp⟩
  | [], _ :: _, h => h.elim
  | _ :: _, [], h => h.elim
  | c :: cs, v :: vs, h => by
    obtain ⟨h1, h2⟩ := RepLs.get h.2
    refine ⟨by simp [h1], fun i c' v' hi hj => ?_⟩
    cases i with
    | zero => simp at hi hj; subst hi; subst hj; exact h.1
    | succ i => exact h2 i c' v' (by simpa using hi) (by simpa using hj)
theorem RepLs.of {Q : AV → Value → Prop} : ∀ {cs : List AV} {vs : List Value}, vs.length = cs.length → (∀ (i : Nat) (c : AV) (v : Value), cs[i]? = some c → vs[i]? = some v → Q c v) → RepLs Q cs vs
  | [], [], _, _ => trivial
  | [], _ :: _, h, _ => by simp at h
  | _ :: _, [], h, _ => by simp at h
  | c :: cs, v :: vs, h, hh => ⟨hh 0 c v rfl rfl, RepLs.of (by simpa using h) fun i c' v' hi hj => hh (i + 1) c' v' (by simpa using hi) (by simpa using hj)⟩
theorem RepLs.mono {Q Q' : AV → Value → Prop} (hq : ∀ c v, Q c v → Q' c v) : ∀ {cs : List AV} {vs : List Value}, RepLs Q cs vs → RepLs Q' cs vs
  | [], [], _ => trivial
  | [], _ :: _, h => h.elim
  | _ :: _, [], h => h.elim
  | _c :: _cs, _v :: _vs, h => ⟨hq _ _ h.1, RepLs.mono hq h.2⟩
def CC (γ : Gh) (h : Heap) (u : List Nat) (w : World) (D : Dead) (c : AV) (v : Value) : Prop := RepC γ h u w D c v ∧ Cell c
theorem CC.step (s : Stp γ γ' h h' u u' w w' D D') {x : AV} {v : Value} (hx : CC γ h u w D x v) : CC γ' h' u' w' D' x v := ⟨hx.1.mono s.pres s.dd s.uu s.same, hx.2⟩

theorem stp_fz (hi : Inv c γ D st a w) {k t : Nat} {xs : List (R t)} (hk : find k st.h = some (.row t xs)) : ∃ γ' D', Stp γ γ' st.h (AM.put k (.fz t xs) st.h) st.u st.u w w D D' := by
  by_cases hown : γ.own (γ.g k).1 = some k
  · refine ⟨_, fun b o => D b o ∨ (γ.own b = some k ∧ (γ.g k).2 ≤ o), stp_del hi k ⟨fun _ _ h => .inl h, fun b o hne h => h.resolve_right fun h2 => hne h2.1, fun b o h => ?_⟩ (fun j hj => find_put_ne hj _ _) (.inr ⟨t, xs, find_put_same _ _ _, hk, ?_⟩)⟩
    · rcases h with h | ⟨h, _⟩
      · exact hi.dl b o h
      · exact (hi.hp.own b k h).1
    · refine (hi.hp.row k t xs hk).imp id ?_
      rintro ⟨_, vs, E, h2, h3, h4⟩
      refine ⟨fun q => vs.getD ((γ.g k).2 + q) Go.undef, fun q c' hq => ?_⟩
      have hlt : (γ.g k).2 + q < vs.size := by
        have := (List.getElem?_eq_some_iff.1 hq).1
        rw [flat_len] at this
        omega
      have e1 : vs.getD ((γ.g k).2 + q) Go.undef = vs[(γ.g k).2 + q] := by simp [hlt]
      dsimp only
      rw [e1]
      exact ⟨.inr ⟨hown, by omega⟩, by rw [cell_of_block h2, Array.getElem?_eq_getElem hlt], (h4 q c' _ hq (Array.getElem?_eq_getElem hlt)).mono (fun _ _ _ => rfl) (fun _ _ h => .inl h)⟩
  · refine ⟨_, D, stp_del hi k (Dies.refl hi k) (fun j hj => find_put_ne hj _ _) (.inr ⟨t, xs, find_put_same _ _ _, hk, ?_⟩)⟩
    rcases hi.hp.row k t xs hk with e | ⟨h1, _⟩
    · exact .inl e
    · exact absurd h1 hown

theorem frC_sound (hi : Inv c γ D st a w) {x : AV} {v : Value} (hx : CC γ st.h st.u w D x v) : ∃ γ' D', Stp γ γ' st.h (frC st.h x).2 st.u st.u w w D D' ∧ CC γ' (frC st.h x).2 st.u w D' (frC st.h x).1 v := by
  have same : ∃ γ' D', Stp γ γ' st.h st.h st.u st.u w w D D' ∧ CC γ' st.h st.u w D' x v := ⟨γ, D, stp_ext hi fun _ => rfl, hx⟩
  have und : ∃ γ' D', Stp γ γ' st.h st.h st.u st.u w w D D' ∧ CC γ' st.h st.u w D' .undef v := ⟨γ, D, stp_ext hi fun _ => rfl, trivial, .inl rfl⟩
  unfold frC
  split
  · rename_i k t
    split
    · rename_i t' xs hk
      split
      · rename_i e
        subst e
        obtain ⟨γ', D', s⟩ := stp_fz hi hk
        exact ⟨γ', D', s, ((hx.step s).1.2.2.2 xs (find_put_same _ _ _)).c, .inr rfl⟩
      · exact und
    · rename_i t' xs hk
      split
      · rename_i e
        subst e
        exact ⟨γ, D, stp_ext hi fun _ => rfl, (hx.1.2.2.2 xs hk).c, .inr rfl⟩
      · exact und
    · exact und
  · rename_i k t lo n
    split
    · rename_i t' xs hk
      split
      · rename_i e
        subst e
        obtain ⟨γ', D', s⟩ := stp_fz hi hk
        exact ⟨γ', D', s, ((hx.step s).1.2.2.2 xs (find_put_same _ _ _)).1.c, .inr rfl⟩
      · exact und
    · rename_i t' xs hk
      split
      · rename_i e
        subst e
        exact ⟨γ, D, stp_ext hi fun _ => rfl, (hx.1.2.2.2 xs hk).1.c, .inr rfl⟩
      · exact und
    · exact und
  · rename_i k t i j
    split
    · rename_i t' xs hk
      split
      · rename_i e
        obtain ⟨rfl, rfl, rfl⟩ := e
        obtain ⟨γ', D', s⟩ := stp_fz hi hk
        have hv := hx.1.2.2.1 xs hk
        subst hv
        refine ⟨γ', D', s, ?_, .inr rfl⟩
        have key : RepD w D' (.ra t' xs) (.pointer (some ⟨(γ.g k).1, (γ.g k).2 + (0 * szR t' + 0), none⟩)) := by
          rcases (s.same k hx.1.1).fz t' xs (find_put_same _ _ _) with e | ⟨_, e | ⟨f, hf⟩⟩
          · rw [hk] at e; cases e
          · subst e
            exact .ra t' [] _ _ (fun _ => Go.undef) (fun q c' hq => by simp [flat] at hq) (fun q c' hq => by simp [flat] at hq)
          · refine .ra t' xs _ _ f (fun q c' hq => ?_) (fun q c' hq => (hf q c' hq).2.2)
            rw [show (γ.g k).2 + (0 * szR t' + 0) + q = (γ.g k).2 + q by omega]
            exact ⟨(hf q c' hq).1, (hf q c' hq).2.1⟩
        exact key.c
      · exact same
    · exact same
  · exact same

/-- Something that stays true when memory is stepped on. -/
theorem frCs_sound {E : AV → Value → Prop} : ∀ {cs : List AV} {vs : List Value} {γ : Gh} {D : Dead} {st : St}, Inv c γ D st a w → RepLs (CC γ st.h st.u w D) cs vs →
    ∃ γ' D', Inv c γ' D' { st with h := (frCs st.h cs).2 } a w ∧ RepLs (CC γ' (frCs st.h cs).2 st.u w D') (frCs st.h cs).1 vs ∧ (∀ x v, CC γ st.h st.u w D x v → CC γ' (frCs st.h cs).2 st.u w D' x v) ∧ ∀ x v, RepB γ st.h st.u w D x v → RepB γ' (frCs st.h cs).2 st.u w D' x v
  | [], [], γ, D, st, hi, _ => ⟨γ, D, hi, trivial, fun _ _ h => h, fun _ _ h => h⟩
  | [], _ :: _, γ, D, st, hi, h => h.elim
  | _ :: _, [], γ, D, st, hi, h => h.elim
  | x :: cs, v :: vs, γ, D, st, hi, hR => by
    obtain ⟨γ1, D1, s1, h1⟩ := frC_sound hi hR.1
    have hi1 := hi.step s1
    have hR1 : RepLs (CC γ1 (frC st.h x).2 st.u w D1) cs vs := RepLs.mono (fun c' v' h => h.step s1) hR.2
    obtain ⟨γ2, D2, hi2, h2, h3, h4⟩ := frCs_sound (E := E) (st := { st with h := (frC st.h x).2 }) hi1 hR1
    exact ⟨γ2, D2, hi2, ⟨h3 _ _ h1, h2⟩, fun x' v' h => h3 _ _ (h.step s1), fun x' v' h => h4 _ _ (h.mono s1.pres s1.dd s1.uu s1.same)⟩

theorem frV_sound (hi : Inv c γ D st a w) {x : AV} {v : Value} (hx : RepB γ st.h st.u w D x v) : ∃ γ' D', Inv c γ' D' { st with h := (frV st.h x).2 } a w ∧ RepB γ' (frV st.h x).2 st.u w D' (frV st.h x).1 v ∧ ∀ y z, RepB γ st.h st.u w D y z → RepB γ' (frV st.h x).2 st.u w D' y z := by
  have cell : ∀ {x : AV}, RepB γ st.h st.u w D x v → Cell x → ∃ γ' D', Inv c γ' D' { st with h := (frC st.h x).2 } a w ∧ RepB γ' (frC st.h x).2 st.u w D' (frC st.h x).1 v ∧ ∀ y z, RepB γ st.h st.u w D y z → RepB γ' (frC st.h x).2 st.u w D' y z := fun {x} hx hc => by
    obtain ⟨γ', D', s, h1⟩ := frC_sound hi ⟨hx.toC hc, hc⟩
    exact ⟨γ', D', hi.step s, h1.1.b, fun y z h => h.mono s.pres s.dd s.uu s.same⟩
  cases x with
  | agg cs =>
    obtain ⟨vs, rfl, hn, hh⟩ := hx
    obtain ⟨γ', D', h1, h2, _, h4⟩ := frCs_sound (E := fun _ _ => True) hi (cs := cs) (vs := vs.toList) (RepLs.of (by simpa using hn) fun i c' v' hi' hj => hh i c' v' hi' (by simpa using hj))
    obtain ⟨g1, g2⟩ := h2.get
    exact ⟨γ', D', h1, ⟨vs, rfl, by simpa using g1, fun i c' v' hi' hj => g2 i c' v' hi' (by simpa using hj)⟩, h4⟩
  | undef => exact cell hx (.inl rfl)
  | tup vs => exact (nomatch (show RepD w D (.tup vs) v from hx))
  | ow t xs => exact (nomatch (show RepD w D (.ow t xs) v from hx))
  | _ => exact cell hx (.inr rfl)
theorem frVs_sound : ∀ {xs : List AV} {vs : List Value} {γ : Gh} {D : Dead} {st : St}, Inv c γ D st a w → RepLs (RepB γ st.h st.u w D) xs vs →
    ∃ γ' D', Inv c γ' D' { st with h := (frVs st.h xs).2 } a w ∧ RepLs (RepB γ' (frVs st.h xs).2 st.u w D') (frVs st.h xs).1 vs ∧ ∀ y z, RepB γ st.h st.u w D y z → RepB γ' (frVs st.h xs).2 st.u w D' y z
  | [], [], γ, D, st, hi, _ => ⟨γ, D, hi, trivial, fun _ _ h => h⟩
  | [], _ :: _, γ, D, st, hi, h => h.elim
  | _ :: _, [], γ, D, st, hi, h => h.elim
  | x :: xs, v :: vs, γ, D, st, hi, hR => by
    obtain ⟨γ1, D1, hi1, h1, k1⟩ := frV_sound hi hR.1
    obtain ⟨γ2, D2, hi2, h2, k2⟩ := frVs_sound (st := { st with h := (frV st.h x).2 }) hi1 (RepLs.mono k1 hR.2)
    exact ⟨γ2, D2, hi2, ⟨k2 _ _ h1, h2⟩, fun y z h => k2 _ _ (k1 _ _ h)⟩

/-! ### Lists of numbers -/
omit [Reg] in
theorem nodupB_iff : ∀ {l : List Nat}, nodupB l = true → l.Nodup
  | [], _ => List.nodup_nil
  | k :: r, h => by
    simp only [nodupB, Bool.and_eq_true, Bool.not_eq_true'] at h
    exact List.nodup_cons.2 ⟨by simpa using h.1, nodupB_iff h.2⟩
omit [Reg] in
theorem idxOf_at {k : Nat} : ∀ {ks : List Nat} {i m : Nat}, ks.Nodup → ks[m]? = some k → idxOf k ks i = some (i + m)
  | [], i, m, _, h => by simp at h
  | x :: r, i, m, hn, h => by
    unfold idxOf
    obtain ⟨h1, h2⟩ := List.nodup_cons.1 hn
    cases m with
    | zero =>
      simp at h
      subst h
      simp
    | succ m =>
      have hk : r[m]? = some k := by simpa using h
      have hne : Nat.beq k x = false := by
        cases hb : Nat.beq k x with
        | false => rfl
        | true => rw [Nat.eq_of_beq_eq_true hb] at hk; exact absurd (List.mem_of_getElem? hk) h1
      rw [hne]
      simp only [cond_false]
      rw [idxOf_at h2 hk]
      congr 1
      omega
omit [Reg] in
theorem idxOf_none {k : Nat} : ∀ {ks : List Nat} {i : Nat}, k ∉ ks → idxOf k ks i = none
  | [], i, _ => rfl
  | x :: r, i, h => by
    simp only [List.mem_cons, not_or] at h
    unfold idxOf
    have hne : Nat.beq k x = false := by
      cases hb : Nat.beq k x with
      | false => rfl
      | true => exact absurd (Nat.eq_of_beq_eq_true hb) h.1
    rw [hne]
    exact idxOf_none h.2

/-- Where a row lies in a box. -/
def rowPos (k : Nat) : Nat → List AV → Option Nat
  | _, [] => none
  | i, c :: r => match c with | .vw k' _ => (bif Nat.beq k' k then some i else rowPos k (i + 1) r) | _ => rowPos k (i + 1) r
def rowsOfBox (h : Heap) (k : Nat) : List Nat := match find k h with | some (.box cs) => rowRefs cs | _ => []
def rowIx (h : Heap) (k : Nat) : Nat → List Nat → Option (Nat × Nat)
  | _, [] => none
  | n, k0 :: r => match find k0 h with | some (.box cs) => (match rowPos k 0 cs with | some i => some (n, i) | none => rowIx h k (n + 1) r) | _ => rowIx h k (n + 1) r
theorem rowRefs_cons (c : AV) (r : List AV) : rowRefs (c :: r) = (match c with | .vw k _ => [k] | _ => []) ++ rowRefs r := rfl
theorem rowPos_at {k t : Nat} : ∀ {cs : List AV} {i m : Nat}, (rowRefs cs).Nodup → cs[i]? = some (.vw k t) → rowPos k m cs = some (m + i)
  | [], i, m, _, h => by simp at h
  | c :: r, i, m, hn, h => by
    rw [rowRefs_cons] at hn
    cases i with
    | zero =>
      simp at h
      subst h
      simp [rowPos]
    | succ i =>
      have hk : r[i]? = some (.vw k t) := by simpa using h
      have hin : k ∈ rowRefs r := by
        refine List.mem_flatMap.2 ⟨.vw k t, List.mem_of_getElem? hk, by simp⟩
      have hn2 : (rowRefs r).Nodup := (List.nodup_append.1 hn).2.1
      have ih := rowPos_at (m := m + 1) hn2 hk
      unfold rowPos
      split
      · rename_i k' t'
        have hne : Nat.beq k' k = false := by
          cases hb : Nat.beq k' k with
          | false => rfl
          | true =>
            have := Nat.eq_of_beq_eq_true hb
            subst this
            exact absurd rfl ((List.nodup_append.1 hn).2.2 k' (by simp) k' hin)
        rw [hne]
        simp only [cond_false, ih]
        congr 1
        omega
      · rw [ih]
        congr 1
        omega
theorem rowPos_spec {k : Nat} : ∀ {cs : List AV} {i m : Nat}, rowPos k m cs = some i → m ≤ i ∧ ∃ t, cs[i - m]? = some (.vw k t)
  | [], i, m, h => by simp [rowPos] at h
  | c :: r, i, m, h => by
    unfold rowPos at h
    have go : rowPos k (m + 1) r = some i → m ≤ i ∧ ∃ t, (c :: r)[i - m]? = some (.vw k t) := fun h => by
      obtain ⟨h1, t, h2⟩ := rowPos_spec h
      refine ⟨by omega, t, ?_⟩
      rw [show i - m = (i - (m + 1)) + 1 by omega, List.getElem?_cons_succ]
      exact h2
    split at h
    · rename_i k' t'
      cases hb : Nat.beq k' k with
      | true =>
        rw [hb] at h
        simp only [cond_true, Option.some.injEq] at h
        subst h
        rw [Nat.eq_of_beq_eq_true hb]
        exact ⟨Nat.le_refl _, t', by simp⟩
      | false => rw [hb] at h; exact go h
    · exact go h
theorem rowIx_at {k t : Nat} : ∀ {ks : List Nat} {n m i k0 : Nat} {cs : List AV}, (inls h ks).Nodup → ks[n]? = some k0 → find k0 h = some (.box cs) → cs[i]? = some (.vw k t) → rowIx h k m ks = some (m + n, i)
  | [], n, m, i, k0, cs, _, h1, _, _ => by simp at h1
  | k1 :: r, n, m, i, k0, cs, hn, h1, h2, h3 => by
    have e : inls h (k1 :: r) = rowsOfBox h k1 ++ inls h r := rfl
    rw [e] at hn
    obtain ⟨n1, n2, n3⟩ := List.nodup_append.1 hn
    cases n with
    | zero =>
      simp at h1
      subst h1
      unfold rowIx
      rw [h2]
      simp only
      have hn1 : (rowRefs cs).Nodup := by unfold rowsOfBox at n1; rw [h2] at n1; exact n1
      rw [rowPos_at (m := 0) hn1 h3]
      simp
    | succ n =>
      have h1' : r[n]? = some k0 := by simpa using h1
      have ih := rowIx_at (m := m + 1) n2 h1' h2 h3
      have hin : k ∈ inls h r := by
        refine List.mem_flatMap.2 ⟨k0, List.mem_of_getElem? h1', ?_⟩
        rw [h2]
        exact List.mem_flatMap.2 ⟨.vw k t, List.mem_of_getElem? h3, by simp⟩
      have go : rowIx h k (m + 1) r = some (m + (n + 1), i) := by rw [ih]; congr 2; omega
      unfold rowIx
      split
      · rename_i cs1 hb
        split
        · rename_i j hj
          obtain ⟨_, t', hj⟩ := rowPos_spec hj
          exfalso
          refine n3 k ?_ k hin rfl
          unfold rowsOfBox
          rw [hb]
          exact List.mem_flatMap.2 ⟨.vw k t', List.mem_of_getElem? hj, by simp⟩
        · exact go
      · exact go
theorem rowIx_spec {k : Nat} : ∀ {ks : List Nat} {n m i : Nat}, rowIx h k m ks = some (n, i) → m ≤ n ∧ ∃ k0 cs t, ks[n - m]? = some k0 ∧ find k0 h = some (.box cs) ∧ cs[i]? = some (.vw k t)
  | [], n, m, i, e => by simp [rowIx] at e
  | k1 :: r, n, m, i, e => by
    unfold rowIx at e
    have go : rowIx h k (m + 1) r = some (n, i) → m ≤ n ∧ ∃ k0 cs t, (k1 :: r)[n - m]? = some k0 ∧ find k0 h = some (.box cs) ∧ cs[i]? = some (.vw k t) := fun e => by
      obtain ⟨h1, k0, cs, t, h2, h3⟩ := rowIx_spec e
      refine ⟨by omega, k0, cs, t, ?_, h3⟩
      rw [show n - m = (n - (m + 1)) + 1 by omega, List.getElem?_cons_succ]
      exact h2
    split at e
    · rename_i cs hb
      split at e
      · rename_i j hj
        simp only [Option.some.injEq, Prod.mk.injEq] at e
        obtain ⟨rfl, rfl⟩ := e
        obtain ⟨_, t, hj⟩ := rowPos_spec hj
        exact ⟨Nat.le_refl _, k1, cs, t, by simp, hb, by simpa using hj⟩
      · exact go e
    · exact go e
end
end
end Go.AM
namespace Go.AM
open Go.RowKit Go.Lib
section
variable [Reg]
section
variable {P : Program} {c : Ctx} {γ γ' γ'' : Gh} {D D' D'' : Dead} {st : St} {a : Act} {w w' w'' : World} {tb : Tb} {H : Hints} {h h' h'' : Heap} {u u' u'' : List Nat}

abbrev keys (h : Heap) : List Nat := h.map (·.1)
theorem find_keys {k : Nat} {h : Heap} : find k h ≠ none ↔ k ∈ keys h := by
  induction h with
  | nil => simp [find]
  | cons x r ih =>
    obtain ⟨m, o⟩ := x
    simp only [find, List.map_cons, List.mem_cons]
    by_cases e : k = m
    · simp [e]
    · simp only [e, if_false, false_or]
      exact ih
theorem find_of_mem {k : Nat} {o : Ob} : ∀ {h : Heap}, (keys h).Nodup → (k, o) ∈ h → find k h = some o
  | [], _, hm => by simp at hm
  | (m, x) :: r, hn, hm => by
    simp only [List.map_cons, List.nodup_cons] at hn
    simp only [find]
    rcases List.mem_cons.1 hm with e | hm
    · cases e; simp
    · have : k ≠ m := fun e => hn.1 (List.mem_map.2 ⟨(k, o), hm, e⟩)
      rw [if_neg this]
      exact find_of_mem hn.2 hm

theorem inCs_get (bid rid : Nat → Nat) : ∀ (cs : List AV) (n i : Nat), (inCs bid rid n cs)[i]? = (cs[i]?).map (in0 bid (rid (n + i)))
  | [], n, i => by simp [inCs]
  | c :: r, n, 0 => by simp [inCs]
  | c :: r, n, i + 1 => by
    simp only [inCs, List.getElem?_cons_succ]
    rw [inCs_get bid rid r (n + 1) i, show n + 1 + i = n + (i + 1) by omega]
theorem inCs_len (bid rid : Nat → Nat) : ∀ (cs : List AV) (n : Nat), (inCs bid rid n cs).length = cs.length
  | [], n => rfl
  | c :: r, n => by simp [inCs, inCs_len bid rid r (n + 1)]
theorem mem_rowsCs {rid : Nat → Nat} {k : Nat} {o : Ob} : ∀ {cs : List AV} {n : Nat}, (k, o) ∈ rowsCs rid n cs → ∃ i t xs, cs[i]? = some (.ow t xs) ∧ k = rid (n + i) ∧ o = .row t xs
  | [], n, h => by simp [rowsCs] at h
  | c :: r, n, h => by
    have go : (k, o) ∈ rowsCs rid (n + 1) r → ∃ i t xs, (c :: r)[i]? = some (.ow t xs) ∧ k = rid (n + i) ∧ o = .row t xs := fun h => by
      obtain ⟨i, t, xs, h1, h2, h3⟩ := mem_rowsCs h
      exact ⟨i + 1, t, xs, by simpa using h1, by rw [h2]; congr 1; omega, h3⟩
    unfold rowsCs at h
    split at h
    · rename_i t xs
      rcases List.mem_cons.1 h with e | h
      · cases e
        exact ⟨0, t, xs, rfl, rfl, rfl⟩
      · exact go h
    · exact go h
theorem rowsCs_mem {rid : Nat → Nat} {t : Nat} {xs : List (R t)} : ∀ {cs : List AV} {n i : Nat}, cs[i]? = some (.ow t xs) → (rid (n + i), Ob.row t xs) ∈ rowsCs rid n cs
  | [], n, i, h => by simp at h
  | c :: r, n, 0, h => by
    simp at h
    subst h
    simp [rowsCs]
  | c :: r, n, i + 1, h => by
    have := rowsCs_mem (rid := rid) (n := n + 1) (i := i) (cs := r) (by simpa using h)
    rw [show n + 1 + i = n + (i + 1) by omega] at this
    unfold rowsCs
    split
    · exact List.mem_cons_of_mem _ this
    · exact this
theorem mem_unpack {bid : Nat → Nat} {rid : Nat → Nat → Nat} {k : Nat} {o' : Ob} : ∀ {os : List Ob} {n : Nat}, (k, o') ∈ unpack bid rid n os → ∃ m o, os[m]? = some o ∧
    ((k = bid (n + m) ∧ ((∃ cs, o = .box cs ∧ o' = .box (inCs bid (rid (n + m)) 0 cs)) ∨ (o' = o ∧ o ≠ .tok ∧ ∀ cs, o ≠ .box cs))) ∨ ∃ cs i t xs, o = .box cs ∧ cs[i]? = some (.ow t xs) ∧ k = rid (n + m) i ∧ o' = .row t xs)
  | [], n, h => by simp [unpack] at h
  | o :: r, n, h => by
    have go : (k, o') ∈ unpack bid rid (n + 1) r → ∃ m o1, (o :: r)[m]? = some o1 ∧
        ((k = bid (n + m) ∧ ((∃ cs, o1 = .box cs ∧ o' = .box (inCs bid (rid (n + m)) 0 cs)) ∨ (o' = o1 ∧ o1 ≠ .tok ∧ ∀ cs, o1 ≠ .box cs))) ∨ ∃ cs i t xs, o1 = .box cs ∧ cs[i]? = some (.ow t xs) ∧ k = rid (n + m) i ∧ o' = .row t xs) := fun h => by
      obtain ⟨m, o1, h1, h2⟩ := mem_unpack h
      rw [show n + 1 + m = n + (m + 1) by omega] at h2
      exact ⟨m + 1, o1, by simpa using h1, h2⟩
    unfold unpack at h
    split at h
    · rename_i cs
      rcases List.mem_cons.1 h with e | h
      · cases e
        exact ⟨0, _, rfl, .inl ⟨rfl, .inl ⟨cs, rfl, rfl⟩⟩⟩
      · rcases List.mem_append.1 h with h | h
        · obtain ⟨i, t, xs, h1, h2, h3⟩ := mem_rowsCs h
          exact ⟨0, _, rfl, .inr ⟨cs, i, t, xs, rfl, h1, by simpa using h2, h3⟩⟩
        · exact go h
    · exact go h
    · rename_i h1 h2
      rcases List.mem_cons.1 h with e | h
      · cases e
        exact ⟨0, _, rfl, .inl ⟨rfl, .inr ⟨rfl, fun e => h2 e, fun cs e => h1 cs e⟩⟩⟩
      · exact go h
theorem unpack_mem {bid : Nat → Nat} {rid : Nat → Nat → Nat} : ∀ {os : List Ob} {n m : Nat} {o : Ob}, os[m]? = some o → (o ≠ .tok → bid (n + m) ∈ keys (unpack bid rid n os)) ∧ ∀ cs i t xs, o = .box cs → cs[i]? = some (.ow t xs) → (rid (n + m) i, Ob.row t xs) ∈ unpack bid rid n os
  | [], n, m, o, h => by simp at h
  | x :: r, n, m, o, h => by
    cases m with
    | zero =>
      simp at h
      subst h
      refine ⟨fun hn => ?_, fun cs i t xs e hi => ?_⟩
      · unfold unpack
        split <;> simp_all
      · subst e
        unfold unpack
        refine List.mem_cons_of_mem _ (List.mem_append.2 (.inl ?_))
        have := rowsCs_mem (rid := rid n) (n := 0) hi
        simpa using this
    | succ m =>
      obtain ⟨h1, h2⟩ := unpack_mem (bid := bid) (rid := rid) (n := n + 1) (m := m) (o := o) (os := r) (by simpa using h)
      rw [show n + 1 + m = n + (m + 1) by omega] at h1 h2
      have key : ∀ x', x' ∈ unpack bid rid (n + 1) r → x' ∈ unpack bid rid n (x :: r) := fun x' hx => by
        unfold unpack
        split
        · exact List.mem_cons_of_mem _ (List.mem_append.2 (.inr hx))
        · exact hx
        · exact List.mem_cons_of_mem _ hx
      refine ⟨fun hn => ?_, fun cs i t xs e hi => key _ (h2 cs i t xs e hi)⟩
      obtain ⟨y, hy, e⟩ := List.mem_map.1 (h1 hn)
      exact List.mem_map.2 ⟨y, key y hy, e⟩

/-! ### Ahead of a call -/
def phi (h : Heap) (ks : List Nat) (k : Nat) : Option Nat := match idxOf k ks 0 with | some m => some m | none => (match rowIx h k 0 ks with | some (n, i) => some (rid0 n i) | none => none)

section
variable {ks : List Nat} {os : List Ob}
theorem objsOk_spec (hok : objsOk os = true) : os.length ≤ 100 ∧ ∀ (n : Nat) (cs : List AV), os[n]? = some (Ob.box cs) → cs.length ≤ 128 ∧ ∀ c ∈ cs, cellOk c = true := by
  simp only [objsOk, Bool.and_eq_true, Nat.ble_eq] at hok
  refine ⟨hok.1, fun n cs hn => ?_⟩
  have := List.all_eq_true.1 hok.2 _ (List.mem_of_getElem? hn)
  simp only [objOk, cellsOk, Bool.and_eq_true, Nat.ble_eq] at this
  exact ⟨this.1, fun c hc => List.all_eq_true.1 this.2 c hc⟩
theorem out0_ren {f : Nat → Option Nat} (hf : ∀ k m, idxOf k ks 0 = some m → f k = some m) {x d : AV} (e : out0 ks x = some d) : (x.cell1 = true ∧ d.cell1 = true) ∧ Wk (ren1 f x) d := by
  cases x <;> simp only [out0, AV.dat, Option.some.injEq, reduceCtorEq] at e
  case ptr k off =>
    split at e
    · rename_i m hm
      simp only [Option.some.injEq] at e
      subst e
      refine ⟨⟨rfl, rfl⟩, .inl ?_⟩
      simp only [ren1, hf k m hm]
    · simp at e
  case tip k t xs =>
    subst e
    refine ⟨⟨rfl, rfl⟩, ?_⟩
    simp only [ren1]
    split
    · exact .inr ⟨_, _, _, rfl, rfl⟩
    · exact .inl rfl
  all_goals (subst e; exact ⟨⟨rfl, rfl⟩, .inl rfl⟩)

theorem phi_idx {k m : Nat} (e : idxOf k ks 0 = some m) : phi h ks k = some m := by simp [phi, e]
theorem out_at {f : Nat → Option Nat} (hext : ∀ k k', phi h ks k = some k' → f k = some k') (hnd : (ks ++ inls h ks).Nodup) (hos : mapO (packO h ks) ks = some os) (hok : objsOk os = true) (_hk : (keys (heap0 os)).Nodup) (hnt : os.all notTok = true) : ∀ k' o', find k' (heap0 os) = some o' → ∃ k o, phi h ks k = some k' ∧ find k h = some o ∧ ObLe f u o o' := by
  obtain ⟨hl, hp⟩ := mapO_spec hos
  obtain ⟨ho1, ho2⟩ := objsOk_spec hok
  obtain ⟨n1, n2, n3⟩ := List.nodup_append.1 hnd
  have hpk : ∀ {n k}, ks[n]? = some k → ∃ o, os[n]? = some o ∧ packO h ks k = some o ∧ o ≠ .tok := fun {n k} hn => by
    have hlt : n < os.length := by rw [hl]; exact (List.getElem?_eq_some_iff.1 hn).1
    obtain ⟨k', h1, h2⟩ := hp n os[n] (List.getElem?_eq_getElem hlt)
    rw [hn] at h1
    cases h1
    refine ⟨_, List.getElem?_eq_getElem hlt, h2, fun e => ?_⟩
    have := List.all_eq_true.1 hnt _ (List.getElem_mem hlt)
    rw [e] at this
    simp [notTok] at this
  have hbox : ∀ {n k0 cs}, ks[n]? = some k0 → find k0 h = some (.box cs) → ∃ ds, os[n]? = some (Ob.box ds) ∧ mapO (outB h ks) cs = some ds := fun {n k0 cs} h1 h2 => by
    obtain ⟨o, e1, e2, _⟩ := hpk h1
    unfold packO at e2
    rw [h2] at e2
    simp only at e2
    split at e2
    · rename_i l hlm
      simp only [Option.some.injEq] at e2
      subst e2
      exact ⟨l, e1, hlm⟩
    · simp at e2
  intro k' o' e
  obtain ⟨m, o, h1, h2⟩ := mem_unpack (find_mem e)
  simp only [Nat.zero_add] at h2
  have hlt : m < ks.length := by rw [← hl]; exact (List.getElem?_eq_some_iff.1 h1).1
  have hkm := List.getElem?_eq_getElem hlt
  obtain ⟨o1, e1, e2, e3⟩ := hpk hkm
  rw [h1] at e1
  cases e1
  have hph : phi h ks ks[m] = some m := phi_idx (by have := idxOf_at (i := 0) n1 hkm; simpa using this)
  rcases h2 with ⟨e0, h2⟩ | ⟨cs, i, t, xs, rfl, h3, rfl, rfl⟩
  · subst k'
    rcases h2 with ⟨ds, rfl, rfl⟩ | ⟨rfl, h3, h4⟩
    · unfold packO at e2
      split at e2
      · rename_i cs hf
        split at e2
        · rename_i l hlm
          cases e2
          obtain ⟨g1, g2⟩ := mapO_spec hlm
          refine ⟨ks[m], _, hph, hf, _, rfl, by rw [inCs_len, g1], fun i c' d hc hd hu' => ?_⟩
          clear hu'
          rw [inCs_get, Option.map_eq_some_iff] at hd
          obtain ⟨b, hb, rfl⟩ := hd
          obtain ⟨c2, hc2, ho⟩ := g2 i b hb
          rw [hc] at hc2
          cases hc2
          have cell0 : out0 ks c' = some b → Wk (renC f c') (in0 (fun n => n) (rid0 m (0 + i)) b) := fun ho => by
            obtain ⟨⟨q1, q2⟩, q3⟩ := out0_ren (f := f) (fun k m e => hext _ _ (phi_idx e)) ho
            have hnf : ∀ f l, c' ≠ .fn f l := fun f l e => by rw [e] at ho; simp [out0, AV.dat] at ho
            have er : renC f c' = ren1 f c' := by cases c' <;> first | rfl | exact absurd rfl (hnf _ _)
            rw [er]
            have ei : in0 (fun n => n) (rid0 m (0 + i)) b = b := by
              cases c' <;> simp only [out0, AV.dat, Option.some.injEq, reduceCtorEq] at ho
              case ptr => split at ho <;> simp at ho; subst ho; rfl
              all_goals (subst ho; rfl)
            rw [ei]
            exact q3
          unfold outB at ho
          split at ho
          · rename_i k t
            split at ho
            · rename_i t' xs hr
              split at ho
              · rename_i e4
                subst e4
                cases ho
                left
                have hrow := rowIx_at (m := 0) n2 hkm hf hc
                have hnk : idxOf k ks 0 = none := idxOf_none fun hin => n3 k hin k (List.mem_flatMap.2 ⟨ks[m], List.getElem_mem hlt, by rw [hf]; exact List.mem_flatMap.2 ⟨.vw k t', List.mem_of_getElem? hc, by simp⟩⟩) rfl
                have hfk := hext k (rid0 m i) (by simp only [phi, hnk, hrow, Nat.zero_add])
                simp only [renC, ren1, hfk, in0, Nat.zero_add]
              · simp at ho
            · simp at ho
          · exact cell0 ho
        · simp at e2
      · cases e2
      · cases e2
      · cases e2
      · cases e2
    · unfold packO at e2
      split at e2
      · split at e2
        · cases e2; exact absurd rfl (h4 _)
        · simp at e2
      · rename_i t xs hf
        cases e2
        exact ⟨ks[m], _, hph, hf, rfl⟩
      · rename_i t xs hf
        cases e2
        exact ⟨ks[m], _, hph, hf, rfl⟩
      · simp at e2
      · cases e2; exact absurd rfl h3
  · unfold packO at e2
    split at e2
    · rename_i cs0 hf
      split at e2
      · rename_i l hlm
        cases e2
        obtain ⟨g1, g2⟩ := mapO_spec hlm
        obtain ⟨c2, hc2, ho⟩ := g2 i _ h3
        unfold outB at ho
        split at ho
        · rename_i k t2
          split at ho
          · rename_i t3 ys hr
            split at ho
            · rename_i e4
              subst e4
              cases ho
              have hrow := rowIx_at (m := 0) n2 hkm hf hc2
              have hnk : idxOf k ks 0 = none := idxOf_none fun hin => n3 k hin k (List.mem_flatMap.2 ⟨ks[m], List.getElem_mem hlt, by rw [hf]; exact List.mem_flatMap.2 ⟨_, List.mem_of_getElem? hc2, by simp⟩⟩) rfl
              exact ⟨k, _, by simp only [phi, hnk, hrow, Nat.zero_add], hr, rfl⟩
            · simp at ho
          · simp at ho
        · exfalso
          cases c2 <;> simp only [out0, AV.dat, Option.some.injEq, reduceCtorEq] at ho
          split at ho <;> simp at ho
      · simp at e2
    · cases e2
    · cases e2
    · cases e2
    · cases e2
theorem ren_out (hnd : (ks ++ inls h ks).Nodup) (hos : mapO (packO h ks) ks = some os) (hok : objsOk os = true) (hk : (keys (heap0 os)).Nodup) (hnt : os.all notTok = true) : Ren (phi h ks) h (heap0 os) u (keys (heap0 os)) := by
  obtain ⟨hl, hp⟩ := mapO_spec hos
  obtain ⟨ho1, ho2⟩ := objsOk_spec hok
  obtain ⟨n1, n2, n3⟩ := List.nodup_append.1 hnd
  have hpk : ∀ {n k}, ks[n]? = some k → ∃ o, os[n]? = some o ∧ packO h ks k = some o ∧ o ≠ .tok := fun {n k} hn => by
    have hlt : n < os.length := by rw [hl]; exact (List.getElem?_eq_some_iff.1 hn).1
    obtain ⟨k', h1, h2⟩ := hp n os[n] (List.getElem?_eq_getElem hlt)
    rw [hn] at h1
    cases h1
    refine ⟨_, List.getElem?_eq_getElem hlt, h2, fun e => ?_⟩
    have := List.all_eq_true.1 hnt _ (List.getElem_mem hlt)
    rw [e] at this
    simp [notTok] at this
  have hbox : ∀ {n k0 cs}, ks[n]? = some k0 → find k0 h = some (.box cs) → ∃ ds, os[n]? = some (Ob.box ds) ∧ mapO (outB h ks) cs = some ds := fun {n k0 cs} h1 h2 => by
    obtain ⟨o, e1, e2, _⟩ := hpk h1
    unfold packO at e2
    rw [h2] at e2
    simp only at e2
    split at e2
    · rename_i l hlm
      simp only [Option.some.injEq] at e2
      subst e2
      exact ⟨l, e1, hlm⟩
    · simp at e2
  -- what phi says
  have hphi : ∀ {k k'}, phi h ks k = some k' → (k' < 100 ∧ ks[k']? = some k) ∨ ∃ n i k0 cs t, k' = rid0 n i ∧ n < 100 ∧ i < 128 ∧ ks[n]? = some k0 ∧ find k0 h = some (.box cs) ∧ cs[i]? = some (.vw k t) := fun {k k'} e => by
    unfold phi at e
    split at e
    · rename_i m hm
      simp only [Option.some.injEq] at e
      subst e
      obtain ⟨_, h2⟩ := idxOf_spec hm
      rw [Nat.sub_zero] at h2
      have := (List.getElem?_eq_some_iff.1 h2).1
      exact .inl ⟨by omega, h2⟩
    · split at e
      · rename_i n i hr
        simp only [Option.some.injEq] at e
        subst e
        obtain ⟨_, k0, cs, t, h1, h2, h3⟩ := rowIx_spec hr
        rw [Nat.sub_zero] at h1
        obtain ⟨ds, g1, g2⟩ := hbox h1 h2
        have hlt := (List.getElem?_eq_some_iff.1 h1).1
        have hci := (List.getElem?_eq_some_iff.1 h3).1
        have := (ho2 n ds g1).1
        have := (mapO_spec g2).1
        exact .inr ⟨n, i, k0, cs, t, rfl, by omega, by omega, h1, h2, h3⟩
      · simp at e
  refine ⟨fun j k i e1 e2 => ?_, out_at (fun _ _ e => e) hnd hos hok hk hnt, fun k k' e => ?_⟩
  · rcases hphi e1 with ⟨a1, a2⟩ | ⟨n, m, k0, cs, t, a1, a2, a3, a4, a5, a6⟩ <;> rcases hphi e2 with ⟨b1, b2⟩ | ⟨n', m', k0', cs', t', b1, b2, b3, b4, b5, b6⟩
    · rw [a2] at b2; simpa using b2
    · unfold rid0 at b1; omega
    · unfold rid0 at a1; omega
    · unfold rid0 at a1 b1
      have e3 : n = n' := by omega
      have e4 : m = m' := by omega
      subst e3
      subst e4
      rw [a4] at b4
      cases b4
      rw [a5] at b5
      cases b5
      rw [a6] at b6
      cases b6
      rfl
  · rcases hphi e with ⟨a1, a2⟩ | ⟨n, i, k0, cs, t, rfl, a2, a3, a4, a5, a6⟩
    · obtain ⟨o, e1, _, e3⟩ := hpk a2
      have := (unpack_mem (bid := fun n => n) (rid := rid0) (n := 0) e1).1 e3
      simpa [heap0] using this
    · obtain ⟨ds, g1, g2⟩ := hbox a4 a5
      obtain ⟨g3, g4⟩ := mapO_spec g2
      have hi : i < ds.length := by rw [g3]; exact (List.getElem?_eq_some_iff.1 a6).1
      obtain ⟨c2, hc2, ho⟩ := g4 i _ (List.getElem?_eq_getElem hi)
      rw [a6] at hc2
      cases hc2
      unfold outB at ho
      simp only at ho
      split at ho
      · rename_i t2 xs hr
        split at ho
        · have hoi : ds[i]? = some (.ow t2 xs) := by rw [List.getElem?_eq_getElem hi]; exact ho.symm
          have := (unpack_mem (bid := fun n => n) (rid := rid0) (n := 0) g1).2 ds i t2 xs rfl hoi
          exact List.mem_map.2 ⟨_, this, by simp⟩
        · simp at ho
      · simp at ho

theorem outC_rep {f : Nat → Option Nat} (hf : ∀ k m, idxOf k ks 0 = some m → f k = some m) {x d : AV} {v : Value} (e : outC ks x = some d) (hx : RepC γ h u w D (renC f x) v) : RepC γ h u w D d v ∧ Cell d := by
  have gen : out0 ks x = some d → renC f x = ren1 f x → RepC γ h u w D d v ∧ Cell d := fun e er => by
    obtain ⟨⟨_, q2⟩, q3⟩ := out0_ren hf e
    rw [er] at hx
    exact ⟨q3.rep hx, .inr q2⟩
  cases x <;> simp only [outC] at e <;> first | exact gen e rfl | skip
  case fn n cs =>
    split at e
    · rename_i l hl
      cases e
      obtain ⟨h1, h2⟩ := mapO_spec hl
      obtain ⟨vs, e1, hn, hh⟩ := hx
      refine ⟨⟨vs, e1, by rw [hn]; simp [h1], fun i d z hi hj => ?_⟩, .inr rfl⟩
      obtain ⟨c', g1, g2⟩ := h2 i d hi
      obtain ⟨⟨_, q2⟩, q3⟩ := out0_ren hf g2
      have := (hh i (ren1 f c') z (by simp [g1]) hj).1
      refine ⟨?_, .inr q2⟩
      rcases q3 with q3 | ⟨k, t, xs, q3, q4⟩
      · rw [← q3]; exact this
      · rw [q3] at this; rw [q4]; exact this.2.1
    · simp at e
  case vw k t =>
    split at e
    · rename_i m hm
      cases e
      simp only [renC, ren1, hf k m hm] at hx
      exact ⟨hx, .inr rfl⟩
    · simp at e
  case sv k t lo n =>
    split at e
    · rename_i m hm
      cases e
      simp only [renC, ren1, hf k m hm] at hx
      exact ⟨hx, .inr rfl⟩
    · simp at e
  case ow t xs => exact (nomatch (show RepD w D (.ow t xs) v from hx))
theorem outV_rep {f : Nat → Option Nat} (hf : ∀ k m, idxOf k ks 0 = some m → f k = some m) {x d : AV} {v : Value} (e : outV ks x = some d) (hx : RepB γ h u w D (renB f x) v) : RepB γ h u w D d v := by
  cases x with
  | agg cs =>
    simp only [outV] at e
    split at e
    · rename_i l hl
      cases e
      obtain ⟨h1, h2⟩ := mapO_spec hl
      obtain ⟨vs, e1, hn, hh⟩ := hx
      refine ⟨vs, e1, by rw [hn]; simp [h1], fun i d z hi hj => ?_⟩
      obtain ⟨c', g1, g2⟩ := h2 i d hi
      exact outC_rep hf g2 (hh i (renC f c') z (by simp [g1]) hj).1
    · simp at e
  | tup vs => simp [outV, outC, out0, AV.dat] at e
  | undef =>
    have e' : outC ks .undef = some d := e
    exact (outC_rep hf e' (RepB.toC (x := .undef) hx (.inl rfl))).1.b
  | ow t xs => exact (nomatch (show RepD w D (.ow t xs) v from hx))
  | nilp =>
    have e' : outC ks (.nilp) = some d := e
    exact (outC_rep hf e' (RepB.toC (x := renC f (.nilp)) hx (renC_cell f (.inr rfl)))).1.b
  | nilfn =>
    have e' : outC ks (.nilfn) = some d := e
    exact (outC_rep hf e' (RepB.toC (x := renC f (.nilfn)) hx (renC_cell f (.inr rfl)))).1.b
  | nili =>
    have e' : outC ks (.nili) = some d := e
    exact (outC_rep hf e' (RepB.toC (x := renC f (.nili)) hx (renC_cell f (.inr rfl)))).1.b
  | nils =>
    have e' : outC ks (.nils) = some d := e
    exact (outC_rep hf e' (RepB.toC (x := renC f (.nils)) hx (renC_cell f (.inr rfl)))).1.b
  | int k n =>
    have e' : outC ks (.int k n) = some d := e
    exact (outC_rep hf e' (RepB.toC (x := renC f (.int k n)) hx (renC_cell f (.inr rfl)))).1.b
  | bool b =>
    have e' : outC ks (.bool b) = some d := e
    exact (outC_rep hf e' (RepB.toC (x := renC f (.bool b)) hx (renC_cell f (.inr rfl)))).1.b
  | str l =>
    have e' : outC ks (.str l) = some d := e
    exact (outC_rep hf e' (RepB.toC (x := renC f (.str l)) hx (renC_cell f (.inr rfl)))).1.b
  | fn n cs =>
    have e' : outC ks (.fn n cs) = some d := e
    exact (outC_rep hf e' (RepB.toC (x := renC f (.fn n cs)) hx (renC_cell f (.inr rfl)))).1.b
  | iface t x =>
    have e' : outC ks (.iface t x) = some d := e
    exact (outC_rep hf e' (RepB.toC (x := renC f (.iface t x)) hx (renC_cell f (.inr rfl)))).1.b
  | sl t full xs =>
    have e' : outC ks (.sl t full xs) = some d := e
    exact (outC_rep hf e' (RepB.toC (x := renC f (.sl t full xs)) hx (renC_cell f (.inr rfl)))).1.b
  | rp cs j =>
    have e' : outC ks (.rp cs j) = some d := e
    exact (outC_rep hf e' (RepB.toC (x := renC f (.rp cs j)) hx (renC_cell f (.inr rfl)))).1.b
  | ra t xs =>
    have e' : outC ks (.ra t xs) = some d := e
    exact (outC_rep hf e' (RepB.toC (x := renC f (.ra t xs)) hx (renC_cell f (.inr rfl)))).1.b
  | tip k t xs =>
    have e' : outC ks (.tip k t xs) = some d := e
    exact (outC_rep hf e' (RepB.toC (x := renC f (.tip k t xs)) hx (renC_cell f (.inr rfl)))).1.b
  | ptr k off =>
    have e' : outC ks (.ptr k off) = some d := e
    exact (outC_rep hf e' (RepB.toC (x := renC f (.ptr k off)) hx (renC_cell f (.inr rfl)))).1.b
  | vw k t =>
    have e' : outC ks (.vw k t) = some d := e
    exact (outC_rep hf e' (RepB.toC (x := renC f (.vw k t)) hx (renC_cell f (.inr rfl)))).1.b
  | sv k t lo n =>
    have e' : outC ks (.sv k t lo n) = some d := e
    exact (outC_rep hf e' (RepB.toC (x := renC f (.sv k t lo n)) hx (renC_cell f (.inr rfl)))).1.b
  | ep k t i j =>
    have e' : outC ks (.ep k t i j) = some d := e
    exact (outC_rep hf e' (RepB.toC (x := renC f (.ep k t i j)) hx (renC_cell f (.inr rfl)))).1.b
end
end
end
end Go.AM
