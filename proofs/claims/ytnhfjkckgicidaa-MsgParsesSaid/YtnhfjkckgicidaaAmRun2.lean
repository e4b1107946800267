/- Soundness: one operation, a region's operations in a given order. -/
import Derived.Test.YtnhfjkckgicidaaAmRun
set_option linter.unusedVariables false
set_option linter.unusedSimpArgs false
namespace Go.AM
open Go.RowKit Go.Lib

theorem find_curT (st : St) (k : Nat) : ∀ l : List (Nat × AV), find k (curT st l) = (find k l).map st.cur
  | [] => rfl
  | (m, v) :: r => by
    simp only [curT, find]
    split
    · rfl
    · exact find_curT st k r
theorem find_curB (st : St) (k : Nat) : ∀ l : List (Nat × List AV), find k (curB st l) = (find k l).map (·.map st.cur)
  | [] => rfl
  | (m, v) :: r => by
    simp only [curB, find]
    split
    · rfl
    · exact find_curB st k r
theorem St.get_canon (st : St) (t : Nat) : st.canon.get t = st.cur (st.get t) := by
  unfold St.canon St.get
  simp only [find_curT]
  cases find t st.t <;> rfl

section
variable {P : Program} {c : Ctx} {γ : Gh} {D D' : Dead} {st : St} {a : Act} {w w' : World} {tb : Tb}

theorem Inv.canon (h : Inv c γ D st a w) : Inv c γ D st.canon a w := by
  have hg : ∀ k, st.canon.gen k = st.gen k := fun _ => rfl
  have hr : st.canon.r = st.r := rfl
  refine ⟨h.nt, h.dfr, fun t => ?_, fun k cs hk => ?_, h.rw, h.own, h.live, h.fr, h.dold, h.dlt, h.pk⟩
  · rw [St.get_canon]
    exact RepV.st (st := st) hg hr (h.tm t).cur
  · have hk' : (find k st.b).map (·.map st.cur) = some cs := by rw [← find_curB]; exact hk
    cases hc : find k st.b with
    | none => rw [hc] at hk'; simp at hk'
    | some cs0 =>
      rw [hc] at hk'
      simp only [Option.map_some, Option.some.injEq] at hk'
      subst hk'
      obtain ⟨h1, vs, E, h2, h3, h4⟩ := h.bx k cs0 hc
      refine ⟨h1, vs, E, h2, by simpa using h3, fun i c v hi hj => ?_⟩
      rw [List.getElem?_map] at hi
      cases hc0 : cs0[i]? with
      | none => rw [hc0] at hi; simp at hi
      | some c0 =>
        rw [hc0] at hi
        simp only [Option.map_some, Option.some.injEq] at hi
        subst hi
        obtain ⟨q1, q2⟩ := h4 i c0 v hc0 hj
        exact ⟨RepV.st (st := st) hg hr q1.cur, cur_cell1 q2⟩

theorem Inv.reput (h : Inv c γ D st a w) {t : Nat} {b : Bool} (hb : st.get t = .bool b) : Inv c γ D (st.put (some t) (.bool b)) a w ∧ a.tmps[t]? = some (.bool b) := by
  have hv := h.tm t
  rw [hb] at hv
  have e := inv_bool hv
  have e' : a.tmps[t]? = some (.bool b) := by
    rw [Array.getD_eq_getD_getElem?] at e
    cases ht : a.tmps[t]? with
    | none => rw [ht] at e; simp [Go.undef] at e
    | some v => rw [ht] at e; simpa using e
  have hp := h.put (v := .bool b) (cv := .bool b) (.of (.bool b)) (some t)
  have : a.put (some t) (.bool b) = a := by
    obtain ⟨tm, df⟩ := a
    simp only [Act.put, Act.mk.injEq, and_true]
    apply Array.ext_getElem?
    intro i
    rw [Array.getElem?_setIfInBounds]
    split
    · rename_i e2
      subst e2
      split
      · exact e'.symm
      · rename_i hlt
        have : t < tm.size := (Array.getElem?_eq_some_iff.1 e').1
        omega
    · rfl
  rw [this] at hp
  exact ⟨hp, e'⟩

/-- What may be asked of a program's functions and types. -/
structure EvOk (P : Program) (E : Ev) : Prop where
  F : SoundF P E.F
  tb : TbOk P E.tb

theorem stepD_sound {E : Ev} (hE : EvOk P E) {draw : Bool} {o : Oper} (h : Inv c γ D st a w) {st' : St} (hs : stepD E draw st o = some st') {next : Act → World → Prop} {Q : Exit → Act → World → Prop}
    (hn : ∀ cv w' γ' D', Inv c γ' D' st' (a.put o.dst cv) w' → next (a.put o.dst cv) w') : o.wp P a w next Q := by
  unfold stepD at hs
  split at hs
  · rename_i f args ts ho
    exact call_sound hE.F h ho hs hn
  · split at hs
    · rename_i s1 h1
      obtain ⟨cv, w', hr, γ', D', hI⟩ := stepA_sound hE.tb h h1
      have hI' : Inv c γ' D' st' (a.put o.dst cv) w' := by
        cases draw
        · simp only [cond_false, Option.some.injEq] at hs
          exact hs ▸ hI
        · cases hd : isBump E.tb o
          · rw [hd] at hs
            cases hk : curAt s1 o.dst
            · rw [hk] at hs; simp at hs
            · rw [hk] at hs
              simp only [cond_true, cond_false, Option.some.injEq] at hs
              exact hs ▸ hI
          · rw [hd] at hs
            cases hk : (keepsPtr s1 st.t && keepsPtrB s1 st.b)
            · rw [hk] at hs; simp at hs
            · rw [hk] at hs
              simp only [cond_true, Option.some.injEq] at hs
              exact hs ▸ hI.canon
      unfold Oper.wp
      rcases hr with hr | ⟨hr, rfl⟩
      · rw [hr, Oper.upon_value]
        exact hn _ _ _ _ hI'
      · rw [hr, Oper.upon_skip]
        exact hn _ _ _ _ hI'
    · simp at hs

theorem guardOf_free {ops : Array Oper} {o : Oper} (h : guardOf ops o = .free) (y : Nat → Option Bool) : Region.wanted o y = true := by
  unfold guardOf at h
  unfold Region.wanted
  split at h
  · rename_i e; simp [e]
  · split at h <;> simp at h
theorem guardOf_at {ops : Array Oper} {o : Oper} {t : Nat} {want : Bool} (h : guardOf ops o = .at_ t want) {tm : Array Value} {b : Bool} (hb : tm[t]? = some (.bool b)) : Region.wanted o (yielded ops tm) = decide (b = want) := by
  unfold guardOf at h
  unfold Region.wanted
  split at h
  · simp at h
  · rename_i j w' e
    split at h
    · rename_i t' e'
      simp only [Gd.at_.injEq] at h
      obtain ⟨rfl, rfl⟩ := h
      simp only [e, yielded, e', Option.bind_some, hb]
      cases b <;> cases w' <;> rfl
    · simp at h

theorem guardOf_none {ops : Array Oper} {o : Oper} {t : Nat} {want : Bool} (h : guardOf ops o = .at_ t want) {tm : Array Value} (hb : ∀ b, tm[t]? ≠ some (.bool b)) : Region.wanted o (yielded ops tm) = false := by
  unfold guardOf at h
  unfold Region.wanted
  split at h
  · simp at h
  · rename_i j w' e
    split at h
    · rename_i t' e'
      simp only [Gd.at_.injEq] at h
      obtain ⟨rfl, rfl⟩ := h
      have hy : yielded ops tm j = none := by
        have hu : yielded ops tm j = (match ((ops[j]?).bind (·.dst)).bind (tm[·]?) with | some (.bool b) => some b | _ => none) := rfl
        rw [hu, e', Option.bind_some]
        cases hh : tm[t']? with
        | none => rfl
        | some v => cases v <;> first | rfl | exact absurd hh (hb _)
      simp [e, hy]
    · simp at h

theorem wpOps_sound {E : Ev} (hE : EvOk P E) {draw : Bool} {ops : Array Oper} {Q : Exit → Act → World → Prop} {st' : St} (hq : ∀ γ' D' a' w', Inv c γ' D' st' a' w' → Q .normal a' w') :
    ∀ (l : List Nat) (γ : Gh) (D : Dead) (st : St) (a : Act) (w : World), Inv c γ D st a w → runD E draw ops (l.filterMap (ops[·]?)) st = some st' → wpOps P ops Q l a w
  | [], γ, D, st, a, w, h, hs => by
    simp only [List.filterMap_nil, runD, Option.some.injEq] at hs
    subst hs
    exact hq _ _ _ _ h
  | i :: l, γ, D, st, a, w, h, hs => by
    unfold wpOps
    cases ho : ops[i]? with
    | none =>
      rw [List.filterMap_cons_none ho] at hs
      exact wpOps_sound hE hq l γ D st a w h hs
    | some o =>
      rw [List.filterMap_cons_some ho] at hs
      simp only [runD] at hs
      simp only
      split at hs
      · rename_i s1 h1
        have hnext : ∀ cv w' γ' D', Inv c γ' D' s1 (a.put o.dst cv) w' → wpOps P ops Q l (a.put o.dst cv) w' := fun cv w' γ' D' hI => wpOps_sound hE hq l γ' D' s1 _ w' hI hs
        unfold opD at h1
        split at h1
        · simp at h1
        · rename_i hg
          rw [if_pos (guardOf_free hg _)]
          exact .inl (stepD_sound hE h h1 hnext)
        · rename_i t want hg
          split at h1
          · rename_i b hb
            obtain ⟨hp, ht⟩ := h.reput hb
            rw [guardOf_at hg ht]
            split at h1
            · rename_i e
              rw [decide_eq_true e, if_pos rfl]
              exact .inl (stepD_sound hE hp h1 hnext)
            · rename_i e
              rw [decide_eq_false e, if_neg (by simp)]
              simp only [Option.some.injEq] at h1
              subst h1
              exact hnext _ _ γ D (hp.put (v := .tup []) (show RepV _ _ _ _ (.tup []) Go.undef from ⟨#[], rfl, rfl, by simp⟩) o.dst)
          · rename_i hb
            have hv := h.tm t
            rw [hb] at hv
            obtain ⟨arr, e1, e2, _⟩ := hv
            have e3 : arr = #[] := by simpa using e2
            subst e3
            rw [guardOf_none hg (tm := a.tmps) (by
              intro b e4
              rw [Array.getD_eq_getD_getElem?, e4] at e1
              simp at e1), if_neg (by simp)]
            simp only [Option.some.injEq] at h1
            subst h1
            exact hnext _ _ γ D (h.put (v := .tup []) (show RepV _ _ _ _ (.tup []) Go.undef from ⟨#[], rfl, rfl, by simp⟩) o.dst)
          · simp at h1
      · simp at hs

theorem range_filterMap (ops : Array Oper) : (List.range ops.size).filterMap (ops[·]?) = ops.toList := by
  have h : (List.range ops.size).map (fun i : Nat => ops[i]?) = ops.toList.map some := by
    apply List.ext_getElem?
    intro i
    by_cases h : i < ops.size
    · simp [h]
    · simp [h]
  have h2 : ∀ l : List Nat, l.filterMap (ops[·]?) = (l.map (fun i : Nat => ops[i]?)).filterMap id := fun l => by simp [List.filterMap_map]
  rw [h2, h]
  simp [List.filterMap_map]

end
end Go.AM
