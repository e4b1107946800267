/- Soundness: where a call begins, where it ends. -/
import Derived.Test.YtpdifkaeiecdpaaAmMZ
namespace Go.AM
open Go.RowKit Go.Lib
section
variable [Reg]
section
variable {P : Program} {c : Ctx} {γ γ' γ'' : Gh} {D D' D'' : Dead} {st : St} {a : Act} {w w' w'' : World} {tb : Tb} {H : Hints} {h h' h'' : Heap} {u u' u'' : List Nat}

theorem find_argT (t : Nat) : ∀ (vs : List AV) (i : Nat), find t (argT i vs) = if t < i then none else vs[t - i]?
  | [], i => by simp [argT, find]
  | v :: r, i => by
    have ih := find_argT t r (i + 1)
    have e : find t (argT i (v :: r)) = if t = i then some v else find t (argT (i + 1) r) := rfl
    rw [e, ih]
    by_cases h : t = i
    · subst h
      simp
    · simp only [h, if_false]
      by_cases h2 : t < i
      · simp [h2, show t < i + 1 by omega]
      · have : t - i = (t - (i + 1)) + 1 := by omega
        simp only [h2, show ¬ t < i + 1 by omega, if_false]
        rw [this, List.getElem?_cons_succ]
theorem heap0_notok {os : List Ob} {k : Nat} : find k (heap0 os) ≠ some .tok := fun e => by
  obtain ⟨m, o', h1, h2⟩ := mem_unpack (find_mem e)
  rcases h2 with ⟨_, ⟨_, _, h⟩ | ⟨h1, h2, _⟩⟩ | ⟨_, _, _, _, _, _, _, h⟩
  · cases h
  · exact h2 h1.symm
  · cases h
theorem Inv.start {vs : List AV} {os : List Ob} {args : Array Value} {nt : Nat} (hp : Pre c vs os args) (hnt : vs.length ≤ nt) :
    Inv c c.γ c.D (startA nt vs os) { tmps := args ++ Array.replicate (nt - args.size) Go.undef, defers := [] } c.w := by
  have hsz := hp.size
  refine ⟨by simp [startA]; omega, rfl, fun t => ?_, hp.ok, rfl, rfl, rfl, Nat.le_refl _, fun _ _ _ => rfl, fun _ _ h => h, fun b k ho => .inr (by rw [ho]; simp), ⟨fun _ _ h => h, fun _ _ _ _ h => h⟩, hp.dl, fun k hk cs e => ⟨⟨cs, by rw [hp.hd]; exact e⟩, rfl⟩, fun k hk t xs e => ⟨⟨xs, by rw [hp.hd]; exact e, rfl⟩, rfl, fun ho => ho⟩, fun k hk t xs e => .inl (by rw [hp.hd]; exact e), fun k hk => heap0_notok⟩
  have e : (startA nt vs os).get t = match vs[t]? with | some v => v | none => .undef := by
    unfold St.get startA
    simp only [find_argT, Nat.not_lt_zero, if_false, Nat.sub_zero]
    rfl
  rw [e]
  cases hv : vs[t]? with
  | none => trivial
  | some v =>
    have hlt : t < vs.length := (List.getElem?_eq_some_iff.1 hv).1
    have hlt' : t < args.size := by omega
    have hr := hp.args t v args[t] hv (Array.getElem?_eq_getElem hlt')
    have e2 : (args ++ Array.replicate (nt - args.size) Go.undef).getD t Go.undef = args[t] := by
      rw [Array.getD_eq_getD_getElem?, Array.getElem?_append_left hlt', Array.getElem?_eq_getElem hlt', Option.getD_some]
    show RepV _ _ _ _ _ v ((args ++ Array.replicate (nt - args.size) Go.undef).getD t Go.undef)
    rw [e2]
    exact hr.v

def resF (tm : Array Value) : ResultVar → Sem Value
  | .tmp t => pure (tm.getD t Go.undef)
  | .cell a t => do loadVar t (← asAddr (tm.getD a Go.undef))
omit [Reg] in
theorem mapM_cons_run {α β : Type} {g : α → Sem β} {x : α} {l : List α} {b : β} {bs : List β} (h1 : (g x).run P w = .ok b w) (h2 : (l.mapM g).run P w = .ok bs w) : ((x :: l).mapM g).run P w = .ok (b :: bs) w := by
  simp only [List.mapM_cons, Sem.run_bind, h1, h2, Result.andThen_ok, Sem.run_pure]
theorem rawA_sound (hT : TbOk P tb) (hi : Inv c γ D st a w) : ∀ {rs : List ResultVar} {l : List AV}, rawA tb st rs = some l →
    ∃ vs : List Value, (rs.mapM (resF a.tmps)).run P w = .ok vs w ∧ RepLs (RepB γ st.h st.u w D) l vs
  | [], l, hl => by
    simp only [rawA, Option.some.injEq] at hl
    subst hl
    exact ⟨[], rfl, trivial⟩
  | .tmp t :: rs, l, hl => by
    simp only [rawA] at hl
    split at hl
    · rename_i l' hl'
      cases hb : notTup (st.get t) with
      | false => rw [hb] at hl; simp at hl
      | true =>
        rw [hb] at hl
        simp only [cond_true, Option.some.injEq] at hl
        subst hl
        obtain ⟨vs, h1, h2⟩ := rawA_sound hT hi hl'
        exact ⟨a.tmps.getD t Go.undef :: vs, mapM_cons_run rfl h1, (hi.tm t).toB fun l e => by rw [e] at hb; simp [notTup] at hb, h2⟩
    · simp at hl
  | .cell x t :: rs, l, hl => by
    simp only [rawA] at hl
    split at hl
    · rename_i e l' he hl'
      simp only [Option.some.injEq] at hl
      subst hl
      obtain ⟨vs, h1, h2⟩ := rawA_sound hT hi hl'
      obtain ⟨A, cv, q1, q2, q3⟩ := load_core hT hi (x := .tmp x) he
      have q1' : a.tmps.getD x Go.undef = .pointer (some A) := q1
      exact ⟨cv :: vs, mapM_cons_run (by simp only [resF, q1']; simp only [asAddr, Sem.run_bind, Sem.run_pure, Result.andThen_ok, q2]) h1, q3, h2⟩
    · simp at hl
def resV : List Value → Value
  | [v] => v
  | vs => .tuple vs.toArray
omit [Reg] in
theorem results_run {fn : Func} {tm : Array Value} {vs : List Value} (h : (fn.results.toList.mapM (resF tm)).run P w = .ok vs w) : (results fn tm).run P w = .ok (resV vs) w := by
  have e : results fn tm = (do
    let vs ← fn.results.mapM (resF tm)
    pure (if h : vs.size = 1 then vs[0] else .tuple vs)) := rfl
  rw [e, Array.mapM_eq_mapM_toList]
  simp only [map_eq_pure_bind, Sem.run_bind, Sem.run_pure, h, Result.andThen_ok]
  match vs with
  | [] => rfl
  | [v] => rfl
  | v :: u :: r => rfl

theorem finC_sound {ow : List Nat} {p : Nat} (hi : Inv c γ D st a w) {x : AV} {v : Value} (hx : CC γ st.h st.u w D x v) : ∃ γ' D', Stp γ γ' st.h (finC ow p st.h x).2 st.u st.u w w D D' ∧ CC γ' (finC ow p st.h x).2 st.u w D' (finC ow p st.h x).1 v := by
  have same : ∀ {x}, CC γ st.h st.u w D x v → ∃ γ' D', Stp γ γ' st.h st.h st.u st.u w w D D' ∧ CC γ' st.h st.u w D' x v := fun {x} hx => ⟨γ, D, stp_ext hi fun _ => rfl, hx⟩
  unfold finC
  split
  · rename_i k t
    cases (Nat.blt k 1000 || ow.contains p)
    · exact frC_sound hi hx
    · exact same hx
  · rename_i k t lo n
    cases Nat.blt k 1000
    · exact frC_sound hi hx
    · exact same hx
  · exact same hx
theorem finCs_sound {ow : List Nat} : ∀ {cs : List AV} {p : Nat} {vs : List Value} {γ : Gh} {D : Dead} {st : St}, Inv c γ D st a w → RepLs (CC γ st.h st.u w D) cs vs →
    ∃ γ' D', Inv c γ' D' { st with h := (finCs ow p st.h cs).2 } a w ∧ RepLs (CC γ' (finCs ow p st.h cs).2 st.u w D') (finCs ow p st.h cs).1 vs ∧ (∀ x v, CC γ st.h st.u w D x v → CC γ' (finCs ow p st.h cs).2 st.u w D' x v) ∧ ∀ x v, RepB γ st.h st.u w D x v → RepB γ' (finCs ow p st.h cs).2 st.u w D' x v
  | [], p, [], γ, D, st, hi, _ => ⟨γ, D, hi, trivial, fun _ _ h => h, fun _ _ h => h⟩
  | [], _, _ :: _, γ, D, st, hi, h => h.elim
  | _ :: _, _, [], γ, D, st, hi, h => h.elim
  | x :: cs, p, v :: vs, γ, D, st, hi, hR => by
    obtain ⟨γ1, D1, s1, h1⟩ := finC_sound (ow := ow) (p := p) hi hR.1
    have hi1 := hi.step s1
    have hR1 : RepLs (CC γ1 (finC ow p st.h x).2 st.u w D1) cs vs := RepLs.mono (fun c' v' h => h.step s1) hR.2
    obtain ⟨γ2, D2, hi2, h2, h3, h4⟩ := finCs_sound (st := { st with h := (finC ow p st.h x).2 }) (p := p + 1) hi1 hR1
    exact ⟨γ2, D2, hi2, ⟨h3 _ _ h1, h2⟩, fun x' v' h => h3 _ _ (h.step s1), fun x' v' h => h4 _ _ (h.mono s1.pres s1.dd s1.uu s1.same)⟩
theorem finV_sound {ow : List Nat} {p : Nat} (hi : Inv c γ D st a w) {x : AV} {v : Value} (hx : RepB γ st.h st.u w D x v) : ∃ γ' D', Inv c γ' D' { st with h := (finV ow p st.h x).2 } a w ∧ RepB γ' (finV ow p st.h x).2 st.u w D' (finV ow p st.h x).1 v ∧ ∀ y z, RepB γ st.h st.u w D y z → RepB γ' (finV ow p st.h x).2 st.u w D' y z := by
  have cell : ∀ {x : AV}, RepB γ st.h st.u w D x v → Cell x → ∃ γ' D', Inv c γ' D' { st with h := (finC ow p st.h x).2 } a w ∧ RepB γ' (finC ow p st.h x).2 st.u w D' (finC ow p st.h x).1 v ∧ ∀ y z, RepB γ st.h st.u w D y z → RepB γ' (finC ow p st.h x).2 st.u w D' y z := fun {x} hx hc => by
    obtain ⟨γ', D', s, h1⟩ := finC_sound (ow := ow) (p := p) hi ⟨hx.toC hc, hc⟩
    exact ⟨γ', D', hi.step s, h1.1.b, fun y z h => h.mono s.pres s.dd s.uu s.same⟩
  cases x with
  | agg cs =>
    obtain ⟨vs, rfl, hn, hh⟩ := hx
    obtain ⟨γ', D', h1, h2, _, h4⟩ := finCs_sound (ow := ow) (p := p) hi (cs := cs) (vs := vs.toList) (RepLs.of (by simpa using hn) fun i c' v' hi' hj => hh i c' v' hi' (by simpa using hj))
    obtain ⟨g1, g2⟩ := h2.get
    exact ⟨γ', D', h1, ⟨vs, rfl, by simpa using g1, fun i c' v' hi' hj => g2 i c' v' hi' (by simpa using hj)⟩, h4⟩
  | undef => exact cell hx (.inl rfl)
  | tup vs => exact (nomatch (show RepD w D (.tup vs) v from hx))
  | ow t xs => exact (nomatch (show RepD w D (.ow t xs) v from hx))
  | _ => exact cell hx (.inr rfl)
theorem finVs_sound {ow : List Nat} : ∀ {xs : List AV} {p : Nat} {vs : List Value} {γ : Gh} {D : Dead} {st : St}, Inv c γ D st a w → RepLs (RepB γ st.h st.u w D) xs vs →
    ∃ γ' D', Inv c γ' D' { st with h := (finVs ow p st.h xs).2 } a w ∧ RepLs (RepB γ' (finVs ow p st.h xs).2 st.u w D') (finVs ow p st.h xs).1 vs ∧ ∀ y z, RepB γ st.h st.u w D y z → RepB γ' (finVs ow p st.h xs).2 st.u w D' y z
  | [], _, [], γ, D, st, hi, _ => ⟨γ, D, hi, trivial, fun _ _ h => h⟩
  | [], _, _ :: _, γ, D, st, hi, h => h.elim
  | _ :: _, _, [], γ, D, st, hi, h => h.elim
  | x :: xs, p, v :: vs, γ, D, st, hi, hR => by
    obtain ⟨γ1, D1, hi1, h1, k1⟩ := finV_sound (ow := ow) (p := p) hi hR.1
    obtain ⟨γ2, D2, hi2, h2, k2⟩ := finVs_sound (st := { st with h := (finV ow p st.h x).2 }) (p := p + 128) hi1 (RepLs.mono k1 hR.2)
    exact ⟨γ2, D2, hi2, ⟨k2 _ _ h1, h2⟩, fun y z h => k2 _ _ (k1 _ _ h)⟩
end
end
end Go.AM
