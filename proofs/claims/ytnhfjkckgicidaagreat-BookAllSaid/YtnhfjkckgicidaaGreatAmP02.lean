/- Soundness: functions. -/
import Derived.Test.YtnhfjkckgicidaaGreatAmP01
import Derived.Laws.Sem
import Derived.KernelRfl
import Derived.Test.YtnhfjkckgicidaaGreatProg
set_option linter.unusedVariables false
set_option linter.unusedSimpArgs false
namespace Go.AM
open Go.RowKit Go.Lib
section
variable {P : Program} {c : Ctx} {γ : Gh} {D D' : Dead} {st : St} {a : Act} {w w' : World} {tb : Tb}
def OverOk (P : Program) (f : Nat) (g : Over) : Prop :=
 ∀ vs bs r bs', g vs bs = some (r, bs') →
  (∃ fn, P.funcs[f]? = some fn ∧ (fn.name == "runtime.NumGoroutine") = false ∧ fn.body.isNone = false) ∧
  ∀ (w : World) (D : Dead) (B : Nat → Nat) (args : Array Value), (∀ b o, D b o → b < w.heap.size) → ArgsRep w D B vs args → BoxRep w D B bs →
   (∀ m n, m < bs.length → n < bs.length → B m = B n → m = n) → (∀ n, n < bs.length → ∀ o, ¬ D (B n) o) → Calls P f args w (Post w D B bs.length r bs')
structure FnOk (P : Program) (tb : Tb) (f : Nat) (fx : Fx) : Prop where
 fn : P.funcs[f]? = some fx.fn
 name : (fx.fn.name == "runtime.NumGoroutine") = false
 code : ∀ c, fx.fn.body = some c → CodeOk P tb c
structure PrgOk (P : Program) (pr : Prg) : Prop where
 tb : TbOk P pr.tb
 fn : ∀ f fx, pr.f f = some (.inl fx) → FnOk P pr.tb f fx
 ls : ∀ f fx, pr.f f = some (.inl fx) → ∀ k c, fx.fn.body = some c → LsOk ⟨evF pr k, pr.tb, pr.sh⟩ fx c
 over : ∀ f g, pr.f f = some (.inr g) → OverOk P f g
def inArg : AV → AV
 | .ptr k _ off => .ptr (1000000 + k) 0 off
 | v => v
theorem find_argT (t : Nat) : ∀ (vs : List AV) (i : Nat), find t (argT i vs) = if t < i then none else (vs[t - i]?).map inArg
 | [], i => by simp [argT, find]
 | v :: r, i => by
  have ih := find_argT t r (i + 1)
  have e : find t (argT i (v :: r)) = if t = i then some (inArg v) else find t (argT (i + 1) r) := by
   cases v <;> rfl
  rw [e, ih]
  by_cases h : t = i
  ·subst h
   simp
  ·simp only [h, if_false]
   by_cases h2 : t < i
   ·simp [h2, show t < i + 1 by omega]
   ·have : t - i = (t - (i + 1)) + 1 := by omega
    simp only [h2, show ¬ t < i + 1 by omega, if_false]
    rw [this, List.getElem?_cons_succ]
theorem find_boxB (k : Nat) : ∀ (bs : Boxes) (i : Nat) {cs : List AV}, find k (boxB i bs) = some cs → ∃ n, k = 1000000 + (i + n) ∧ bs[n]? = some cs
 | [], i, cs, h => by simp [boxB, find] at h
 | b :: r, i, cs, h => by
  simp only [boxB, find] at h
  split at h
  ·rename_i e
   simp only [Option.some.injEq] at h
   subst h
   exact ⟨0, by simpa using e, by simp⟩
  ·obtain ⟨n, e, hn⟩ := find_boxB k r (i + 1) h
   exact ⟨n + 1, by omega, by simpa using hn⟩
def startG (B : Nat → Nat) (nb : Nat) : Gh :=
 { bx := fun k => B (k - 1000000), rw := id, tp := id, own := fun b => ((List.range nb).find? (fun n => B n == b)).map (fun n => (0, 1000000 + n)) }
theorem startG_own {B : Nat → Nat} {nb : Nat} (hinj : ∀ m n, m < nb → n < nb → B m = B n → m = n) {n : Nat} (hn : n < nb) : (startG B nb).own (B n) = some (0, 1000000 + n) := by
 unfold startG
 simp only
 cases hf : (List.range nb).find? (fun m => B m == B n) with
 | none =>
  rw [List.find?_eq_none] at hf
  have := hf n (by simpa using hn)
  simp at this
 | some m =>
  have h1 := List.find?_some hf
  have h2 := List.mem_of_find?_eq_some hf
  simp only [beq_iff_eq] at h1
  simp only [List.mem_range] at h2
  rw [hinj m n h2 hn h1]
  rfl
theorem startG_own_inv {B : Nat → Nat} {nb b : Nat} {q : Nat × Nat} (h : (startG B nb).own b = some q) : ∃ n, n < nb ∧ B n = b ∧ q = (0, 1000000 + n) := by
 unfold startG at h
 simp only [Option.map_eq_some_iff] at h
 obtain ⟨n, h1, rfl⟩ := h
 have h2 := List.find?_some h1
 have h3 := List.mem_of_find?_eq_some h1
 exact ⟨n, by simpa using h3, by simpa using h2, rfl⟩
theorem Inv.start {w : World} {D : Dead} {B : Nat → Nat} {vs : List AV} {args : Array Value} {bs : Boxes} {nt : Nat} (hD : ∀ b o, D b o → b < w.heap.size) (ha : ArgsRep w D B vs args) (hb : BoxRep w D B bs)
  (hinj : ∀ m n, m < bs.length → n < bs.length → B m = B n → m = n) (hlive : ∀ n, n < bs.length → ∀ o, ¬ D (B n) o) (hnt : vs.length ≤ nt) :
  Inv ⟨w, (List.range bs.length).map B, D⟩ (startG B bs.length) D (startA nt vs bs) { tmps := args ++ Array.replicate (nt - args.size) Go.undef, defers := [] } w := by
 have hsz := ha.1
 refine ⟨by simp [startA]; omega, rfl, fun t => ?_, fun k cs hk => ?_, fun k xs hk => by simp [startA, find] at hk, fun b q hq => ?_, fun b k ho o hd => ?_, ⟨rfl, rfl, rfl, Nat.le_refl _, fun _ _ _ => rfl⟩, fun b o _ => Iff.rfl, hD, fun n hn => ?_⟩
 ·have e : (startA nt vs bs).get t = match (vs[t]?).map inArg with | some v => v | none => .undef := by
   unfold St.get startA
   simp only [find_argT, Nat.not_lt_zero, if_false, Nat.sub_zero]
   rfl
  rw [e]
  cases hv : vs[t]? with
  | none => trivial
  | some v =>
   have hlt : t < vs.length := (List.getElem?_eq_some_iff.1 hv).1
   have hlt' : t < args.size := by omega
   have hr := ha.2 t v args[t] hv (Array.getElem?_eq_getElem hlt')
   have e2 : (args ++ Array.replicate (nt - args.size) Go.undef).getD t Go.undef = args[t] := by
    rw [Array.getD_eq_getD_getElem?, Array.getElem?_append_left hlt', Array.getElem?_eq_getElem hlt', Option.getD_some]
   simp only [Option.map_some]
   rw [e2]
   cases v <;> first | exact .of hr | skip
   rename_i k g off
   refine ⟨Nat.le_refl _, fun _ => ?_⟩
   have : args[t] = .pointer (some ⟨B k, off, none⟩) := hr
   rw [this]
   simp [startG]
 ·obtain ⟨n, rfl, hn⟩ := find_boxB k bs 0 hk
  have hlt : n < bs.length := (List.getElem?_eq_some_iff.1 hn).1
  obtain ⟨vs', E, h1, h2, h3⟩ := hb n cs hn
  have e : (startG B bs.length).bx (1000000 + (0 + n)) = B n := by simp [startG]
  rw [e]
  refine ⟨by rw [startG_own hinj hlt]; simp, vs', E, h1, h2, fun i c v hi hj => ⟨.of (h3 i c v hi hj).1, .inr (h3 i c v hi hj).2⟩⟩
 ·obtain ⟨n, hn, rfl, rfl⟩ := startG_own_inv hq
  obtain ⟨vs', E, h1, _⟩ := hb n bs[n] (List.getElem?_eq_getElem hn)
  exact ⟨(Array.getElem?_eq_some_iff.1 h1).1, .inr ⟨List.mem_map.2 ⟨n, by simpa using hn, rfl⟩, rfl⟩⟩
 ·rcases ho with ho | ho
  ·obtain ⟨n, hn, rfl, _⟩ := startG_own_inv ho
   exact hlive n hn o hd
  ·obtain ⟨n, hn, rfl, e⟩ := startG_own_inv ho
   simp at e
 ·simp only [List.length_map, List.length_range] at hn
  simp [startG, List.getD, List.getElem?_map, List.getElem?_range, hn]
def resF (tm : Array Value) : ResultVar → Sem Value
 | .tmp t => pure (tm.getD t Go.undef)
 | .cell a t => do loadVar t (← asAddr (tm.getD a Go.undef))
theorem mapM_cons_run {α β : Type} {g : α → Sem β} {x : α} {l : List α} {b : β} {bs : List β} (h1 : (g x).run P w = .ok b w) (h2 : (l.mapM g).run P w = .ok bs w) : ((x :: l).mapM g).run P w = .ok (b :: bs) w := by
 simp only [List.mapM_cons, Sem.run_bind, h1, h2, Result.andThen_ok, Sem.run_pure]
def endD (γ : Gh) (st : St) (D : Dead) : Dead := fun b o => D b o ∨ (∃ k cs, find k st.b = some cs ∧ k < 1000000 ∧ b = γ.bx k ∧ o < cs.length) ∨ ∃ k cs, find k st.r = some cs ∧ b = γ.rw k ∧ o < cs.length
theorem endD_of {b o : Nat} (h : D b o) : endD γ st D b o := .inl h
theorem datR_sound (h : Inv c γ D st a w) {v r : AV} {cv : Value} (hv : RepV γ w D st v cv) (hr : st.datR v = some r) : RepD w (endD γ st D) r cv := by
 unfold St.datR at hr
 split at hr
 ·rename_i k g
  split at hr
  ·rename_i hc
   obtain ⟨hg, hk⟩ := hc
   split at hr
   ·rename_i cs hcs
    split at hr
    ·rename_i l hl
     simp only [Option.some.injEq] at hr
     subst hr
     have e : cv = .pointer (some ⟨γ.bx k, 0, none⟩) := hv.2 hg
     subst e
     obtain ⟨_, vs, E, h2, h3, h4⟩ := h.bx k cs hcs
     obtain ⟨l1, l2⟩ := datAll_spec hl
     have key : ∀ (j : Nat) (c' : AV), l[j]? = some c' → ∃ (u : Value), vs[j]? = some u ∧ c'.cell1 = true ∧ RepD w D c' u ∧ j < cs.length := by
      intro j c' hj
      have hlt : j < l.length := (List.getElem?_eq_some_iff.1 hj).1
      have hlt2 : j < cs.length := by simp at l1; omega
      obtain ⟨d, hd, hd'⟩ := l2 j (st.cur cs[j]) (by simp [List.getElem?_map, List.getElem?_eq_getElem hlt2])
      rw [hj] at hd
      simp only [Option.some.injEq] at hd
      subst hd
      have hlt3 : j < vs.size := by omega
      obtain ⟨q5, q6⟩ := h4 j cs[j] vs[j] (List.getElem?_eq_getElem hlt2) (Array.getElem?_eq_getElem hlt3)
      refine ⟨vs[j], Array.getElem?_eq_getElem hlt3, ?_, q5.cur.dat hd', hlt2⟩
      rcases cur_cell1 (st := st) q6 with e | e
      ·rw [e] at hd'; simp [AV.dat] at hd'
      ·exact dat_cell1 hd' e
     refine .rp l.length (.agg l) 0 (γ.bx k) 0 (fun j => vs.getD j Go.undef) rfl (fun j c' hj => ?_) (fun j c' hj => ?_)
     ·obtain ⟨u, q1, q2, q3, q4⟩ := key j c' hj
      rw [Nat.zero_add]
      refine ⟨q2, .inr (.inl ⟨k, cs, hcs, hk, rfl, q4⟩), ?_⟩
      rw [cell_of_block h2, q1]
      simp [Array.getD_eq_getD_getElem?, q1]
     ·obtain ⟨u, q1, q2, q3, q4⟩ := key j c' hj
      have : vs.getD j Go.undef = u := by simp [Array.getD_eq_getD_getElem?, q1]
      show RepD _ _ _ (vs.getD j Go.undef)
      rw [this]
      exact q3.mono (fun _ _ _ => rfl) fun _ _ => endD_of
    ·simp at hr
   ·simp at hr
  ·simp at hr
 ·rename_i k g
  split at hr
  ·rename_i hg
   split at hr
   ·rename_i xs hxs
    simp only [Option.some.injEq] at hr
    subst hr
    have e : cv = .pointer (some ⟨γ.rw k, 0, none⟩) := hv.2 hg
    subst e
    obtain ⟨_, vs, E, h2, h3, h4⟩ := h.rw k xs hxs
    have key : ∀ (j : Nat) (c' : AV), xs[j]? = some c' → ∃ (u : Value), vs[j]? = some u ∧ c'.cell1 = true ∧ RepD w D c' u ∧ j < xs.length := by
     intro j c' hj
     have hlt : j < xs.length := (List.getElem?_eq_some_iff.1 hj).1
     have hlt3 : j < vs.size := by omega
     obtain ⟨q5, q6⟩ := h4 j c' vs[j] hj (Array.getElem?_eq_getElem hlt3)
     exact ⟨vs[j], Array.getElem?_eq_getElem hlt3, q6, q5, hlt⟩
    refine .rp xs.length (.agg xs) 0 (γ.rw k) 0 (fun j => vs.getD j Go.undef) rfl (fun j c' hj => ?_) (fun j c' hj => ?_)
    ·obtain ⟨u, q1, q2, q3, q4⟩ := key j c' hj
     rw [Nat.zero_add]
     refine ⟨q2, .inr (.inr ⟨k, xs, hxs, rfl, q4⟩), ?_⟩
     rw [cell_of_block h2, q1]
     simp [Array.getD_eq_getD_getElem?, q1]
    ·obtain ⟨u, q1, q2, q3, q4⟩ := key j c' hj
     have : vs.getD j Go.undef = u := by simp [Array.getD_eq_getD_getElem?, q1]
     show RepD _ _ _ (vs.getD j Go.undef)
     rw [this]
     exact q3.mono (fun _ _ _ => rfl) fun _ _ => endD_of
   ·simp at hr
  ·simp at hr
 ·exact (hv.dat hr).mono (fun _ _ _ => rfl) fun _ _ => endD_of
theorem resA_sound (hT : TbOk P tb) (h : Inv c γ D st a w) : ∀ {rs : List ResultVar} {l : List AV}, resA tb st rs = some l →
  ∃ vs : List Value, (rs.mapM (resF a.tmps)).run P w = .ok vs w ∧ vs.length = l.length ∧ ∀ (i : Nat) (c : AV) (v : Value), l[i]? = some c → vs[i]? = some v → RepD w (endD γ st D) c v
 | [], l, hl => by
  simp only [resA, Option.some.injEq] at hl
  subst hl
  exact ⟨[], rfl, rfl, by simp⟩
 | .tmp t :: rs, l, hl => by
  simp only [resA] at hl
  split at hl
  ·rename_i v l' hv hl'
   simp only [Option.some.injEq] at hl
   subst hl
   obtain ⟨vs, h1, h2, h3⟩ := resA_sound hT h hl'
   refine ⟨a.tmps.getD t Go.undef :: vs, mapM_cons_run rfl h1, by simp [h2], fun i c u hi hj => ?_⟩
   cases i with
   | zero =>
    simp only [List.getElem?_cons_zero, Option.some.injEq] at hi hj
    subst hi
    subst hj
    exact datR_sound h (h.tm t) hv
   | succ i => exact h3 i c u (by simpa using hi) (by simpa using hj)
  ·simp at hl
 | .cell x t :: rs, l, hl => by
  simp only [resA] at hl
  split at hl
  ·rename_i v0 rd hv0
   split at hl
   ·rename_i v l' hv hl'
    simp only [Option.some.injEq] at hl
    subst hl
    obtain ⟨vs, h1, h2, h3⟩ := resA_sound hT h hl'
    obtain ⟨A, cv, q1, q2, q3⟩ := load_core hT h (x := .tmp x) hv0
    have q1' : a.tmps.getD x Go.undef = .pointer (some A) := q1
    refine ⟨cv :: vs, mapM_cons_run (by simp only [resF, q1']; simp only [asAddr, Sem.run_bind, Sem.run_pure, Result.andThen_ok, q2]) h1, by simp [h2], fun i c u hi hj => ?_⟩
    cases i with
    | zero =>
     simp only [List.getElem?_cons_zero, Option.some.injEq] at hi hj
     subst hi
     subst hj
     exact (q3.dat hv).mono (fun _ _ _ => rfl) fun _ _ => endD_of
    | succ i => exact h3 i c u (by simpa using hi) (by simpa using hj)
   ·simp at hl
  ·simp at hl
def resV : List Value → Value
 | [v] => v
 | vs => .tuple vs.toArray
theorem results_run {fn : Func} {tm : Array Value} {vs : List Value} (h : (fn.results.toList.mapM (resF tm)).run P w = .ok vs w) : (results fn tm).run P w = .ok (resV vs) w := by
 have e : results fn tm = (do
  let vs ← fn.results.mapM (resF tm)
  pure (if h : vs.size = 1 then vs[0] else .tuple vs)) := rfl
 rw [e, Array.mapM_eq_mapM_toList]
 simp only [map_eq_pure_bind, Sem.run_bind, Sem.run_pure, h, Result.andThen_ok]
 match vs with
 | [] => rfl
 | [v] => rfl
 | v :: u :: r => rfl
theorem end_sound (hT : TbOk P tb) {w0 : World} {D0 : Dead} {B : Nat → Nat} {nb : Nat} {fn : Func} (hD : ∀ b o, D0 b o → b < w0.heap.size) (h : Inv ⟨w0, (List.range nb).map B, D0⟩ γ D st a w) {r : AV} {bs' : Boxes} (hs : endA tb fn nb st = some (r, bs')) :
  a.defers = [] ∧ ∃ v, (results fn a.tmps).run P w = .ok v w ∧ Post w0 D0 B nb r bs' (.returned v) w := by
 have hA : ∀ {bs : Boxes}, st.boxesAt (paramKeys nb) = some bs → After w0 w D0 (endD γ st D) B nb := by
  intro bs hbs
  refine ⟨h.fr.os, h.fr.tape, h.fr.output, h.fr.size, fun b hb hn => h.fr.block b hb ?_, fun b o hd => .inl ((h.dold b o (hD b o hd)).2 hd), fun b o hb hd => ?_, fun b o hd => ?_⟩
  ·intro hm
   obtain ⟨n, hn1, rfl⟩ := List.mem_map.1 hm
   exact hn n (by simpa using hn1) rfl
  ·rcases hd with hd | ⟨k, cs, hk, hlt, rfl, ho⟩ | ⟨k, cs, hk, rfl, ho⟩
   ·exact (h.dold b o hb).1 hd
   ·exfalso
    have hown := (h.bx k cs hk).1
    rcases (h.own _ _ hown).2 with hge | ⟨hm, _⟩
    ·exact absurd hb (Nat.not_lt.2 hge)
    ·obtain ⟨n, hn1, hn2⟩ := List.mem_map.1 hm
     have hn1 : n < nb := by simpa using hn1
     obtain ⟨b1, b2⟩ := boxesAt_spec hbs
     have hl : (paramKeys nb).length = nb := by simp [paramKeys]
     have hlt' : n < bs.length := by omega
     obtain ⟨cs0, hk0, _⟩ := b2 n (1000000 + n) bs[n] (by simp [paramKeys, List.getElem?_map, List.getElem?_range, hn1]) (List.getElem?_eq_getElem hlt')
     have hown2 := (h.bx _ _ hk0).1
     have hpk := h.pk n (by simpa using hn1)
     have e : ((List.range nb).map B).getD n 0 = B n := by simp [List.getD, List.getElem?_map, List.getElem?_range, hn1]
     rw [hpk, e, hn2, hown] at hown2
     simp at hown2
     omega
   ·exfalso
    rcases (h.own _ _ (h.rw k cs hk).1).2 with hge | ⟨_, q⟩
    ·exact absurd hb (Nat.not_lt.2 hge)
    ·simp at q
  ·rcases hd with hd | ⟨k, cs, hk, hlt, rfl, ho⟩ | ⟨k, cs, hk, rfl, ho⟩
   ·exact h.dlt b o hd
   ·exact (h.own _ _ (h.bx k cs hk).1).1
   ·exact (h.own _ _ (h.rw k cs hk).1).1
 have hB : ∀ {bs : Boxes}, st.boxesAt (paramKeys nb) = some bs → BoxRep w (endD γ st D) B bs ∧ bs.length = nb := by
  intro bs hb
  obtain ⟨b1, b2⟩ := boxesAt_spec hb
  have hl : (paramKeys nb).length = nb := by simp [paramKeys]
  refine ⟨fun m cs hm => ?_, by omega⟩
  have hlt : m < bs.length := (List.getElem?_eq_some_iff.1 hm).1
  have hlt' : m < nb := by omega
  obtain ⟨cs0, hk0, hd0⟩ := b2 m (1000000 + m) cs (by simp [paramKeys, List.getElem?_map, List.getElem?_range, hlt']) hm
  obtain ⟨_, vs', E, q2, q3, q4⟩ := h.bx _ _ hk0
  obtain ⟨l1, l2⟩ := datAll_spec hd0
  have hpk := h.pk m (by simpa using hlt')
  have e : ((List.range nb).map B).getD m 0 = B m := by simp [List.getD, List.getElem?_map, List.getElem?_range, hlt']
  rw [hpk, e] at q2
  refine ⟨vs', E, q2, by simp at l1; omega, fun i c' v' hi hj => ?_⟩
  cases hc0 : cs0[i]? with
  | none =>
   have : cs0.length ≤ i := List.getElem?_eq_none_iff.1 hc0
   have h2 : i < cs.length := (List.getElem?_eq_some_iff.1 hi).1
   simp at l1
   omega
  | some c0 =>
   obtain ⟨d, hd, hd'⟩ := l2 i (st.cur c0) (by simp [List.getElem?_map, hc0])
   rw [hi] at hd
   simp only [Option.some.injEq] at hd
   subst hd
   obtain ⟨q5, q6⟩ := q4 i c0 v' hc0 hj
   refine ⟨(q5.cur.dat hd').mono (fun _ _ _ => rfl) fun _ _ => endD_of, ?_⟩
   rcases cur_cell1 (st := st) q6 with e | e
   ·rw [e] at hd'; simp [AV.dat] at hd'
   ·exact dat_cell1 hd' e
 refine ⟨h.dfr, ?_⟩
 unfold endA at hs
 split at hs
 ·rename_i v bs hr hb
  simp only [Option.some.injEq, Prod.mk.injEq] at hs
  obtain ⟨rfl, rfl⟩ := hs
  obtain ⟨vs, h1, h2, h3⟩ := resA_sound hT h hr
  obtain ⟨x, rfl⟩ : ∃ x, vs = [x] := by
   match vs, h2 with
   | [x], _ => exact ⟨x, rfl⟩
  have := h3 0 _ x rfl rfl
  obtain ⟨hB1, hB2⟩ := hB hb
  refine ⟨x, results_run h1, x, endD γ st D, rfl, ?_, hB1, hB2, hA hb⟩
  cases v <;> first | exact this | (cases (show RepD w (endD γ st D) _ x from this); done)
 ·rename_i l bs hne hr hb
  simp only [Option.some.injEq, Prod.mk.injEq] at hs
  obtain ⟨rfl, rfl⟩ := hs
  obtain ⟨vs, h1, h2, h3⟩ := resA_sound hT h hr
  obtain ⟨hB1, hB2⟩ := hB hb
  refine ⟨_, results_run h1, _, endD γ st D, rfl, ?_, hB1, hB2, hA hb⟩
  have e : resV vs = .tuple vs.toArray := by
   match vs, h2 with
   | [], _ => rfl
   | [v], h2 =>
    exfalso
    match l, h2, hr with
    | [u], _, hr => exact hne u rfl
   | v :: u :: r, _ => rfl
  rw [e]
  exact ⟨_, rfl, by simpa using h2, fun i c cv hi hj => h3 i c cv hi (by simpa using hj)⟩
 ·simp at hs
theorem evFn_sound {F : Fns} {sh : List (Nat × Sh)} (hF : SoundF P F) (hT : TbOk P tb) {f : Nat} {fx : Fx} (hfx : FnOk P tb f fx) (hls : ∀ c, fx.fn.body = some c → LsOk ⟨F, tb, sh⟩ fx c) (n : Nat) : OverOk P f (evFn F tb sh fx n) := by
 intro vs bs r bs' h
 unfold evFn at h
 split at h
 ·rename_i cd hcd
  split at h
  ·rename_i hc
   obtain ⟨c1, c2, c3⟩ := hc
   refine ⟨⟨fx.fn, hfx.fn, hfx.name, by rw [hcd]; rfl⟩, fun w D B args hD ha hb hinj hlive => ?_⟩
   refine calls_of_wp hfx.fn hcd ?_
   have hE : EvOk P ⟨F, tb, sh⟩ := ⟨hF, hT⟩
   refine wp_mono (evC_sound hE fx cd (hfx.code cd hcd) (hls cd hcd) n _ (r, bs') _ _ _ _ _ (Inv.start hD ha hb hinj hlive (by omega)) h) fun e a w' hq => ?_
   cases e with
   | normal => obtain ⟨γ, D', st, hI, hk⟩ := hq; exact end_sound hT hD hI hk
   | exit id => obtain ⟨γ, D', st, hI, hk⟩ := hq; simp [endK] at hk
   | ret => obtain ⟨γ, D', st, hI, hk⟩ := hq; exact end_sound hT hD hI hk
   | goto l => exact hq.elim
   | panic ch => exact hq.elim
   | outgrown => exact hq.elim
  ·simp at h
 ·simp at h
theorem evF_sound {pr : Prg} (hP : PrgOk P pr) : ∀ k, SoundF P (evF pr k)
 | 0 => by
  intro f vs bs r bs' h
  unfold evF at h
  split at h
  ·rename_i g hg
   exact hP.over f g hg vs bs r bs' h
  ·simp at h
 | k + 1 => by
  intro f vs bs r bs' h
  unfold evF at h
  split at h
  ·rename_i fx hf
   exact evFn_sound (evF_sound hP k) hP.tb (hP.fn f fx hf) (hP.ls f fx hf k) k vs bs r bs' h
  ·rename_i g hg
   exact hP.over f g hg vs bs r bs' h
  ·simp at h
theorem OverOk.of {pr : Prg} (hP : PrgOk P pr) {f : Nat} {g : Over} (h : ∀ vs bs r, g vs bs = some r → ∃ k, evF pr k f vs bs = some r) : OverOk P f g := by
 intro vs bs r bs' hg
 obtain ⟨k, hk⟩ := h vs bs _ hg
 exact evF_sound hP k f vs bs r bs' hk
end
open Go.RowKit Go.Lib
def pureOp (tb : Tb) (o : Oper) : Bool :=
 match o.op with
 | .move _ | .assign _ | .pick _ _ _ | .build _ _ | .buildSlice _ _ _ | .nilCheck _ | .binOp _ _ _ _ _ | .unOp _ _ _ | .makeInterface _ _ | .makeSlice _ _ _ | .slice _ _ _ _ _ | .fieldAddr _ _ _ | .field _ _ _
 | .indexAddr _ _ _ | .index _ _ _ | .extract _ _ => true
 | .convert _ d _ => (match find d tb with | some td => (match td.k with | .sl _ => false | _ => true) | none => false)
 | .call { callee := .builtin .len, .. } => true
 | _ => false
def valA (tb : Tb) (st : St) (o : Oper) : Option AV :=
 match o.op with
 | .move x | .assign x => some (st.ev x)
 | .pick c a b => (match st.ev c with | .bool t => some (bif t then st.ev a else st.ev b) | _ => none)
 | .build t ps =>
  (match find t tb with
  | some ⟨.struct fs, _, _, .agg z⟩ => (match datAll z with | some z => (match TI.fillParts tb fs st z ps.toList with | some cs => some (.agg cs) | none => none) | none => none)
  | _ => none)
 | .buildSlice t n ps =>
  (match find t tb with
  | some ⟨.sl e, _, _, _⟩ =>
   (match find e tb with
   | some ti => if n * ti.sz ≤ 16777216 ∧ ti.sz ≠ 0 ∧ ti.z.cells.length = ti.sz ∧ n ≠ 0 then (match ti.z.dat with
     | some z => (match fillElems z ti.sz st (List.replicate n z) ps.toList with | some xs => some (.sl ti.sz true xs) | none => none)
     | none => none) else none
   | none => none)
  | _ => none)
 | .nilCheck x => (match st.ev x with | .ptr k g off => some (.ptr k g off) | .rp s e j => some (.rp s e j) | .fn f => some (.fn f) | _ => none)
 | .binOp op t x y _ => binA tb op t (st.ev x) (st.ev y)
 | .unOp op _ x => unA op (st.ev x)
 | .convert s d x =>
  (match find s tb, find d tb with
  | some ts, some td =>
   (match td.k, st.ev x with
   | .int k, .int _ n => some (.int k (k.wrap n))
   | .str, .str s => some (.str s)
   | .str, x =>
    (match ts.k with
    | .sl e => if isU8 tb e then (match st.elems x with | some (_, xs) => (match bytesOf xs with | some l => some (.str l) | none => none) | none => none) else none
    | _ => none)
   | _, _ => none)
  | _, _ => none)
 | .makeInterface t x => (match find t tb, (st.ev x).dat with | some ti, some v => (match ti.k with | .other => none | _ => some (.iface t v)) | _, _ => none)
 | .makeSlice t l c =>
  (match find t tb, st.ev l, st.ev c with
  | some ⟨.sl e, _, _, _⟩, .int _ n, .int _ m =>
   (match find e tb with
   | some ti =>
    if n = m ∧ 0 ≤ n ∧ n ≤ 9223372036854775807 ∧ fitsB n.toNat ti.bytes then
     (match ti.z.dat with
     | some z => if ti.z.cells.length = ti.sz then some (.sl ti.sz true (List.replicate n.toNat z)) else none
     | none => none)
    else none
   | none => none)
  | _, _, _ => none)
 | .slice t x lo hi mx => sliceA tb t (st.ev x) (lo.map st.ev) (hi.map st.ev) (mx.map st.ev)
 | .fieldAddr s x f =>
  (match find s tb with
  | some ⟨.struct fs, _, _, _⟩ =>
   (match fs[f]?, st.ev x with
   | some (off, _), .ptr k g o' => some (.ptr k g (o' + off))
   | some (off, _), .rp s e j => some (.rp s e (j + off))
   | _, _ => none)
  | _ => none)
 | .field s x f =>
  (match find s tb, st.ev x with
  | some ⟨.struct fs, _, _, _⟩, .agg cs =>
   (match fs[f]? with
   | some (off, t) => (match find t tb with | some ti => partOf ti cs off | none => none)
   | none => none)
  | _, _ => none)
 | .indexAddr t x i => (match st.ev i with | .int _ n => indexAddrA tb st t (st.ev x) n | _ => none)
 | .index t x i =>
  (match find t tb, st.ev x, st.ev i with
  | some ⟨.str, _, _, _⟩, .str s, .int _ n => if 0 ≤ n then (match s[n.toNat]? with | some b => some (.int .u8 b.toNat) | none => none) else none
  | some ⟨.arr n e, _, _, _⟩, .agg cs, .int _ i =>
   if 0 ≤ i ∧ i < n then (match find e tb with | some ti => partOf ti cs (i.toNat * ti.sz) | none => none) else none
  | _, _, _ => none)
 | .extract x i => (match st.ev x with | .tup vs => vs[i]? | _ => none)
 | .call { callee := .builtin .len, argTypes := ts, args := args } => (match ts.toList, args.toList.map st.ev with | [t], [x] => lenA tb st t x | _, _ => none)
 | _ => none
def putO (st : St) (dst : Option Nat) : Option AV → Option St
 | some v => some (st.put dst v)
 | none => none
theorem stepA_val {tb : Tb} {st : St} {o : Oper} (hp : pureOp tb o = true) : stepA tb true st o = putO st o.dst (valA tb st o) := by
 cases ho : o.op with
 | move x => simp only [stepA, valA, ho, putO]
 | assign x => simp only [stepA, valA, ho, putO]
 | pick x y z => simp only [stepA, valA, ho]; cases st.ev x <;> rfl
 | build t ps =>
  simp only [stepA, valA, ho]
  split
  ·split
   ·split <;> simp_all [putO]
   ·simp_all [putO]
  ·simp_all [putO]
 | buildSlice t n ps =>
  simp only [stepA, valA, ho]
  rcases find t tb with _ | ⟨k, sz, by_, z⟩
  ·rfl
  cases k <;> try rfl
  rename_i e
  dsimp only
  rcases find e tb with _ | te
  ·rfl
  dsimp only
  by_cases hc : n * te.sz ≤ 16777216 ∧ te.sz ≠ 0 ∧ te.z.cells.length = te.sz ∧ n ≠ 0
  ·rw [if_pos hc, if_pos hc]
   cases te.z.dat with
   | none => rfl
   | some z => dsimp only; cases fillElems z te.sz st (List.replicate n z) ps.toList <;> rfl
  ·rw [if_neg hc, if_neg hc]; rfl
 | nilCheck x => simp only [stepA, valA, ho]; cases st.ev x <;> rfl
 | binOp op t x y u => simp only [stepA, valA, ho]; cases binA tb op t (st.ev x) (st.ev y) <;> rfl
 | unOp op t x => simp only [stepA, valA, ho]; cases unA op (st.ev x) <;> rfl
 | convert s d x =>
  simp only [stepA, valA, ho]
  simp only [pureOp, ho] at hp
  rcases find s tb with _ | ts
  ·rfl
  revert hp
  rcases find d tb with _ | td
  ·intro _; rfl
  intro hp
  dsimp only at hp ⊢
  unfold convertA
  cases hk : td.k with
  | sl e => rw [hk] at hp; simp at hp
  | str =>
   cases st.ev x <;> dsimp only <;> first | rfl | skip
   all_goals (cases ts.k <;> dsimp only <;> first | rfl | skip)
   all_goals (
    rename_i e
    cases isU8 tb e
    ·rfl
    ·simp only [if_true]
     rcases St.elems st _ with _ | ⟨_, xs⟩
     ·rfl
     ·dsimp only
      rcases bytesOf xs with _ | l <;> rfl)
  | int k => cases st.ev x <;> rfl
  | _ => rfl
 | makeInterface t x =>
  simp only [stepA, valA, ho]
  split
  ·split <;> simp_all [putO]
  ·simp_all [putO]
 | makeSlice t l m =>
  simp only [stepA, valA, ho]
  rcases find t tb with _ | ⟨k, sz, by_, z⟩
  ·rfl
  cases k <;> try rfl
  rename_i e
  cases st.ev l <;> try rfl
  rename_i kl n
  cases st.ev m <;> try rfl
  rename_i km n'
  dsimp only
  rcases find e tb with _ | te
  ·rfl
  dsimp only
  by_cases hc : n = n' ∧ 0 ≤ n ∧ n ≤ 9223372036854775807 ∧ fitsB n.toNat te.bytes = true
  ·rw [if_pos hc, if_pos hc]
   cases te.z.dat with
   | none => rfl
   | some z => simp only [if_true]; split <;> rfl
  ·rw [if_neg hc, if_neg hc]; rfl
 | slice t x lo hi mx => simp only [stepA, valA, ho]; cases sliceA tb t (st.ev x) (lo.map st.ev) (hi.map st.ev) (mx.map st.ev) <;> rfl
 | fieldAddr s x f =>
  simp only [stepA, valA, ho]
  split
  ·split <;> simp_all [putO]
  ·simp_all [putO]
 | field s x f =>
  simp only [stepA, valA, ho]
  split
  ·split
   ·split
    ·split <;> simp_all [putO]
    ·simp_all [putO]
   ·simp_all [putO]
  ·simp_all [putO]
 | indexAddr t x i =>
  simp only [stepA, valA, ho]
  split
  ·split <;> simp_all [putO]
  ·simp_all [putO]
 | index t x i =>
  simp only [stepA, valA, ho]
  rcases find t tb with _ | ⟨k, sz, by_, z⟩
  ·rfl
  cases k <;> try rfl
  ·cases st.ev x <;> try rfl
   cases st.ev i <;> try rfl
   dsimp only
   split
   ·split <;> simp_all [putO]
   ·rfl
  ·cases st.ev x <;> try rfl
   cases st.ev i <;> try rfl
   dsimp only
   split
   ·split
    ·split <;> simp_all [putO]
    ·simp_all [putO]
   ·rfl
 | extract x i =>
  simp only [stepA, valA, ho]
  split
  ·split <;> simp_all [putO]
  ·simp_all [putO]
 | call c =>
  obtain ⟨callee, args, ts⟩ := c
  simp only [pureOp, ho] at hp
  split at hp <;> first | (simp at hp; done) | skip
  all_goals (rename_i e; simp only [Op.call.injEq, Call.mk.injEq, reduceCtorEq] at e)
  obtain ⟨rfl, rfl, rfl⟩ := e
  simp only [stepA, valA, ho, builtinA]
  rcases ts.toList with _ | ⟨t, _ | ⟨u, r⟩⟩
  ·rfl
  ·rcases args.toList.map st.ev with _ | ⟨x, _ | ⟨y, r⟩⟩
   ·rfl
   ·dsimp only; cases lenA tb st t x <;> rfl
   ·rfl
  ·rfl
 | _ => simp [pureOp, ho] at hp
section
variable {tb : Tb} {st st2 : St} {o : Oper}
theorem elems_congr (hr : st2.r = st.r) (x : AV) : st2.elems x = st.elems x := by cases x <;> simp only [St.elems, hr]
theorem fillParts_congr {fs : List (Nat × Nat)} : ∀ {ps : List (Nat × Operand)} {cs : List AV}, (∀ p ∈ ps, st2.ev p.2 = st.ev p.2) → TI.fillParts tb fs st2 cs ps = TI.fillParts tb fs st cs ps
 | [], cs, h => rfl
 | (i, x) :: r, cs, h => by
  have hx : st2.ev x = st.ev x := h (i, x) (by simp)
  have ih : ∀ cs, TI.fillParts tb fs st2 cs r = TI.fillParts tb fs st cs r := fun cs => fillParts_congr fun p hp => h p (List.mem_cons_of_mem _ hp)
  simp only [TI.fillParts, hx, ih]
theorem fillElems_congr {z : AV} {sz : Nat} : ∀ {ps : List (Nat × Operand)} {cs : List AV}, (∀ p ∈ ps, st2.ev p.2 = st.ev p.2) → fillElems z sz st2 cs ps = fillElems z sz st cs ps
 | [], cs, h => rfl
 | (i, x) :: r, cs, h => by
  have hx : st2.ev x = st.ev x := h (i, x) (by simp)
  have ih : ∀ cs, fillElems z sz st2 cs r = fillElems z sz st cs r := fun cs => fillElems_congr fun p hp => h p (List.mem_cons_of_mem _ hp)
  simp only [fillElems, hx, ih]
theorem optmap_congr {lo : Option Operand} (h : ∀ x, lo = some x → st2.ev x = st.ev x) : lo.map st2.ev = lo.map st.ev := by
 cases lo with
 | none => rfl
 | some x => simp [h x rfl]
theorem lenA_congr (hr : st2.r = st.r) (t : Nat) (x : AV) : lenA tb st2 t x = lenA tb st t x := by simp only [lenA, elems_congr hr]
theorem indexAddrA_congr (hr : st2.r = st.r) (t : Nat) (x : AV) (i : Int) : indexAddrA tb st2 t x i = indexAddrA tb st t x i := by simp only [indexAddrA, hr]
theorem valA_congr (h : ∀ x ∈ o.op.operands.toList, st2.ev x = st.ev x) (hr : st2.r = st.r) : valA tb st2 o = valA tb st o := by
 cases ho : o.op with
 | build t ps =>
  have h' : ∀ p ∈ ps.toList, st2.ev p.2 = st.ev p.2 := fun p hp => h p.2 (by rw [ho]; simp only [Op.operands, List.toList_toArray]; exact List.mem_map_of_mem hp)
  simp only [valA, ho, fillParts_congr h']
 | buildSlice t n ps =>
  have h' : ∀ p ∈ ps.toList, st2.ev p.2 = st.ev p.2 := fun p hp => h p.2 (by rw [ho]; simp only [Op.operands, List.toList_toArray]; exact List.mem_map_of_mem hp)
  simp only [valA, ho, fillElems_congr h']
 | slice t x lo hi mx =>
  have hx : st2.ev x = st.ev x := h x (by rw [ho]; simp [Op.operands])
  have h1 := optmap_congr (st := st) (st2 := st2) (lo := lo) fun y hy => h y (by rw [ho]; subst hy; simp [Op.operands])
  have h2 := optmap_congr (st := st) (st2 := st2) (lo := hi) fun y hy => h y (by rw [ho]; subst hy; simp [Op.operands])
  have h3 := optmap_congr (st := st) (st2 := st2) (lo := mx) fun y hy => h y (by rw [ho]; subst hy; simp [Op.operands])
  simp only [valA, ho, hx, h1, h2, h3]
 | call c =>
  obtain ⟨callee, args, ts⟩ := c
  have h' : args.toList.map st2.ev = args.toList.map st.ev := List.map_congr_left fun x hx => h x (by rw [ho]; simp only [Op.operands, Call.operands]; cases callee <;> simp [Array.mem_toList_iff.1 hx])
  clear h
  cases callee with
  | builtin b => cases b <;> simp only [valA, ho, h', lenA_congr hr]
  | value f => simp only [valA, ho]
  | invoke f n => simp only [valA, ho]
 | _ =>
  rw [ho] at h
  simp [Op.operands] at h
  simp only [valA, ho, h, elems_congr hr, indexAddrA_congr hr]
theorem loadA_congr {t : Nat} {x : AV} {v : AV} {rd : List Nat} (h : loadA tb true st t x = some (v, rd)) :
  (∃ k, rd = insN k st.rd ∧ k ∉ st.wr ∧ ∀ st2 : St, (∀ j, st2.gen j = st.gen j) → find k st2.b = find k st.b → k ∉ st2.wr → st2.r = st.r → loadA tb true st2 t x = some (v, insN k st2.rd)) ∨
  (rd = st.rd ∧ ∀ st2 : St, st2.r = st.r → loadA tb true st2 t x = some (v, st2.rd)) := by
 unfold loadA at h
 split at h
 ·simp at h
 rename_i ti hti
 split at h
 ·rename_i k g off
  split at h
  ·rename_i hw
   split at h
   ·rename_i cs hcs
    split at h
    ·rename_i v' hp
     simp only [Option.some.injEq, Prod.mk.injEq] at h
     obtain ⟨rfl, rfl⟩ := h
     refine .inl ⟨k, rfl, by simpa using hw, fun st2 hg hb hw2 hr => ?_⟩
     have hcur : st2.cur = st.cur := by
      funext u
      cases u <;> simp only [St.cur, hg]
     unfold loadA
     simp only [hti, hb, hcs, hcur, hp]
     simp [hw2]
    ·simp at h
   ·simp at h
  ·simp at h
 ·rename_i s e j
  refine .inr ?_
  split at h
  ·rename_i hc
   split at h
   ·rename_i cs
    simp only [Option.some.injEq, Prod.mk.injEq] at h
    obtain ⟨rfl, rfl⟩ := h
    refine ⟨rfl, fun st2 hr => ?_⟩
    unfold loadA
    simp only [hti, hc, if_true]
   ·simp at h
  ·rename_i hc
   split at h
   ·rename_i v' hp
    split at h
    ·rename_i hf
     simp only [Option.some.injEq, Prod.mk.injEq] at h
     obtain ⟨rfl, rfl⟩ := h
     refine ⟨rfl, fun st2 hr => ?_⟩
     unfold loadA
     simp only [hti, hc, if_false, hp, hf, if_true, Bool.false_eq_true]
    ·simp at h
   ·simp at h
 ·rename_i k g i
  refine .inr ?_
  split at h
  ·rename_i ha
   split at h
   ·rename_i xs hxs
    split at h
    ·rename_i v' hp
     split at h
     ·rename_i hf
      simp only [Option.some.injEq, Prod.mk.injEq] at h
      obtain ⟨rfl, rfl⟩ := h
      refine ⟨rfl, fun st2 hr => ?_⟩
      unfold loadA
      simp only [hti, ha, hr, hxs, hp, hf, if_true]
     ·simp at h
    ·simp at h
   ·simp at h
  ·simp at h
 ·simp at h
end
theorem put_comm {α : Type} {a b : Nat} (h : a ≠ b) (x y : α) : ∀ l : List (Nat × α), put a x (put b y l) = put b y (put a x l)
 | [] => by
  simp only [put]
  rcases Nat.lt_trichotomy a b with hh | hh | hh
  ·simp [h, Ne.symm h, hh, Nat.lt_asymm hh]
  ·exact absurd hh h
  ·simp [h, Ne.symm h, hh, Nat.lt_asymm hh]
 | (m, u) :: r => by
  have ih := put_comm h x y r
  have h' : ¬ b = a := fun e => h e.symm
  rcases Nat.lt_trichotomy a m with h1 | h1 | h1 <;> rcases Nat.lt_trichotomy b m with h2 | h2 | h2 <;>
   first
    | (exfalso; omega)
    | (rcases Nat.lt_trichotomy a b with h3 | h3 | h3 <;>
      first
       | (exfalso; omega)
       | (simp only [put, show (a = m) = False from eq_false (by omega), show (b = m) = False from eq_false (by omega), if_false, if_true, h1, h2, h3, h, h', show (m < a) = True from eq_true (by omega), show ¬ a < m by omega, show ¬ b < m by omega, show ¬ b < a by omega, show ¬ a < b by omega, ih]; done)
       | skip)
  all_goals (simp only [put]; repeat' split)
  all_goals first | rfl | (exfalso; omega) | (simp only [put]; repeat' split)
  all_goals first | rfl | (exfalso; omega) | (simp_all; done) | (simp only [ih])
theorem insN_comm (a b : Nat) : ∀ l : List Nat, insN a (insN b l) = insN b (insN a l)
 | [] => by
  simp only [insN]
  rcases Nat.lt_trichotomy a b with hh | hh | hh
  ·simp [hh, Nat.ne_of_lt hh, Nat.ne_of_gt hh, Nat.lt_asymm hh, (Nat.ne_of_lt hh).symm]
  ·subst hh; rfl
  ·simp [hh, Nat.ne_of_lt hh, Nat.ne_of_gt hh, Nat.lt_asymm hh, (Nat.ne_of_lt hh).symm]
 | m :: r => by
  have ih := insN_comm a b r
  by_cases e : a = b
  ·subst e; rfl
  simp only [insN]
  repeat' split
  all_goals first | rfl | (exfalso; omega) | (simp only [insN]; repeat' split)
  all_goals first | rfl | (exfalso; omega) | (simp_all; done) | (simp only [ih]) | skip
theorem mem_insN {k a : Nat} : ∀ {l : List Nat}, k ∈ insN a l ↔ k = a ∨ k ∈ l
 | [] => by simp [insN]
 | m :: r => by
  simp only [insN]
  split
  ·rename_i e; subst e; simp
  ·split
   ·simp
   ·simp only [List.mem_cons, mem_insN (l := r)]
    constructor
    ·rintro (h | h | h) <;> simp [h]
    ·rintro (h | h | h) <;> simp [h]
def putT (nt : Nat) (dst : Option Nat) (v : AV) (t : List (Nat × AV)) : List (Nat × AV) :=
 match dst with | some d => if d < nt then put d v t else t | none => t
def putG (nt : Nat) (g : Option (Nat × Bool)) (t : List (Nat × AV)) : List (Nat × AV) :=
 match g with | some (d, b) => putT nt (some d) (.bool b) t | none => t
def insO (k : Option Nat) (l : List Nat) : List Nat := match k with | some k => insN k l | none => l
theorem putT_comm {nt : Nat} {d d' : Option Nat} (h : ∀ k, d = some k → d' ≠ some k) (v v' : AV) (t : List (Nat × AV)) : putT nt d v (putT nt d' v' t) = putT nt d' v' (putT nt d v t) := by
 cases d with
 | none => cases d' <;> rfl
 | some k =>
  cases d' with
  | none => rfl
  | some k' =>
   have hne : k ≠ k' := fun e => h k rfl (by rw [e])
   simp only [putT]
   split <;> split <;> first | rfl | exact put_comm hne _ _ _
structure Eff where
 gs : Option (Nat × Bool)
 v : AV
 rds : Option Nat
 ks : List Nat
 bs : Boxes
def Eff.ap (e : Eff) (dst : Option Nat) (st : St) : St :=
 { nt := st.nt, t := putT st.nt dst e.v (putG st.nt e.gs st.t), b := putBoxes st.b e.ks e.bs, r := st.r, g := st.g, rd := insO e.rds st.rd, wr := e.ks ++ st.wr }
structure Same (ops : Array Oper) (o : Oper) (e : Eff) (st st2 : St) : Prop where
 nt : st2.nt = st.nt
 g : st2.g = st.g
 r : st2.r = st.r
 sl : ∀ t ∈ o.looksAt ops, st2.get t = st.get t
 bx : ∀ k, (e.rds = some k ∨ k ∈ e.ks) → find k st2.b = find k st.b
 rw : ∀ k, e.rds = some k → k ∉ st2.wr
 wr : ∀ k ∈ e.ks, k ∉ st2.rd
structure Does (E : Ev) (ops : Array Oper) (o : Oper) (e : Eff) (st : St) : Prop where
 gs : ∀ t b, e.gs = some (t, b) → st.get t = .bool b ∧ t ∈ o.looksAt ops
 rw : ∀ k, e.rds = some k → k ∉ st.wr
 wr : ∀ k ∈ e.ks, k ∉ st.rd
 at_ : opD E true ops st o = some (e.ap o.dst st)
 again : ∀ st2, Same ops o e st st2 → opD E true ops st2 o = some (e.ap o.dst st2)
section
variable {E : Ev} {ops : Array Oper} {st st2 : St} {o : Oper}
theorem St.put_eq (st : St) (dst : Option Nat) (v : AV) : st.put dst v = { st with t := putT st.nt dst v st.t } := by
 cases dst with
 | none => rfl
 | some d => simp only [St.put, putT]; split <;> rfl
theorem get_putT (nt : Nat) (t : List (Nat × AV)) (d : Option Nat) (v : AV) {k : Nat} (h : d ≠ some k) : find k (putT nt d v t) = find k t := by
 cases d with
 | none => rfl
 | some d =>
  have hne : k ≠ d := fun e => h (by rw [e])
  simp only [putT]
  split
  ·exact find_put_ne hne _ _
  ·rfl
def gput (st : St) (g : Option (Nat × Bool)) : St := { st with t := putG st.nt g st.t }
theorem get_gput {g : Option (Nat × Bool)} (hg : ∀ t b, g = some (t, b) → st.get t = .bool b) (k : Nat) : (gput st g).get k = st.get k := by
 cases g with
 | none => rfl
 | some p =>
  obtain ⟨t, b⟩ := p
  have e : gput st (some (t, b)) = st.put (some t) (.bool b) := by rw [St.put_eq]; rfl
  rw [e, St.get_put]
  split
  ·rename_i h; rw [h.1, hg t b rfl]
  ·rfl
theorem Eff.get_ap {e : Eff} (hg : ∀ t b, e.gs = some (t, b) → st.get t = .bool b) {dst : Option Nat} {k : Nat} (h : dst ≠ some k) : (e.ap dst st).get k = st.get k := by
 have := get_gput (st := st) hg k
 unfold St.get Eff.ap gput at *
 simp only at *
 rw [get_putT _ _ _ _ h]
 exact this
theorem ev_congr (hg : st2.g = st.g) {x : Operand} (h : ∀ t, x = .tmp t → st2.get t = st.get t) : st2.ev x = st.ev x := by
 cases x with
 | tmp t =>
  have hgen : ∀ j, st2.gen j = st.gen j := fun j => by unfold St.gen; rw [hg]
  simp only [St.ev, h t rfl]
  cases st.get t <;> simp only [St.cur, hgen]
 | _ => rfl
theorem looks_operand {x : Operand} (hx : x ∈ o.op.operands.toList) : ∀ t, x = .tmp t → t ∈ o.looksAt ops := by
 intro t e
 subst e
 unfold Oper.looksAt
 exact List.mem_append.2 (.inl (List.mem_filterMap.2 ⟨_, hx, rfl⟩))
def callOp (o : Oper) : Bool := match o.op with | .call { callee := .value _, .. } => true | _ => false
def loadOp (o : Oper) : Bool := match o.op with | .load _ _ => true | _ => false
theorem isCurB_congr (hg : st2.g = st.g) (v : AV) : isCurB st2 v = isCurB st v := by
 have hgen : ∀ j, st2.gen j = st.gen j := fun j => by unfold St.gen; rw [hg]
 cases v <;> simp only [isCurB, hgen]
theorem curAt_put (dst : Option Nat) (v : AV) (st : St) : curAt (st.put dst v) dst = match dst with | some d => if d < st.nt then isCurB st v else true | none => true := by
 cases dst with
 | none => rfl
 | some d =>
  have hgen : ∀ u, isCurB (st.put (some d) v) u = isCurB st u := fun u => by
   cases u <;> simp only [isCurB, St.gen_put]
  simp only [curAt, St.nt_put, hgen]
  split
  ·rename_i h; rw [St.get_put, if_pos ⟨rfl, h⟩]
  ·rfl
end
section
variable {E : Ev} {ops : Array Oper} {st st2 s s2 : St} {o : Oper}
theorem pure_notBump {tb : Tb} (h : pureOp tb o = true) : isBump tb o = false := by
 cases ho : o.op with
 | convert a b x =>
  simp only [pureOp, isBump, ho] at h ⊢
  cases hf : find b tb with
  | none => rw [hf] at h; simp at h
  | some td =>
   rw [hf] at h
   dsimp only at h ⊢
   cases hk : td.k <;> rw [hk] at h <;> simp_all
 | call c =>
  obtain ⟨callee, args, ts⟩ := c
  simp only [pureOp, isBump, ho] at h ⊢
  cases callee with
  | builtin b => cases b <;> simp_all
  | value f => rfl
  | invoke f n => rfl
 | store t x y => simp [pureOp, ho] at h
 | _ => simp only [isBump, ho]
theorem curAt_congr {a b : St} (hn : a.nt = b.nt) (hg : a.g = b.g) (dst : Option Nat) (v : AV) : curAt (a.put dst v) dst = curAt (b.put dst v) dst := by
 rw [curAt_put, curAt_put, hn, isCurB_congr hg]
theorem ap_put (v : AV) (dst : Option Nat) (s : St) : Eff.ap ⟨none, v, none, [], []⟩ dst s = s.put dst v := by rw [St.put_eq]; rfl
theorem stepD_eff (hc : pureOp E.tb o = true ∨ loadOp o = true ∨ callOp o = true) {s' : St} (h : stepD E true s o = some s') :
  ∃ v rds ks bs, s' = Eff.ap ⟨none, v, rds, ks, bs⟩ o.dst s ∧ (∀ k, rds = some k → k ∉ s.wr) ∧ (∀ k ∈ ks, k ∉ s.rd) ∧ (callOp o = false → ks = []) ∧ (callOp o = true → rds = none) ∧
   ∀ s2 : St, s2.nt = s.nt → s2.g = s.g → s2.r = s.r → (∀ x ∈ o.op.operands.toList, s2.ev x = s.ev x) → (∀ k, (rds = some k ∨ k ∈ ks) → find k s2.b = find k s.b) → (∀ k, rds = some k → k ∉ s2.wr) → (∀ k ∈ ks, k ∉ s2.rd) →
    stepD E true s2 o = some (Eff.ap ⟨none, v, rds, ks, bs⟩ o.dst s2) := by
 unfold stepD at h
 split at h
 ·rename_i f args ts ho
  have hev : ∀ s2 : St, (∀ x ∈ o.op.operands.toList, s2.ev x = s.ev x) → s2.ev f = s.ev f ∧ args.toList.map s2.ev = args.toList.map s.ev := fun s2 hh =>
   ⟨hh f (by rw [ho]; simp [Op.operands, Call.operands]), List.map_congr_left fun x hx => hh x (by rw [ho]; simp [Op.operands, Call.operands, Array.mem_toList_iff.1 hx])⟩
  unfold callD at h
  split at h
  ·rename_i n hf
   split at h
   ·rename_i vs ks hp
    split at h
    ·rename_i bs hb
     split at h
     ·rename_i hd
      split at h
      ·rename_i v bs' hF
       split at h
       ·rename_i hcond
        simp only [Option.some.injEq] at h
        subst h
        have hdis : ∀ k ∈ ks, k ∉ s.rd := by
         intro k hk hk'
         simp only [Bool.not_true, Bool.false_or, disj, List.all_eq_true] at hd
         have := hd k hk
         simp [hk'] at this
        refine ⟨v, none, ks, bs', by rw [St.put_eq]; rfl, by simp, hdis, by simp [callOp, ho], by simp, fun s2 h1 h2 h3 h4 h5 h6 h7 => ?_⟩
        obtain ⟨e1, e2⟩ := hev s2 h4
        have hgen : ∀ j, s2.gen j = s.gen j := fun j => by unfold St.gen; rw [h2]
        have hcur : s2.cur = s.cur := by funext u; cases u <;> simp only [St.cur, hgen]
        have hpass : ∀ (l : List AV) n, s2.pass n l = s.pass n l := by
         intro l
         induction l with
         | nil => intro n; rfl
         | cons a l ih => intro n; cases a <;> simp only [St.pass, ih]
        have hbox : ∀ l : List Nat, (∀ k ∈ l, k ∈ ks) → s2.boxesAt l = s.boxesAt l := by
         intro l
         induction l with
         | nil => intro _; rfl
         | cons k l ih =>
          intro hh
          simp only [St.boxesAt, ih (fun k hk => hh k (List.mem_cons_of_mem _ hk)), h5 k (.inr (hh k (List.mem_cons_self ..))), hcur]
        have hd2 : (!true || disj ks s2.rd) = true := by
         simp only [Bool.not_true, Bool.false_or, disj, List.all_eq_true]
         intro k hk
         simp [h7 k hk]
        have hcx : ∀ l : Boxes, curBx s2 l = curBx s l := by
         intro l
         induction l with
         | nil => rfl
         | cons c l ih =>
          simp only [curBx, ih]
          rw [show (isCurB s2) = (isCurB s) from funext fun u => isCurB_congr h2 u]
        have hca : curAt ({ s2 with b := putBoxes s2.b ks bs', wr := ks ++ s2.wr }.put o.dst v) o.dst = curAt ({ s with b := putBoxes s.b ks bs', wr := ks ++ s.wr }.put o.dst v) o.dst := by
         exact curAt_congr (a := { s2 with b := putBoxes s2.b ks bs', wr := ks ++ s2.wr }) (b := { s with b := putBoxes s.b ks bs', wr := ks ++ s.wr }) h1 h2 o.dst v
        unfold stepD
        rw [ho]
        dsimp only
        unfold callD
        rw [e1, e2, hf]
        dsimp only
        rw [hpass, hp]
        dsimp only
        rw [hbox ks (fun k hk => hk), hb]
        dsimp only
        rw [if_pos hd2, hF]
        dsimp only
        rw [if_pos ⟨hcond.1, fun _ => by rw [hcx, hca]; exact hcond.2 rfl⟩, St.put_eq]
        rfl
       ·simp at h
      ·simp at h
     ·simp at h
    ·simp at h
   ·simp at h
  ·simp at h
 ·rename_i hno
  have hnc : callOp o = false := by
   unfold callOp
   split
   ·rename_i f args ts e; exact absurd e (hno _ _ _)
   ·rfl
  have hstep : ∀ s : St, stepD E true s o = (match stepA E.tb true s o with
    | some st' => bif true then (bif isBump E.tb o then (bif keepsPtr st' s.t && keepsPtrB st' s.b then some st'.canon else none) else (bif curAt st' o.dst then some st' else none)) else some st'
    | none => none) := by
   intro s
   unfold stepD
   split
   ·rename_i f args ts e; exact absurd e (hno _ _ _)
   ·rfl
  have hcurAt : ∀ (s2 : St) (v : AV), s2.nt = s.nt → s2.g = s.g → curAt (s2.put o.dst v) o.dst = curAt (s.put o.dst v) o.dst := by
   intro s2 v h1 h2
   exact curAt_congr h1 h2 _ _
  rcases hc with hp | hl | hcall
  ·rw [stepA_val hp, pure_notBump hp] at h
   cases hv : valA E.tb s o with
   | none => rw [hv] at h; simp [putO] at h
   | some v =>
    rw [hv] at h
    simp only [putO, cond_true, cond_false] at h
    cases hk : curAt (s.put o.dst v) o.dst with
    | false => rw [hk] at h; simp at h
    | true =>
     rw [hk] at h
     simp only [cond_true, Option.some.injEq] at h
     subst h
     refine ⟨v, none, [], [], (ap_put v o.dst s).symm, by simp, by simp, fun _ => rfl, fun _ => rfl, fun s2 h1 h2 h3 h4 h5 h6 h7 => ?_⟩
     rw [hstep, stepA_val hp, pure_notBump hp, valA_congr h4 h3, hv]
     simp only [putO, cond_true, cond_false]
     rw [hcurAt s2 v h1 h2, hk, ap_put]
     rfl
  ·cases ho : o.op with
   | load t x =>
    have hnb : isBump E.tb o = false := by simp [isBump, ho]
    have hsa : ∀ s : St, stepA E.tb true s o = (match loadA E.tb true s t (s.ev x) with | some (v, rd) => some ({ s with rd := rd }.put o.dst v) | none => none) := fun s => by simp only [stepA, ho] <;> rfl
    rw [hsa, hnb] at h
    cases hld : loadA E.tb true s t (s.ev x) with
    | none => rw [hld] at h; simp at h
    | some p =>
     obtain ⟨v, rd⟩ := p
     rw [hld] at h
     dsimp only at h
     simp only [cond_true, cond_false] at h
     cases hk : curAt ({ s with rd := rd }.put o.dst v) o.dst with
     | false => rw [hk] at h; simp at h
     | true =>
      rw [hk] at h
      simp only [cond_true, Option.some.injEq] at h
      subst h
      have hk' : ∀ (s2 : St) (rd2 : List Nat), s2.nt = s.nt → s2.g = s.g → curAt ({ s2 with rd := rd2 }.put o.dst v) o.dst = true := by
       intro s2 rd2 h1 h2
       exact (curAt_congr (a := { s2 with rd := rd2 }) (b := { s with rd := rd }) h1 h2 o.dst v).trans hk
      have hx : ∀ s2 : St, (∀ x' ∈ (Op.load t x).operands.toList, s2.ev x' = s.ev x') → s2.ev x = s.ev x := fun s2 hh => hh x (by simp [Op.operands])
      rcases loadA_congr hld with ⟨k, rfl, hw, hh⟩ | ⟨rfl, hh⟩
      ·refine ⟨v, some k, [], [], by rw [St.put_eq]; rfl, by intro k' e; cases e; exact hw, by simp, fun _ => rfl, fun e => by rw [hnc] at e; simp at e, fun s2 h1 h2 h3 h4 h5 h6 h7 => ?_⟩
       have hgen : ∀ j, s2.gen j = s.gen j := fun j => by unfold St.gen; rw [h2]
       rw [hstep, hsa, hnb, hx s2 h4, hh s2 hgen (h5 k (.inl rfl)) (h6 k rfl) h3]
       dsimp only
       simp only [cond_true, cond_false]
       rw [hk' s2 _ h1 h2, St.put_eq]
       rfl
      ·refine ⟨v, none, [], [], by rw [St.put_eq]; rfl, by simp, by simp, fun _ => rfl, fun _ => rfl, fun s2 h1 h2 h3 h4 h5 h6 h7 => ?_⟩
       rw [hstep, hsa, hnb, hx s2 h4, hh s2 h3]
       dsimp only
       simp only [cond_true, cond_false]
       rw [hk' s2 _ h1 h2, St.put_eq]
       rfl
   | _ => simp [loadOp, ho] at hl
  ·rw [hnc] at hcall; simp at hcall
theorem guard_looks {t : Nat} {want : Bool} (h : guardOf ops o = .at_ t want) : t ∈ o.looksAt ops := by
 unfold guardOf at h
 split at h
 ·simp at h
 ·rename_i j w' e
  split at h
  ·rename_i t' e'
   simp only [Gd.at_.injEq] at h
   obtain ⟨rfl, rfl⟩ := h
   unfold Oper.looksAt
   refine List.mem_append.2 (.inr ?_)
   rw [e]
   simp [e']
  ·simp at h
theorem does_of (hc : pureOp E.tb o = true ∨ loadOp o = true ∨ callOp o = true) {st' : St} (h : opD E true ops st o = some st') :
  ∃ e, st' = e.ap o.dst st ∧ Does E ops o e st ∧ (callOp o = false → e.ks = []) ∧ (callOp o = true → e.rds = none) := by
 have h0 := h
 unfold opD at h
 split at h
 ·simp at h
 ·rename_i hg
  obtain ⟨v, rds, ks, bs, e0, h1, h2, h3, h4, h5⟩ := stepD_eff hc h
  subst e0
  refine ⟨⟨none, v, rds, ks, bs⟩, rfl, ⟨by simp, h1, h2, h0, fun st2 hs => ?_⟩, h3, h4⟩
  unfold opD
  rw [hg]
  exact h5 st2 hs.nt hs.g hs.r (fun x hx => ev_congr hs.g fun t e => hs.sl t (looks_operand hx t e)) hs.bx hs.rw hs.wr
 ·rename_i t want hg
  have hlk := guard_looks hg
  split at h
  ·rename_i b hb
   have hgp : ∀ s : St, s.put (some t) (.bool b) = gput s (some (t, b)) := fun s => by rw [St.put_eq]; rfl
   split at h
   ·rename_i hbw
    rw [hgp] at h
    obtain ⟨v, rds, ks, bs, e0, h1, h2, h3, h4, h5⟩ := stepD_eff hc h
    refine ⟨⟨some (t, b), v, rds, ks, bs⟩, e0, ⟨?_, h1, h2, by rw [h0, e0]; rfl, fun st2 hs => ?_⟩, h3, h4⟩
    ·intro t' b' e
     simp only [Option.some.injEq, Prod.mk.injEq] at e
     obtain ⟨rfl, rfl⟩ := e
     exact ⟨hb, hlk⟩
    ·unfold opD
     rw [hg]
     dsimp only
     rw [hs.sl t hlk, hb]
     dsimp only
     rw [if_pos hbw, hgp]
     have hb2 : st2.get t = .bool b := by rw [hs.sl t hlk, hb]
     refine h5 (gput st2 (some (t, b))) hs.nt hs.g hs.r (fun x hx => ev_congr (st := gput st (some (t, b))) (st2 := gput st2 (some (t, b))) hs.g fun t' e => ?_) hs.bx hs.rw hs.wr
     rw [get_gput (st := st2) (by intro t' b' e; simp only [Option.some.injEq, Prod.mk.injEq] at e; obtain ⟨rfl, rfl⟩ := e; exact hb2), get_gput (st := st) (by intro t' b' e; simp only [Option.some.injEq, Prod.mk.injEq] at e; obtain ⟨rfl, rfl⟩ := e; exact hb)]
     exact hs.sl t' (looks_operand hx t' e)
   ·rename_i hbw
    simp only [Option.some.injEq] at h
    have hap : ∀ s : St, (s.put (some t) (.bool b)).put o.dst (.tup []) = Eff.ap ⟨some (t, b), .tup [], none, [], []⟩ o.dst s := fun s => by rw [hgp, St.put_eq]; rfl
    subst h
    refine ⟨⟨some (t, b), .tup [], none, [], []⟩, hap st, ⟨?_, by simp, by simp, by rw [h0, hap], fun st2 hs => ?_⟩, fun _ => rfl, fun _ => rfl⟩
    ·intro t' b' e
     simp only [Option.some.injEq, Prod.mk.injEq] at e
     obtain ⟨rfl, rfl⟩ := e
     exact ⟨hb, hlk⟩
    ·unfold opD
     rw [hg]
     dsimp only
     rw [hs.sl t hlk, hb]
     dsimp only
     rw [if_neg hbw, hap]
  ·rename_i hb
   simp only [Option.some.injEq] at h
   subst h
   refine ⟨⟨none, .tup [], none, [], []⟩, (ap_put _ _ _).symm, ⟨by simp, by simp, by simp, by rw [h0, ap_put], fun st2 hs => ?_⟩, fun _ => rfl, fun _ => rfl⟩
   unfold opD
   rw [hg]
   dsimp only
   rw [hs.sl t hlk, hb]
   dsimp only
   rw [ap_put]
  ·simp at h
def sep (ops : Array Oper) (x y : Oper) : Bool :=
 (match x.dst with | some d => !(y.looksAt ops).contains d && y.dst != some d | none => true) &&
 (match y.dst with | some d => !(x.looksAt ops).contains d | none => true)
theorem sep_spec {x y : Oper} (h : sep ops x y = true) : (∀ t ∈ y.looksAt ops, x.dst ≠ some t) ∧ (∀ t ∈ x.looksAt ops, y.dst ≠ some t) ∧ (∀ k, x.dst = some k → y.dst ≠ some k) := by
 unfold sep at h
 simp only [Bool.and_eq_true] at h
 obtain ⟨h1, h2⟩ := h
 refine ⟨fun t ht e => ?_, fun t ht e => ?_, fun k e e' => ?_⟩
 ·rw [e] at h1
  simp [ht] at h1
 ·rw [e] at h2
  simp [ht] at h2
 ·rw [e] at h1
  simp [e'] at h1
theorem swap {x y : Oper} (hs : sep ops x y = true) (hx : pureOp E.tb x = true ∨ loadOp x = true ∨ callOp x = true) (hy : pureOp E.tb y = true ∨ loadOp y = true ∨ callOp y = true) (hxy : callOp x = false ∨ callOp y = false)
  {st1 st2 : St} (h1 : opD E true ops st x = some st1) (h2 : opD E true ops st1 y = some st2) : ∃ st1', opD E true ops st y = some st1' ∧ opD E true ops st1' x = some st2 := by
 obtain ⟨s1, s2, s3⟩ := sep_spec hs
 obtain ⟨e1, rfl, d1, n1, m1⟩ := does_of hx h1
 obtain ⟨e2, rfl, d2, n2, m2⟩ := does_of hy h2
 have hks : e1.ks = [] ∨ e2.ks = [] := hxy.imp n1 n2
 have g1 : ∀ t b, e1.gs = some (t, b) → st.get t = .bool b := fun t b e => (d1.gs t b e).1
 -- y at st
 have hbx : ∀ {b : List (Nat × List AV)} {ks : List Nat} {bs : Boxes} {k : Nat}, k ∉ ks → find k (putBoxes b ks bs) = find k b := by
  intro b ks
  induction ks generalizing b with
  | nil => intro bs k _; rfl
  | cons k' ks ih =>
   intro bs k hk
   cases bs with
   | nil => rfl
   | cons c bs =>
    simp only [List.mem_cons, not_or] at hk
    show find k (putBoxes (put k' c b) ks bs) = find k b
    rw [ih hk.2, find_put_ne hk.1]
 have hwr : ∀ k, k ∈ (e1.ap x.dst st).wr ↔ k ∈ e1.ks ∨ k ∈ st.wr := fun k => List.mem_append
 have hrd : ∀ k, k ∈ (e1.ap x.dst st).rd ↔ e1.rds = some k ∨ k ∈ st.rd := by
  intro k
  show k ∈ insO e1.rds st.rd ↔ _
  cases e1.rds with
  | none => simp [insO]
  | some k' => simp [insO, mem_insN, eq_comm]
 have hsame1 : Same ops y e2 (e1.ap x.dst st) st := by
  refine ⟨rfl, rfl, rfl, fun t ht => (Eff.get_ap g1 (s1 t ht)).symm, fun k hk => ?_, fun k hk => ?_, fun k hk => ?_⟩
  ·refine (hbx (b := st.b) (ks := e1.ks) (bs := e1.bs) ?_).symm
   rcases hk with hk | hk
   ·have := d2.rw k hk
    rw [hwr] at this
    exact fun h => this (.inl h)
   ·rcases hks with e | e
    ·rw [e]; simp
    ·rw [e] at hk; simp at hk
  ·have := d2.rw k hk
   rw [hwr] at this
   exact fun h => this (.inr h)
  ·have := d2.wr k hk
   rw [hrd] at this
   exact fun h => this (.inr h)
 have hy1 := d2.again st hsame1
 have g2 : ∀ t b, e2.gs = some (t, b) → st.get t = .bool b := fun t b e => by
  obtain ⟨q1, q2⟩ := d2.gs t b e
  rw [Eff.get_ap g1 (s1 t q2)] at q1
  exact q1
 have hsame2 : Same ops x e1 st (e2.ap y.dst st) := by
  refine ⟨rfl, rfl, rfl, fun t ht => Eff.get_ap g2 (s2 t ht), fun k hk => ?_, fun k hk => ?_, fun k hk => ?_⟩
  ·refine hbx (b := st.b) (ks := e2.ks) (bs := e2.bs) ?_
   rcases hk with hk | hk
   ·intro h
    have := d2.wr k h
    rw [hrd] at this
    exact this (.inl hk)
   ·rcases hks with e | e
    ·rw [e] at hk; simp at hk
    ·rw [e]; simp
  ·show k ∉ e2.ks ++ st.wr
   rw [List.mem_append]
   rintro (h | h)
   ·have := d2.wr k h
    rw [hrd] at this
    exact this (.inl hk)
   ·exact d1.rw k hk h
  ·show k ∉ insO e2.rds st.rd
   cases hr : e2.rds with
   | none => simp only [insO]; exact d1.wr k hk
   | some k' =>
    simp only [insO, mem_insN, not_or]
    refine ⟨?_, d1.wr k hk⟩
    intro e
    subst e
    have := d2.rw _ hr
    rw [hwr] at this
    exact this (.inl hk)
 have hx1 := d1.again _ hsame2
 refine ⟨_, hy1, ?_⟩
 rw [hx1]
 congr 1
 -- the two ways agree
 have ht : putT st.nt x.dst e1.v (putG st.nt e1.gs (putT st.nt y.dst e2.v (putG st.nt e2.gs st.t))) = putT st.nt y.dst e2.v (putG st.nt e2.gs (putT st.nt x.dst e1.v (putG st.nt e1.gs st.t))) := by
  have c1 : ∀ l, putG st.nt e1.gs (putT st.nt y.dst e2.v l) = putT st.nt y.dst e2.v (putG st.nt e1.gs l) := by
   intro l
   cases hg : e1.gs with
   | none => rfl
   | some p =>
    obtain ⟨t, b⟩ := p
    have := s2 t (d1.gs t b hg).2
    exact putT_comm (d := some t) (fun k e => by cases e; exact this) _ _ _
  have c2 : ∀ l, putT st.nt x.dst e1.v (putG st.nt e2.gs l) = putG st.nt e2.gs (putT st.nt x.dst e1.v l) := by
   intro l
   cases hg : e2.gs with
   | none => rfl
   | some p =>
    obtain ⟨t, b⟩ := p
    have := s1 t (d2.gs t b hg).2
    exact putT_comm (d' := some t) (fun k e e' => by cases e'; exact this e) _ _ _
  have c3 : ∀ l, putG st.nt e1.gs (putG st.nt e2.gs l) = putG st.nt e2.gs (putG st.nt e1.gs l) := by
   intro l
   cases hg : e1.gs with
   | none => rfl
   | some p =>
    obtain ⟨t, b⟩ := p
    cases hg' : e2.gs with
    | none => rfl
    | some p' =>
     obtain ⟨t', b'⟩ := p'
     by_cases e : t = t'
     ·subst e
      have q1 := g1 t b hg
      have q2 := g2 t b' hg'
      rw [q1] at q2
      simp only [AV.bool.injEq] at q2
      subst q2
      rfl
     ·exact putT_comm (d := some t) (d' := some t') (fun k e1 e2 => by cases e1; cases e2; exact e rfl) _ _ _
  rw [c1, putT_comm (fun k e => s3 k e), c3, c2]
 have hb : putBoxes (putBoxes st.b e2.ks e2.bs) e1.ks e1.bs = putBoxes (putBoxes st.b e1.ks e1.bs) e2.ks e2.bs := by
  rcases hks with e | e <;> rw [e] <;> rfl
 have hr : insO e1.rds (insO e2.rds st.rd) = insO e2.rds (insO e1.rds st.rd) := by
  cases e1.rds with
  | none => rfl
  | some a =>
   cases e2.rds with
   | none => rfl
   | some b => exact insN_comm a b _
 have hw : e1.ks ++ (e2.ks ++ st.wr) = e2.ks ++ (e1.ks ++ st.wr) := by
  rcases hks with e | e <;> rw [e] <;> rfl
 unfold Eff.ap
 simp only [ht, hb, hr, hw]
end
theorem cur_of (s : St) {v : AV} (h : isCurB s v = true) : s.cur v = v := by
 cases v <;> simp only [St.cur] <;> simp only [isCurB, beq_iff_eq] at h <;> rw [if_pos h]
theorem isCurB_cur (s : St) (v : AV) : isCurB s (s.cur v) = true := by
 cases v <;> simp only [St.cur] <;> first | rfl | (split <;> simp_all [isCurB])
theorem cur_cur (s : St) (v : AV) : s.cur (s.cur v) = s.cur v := cur_of s (isCurB_cur s v)
theorem cur_gen {a b : St} (h : ∀ k, a.gen k = b.gen k) (v : AV) : a.cur v = b.cur v := by cases v <;> simp only [St.cur, h]
theorem curT_gen {a b : St} (h : ∀ k, a.gen k = b.gen k) : ∀ l, curT a l = curT b l
 | [] => rfl
 | (k, v) :: r => by simp only [curT, cur_gen h, curT_gen h r]
theorem curB_gen {a b : St} (h : ∀ k, a.gen k = b.gen k) : ∀ l, curB a l = curB b l
 | [] => rfl
 | (k, v) :: r => by simp only [curB, curB_gen h r, show a.cur = b.cur from funext (cur_gen h)]
theorem curT_put (s : St) (k : Nat) (v : AV) : ∀ l, curT s (put k v l) = put k (s.cur v) (curT s l)
 | [] => rfl
 | (m, u) :: r => by
  simp only [put, curT]
  split
  ·rfl
  ·split
   ·rfl
   ·simp only [curT, curT_put s k v r]
def okp (s : St) (v : AV) : Bool := match v with
 | .ptr k g _ => g == s.gen k
 | .row k g => g == s.gen k
 | .rowp k g _ => g == s.gen k
 | _ => true
theorem okp_gen {a b : St} (h : ∀ k, a.gen k = b.gen k) (v : AV) : okp a v = okp b v := by cases v <;> simp only [okp, h]
theorem keepsPtr_iff (s : St) : ∀ l, keepsPtr s l = true ↔ ∀ p ∈ l, okp s p.2 = true
 | [] => by simp [keepsPtr]
 | (k, v) :: r => by
  have e : keepsPtr s ((k, v) :: r) = (okp s v && keepsPtr s r) := rfl
  rw [e, Bool.and_eq_true, keepsPtr_iff s r]
  simp
theorem keepsPtrL_iff (s : St) : ∀ l, keepsPtrL s l = true ↔ ∀ v ∈ l, okp s v = true
 | [] => by simp [keepsPtrL]
 | v :: r => by
  have e : keepsPtrL s (v :: r) = (okp s v && keepsPtrL s r) := rfl
  rw [e, Bool.and_eq_true, keepsPtrL_iff s r]
  simp
theorem keepsPtrB_iff (s : St) : ∀ l, keepsPtrB s l = true ↔ ∀ p ∈ l, ∀ v ∈ p.2, okp s v = true
 | [] => by simp [keepsPtrB]
 | (k, v) :: r => by
  simp only [keepsPtrB, Bool.and_eq_true, keepsPtrL_iff, keepsPtrB_iff s r]
  simp
theorem mem_put {α : Type} {k : Nat} {v : α} {p : Nat × α} : ∀ {l : List (Nat × α)}, p ∈ put k v l → p = (k, v) ∨ p ∈ l
 | [], h => by simp [put] at h; exact .inl h
 | (m, u) :: r, h => by
  simp only [put] at h
  split at h
  ·rcases List.mem_cons.1 h with h | h
   ·exact .inl h
   ·exact .inr (List.mem_cons_of_mem _ h)
  ·split at h
   ·rcases List.mem_cons.1 h with h | h
    ·exact .inl h
    ·exact .inr h
   ·rcases List.mem_cons.1 h with h | h
    ·exact .inr (h ▸ List.mem_cons_self ..)
    ·rcases mem_put h with h | h
     ·exact .inl h
     ·exact .inr (List.mem_cons_of_mem _ h)
theorem find_mem {α : Type} {k : Nat} {v : α} : ∀ {l : List (Nat × α)}, find k l = some v → (k, v) ∈ l
 | [], h => by simp [find] at h
 | (m, u) :: r, h => by
  simp only [find] at h
  split at h
  ·rename_i e
   subst e
   cases h
   exact List.mem_cons_self ..
  ·exact List.mem_cons_of_mem _ (find_mem h)
structure Canon (st : St) : Prop where
 t : ∀ p ∈ st.t, isCurB st p.2 = true
 b : ∀ p ∈ st.b, ∀ v ∈ p.2, isCurB st v = true
theorem Canon.get {st : St} (h : Canon st) (k : Nat) : isCurB st (st.get k) = true := by
 unfold St.get
 split
 ·rename_i v e
  exact h.t _ (find_mem e)
 ·rfl
theorem Canon.ev {st : St} (h : Canon st) (a : Nat) : st.ev (.tmp a) = st.get a := cur_of st (h.get a)
theorem mem_curT {s : St} : ∀ {l : List (Nat × AV)} {p : Nat × AV}, p ∈ curT s l → isCurB s p.2 = true
 | (k, v) :: r, p, h => by
  simp only [curT] at h
  rcases List.mem_cons.1 h with h | h
  ·subst h; exact isCurB_cur s v
  ·exact mem_curT h
theorem mem_curB {s : St} : ∀ {l : List (Nat × List AV)} {p : Nat × List AV}, p ∈ curB s l → ∀ v ∈ p.2, isCurB s v = true
 | (k, vs) :: r, p, h, v, hv => by
  simp only [curB] at h
  rcases List.mem_cons.1 h with h | h
  ·subst h
   obtain ⟨u, _, rfl⟩ := List.mem_map.1 hv
   exact isCurB_cur s u
  ·exact mem_curB h v hv
theorem Canon.canon (st : St) : Canon st.canon := by
 have e : ∀ v, isCurB st.canon v = isCurB st v := fun v => by cases v <;> rfl
 exact ⟨fun p hp => by rw [e]; exact mem_curT hp, fun p hp v hv => by rw [e]; exact mem_curB hp v hv⟩
theorem isCurB_gen {a b : St} (h : ∀ k, a.gen k = b.gen k) (v : AV) : isCurB a v = isCurB b v := by cases v <;> simp only [isCurB, h]
theorem Canon.put {st : St} (h : Canon st) {dst : Option Nat} {v : AV} (hv : ∀ d, dst = some d → d < st.nt → isCurB st v = true) : Canon (st.put dst v) := by
 have e : ∀ u, isCurB (st.put dst v) u = isCurB st u := fun u => isCurB_gen (fun k => St.gen_put st dst v k) u
 refine ⟨fun p hp => ?_, fun p hp u hu => ?_⟩
 ·rw [e]
  cases dst with
  | none => exact h.t p hp
  | some d =>
   unfold St.put at hp
   simp only at hp
   split at hp
   ·rename_i hd
    rcases mem_put hp with rfl | hp
    ·exact hv d rfl hd
    ·exact h.t p hp
   ·exact h.t p hp
 ·rw [e]
  rw [St.b_put] at hp
  exact h.b p hp u hu
theorem curAt_is {st : St} {dst : Option Nat} {v : AV} (h : curAt (st.put dst v) dst = true) : ∀ d, dst = some d → d < st.nt → isCurB st v = true := by
 intro d e hd
 subst e
 rw [curAt_put] at h
 simpa [hd] using h
theorem mem_putBoxes {ks : List Nat} : ∀ {b : List (Nat × List AV)} {bs : Boxes} {p : Nat × List AV}, p ∈ putBoxes b ks bs → p ∈ b ∨ p.2 ∈ bs := by
 induction ks with
 | nil => intro b bs p h; exact .inl h
 | cons k ks ih =>
  intro b bs p h
  cases bs with
  | nil => exact .inl h
  | cons c bs =>
   rcases ih (b := AM.put k c b) (bs := bs) h with h | h
   ·rcases mem_put h with rfl | h
    ·exact .inr (List.mem_cons_self ..)
    ·exact .inl h
   ·exact .inr (List.mem_cons_of_mem _ h)
theorem curBx_iff (s : St) : ∀ l : Boxes, curBx s l = true → ∀ c ∈ l, ∀ v ∈ c, isCurB s v = true
 | [], _, c, hc, _, _ => by simp at hc
 | x :: r, h, c, hc, v, hv => by
  simp only [curBx, Bool.and_eq_true, List.all_eq_true] at h
  rcases List.mem_cons.1 hc with rfl | hc
  ·exact h.1 v hv
  ·exact curBx_iff s r h.2 c hc v hv
def appOp (o : Oper) : Bool := o.guard.isNone && (match o.op with | .call { callee := .builtin .append, .. } => true | _ => false)
def lookOp (o : Oper) : Bool := o.guard.isNone && (match o.op with | .load _ _ | .fieldAddr _ _ _ => true | _ => false)
section
variable {E : Ev} {ops : Array Oper} {st st1 st2 s0 s1 : St} {o x y : Oper}
theorem opD_free (h : o.guard = none) (s : St) : opD E true ops s o = stepD E true s o := by
 unfold opD
 have e : guardOf ops o = .free := by unfold guardOf; rw [h]
 rw [e]
theorem stepD_canon (hc : (pureOp E.tb o || loadOp o || callOp o || appOp o) = true) (h : Canon st) (hs : stepD E true st o = some st1) : Canon st1 := by
 unfold stepD at hs
 split at hs
 ·rename_i f args ts ho
  unfold callD at hs
  repeat' (split at hs)
  all_goals first
   | (simp at hs; done)
   | skip
  rename_i hcond
  simp only [Option.some.injEq] at hs
  subst hs
  obtain ⟨c1, c2⟩ := hcond.2 rfl
  refine Canon.put (st := { st with b := _, wr := _ }) ⟨fun p hp => ?_, fun p hp v hv => ?_⟩ (curAt_is c2)
  ·exact (isCurB_gen (fun k => rfl) _).trans (h.t p hp)
  ·refine (isCurB_gen (b := st) (fun k => rfl) _).trans ?_
   rcases mem_putBoxes hp with hp | hp
   ·exact h.b p hp v hv
   ·exact curBx_iff st _ c1 _ hp v hv
 ·rename_i hno
  split at hs
  ·rename_i st' hst
   simp only [cond_true] at hs
   cases hb : isBump E.tb o with
   | true =>
    rw [hb] at hs
    simp only [cond_true] at hs
    cases hk : (keepsPtr st' st.t && keepsPtrB st' st.b) with
    | false => rw [hk] at hs; simp at hs
    | true =>
     rw [hk] at hs
     simp only [cond_true, Option.some.injEq] at hs
     subst hs
     exact Canon.canon st'
   | false =>
    rw [hb] at hs
    simp only [cond_false] at hs
    cases hk : curAt st' o.dst with
    | false => rw [hk] at hs; simp at hs
    | true =>
     rw [hk] at hs
     simp only [cond_true, Option.some.injEq] at hs
     subst hs
     cases hp : pureOp E.tb o with
     | true =>
      rw [stepA_val hp] at hst
      cases hv : valA E.tb st o with
      | none => rw [hv] at hst; simp [putO] at hst
      | some v =>
       rw [hv] at hst
       simp only [putO, Option.some.injEq] at hst
       subst hst
       exact h.put (curAt_is hk)
     | false =>
      cases ho : o.op with
      | load t x =>
       have hsa : stepA E.tb true st o = (match loadA E.tb true st t (st.ev x) with | some (v, rd) => some ({ st with rd := rd }.put o.dst v) | none => none) := by simp only [stepA, ho] <;> rfl
       rw [hsa] at hst
       split at hst
       ·rename_i v rd hld
        simp only [Option.some.injEq] at hst
        subst hst
        exact Canon.put (st := { st with rd := rd }) ⟨fun p hp => (isCurB_gen (fun k => rfl) _).trans (h.t p hp), fun p hp v hv => (isCurB_gen (fun k => rfl) _).trans (h.b p hp v hv)⟩ (curAt_is hk)
       ·simp at hst
      | call c =>
       obtain ⟨callee, args, ts⟩ := c
       cases callee with
       | builtin b =>
        cases b <;> first | (simp [isBump, ho] at hb; done) | (simp [pureOp, loadOp, callOp, appOp, ho, hp] at hc; done) | (simp [pureOp, ho] at hp; done)
       | value f => exact absurd ho (hno _ _ _)
       | invoke f n => simp [pureOp, loadOp, callOp, appOp, ho, hp] at hc
      | _ => simp [pureOp, loadOp, callOp, appOp, ho, hp] at hc <;> simp_all [pureOp]
  ·simp at hs
theorem opD_canon (hc : (pureOp E.tb o || loadOp o || callOp o || appOp o) = true) (h : Canon st) (hs : opD E true ops st o = some st1) : Canon st1 := by
 unfold opD at hs
 split at hs
 ·simp at hs
 ·exact stepD_canon hc h hs
 ·split at hs
  ·rename_i t want hg b hb
   split at hs
   ·exact stepD_canon hc (h.put fun _ _ _ => rfl) hs
   ·simp only [Option.some.injEq] at hs
    subst hs
    exact (h.put fun _ _ _ => rfl).put fun _ _ _ => rfl
  ·simp only [Option.some.injEq] at hs
   subst hs
   exact h.put fun _ _ _ => rfl
  ·simp at hs
theorem app_step (hx : appOp x = true) (h : stepD E true st x = some st1) :
  ∃ d v g, x.dst = some d ∧ st1 = ({ st with g := g }.put (some d) v).canon ∧ keepsPtr ({ st with g := g }.put (some d) v) st.t = true ∧ keepsPtrB ({ st with g := g }.put (some d) v) st.b = true ∧
   ∀ s2 : St, s2.g = st.g → s2.r = st.r → (∀ a ∈ x.op.operands.toList, s2.ev a = st.ev a) → keepsPtr ({ s2 with g := g }.put (some d) v) s2.t = true → keepsPtrB ({ s2 with g := g }.put (some d) v) s2.b = true →
    stepD E true s2 x = some ({ s2 with g := g }.put (some d) v).canon := by
 cases ho : x.op with
 | call c =>
  obtain ⟨callee, args, ts⟩ := c
  cases callee with
  | builtin b =>
   cases b with
   | append =>
    have hb : isBump E.tb x = true := by simp [isBump, ho]
    have hsd : ∀ s : St, stepD E true s x = (match builtinA E.tb s x.dst .append ts.toList (args.toList.map s.ev) with
      | some st' => bif keepsPtr st' s.t && keepsPtrB st' s.b then some st'.canon else none
      | none => none) := by
     intro s
     unfold stepD
     rw [ho]
     dsimp only
     rw [hb]
     simp only [stepA, ho, cond_true]
     rfl
    have hargs : ∀ s2 : St, (∀ a ∈ (Op.call { callee := .builtin .append, args := args, argTypes := ts }).operands.toList, s2.ev a = st.ev a) → args.toList.map s2.ev = args.toList.map st.ev := fun s2 hh =>
     List.map_congr_left fun a ha => hh a (by simp only [Op.operands, Call.operands]; simp [Array.mem_toList_iff.1 ha])
    rw [hsd] at h
    have key : ∀ st', builtinA E.tb st x.dst .append ts.toList (args.toList.map st.ev) = some st' → ∃ d v g, x.dst = some d ∧ st' = { st with g := g }.put (some d) v ∧ ∀ s2 : St, s2.g = st.g → s2.r = st.r → builtinA E.tb s2 x.dst .append ts.toList (args.toList.map st.ev) = some ({ s2 with g := g }.put (some d) v) := by
     intro st' hh
     have hnone : ∀ {z : Option St}, z = none → z = some st' → False := fun h1 h2 => by rw [h1] at h2; cases h2
     rcases htl : ts.toList with _ | ⟨t, _ | ⟨u, _ | ⟨u', r⟩⟩⟩
     ·rw [htl] at hh; exact (hnone rfl hh).elim
     ·rw [htl] at hh; exact (hnone rfl hh).elim
     ·rw [htl] at hh
      rcases hal : args.toList.map st.ev with _ | ⟨X, _ | ⟨Y, _ | ⟨Z, r⟩⟩⟩
      ·rw [hal] at hh; exact (hnone rfl hh).elim
      ·rw [hal] at hh; exact (hnone rfl hh).elim
      ·rw [hal] at hh
       simp only [builtinA] at hh ⊢
       split at hh <;> first | (simp at hh; done) | skip
       rename_i d e sz by_ z sy ys hd ht hsrc
       split at hh <;> first | (simp at hh; done) | skip
       rename_i ti hti
       split at hh <;> first | (simp at hh; done) | skip
       rename_i v g hap
       simp only [Option.some.injEq] at hh
       subst hh
       refine ⟨d, v, g, hd, by rw [hd], fun s2 hg hr => ?_⟩
       have hs2 : srcA E.tb s2 u Y = srcA E.tb st u Y := by simp only [srcA, elems_congr hr]
       have hap2 : appendA s2 d ti X ys sy = appendA st d ti X ys sy := by
        have hgen : ∀ k, s2.gen k = st.gen k := fun k => by unfold St.gen; rw [hg]
        simp only [appendA, hgen, hg]
       simp only [hd, ht, hs2, hsrc, hti, hap2, hap]
      ·rw [hal] at hh; exact (hnone rfl hh).elim
     ·rw [htl] at hh; exact (hnone rfl hh).elim
    split at h
    ·rename_i st' hst
     obtain ⟨d, v, g, hd, rfl, hag⟩ := key st' hst
     cases hk : (keepsPtr ({ st with g := g }.put (some d) v) st.t && keepsPtrB ({ st with g := g }.put (some d) v) st.b) with
     | false => rw [hk] at h; simp at h
     | true =>
      rw [hk] at h
      simp only [cond_true, Option.some.injEq] at h
      simp only [Bool.and_eq_true] at hk
      refine ⟨d, v, g, hd, h.symm, hk.1, hk.2, fun s2 hg hr he k1 k2 => ?_⟩
      rw [hsd, hargs s2 he, hag s2 hg hr]
      dsimp only
      rw [k1, k2]
      rfl
    ·simp at h
   | _ => simp [appOp, ho] at hx
  | _ => simp [appOp, ho] at hx
 | _ => simp [appOp, ho] at hx
theorem cur_ptr {s : St} {v : AV} {k g off : Nat} (h : s.cur v = .ptr k g off) : v = .ptr k g off := by
 cases v <;> simp only [St.cur] at h <;> first | exact h | (split at h <;> first | exact h | (simp at h; done))
theorem cur_rp {s : St} {v e : AV} {k j : Nat} (h : s.cur v = .rp k e j) : v = .rp k e j := by
 cases v <;> simp only [St.cur] at h <;> first | exact h | (split at h <;> first | exact h | (simp at h; done))
theorem cur_rowp {s : St} {v : AV} {k g i : Nat} (h : s.cur v = .rowp k g i) : v = .rowp k g i := by
 cases v <;> simp only [St.cur] at h <;> first | exact h | (split at h <;> first | exact h | (simp at h; done))
theorem cur_okp {s : St} {v : AV} {k g off : Nat} (h : s.cur v = .ptr k g off) : g = s.gen k := by
 have e := cur_ptr h
 subst e
 simp only [St.cur] at h
 split at h
 ·assumption
 ·simp at h
theorem cur_fixed {s : St} {v : AV} (h : v.fixed = true) : s.cur v = v := by cases v <;> first | rfl | (simp [AV.fixed] at h)
theorem okp_fixed {s : St} {v : AV} (h : v.fixed = true) : okp s v = true := by cases v <;> first | rfl | (simp [AV.fixed] at h)
theorem isCurB_fixed {s : St} {v : AV} (h : v.fixed = true) : isCurB s v = true := by cases v <;> first | rfl | (simp [AV.fixed] at h)
theorem dat_cur {s : St} {v a : AV} (h : (s.cur v).dat = some a) : v.dat = some a := by
 cases v <;> simp only [St.cur] at h <;> first | exact h | (split at h <;> first | exact h | (simp [AV.dat] at h; done) | (simp [AV.dat] at h ⊢; exact h))
theorem datAll_cur {s : St} : ∀ {l r : List AV}, datAll (l.map s.cur) = some r → datAll l = some r
 | [], r, h => h
 | v :: l, r, h => by
  simp only [List.map_cons, datAll] at h ⊢
  split at h
  ·rename_i a b h1 h2
   rw [dat_cur h1, datAll_cur h2]
   exact h
  ·simp at h
theorem bif_some {α : Type} {b : Bool} {a r : α} (h : (bif b then some a else none) = some r) : a = r := by
 cases b
 ·simp at h
 ·simpa using h
theorem isCurB_of {s : St} {v : AV} (h : s.isCur v) : isCurB s v = true := by
 cases v <;> first | rfl | (simp only [St.isCur] at h; simp [isCurB, h])
theorem ev_cur (s0 s1 : St) (h0 : Canon s0) {x : Operand} (h : ∀ t, x = .tmp t → s1.get t = s1.cur (s0.get t)) : s1.ev x = s1.cur (s0.ev x) := by
 cases x with
 | tmp t =>
  rw [h0.ev t]
  show s1.cur (s1.get t) = _
  rw [h t rfl, cur_cur]
 | const v => exact (cur_of s1 (isCurB_of (ofVal_isCur s1 v))).symm
 | global g => rfl
 | func f => rfl
theorem look_step (hy : lookOp y = true) (h0 : Canon s0) (hnt : s1.nt = s0.nt) (hwr : s1.wr = s0.wr) (hrd : s1.rd = s0.rd) (hr : s1.r = s0.r) (hget : ∀ a, a ∈ y.looksAt ops → s1.get a = s1.cur (s0.get a))
  (hbx : ∀ k, find k s1.b = (find k s0.b).map (·.map s1.cur)) (hkb : ∀ p ∈ s0.b, ∀ v ∈ p.2, okp s1 v = true) (h : stepD E true s1 y = some st2) :
  ∃ u rds, st2 = Eff.ap ⟨none, s1.cur u, rds, [], []⟩ y.dst s1 ∧ stepD E true s0 y = some (Eff.ap ⟨none, u, rds, [], []⟩ y.dst s0) ∧ okp s1 u = true := by
 have hev : ∀ a ∈ y.op.operands.toList, s1.ev a = s1.cur (s0.ev a) := fun a ha => ev_cur s0 s1 h0 fun t e => hget t (looks_operand ha t e)
 cases ho : y.op with
 | load t x =>
  have hnb : isBump E.tb y = false := by simp [isBump, ho]
  have hsd : ∀ s : St, stepD E true s y = (match loadA E.tb true s t (s.ev x) with
    | some (v, rd) => bif curAt ({ s with rd := rd }.put y.dst v) y.dst then some ({ s with rd := rd }.put y.dst v) else none
    | none => none) := by
   intro s
   unfold stepD
   rw [ho]
   dsimp only
   rw [hnb]
   simp only [stepA, ho, cond_true, cond_false]
   rcases loadA E.tb true s t (s.ev x) with _ | ⟨v, rd⟩ <;> rfl
  have hx := hev x (by rw [ho]; simp [Op.operands])
  rw [hsd] at h ⊢
  have hcur0 : ∀ (u : AV) (rd : List Nat), isCurB s0 u = true → curAt ({ s0 with rd := rd }.put y.dst u) y.dst = true := by
   intro u rd hu
   rw [curAt_put]
   cases y.dst with
   | none => rfl
   | some d => dsimp only; split <;> first | rfl | exact (isCurB_gen (fun k => rfl) u).trans hu
  have fin : ∀ (u : AV) (rds : Option Nat), loadA E.tb true s1 t (s1.ev x) = some (s1.cur u, insO rds s1.rd) → loadA E.tb true s0 t (s0.ev x) = some (u, insO rds s0.rd) → isCurB s0 u = true → okp s1 u = true →
    ∃ u rds, st2 = Eff.ap ⟨none, s1.cur u, rds, [], []⟩ y.dst s1 ∧ (match loadA E.tb true s0 t (s0.ev x) with
    | some (v, rd) => bif curAt ({ s0 with rd := rd }.put y.dst v) y.dst then some ({ s0 with rd := rd }.put y.dst v) else none
    | none => none) = some (Eff.ap ⟨none, u, rds, [], []⟩ y.dst s0) ∧ okp s1 u = true := by
   intro u rds l1 l0 hu hk
   rw [l1] at h
   dsimp only at h
   rw [l0]
   dsimp only
   rw [hcur0 u _ hu]
   refine ⟨u, rds, ?_, ?_, hk⟩
   ·rw [← bif_some h, St.put_eq]
    rfl
   ·rw [St.put_eq]
    rfl
  rcases hl : loadA E.tb true s1 t (s1.ev x) with _ | ⟨v, rd⟩
  ·rw [hl] at h; simp at h
  unfold loadA at hl
  split at hl
  ·simp at hl
  rename_i ti hti
  split at hl
  ·rename_i k g off hP
   rw [hx] at hP
   have hP0 := cur_ptr hP
   split at hl
   ·rename_i hw
    split at hl
    ·rename_i cs hcs
     split at hl
     ·rename_i v' hp
      simp only [Option.some.injEq, Prod.mk.injEq] at hl
      obtain ⟨rfl, rfl⟩ := hl
      rw [hbx k] at hcs
      cases hc0 : find k s0.b with
      | none => rw [hc0] at hcs; simp at hcs
      | some cs0 =>
       rw [hc0] at hcs
       simp only [Option.map_some, Option.some.injEq] at hcs
       subst hcs
       have hmem := find_mem hc0
       have hcan : cs0.map s0.cur = cs0 := by
        have : cs0.map s0.cur = cs0.map id := List.map_congr_left fun v hv => cur_of s0 (h0.b _ hmem v hv)
        simpa using this
       have hmm : (cs0.map s1.cur).map s1.cur = cs0.map s1.cur := by
        rw [List.map_map]
        exact List.map_congr_left fun v _ => cur_cur s1 v
       rw [hmm] at hp
       have hw0 : (!true || !s0.wr.contains k) = true := by rw [← hwr]; exact hw
       have main : ∃ u, partOf ti cs0 off = some u ∧ s1.cur u = v' ∧ isCurB s0 u = true ∧ okp s1 u = true := by
        unfold partOf at hp ⊢
        split at hp
        ·rename_i hag
         rw [if_pos hag]
         split at hp
         ·rename_i hle
          rw [List.length_map] at hle
          rw [if_pos hle]
          split at hp
          ·rename_i l hd
           simp only [Option.some.injEq] at hp
           subst hp
           rw [← List.map_drop, ← List.map_take] at hd
           rw [datAll_cur hd]
           exact ⟨_, rfl, rfl, rfl, rfl⟩
          ·simp at hp
         ·simp at hp
        ·rename_i hag
         rw [if_neg hag]
         rw [List.getElem?_map] at hp
         cases hc : cs0[off]? with
         | none => rw [hc] at hp; simp at hp
         | some c =>
          rw [hc] at hp
          simp only [Option.map_some, Option.some.injEq] at hp
          have hcm := List.mem_of_getElem? hc
          exact ⟨c, rfl, hp, h0.b _ hmem c hcm, hkb _ hmem c hcm⟩
       obtain ⟨u, hu, hcu, hcb, hku⟩ := main
       refine fin u (some k) ?_ ?_ hcb hku
       ·unfold loadA
        rw [hx, hP, hti]
        dsimp only
        rw [if_pos hw, hbx k, hc0]
        dsimp only [Option.map_some]
        rw [hmm, hp, hcu]
        rfl
       ·unfold loadA
        rw [hP0, hti]
        dsimp only
        rw [if_pos hw0, hc0]
        dsimp only
        rw [hcan, hu]
        rfl
     ·simp at hl
    ·simp at hl
   ·simp at hl
  ·rename_i s e j hP
   rw [hx] at hP
   have hP0 := cur_rp hP
   have both : v.fixed = true ∧ ∀ s' : St, loadA E.tb true s' t (.rp s e j) = some (v, s'.rd) := by
    split at hl
    ·rename_i hc
     split at hl
     ·rename_i cs
      simp only [Option.some.injEq, Prod.mk.injEq] at hl
      obtain ⟨rfl, rfl⟩ := hl
      exact ⟨rfl, fun s' => by unfold loadA; rw [hti]; dsimp only; rw [if_pos hc]⟩
     ·simp at hl
    ·rename_i hc
     split at hl
     ·rename_i v' hp
      split at hl
      ·rename_i hf
       simp only [Option.some.injEq, Prod.mk.injEq] at hl
       obtain ⟨rfl, rfl⟩ := hl
       exact ⟨hf, fun s' => by unfold loadA; rw [hti]; dsimp only; rw [if_neg hc, hp]; dsimp only; rw [if_pos hf]⟩
      ·simp at hl
     ·simp at hl
   refine fin v none ?_ ?_ (isCurB_fixed both.1) (okp_fixed both.1)
   ·rw [hx, hP, both.2, cur_fixed both.1]; rfl
   ·rw [hP0, both.2]; rfl
  ·rename_i k g i hP
   rw [hx] at hP
   have hP0 := cur_rowp hP
   split at hl
   ·rename_i hag
    split at hl
    ·rename_i xs hxs
     split at hl
     ·rename_i v' hp
      split at hl
      ·rename_i hf
       simp only [Option.some.injEq, Prod.mk.injEq] at hl
       obtain ⟨rfl, rfl⟩ := hl
       have both : ∀ s' : St, s'.r = s1.r → loadA E.tb true s' t (.rowp k g i) = some (v', s'.rd) := by
        intro s' hr'
        unfold loadA
        rw [hti]
        dsimp only
        rw [if_pos hag, hr', hxs]
        dsimp only
        rw [hp]
        dsimp only
        rw [if_pos hf]
       refine fin v' none ?_ ?_ (isCurB_fixed hf) (okp_fixed hf)
       ·rw [hx, hP, both s1 rfl, cur_fixed hf]; rfl
       ·rw [hP0, both s0 hr.symm]; rfl
      ·simp at hl
     ·simp at hl
    ·simp at hl
   ·simp at hl
  ·simp at hl
 | fieldAddr s x f =>
  have hp : pureOp E.tb y = true := by simp [pureOp, ho]
  have hsd : ∀ s' : St, stepD E true s' y = (match valA E.tb s' y with
    | some v => bif curAt (s'.put y.dst v) y.dst then some (s'.put y.dst v) else none
    | none => none) := by
   intro s'
   unfold stepD
   rw [ho]
   dsimp only
   rw [stepA_val hp, pure_notBump hp]
   cases valA E.tb s' y <;> rfl
  have hx := hev x (by rw [ho]; simp [Op.operands])
  rw [hsd] at h ⊢
  have hval : ∀ s' : St, valA E.tb s' y = (match find s E.tb with
    | some ⟨.struct fs, _, _, _⟩ =>
     (match fs[f]?, s'.ev x with
     | some (off, _), .ptr k g o' => some (.ptr k g (o' + off))
     | some (off, _), .rp s e j => some (.rp s e (j + off))
     | _, _ => none)
    | _ => none) := fun s' => by simp only [valA, ho] <;> rfl
  have fin : ∀ u : AV, valA E.tb s1 y = some (s1.cur u) → valA E.tb s0 y = some u → isCurB s0 u = true → okp s1 u = true →
    ∃ u rds, st2 = Eff.ap ⟨none, s1.cur u, rds, [], []⟩ y.dst s1 ∧ (match valA E.tb s0 y with
    | some v => bif curAt (s0.put y.dst v) y.dst then some (s0.put y.dst v) else none
    | none => none) = some (Eff.ap ⟨none, u, rds, [], []⟩ y.dst s0) ∧ okp s1 u = true := by
   intro u l1 l0 hu hk
   rw [l1] at h
   dsimp only at h
   have hc0 : curAt (s0.put y.dst u) y.dst = true := by
    rw [curAt_put]
    cases y.dst with
    | none => rfl
    | some d => dsimp only; split <;> first | rfl | exact hu
   rw [l0]
   dsimp only
   rw [hc0]
   refine ⟨u, none, ?_, ?_, hk⟩
   ·rw [← bif_some h, ap_put]
   ·rw [ap_put]
    rfl
  rcases hl : valA E.tb s1 y with _ | v
  ·rw [hl] at h; simp at h
  rw [hval] at hl
  split at hl
  ·rename_i fs sz by_ z hfs
   split at hl
   ·rename_i off ft k g o' hf hP
    rw [hx] at hP
    have hP0 := cur_ptr hP
    have hg1 := cur_okp hP
    have hg0 : g = s0.gen k := by
     have hc : isCurB s0 (s0.ev x) = true := isCurB_of (St.ev_isCur s0 x)
     rw [hP0] at hc
     simpa [isCurB] using hc
    refine fin (.ptr k g (o' + off)) ?_ ?_ ?_ ?_
    ·rw [hval, hfs]
     dsimp only
     rw [hf, hx, hP]
     simp only [St.cur, hg1, if_true]
    ·rw [hval, hfs]
     dsimp only
     rw [hf, hP0]
    ·simp [isCurB, hg0]
    ·simp [okp, hg1]
   ·rename_i off ft s' e j hf hP
    rw [hx] at hP
    have hP0 := cur_rp hP
    refine fin (.rp s' e (j + off)) ?_ ?_ rfl rfl
    ·rw [hval, hfs]
     dsimp only
     rw [hf, hx, hP]
     rfl
    ·rw [hval, hfs]
     dsimp only
     rw [hf, hP0]
   ·simp at hl
  ·simp at hl
 | _ => simp [lookOp, ho] at hy
theorem putT_put (nt : Nat) (dst : Option Nat) (v : AV) (s : St) (l : List (Nat × AV)) : curT s (putT nt dst v l) = putT nt dst (s.cur v) (curT s l) := by
 cases dst with
 | none => rfl
 | some d => simp only [putT]; split <;> first | rfl | exact curT_put s d v l
theorem swapA (hs : sep ops x y = true) (hx : appOp x = true) (hy : lookOp y = true) (hC : Canon st) (h1 : opD E true ops st x = some st1) (h2 : opD E true ops st1 y = some st2) :
  ∃ st1', opD E true ops st y = some st1' ∧ opD E true ops st1' x = some st2 := by
 obtain ⟨s1, s2, s3⟩ := sep_spec hs
 have gx : x.guard = none := by simp only [appOp, Bool.and_eq_true, Option.isNone_iff_eq_none] at hx; exact hx.1
 have gy : y.guard = none := by simp only [lookOp, Bool.and_eq_true, Option.isNone_iff_eq_none] at hy; exact hy.1
 rw [opD_free gx] at h1
 rw [opD_free gy] at h2
 obtain ⟨d, v, g, hd, rfl, k1, k2, hag⟩ := app_step hx h1
 have hgen : ∀ k, (({ st with g := g } : St).put (some d) v).canon.gen k = ({ st with g := g } : St).gen k := fun k => St.gen_put _ _ _ _
 have hgen' : ∀ k, (({ st with g := g } : St).put (some d) v).gen k = ({ st with g := g } : St).gen k := fun k => St.gen_put _ _ _ _
 have hcur : ∀ u, (({ st with g := g } : St).put (some d) v).canon.cur u = ({ st with g := g } : St).cur u := cur_gen hgen
 have hok : ∀ u, okp (({ st with g := g } : St).put (some d) v).canon u = okp (({ st with g := g } : St).put (some d) v) u := okp_gen fun k => rfl
 rw [keepsPtr_iff] at k1
 rw [keepsPtrB_iff] at k2
 obtain ⟨u, rds, rfl, hy0, hku⟩ := look_step (ops := ops) (E := E) hy hC (s1 := (({ st with g := g } : St).put (some d) v).canon) (St.nt_put _ _ _) (by cases hh : ({ st with g := g } : St).put (some d) v with | mk => unfold St.put at hh; simp only at hh; split at hh <;> simp_all [St.canon]) (by unfold St.put; simp only; split <;> rfl) (by show (({ st with g := g } : St).put (some d) v).r = _; rw [St.r_put])
  (fun a ha => by
   rw [St.get_canon, St.get_put, if_neg (fun e => s1 a ha (by rw [hd, e.1])), hcur, cur_gen hgen']
   rfl)
  (fun k => by
   show find k (curB _ (({ st with g := g } : St).put (some d) v).b) = _
   rw [find_curB, St.b_put, show (({ st with g := g } : St).put (some d) v).canon.cur = (({ st with g := g } : St).put (some d) v).cur from funext fun u => cur_gen (fun k => rfl) u])
  (fun p hp w hw => by rw [hok]; exact k2 p hp w hw) h2
 refine ⟨_, by rw [opD_free gy]; exact hy0, ?_⟩
 rw [opD_free gx]
 have hst1g : (Eff.ap ⟨none, u, rds, [], []⟩ y.dst st).g = st.g := rfl
 have hk' : ∀ w, okp ({ Eff.ap ⟨none, u, rds, [], []⟩ y.dst st with g := g }.put (some d) v) w = okp (({ st with g := g } : St).put (some d) v) w := okp_gen fun k => by rw [St.gen_put, St.gen_put]; rfl
 have hop : ∀ a ∈ x.op.operands.toList, (Eff.ap ⟨none, u, rds, [], []⟩ y.dst st).ev a = st.ev a := fun a ha =>
  ev_congr (st := st) (st2 := Eff.ap ⟨none, u, rds, [], []⟩ y.dst st) rfl fun t e => Eff.get_ap (e := ⟨none, u, rds, [], []⟩) (by simp) (s2 t (looks_operand ha t e))
 rw [hag (Eff.ap ⟨none, u, rds, [], []⟩ y.dst st) rfl rfl hop ?_ ?_]
 ·congr 1
  have hnt2 : (Eff.ap ⟨none, u, rds, [], []⟩ y.dst st).nt = st.nt := rfl
  rw [St.put_eq, St.put_eq]
  unfold St.canon Eff.ap
  simp only [putG, putBoxes, List.nil_append]
  have hc1 : ∀ w, St.cur { nt := st.nt, t := putT st.nt (some d) v (putT st.nt y.dst u st.t), b := st.b, r := st.r, g := g, rd := insO rds st.rd, wr := st.wr } w = ({ st with g := g } : St).cur w := by intro w; apply cur_gen; intro k; rfl
  have e1 : curT { nt := st.nt, t := putT st.nt (some d) v (putT st.nt y.dst u st.t), b := st.b, r := st.r, g := g, rd := insO rds st.rd, wr := st.wr } (putT st.nt (some d) v (putT st.nt y.dst u st.t)) = curT { st with g := g } (putT st.nt (some d) v (putT st.nt y.dst u st.t)) := by apply curT_gen; intro k; rfl
  have e2 : curT { nt := st.nt, t := putT st.nt (some d) v st.t, b := st.b, r := st.r, g := g, rd := st.rd, wr := st.wr } (putT st.nt (some d) v st.t) = curT { st with g := g } (putT st.nt (some d) v st.t) := by apply curT_gen; intro k; rfl
  have e3 : curB { nt := st.nt, t := putT st.nt (some d) v (putT st.nt y.dst u st.t), b := st.b, r := st.r, g := g, rd := insO rds st.rd, wr := st.wr } st.b = curB { nt := st.nt, t := putT st.nt (some d) v st.t, b := st.b, r := st.r, g := g, rd := st.rd, wr := st.wr } st.b := by apply curB_gen; intro k; rfl
  have hc2 : St.cur { nt := st.nt, t := curT { st with g := g } (putT st.nt (some d) v st.t), b := curB { nt := st.nt, t := putT st.nt (some d) v st.t, b := st.b, r := st.r, g := g, rd := st.rd, wr := st.wr } st.b, r := st.r, g := g, rd := st.rd, wr := st.wr } u = ({ st with g := g } : St).cur u := by apply cur_gen; intro k; rfl
  rw [e1, e2, e3, hc2, putT_put, putT_put, putT_put, putT_comm (d := some d) (d' := y.dst) (fun k e e' => by cases e; exact s3 d hd e')]
 ·rw [keepsPtr_iff]
  intro p hp
  rw [hk']
  have hp : p ∈ putT st.nt y.dst u st.t := hp
  cases hyd : y.dst with
  | none => rw [hyd] at hp; exact k1 p hp
  | some dy =>
   rw [hyd] at hp
   simp only [putT] at hp
   split at hp
   ·rcases mem_put hp with rfl | hp
    ·rw [← hok]; exact hku
    ·exact k1 p hp
   ·exact k1 p hp
 ·rw [keepsPtrB_iff]
  intro p hp w hw
  rw [hk']
  exact k2 p hp w hw
end
def okc (tb : Tb) (o : Oper) : Bool := pureOp tb o || loadOp o || callOp o
def compat (tb : Tb) (ops : Array Oper) (x y : Oper) : Bool := sep ops x y && okc tb x && okc tb y && (!callOp x || !callOp y)
def tame (tb : Tb) (ops : Array Oper) : Bool := ops.toList.all fun o => okc tb o || appOp o
def compat2 (tb : Tb) (ops : Array Oper) (x y : Oper) : Bool := compat tb ops x y || (tame tb ops && sep ops x y && appOp x && lookOp y)
def maskOf (M : List Nat) : List Edge → Nat
 | [] => 0
 | e :: r => bif Region.binds .any e then 2 ^ e.on ||| (M.getD e.on 0 ||| maskOf M r) else maskOf M r
def masks : List Oper → List Nat → List Nat
 | [], M => M
 | o :: r, M => masks r (M ++ [maskOf M o.after.toList])
def edgesDown (i : Nat) (o : Oper) : Bool := o.after.toList.all fun e => !Region.binds .any e || decide (e.on < i)
def drawOk (tb : Tb) (ops : Array Oper) : Bool :=
 (List.range ops.size).all fun i => match ops[i]? with
  | some y => edgesDown i y && (List.range i).all fun j => ((masks ops.toList []).getD i 0).testBit j || (match ops[j]? with | some x => compat2 tb ops x y | none => false)
  | none => false
inductive Reach (ops : Array Oper) : Nat → Nat → Prop
 | direct {i : Nat} {o : Oper} {e : Edge} (ho : ops[i]? = some o) (he : e ∈ o.after) (hb : Region.binds .any e = true) : Reach ops e.on i
 | trans {i j : Nat} {o : Oper} {e : Edge} (ho : ops[i]? = some o) (he : e ∈ o.after) (hb : Region.binds .any e = true) (h : Reach ops j e.on) : Reach ops j i
section
variable {E : Ev} {ops : Array Oper} {tb : Tb}
theorem maskOf_reach {M : List Nat} (hM : ∀ i j, (M.getD i 0).testBit j = true → Reach ops j i) {i : Nat} {o : Oper} (ho : ops[i]? = some o) : ∀ {es : List Edge}, (∀ e ∈ es, e ∈ o.after) → ∀ j, (maskOf M es).testBit j = true → Reach ops j i
 | [], _, j, h => by simp [maskOf] at h
 | e :: r, he, j, h => by
  have ih := maskOf_reach hM ho (es := r) (fun e' h' => he e' (List.mem_cons_of_mem _ h')) j
  unfold maskOf at h
  cases hb : Region.binds .any e
  ·rw [hb] at h; exact ih h
  ·rw [hb] at h
   simp only [cond_true, Nat.testBit_or, Bool.or_eq_true] at h
   have hm : e ∈ o.after := he e (List.mem_cons_self ..)
   rcases h with h | h | h
   ·rw [Nat.testBit_two_pow] at h
    have : e.on = j := by simpa using h
    subst this
    exact .direct ho hm hb
   ·exact .trans ho hm hb (hM _ _ h)
   ·exact ih h
theorem masks_reach : ∀ (l : List Oper) (M : List Nat), (∀ i, l[i]? = ops[M.length + i]?) → (∀ i j, (M.getD i 0).testBit j = true → Reach ops j i) → ∀ i j, ((masks l M).getD i 0).testBit j = true → Reach ops j i
 | [], M, _, hM => hM
 | o :: r, M, hl, hM => by
  have ho : ops[M.length]? = some o := by simpa using (hl 0).symm
  refine masks_reach r _ (fun i => ?_) (fun i j h => ?_)
  ·have := hl (i + 1)
   simp only [List.getElem?_cons_succ] at this
   rw [this, List.length_append, List.length_singleton]
   congr 1
   omega
  ·by_cases hlt : i < M.length
   ·have e : (M ++ [maskOf M o.after.toList]).getD i 0 = M.getD i 0 := by simp [List.getD, List.getElem?_append_left hlt]
    rw [e] at h
    exact hM i j h
   ·by_cases he : i = M.length
    ·subst he
     have e : (M ++ [maskOf M o.after.toList]).getD M.length 0 = maskOf M o.after.toList := by simp [List.getD]
     rw [e] at h
     exact maskOf_reach hM ho (fun e he => Array.mem_toList_iff.1 he) j h
    ·have e : (M ++ [maskOf M o.after.toList]).getD i 0 = 0 := by
      have : (M ++ [maskOf M o.after.toList])[i]? = none := List.getElem?_eq_none_iff.2 (by simp; omega)
      simp [List.getD, this]
     rw [e] at h
     simp at h
theorem okc_spec {o : Oper} (h : okc tb o = true) : pureOp tb o = true ∨ loadOp o = true ∨ callOp o = true := by
 simp only [okc, Bool.or_eq_true] at h
 rcases h with (h | h) | h
 ·exact .inl h
 ·exact .inr (.inl h)
 ·exact .inr (.inr h)
theorem swap2 (hE : E.tb = tb) {x y : Oper} (hcx : compat2 tb ops x y = true) {st st1 st2 : St} (hC : tame tb ops = true → Canon st) (h1 : opD E true ops st x = some st1) (h2 : opD E true ops st1 y = some st2) :
  ∃ st1', opD E true ops st y = some st1' ∧ opD E true ops st1' x = some st2 := by
 unfold compat2 at hcx
 rw [Bool.or_eq_true] at hcx
 rcases hcx with hcx | hcx
 ·simp only [compat, Bool.and_eq_true] at hcx
  obtain ⟨⟨⟨c1, c2⟩, c3⟩, c4⟩ := hcx
  exact swap c1 (hE ▸ okc_spec c2) (hE ▸ okc_spec c3) (by simpa using c4) h1 h2
 ·simp only [Bool.and_eq_true] at hcx
  obtain ⟨⟨⟨c1, c2⟩, c3⟩, c4⟩ := hcx
  exact swapA c2 c3 c4 (hC c1) h1 h2
theorem canon2 (hE : E.tb = tb) {i : Nat} {x : Oper} (hx : ops[i]? = some x) {st st1 : St} (hC : tame tb ops = true → Canon st) (h1 : opD E true ops st x = some st1) : tame tb ops = true → Canon st1 := by
 intro ht
 have hm : x ∈ ops.toList := List.mem_of_getElem? (i := i) (by simpa using hx)
 have := List.all_eq_true.1 ht x hm
 refine opD_canon (E := E) ?_ (hC ht) h1
 rw [hE]
 simpa [okc] using this
theorem front (hE : E.tb = tb) {i : Nat} {y : Oper} (hy : ops[i]? = some y) : ∀ (l1 l2 : List Nat) (st st' : St), (∀ j ∈ l1, ∃ x, ops[j]? = some x ∧ compat2 tb ops x y = true) → (tame tb ops = true → Canon st) →
  runD E true ops ((l1 ++ i :: l2).filterMap (ops[·]?)) st = some st' → runD E true ops ((i :: (l1 ++ l2)).filterMap (ops[·]?)) st = some st'
 | [], l2, st, st', _, _, h => h
 | j :: l1, l2, st, st', hc, hC, h => by
  obtain ⟨x, hx, hcx⟩ := hc j (List.mem_cons_self ..)
  simp only [List.cons_append] at h ⊢
  rw [List.filterMap_cons_some hx] at h
  simp only [runD] at h
  split at h
  ·rename_i st1 h1
   have ih := front hE hy l1 l2 st1 st' (fun j hj => hc j (List.mem_cons_of_mem _ hj)) (canon2 hE hx hC h1) h
   rw [List.filterMap_cons_some hy] at ih ⊢
   rw [List.filterMap_cons_some hx]
   simp only [runD] at ih ⊢
   split at ih
   ·rename_i st2 h2
    obtain ⟨st1', q1, q2⟩ := swap2 hE hcx hC h1 h2
    rw [q1]
    dsimp only
    rw [q2]
    exact ih
   ·simp at ih
  ·simp at h
theorem getD_true {l : Array Bool} {k : Nat} (h : l.getD k false = true) : k < l.size ∧ l.getD k true = true := by
 by_cases hk : k < l.size
 ·simp [hk] at h ⊢; exact h
 ·simp [hk] at h
theorem getD_false {l : Array Bool} {k : Nat} (hk : k < l.size) (h : l.getD k true = true) : l.getD k false = true := by
 simp [hk] at h ⊢; exact h
theorem reach_listed {listed : Array Bool} (hcl : ∀ i, listed.getD i false = true → ∀ o, ops[i]? = some o → ∀ e ∈ o.after, Region.binds .any e = true → listed.getD e.on false = true) {j i : Nat} (h : Reach ops j i) :
  (∀ o, ops[i]? = some o → ∀ e ∈ o.after, Region.binds .any e = true → listed.getD e.on false = true) → listed.getD j false = true := by
 induction h with
 | direct ho he hb => exact fun hi => hi _ ho _ he hb
 | trans ho he hb _ ih => exact fun hi => ih (hcl _ (hi _ ho _ he hb))
theorem lin (hE : E.tb = tb) (hd : ∀ i y, ops[i]? = some y → edgesDown i y = true ∧ ∀ j, j < i → Reach ops j i ∨ ∃ x, ops[j]? = some x ∧ compat2 tb ops x y = true) :
  ∀ (fuel t : Nat) (listed : Array Bool) (l : List Nat) (st st' : St), listed.size = ops.size → l.Pairwise (· < ·) → (∀ i, i ∈ l ↔ i < ops.size ∧ listed.getD i true = false) →
   (∀ i, listed.getD i false = true → ∀ o, ops[i]? = some o → ∀ e ∈ o.after, Region.binds .any e = true → listed.getD e.on false = true) → l.length ≤ fuel → (tame tb ops = true → Canon st) →
   runD E true ops (l.filterMap (ops[·]?)) st = some st' → runD E true ops ((Region.linearise.go .any ops fuel t listed []).filterMap (ops[·]?)) st = some st' := by
 intro fuel
 induction fuel with
 | zero =>
  intro t listed l st st' _ _ _ _ hl _ h
  have : l = [] := List.eq_nil_of_length_eq_zero (by omega)
  subst this
  simpa [Region.linearise.go] using h
 | succ fuel ih =>
  intro t listed l st st' hsz hpw hmem hcl hlen hC h
  have hgo : Region.linearise.go .any ops (fuel + 1) t listed [] = (match (Region.ready .any ops listed)[t % (Region.ready .any ops listed).length]? with
   | some i => Region.linearise.go .any ops fuel (t / (Region.ready .any ops listed).length) (listed.setIfInBounds i true) [i]
   | none => [].reverse) := by
   simp only [Region.linearise.go]
   rfl
  rw [hgo]
  have hready : ∀ i, i ∈ Region.ready .any ops listed ↔ i < ops.size ∧ listed.getD i true = false ∧ ∃ o, ops[i]? = some o ∧ ∀ e ∈ o.after, Region.binds .any e = true → listed.getD e.on false = true := by
   intro i
   unfold Region.ready
   rw [List.mem_filter]
   simp only [List.mem_range, Bool.and_eq_true, Bool.not_eq_true']
   constructor
   ·rintro ⟨h1, h2, h3⟩
    refine ⟨h1, h2, ?_⟩
    cases ho : ops[i]? with
    | none => rw [ho] at h3; simp at h3
    | some o =>
     rw [ho] at h3
     simp only [Option.map_some, Option.getD_some, Array.all_eq_true_iff_forall_mem] at h3
     refine ⟨o, rfl, fun e he hb => ?_⟩
     have := h3 e he
     simpa [hb] using this
   ·rintro ⟨h1, h2, o, ho, h3⟩
    refine ⟨h1, h2, ?_⟩
    rw [ho]
    simp only [Option.map_some, Option.getD_some, Array.all_eq_true_iff_forall_mem]
    intro e he
    cases hb : Region.binds .any e
    ·rfl
    ·simpa using h3 e he hb
  cases hi : (Region.ready .any ops listed)[t % (Region.ready .any ops listed).length]? with
  | none =>
   have hnil : Region.ready .any ops listed = [] := by
    cases hr : Region.ready .any ops listed with
    | nil => rfl
    | cons x xs =>
     rw [hr] at hi
     have hlt : t % (x :: xs).length < (x :: xs).length := Nat.mod_lt _ (by simp)
     simp at hi
     simp at hlt
     omega
   have hl : l = [] := by
    cases l with
    | nil => rfl
    | cons k r =>
     exfalso
     obtain ⟨hk1, hk2⟩ := (hmem k).1 (List.mem_cons_self ..)
     have hk : k ∈ Region.ready .any ops listed := by
      refine (hready k).2 ⟨hk1, hk2, ops[k], Array.getElem?_eq_getElem hk1, fun e he hb => ?_⟩
      have hdn := (hd k ops[k] (Array.getElem?_eq_getElem hk1)).1
      simp only [edgesDown, List.all_eq_true] at hdn
      have hlt := hdn e (Array.mem_toList_iff.2 he)
      rw [hb] at hlt
      have hlt : e.on < k := by simpa using hlt
      have hlt2 : e.on < ops.size := by omega
      by_cases hl : listed.getD e.on true = true
      ·exact getD_false (by omega) hl
      ·have hin := (hmem e.on).2 ⟨hlt2, by simpa using hl⟩
       rcases List.mem_cons.1 hin with e1 | e1
       ·omega
       ·have := (List.pairwise_cons.1 hpw).1 _ e1
        omega
     rw [hnil] at hk
     simp at hk
   subst hl
   simpa using h
  | some i =>
   dsimp only
   rw [linearise_go_acc, List.reverse_singleton, List.singleton_append]
   obtain ⟨r1, r2, y, hy, r3⟩ := (hready i).1 (List.mem_of_getElem? hi)
   have him : i ∈ l := (hmem i).2 ⟨r1, r2⟩
   obtain ⟨l1, l2, rfl⟩ := List.append_of_mem him
   have hlt : ∀ j ∈ l1, j < i := fun j hj => (List.pairwise_append.1 hpw).2.2 j hj i (List.mem_cons_self ..)
   have hgt : ∀ j ∈ l2, i < j := fun j hj => (List.pairwise_cons.1 (List.pairwise_append.1 hpw).2.1).1 j hj
   have hf := front hE hy l1 l2 st st' (fun j hj => by
    rcases (hd i y hy).2 j (hlt j hj) with hr | hc
    ·exfalso
     have := reach_listed hcl hr (fun o ho e he hb => by rw [hy] at ho; cases ho; exact r3 e he hb)
     have h2 := ((hmem j).1 (List.mem_append.2 (.inl hj))).2
     rw [(getD_true this).2] at h2
     simp at h2
    ·exact hc) hC h
   rw [List.filterMap_cons_some hy] at hf ⊢
   simp only [runD] at hf ⊢
   split at hf
   ·rename_i st1 h1
    refine ih _ _ (l1 ++ l2) st1 st' (by simpa using hsz) ?_ (fun k => ?_) (fun k hk o ho e he hb => ?_) (by simp at hlen ⊢; omega) (canon2 hE hy hC (by assumption)) hf
    ·obtain ⟨p1, p2, p3⟩ := List.pairwise_append.1 hpw
     exact List.pairwise_append.2 ⟨p1, (List.pairwise_cons.1 p2).2, fun a ha b hb => p3 a ha b (List.mem_cons_of_mem _ hb)⟩
    ·have hset : (listed.setIfInBounds i true).getD k true = if k = i then true else listed.getD k true := by
      rw [Array.getD_eq_getD_getElem?, Array.getElem?_setIfInBounds, Array.getD_eq_getD_getElem?]
      by_cases e : i = k
      ·subst e
       have : i < listed.size := by omega
       simp [this]
      ·simp [e, Ne.symm e]
     rw [hset]
     have hm := hmem k
     simp only [List.mem_append, List.mem_cons] at hm ⊢
     by_cases e : k = i
     ·subst e
      simp only [if_true, Bool.true_eq_false, and_false, iff_false, not_or]
      exact ⟨fun hh => by have := hlt k hh; omega, fun hh => by have := hgt k hh; omega⟩
     ·simp only [e, if_false, false_or] at hm ⊢
      exact hm
    ·have hset : ∀ m, (listed.setIfInBounds i true).getD m false = if m = i then true else listed.getD m false := by
      intro m
      rw [Array.getD_eq_getD_getElem?, Array.getElem?_setIfInBounds, Array.getD_eq_getD_getElem?]
      by_cases e : i = m
      ·subst e
       have : i < listed.size := by omega
       simp [this]
      ·simp [e, Ne.symm e]
     rw [hset] at hk ⊢
     by_cases e1 : k = i
     ·subst e1
      rw [hy] at ho
      cases ho
      split
      ·rfl
      ·exact r3 e he hb
     ·simp only [e1, if_false] at hk
      split
      ·rfl
      ·exact hcl k hk o ho e he hb
   ·simp at hf
theorem drawOk_sound {P : Program} (hm : P.follows .mixedOrders = true) (h : drawOk tb ops = true) : DrawOk P tb ops := by
 intro E hE t st st' hr
 unfold drawOk at h
 simp only [List.all_eq_true, List.mem_range] at h
 have h2 := h
 have hsch : Region.schedule (P.follows .mixedOrders) ops t = Region.linearise .any ops t := by
  unfold Region.schedule
  simp [hm]
 rw [hsch]
 have hM := masks_reach (ops := ops) ops.toList [] (fun i => by simp) (fun i j h => by simp at h)
 refine lin hE (fun i y hy => ?_) ops.size t (Array.replicate ops.size false) (List.range ops.size) _ st' (by simp) (List.pairwise_lt_range) (fun i => ?_) (fun i hi => ?_) (by simp) (fun _ => Canon.canon st) (by rw [range_filterMap]; exact hr)
 ·have hlt : i < ops.size := (Array.getElem?_eq_some_iff.1 hy).1
  have := h2 i hlt
  rw [hy] at this
  simp only [Bool.and_eq_true, List.all_eq_true, List.mem_range, Bool.or_eq_true] at this
  refine ⟨this.1, fun j hj => ?_⟩
  rcases this.2 j hj with hh | hh
  ·exact .inl (hM i j hh)
  ·right
   cases hx : ops[j]? with
   | none => rw [hx] at hh; simp at hh
   | some x => rw [hx] at hh; exact ⟨x, rfl, hh⟩
 ·simp only [List.mem_range]
  constructor
  ·intro hi; exact ⟨hi, by simp [hi]⟩
  ·exact fun hi => hi.1
 ·have := (getD_true hi).1
  simp at this
  simp [this] at hi
def codeOkB (tb : Tb) : Code → Bool
 | .region _ ops draw => !draw || drawOk tb ops
 | .seq a b => codeOkB tb a && codeOkB tb b
 | .cond _ a b => codeOkB tb a && codeOkB tb b
 | .block _ c => codeOkB tb c
 | .loop c => codeOkB tb c
 | _ => true
theorem codeOkB_sound {P : Program} {tb : Tb} (hm : P.follows .mixedOrders = true) : ∀ {c : Code}, codeOkB tb c = true → CodeOk P tb c
 | .region _ ops draw, h => by
  cases draw
  ·trivial
  ·exact drawOk_sound hm (by simpa [codeOkB] using h)
 | .seq a b, h => by
  simp only [codeOkB, Bool.and_eq_true] at h
  exact ⟨codeOkB_sound hm h.1, codeOkB_sound hm h.2⟩
 | .cond _ a b, h => by
  simp only [codeOkB, Bool.and_eq_true] at h
  exact ⟨codeOkB_sound hm h.1, codeOkB_sound hm h.2⟩
 | .block _ c, h => codeOkB_sound hm (c := c) h
 | .loop c, h => codeOkB_sound hm (c := c) h
 | .skip, _ => trivial
 | .rangeFunc _ _ _ _, _ => trivial
 | .exit _, _ => trivial
 | .scope _, _ => trivial
 | .label _, _ => trivial
 | .goto _, _ => trivial
 | .ret, _ => trivial
 | .refuse _, _ => trivial
end
def mkF (fnl : List (Nat × Fx)) (ov : List (Nat × Over)) (f : Nat) : Option (Fx ⊕ Over) :=
 match find f ov with
 | some g => some (.inr g)
 | none => (match find f fnl with | some fx => some (.inl fx) | none => none)
def fnOkB (tb : Tb) (fx : Fx) : Bool :=
 !(fx.fn.name == "runtime.NumGoroutine") && (match fx.fn.body with | some c => codeOkB tb c | none => true)
def FnAll (P : Program) (tb : Tb) : List (Nat × Fx) → Prop
 | [] => True
 | (f, fx) :: r => (P.funcs[f]? = some fx.fn ∧ fnOkB tb fx = true) ∧ FnAll P tb r
def OvAll (P : Program) : List (Nat × Over) → Prop
 | [] => True
 | (f, g) :: r => OverOk P f g ∧ OvAll P r
theorem FnAll.get {P : Program} {tb : Tb} (hm : P.follows .mixedOrders = true) : ∀ {l : List (Nat × Fx)}, FnAll P tb l → ∀ f fx, find f l = some fx → FnOk P tb f fx
 | [], _, f, fx, h => by simp [find] at h
 | (g, gx) :: r, ha, f, fx, h => by
  simp only [find] at h
  split at h
  ·rename_i e
   subst e
   simp only [Option.some.injEq] at h
   subst h
   obtain ⟨⟨h1, h2⟩, _⟩ := ha
   simp only [fnOkB, Bool.and_eq_true, Bool.not_eq_true'] at h2
   refine ⟨h1, h2.1, fun c hc => ?_⟩
   rw [hc] at h2
   exact codeOkB_sound hm h2.2
  ·exact FnAll.get hm ha.2 f fx h
theorem OvAll.get {P : Program} : ∀ {l : List (Nat × Over)}, OvAll P l → ∀ f g, find f l = some g → OverOk P f g
 | [], _, f, fx, h => by simp [find] at h
 | (g, gx) :: r, ha, f, fx, h => by
  simp only [find] at h
  split at h
  ·rename_i e
   subst e
   simp only [Option.some.injEq] at h
   subst h
   exact ha.1
  ·exact OvAll.get ha.2 f fx h
def noLs : List (Nat × Fx) → Bool
 | [] => true
 | (_, fx) :: r => fx.ls.isEmpty && noLs r
theorem noLs_get : ∀ {l : List (Nat × Fx)}, noLs l = true → ∀ f fx, find f l = some fx → fx.ls = []
 | [], _, f, fx, h => by simp [find] at h
 | (g, gx) :: r, ha, f, fx, h => by
  simp only [noLs, Bool.and_eq_true, List.isEmpty_iff] at ha
  simp only [find] at h
  split at h
  ·simp only [Option.some.injEq] at h
   subst h
   exact ha.1
  ·exact noLs_get ha.2 f fx h
theorem PrgOk.of {P : Program} {tb : Tb} {sh : List (Nat × Sh)} {fnl : List (Nat × Fx)} {ov : List (Nat × Over)} (hm : P.follows .mixedOrders = true) (h1 : TbAll P tb) (h2 : FnAll P tb fnl)
  (hl : ∀ f fx, find f fnl = some fx → ∀ k c, fx.fn.body = some c → LsOk ⟨evF ⟨mkF fnl ov, tb, sh⟩ k, tb, sh⟩ fx c) (h3 : OvAll P ov) : PrgOk P ⟨mkF fnl ov, tb, sh⟩ := by
 have inl : ∀ {f fx}, mkF fnl ov f = some (.inl fx) → find f fnl = some fx := by
  intro f fx h
  simp only [mkF] at h
  split at h
  ·simp at h
  ·split at h
   ·rename_i hf
    simp only [Option.some.injEq, Sum.inl.injEq] at h
    subst h
    exact hf
   ·simp at h
 refine ⟨TbOk.of_all h1, fun f fx h => h2.get hm f _ (inl h), fun f fx h => hl f fx (inl h), fun f g h => ?_⟩
 simp only [mkF] at h
 split at h
 ·rename_i hf
  simp only [Option.some.injEq, Sum.inr.injEq] at h
  subst h
  exact h3.get f _ hf
 ·split at h <;> simp at h
theorem PrgOk.of_plain {P : Program} {tb : Tb} {sh : List (Nat × Sh)} {fnl : List (Nat × Fx)} {ov : List (Nat × Over)} (hm : P.follows .mixedOrders = true) (h1 : TbAll P tb) (h2 : FnAll P tb fnl) (hl : noLs fnl = true) (h3 : OvAll P ov) : PrgOk P ⟨mkF fnl ov, tb, sh⟩ :=
 PrgOk.of hm h1 h2 (fun f fx hf k c hc c' hc' LS hLS => by rw [noLs_get hl f fx hf] at hLS; simp [find] at hLS) h3
end Go.AM

namespace Go.AM.YtnhfjkckgicidaaGreat
open Go.Proofs
noncomputable def tb : Tb := [
 (3, ⟨.int .i64, 1, 8, .int .i64 0⟩),
 (4, ⟨.bool, 1, 1, .bool false⟩),
 (5, ⟨.int .u8, 1, 1, .int .u8 0⟩),
 (9, ⟨.str, 1, 16, .str []⟩),
 (22, ⟨.sl 120, 1, 24, .sl 0 true []⟩),
 (23, ⟨.sl 103, 1, 24, .sl 0 true []⟩),
 (24, ⟨.sl 147, 1, 24, .sl 0 true []⟩),
 (26, ⟨.struct [(0, 22), (1, 3)], 2, 32, .agg [.sl 0 true [], .int .i64 0]⟩),
 (27, ⟨.sl 114, 1, 24, .sl 0 true []⟩),
 (28, ⟨.sl 59, 1, 24, .sl 0 true []⟩),
 (29, ⟨.sl 70, 1, 24, .sl 0 true []⟩),
 (31, ⟨.struct [(0, 29), (1, 24), (2, 3), (3, 3)], 4, 64, .agg [.sl 0 true [], .sl 0 true [], .int .i64 0, .int .i64 0]⟩),
 (33, ⟨.struct [(0, 3), (1, 4), (2, 4), (3, 3), (4, 22), (5, 3), (6, 23), (7, 4), (8, 24), (9, 26), (11, 27), (12, 28), (13, 3), (14, 3), (15, 3), (16, 4), (17, 24), (18, 3), (19, 31), (23, 3), (24, 3), (25, 3)], 26, 344, .agg [.int .i64 0, .bool false, .bool false, .int .i64 0, .sl 0 true [], .int .i64 0, .sl 0 true [], .bool false, .sl 0 true [], .sl 0 true [], .int .i64 0, .sl 0 true [], .sl 0 true [], .int .i64 0, .int .i64 0, .int .i64 0, .bool false, .sl 0 true [], .int .i64 0, .sl 0 true [], .sl 0 true [], .int .i64 0, .int .i64 0, .int .i64 0, .int .i64 0, .int .i64 0]⟩),
 (36, ⟨.int .i64, 1, 8, .int .i64 0⟩),
 (45, ⟨.other, 1, 8, .nilfn⟩),
 (46, ⟨.sl 33, 1, 24, .sl 0 true []⟩),
 (49, ⟨.sl 9, 1, 24, .sl 0 true []⟩),
 (59, ⟨.struct [(0, 3), (1, 3), (2, 24)], 3, 40, .agg [.int .i64 0, .int .i64 0, .sl 0 true []]⟩),
 (64, ⟨.sl 5, 1, 24, .sl 0 true []⟩),
 (70, ⟨.struct [(0, 3), (1, 3), (2, 24)], 3, 40, .agg [.int .i64 0, .int .i64 0, .sl 0 true []]⟩),
 (71, ⟨.other, 1, 8, .nilfn⟩),
 (79, ⟨.ptr, 1, 8, .nilp⟩),
 (81, ⟨.struct [(0, 9), (1, 4)], 2, 24, .agg [.str [], .bool false]⟩),
 (97, ⟨.ptr, 1, 8, .nilp⟩),
 (99, ⟨.struct [(0, 9), (1, 3), (2, 4)], 3, 32, .agg [.str [], .int .i64 0, .bool false]⟩),
 (103, ⟨.struct [(0, 3), (1, 49)], 2, 32, .agg [.int .i64 0, .sl 0 true []]⟩),
 (112, ⟨.int .u64, 1, 8, .int .u64 0⟩),
 (114, ⟨.struct [(0, 3), (1, 112)], 2, 16, .agg [.int .i64 0, .int .u64 0]⟩),
 (115, ⟨.sl 3, 1, 24, .sl 0 true []⟩),
 (120, ⟨.struct [(0, 3), (1, 3)], 2, 16, .agg [.int .i64 0, .int .i64 0]⟩),
 (124, ⟨.sl 128, 1, 24, .sl 0 true []⟩),
 (128, ⟨.struct [(0, 3), (1, 3)], 2, 16, .agg [.int .i64 0, .int .i64 0]⟩),
 (147, ⟨.struct [(0, 3), (1, 3), (2, 9)], 3, 32, .agg [.int .i64 0, .int .i64 0, .str []]⟩),
 (161, ⟨.ptr, 1, 8, .nilp⟩),
 (163, ⟨.struct [(0, 9), (1, 4)], 2, 24, .agg [.str [], .bool false]⟩),
 (178, ⟨.other, 1, 8, .nilfn⟩),
 (182, ⟨.sl 22, 1, 24, .sl 0 true []⟩),
 (183, ⟨.sl 27, 1, 24, .sl 0 true []⟩),
 (185, ⟨.arr 256 112, 256, 2048, .agg (List.replicate 256 (.int .u64 0))⟩)
]
noncomputable def sh : List (Nat × Sh) := [(3, .int .i64), (4, .bool), (5, .int .u8), (9, .str), (22, .sl), (23, .sl), (24, .sl), (26, .agg [.sl, .int .i64]), (27, .sl), (33, .agg [.int .i64, .bool, .bool, .int .i64, .sl, .int .i64, .sl, .bool, .sl, .sl, .int .i64, .sl, .sl, .int .i64, .int .i64, .int .i64, .bool, .sl, .int .i64, .sl, .sl, .int .i64, .int .i64, .int .i64, .int .i64, .int .i64]), (36, .int .i64), (37, .tup [.str, .int .i64]), (39, .tup [.agg [.int .i64, .bool, .bool, .int .i64, .sl, .int .i64, .sl, .bool, .sl, .sl, .int .i64, .sl, .sl, .int .i64, .int .i64, .int .i64, .bool, .sl, .int .i64, .sl, .sl, .int .i64, .int .i64, .int .i64, .int .i64, .int .i64], .int .i64]), (43, .tup [.agg [.int .i64, .bool, .bool, .int .i64, .sl, .int .i64, .sl, .bool, .sl, .sl, .int .i64, .sl, .sl, .int .i64, .int .i64, .int .i64, .bool, .sl, .int .i64, .sl, .sl, .int .i64, .int .i64, .int .i64, .int .i64, .int .i64], .bool]), (47, .tup [.sl, .int .i64]), (49, .sl), (50, .tup [.sl, .str, .int .i64]), (53, .tup [.str, .int .i64]), (84, .tup [.sl, .str, .int .i64]), (100, .tup [.sl, .str, .int .i64]), (105, .tup [.sl, .str, .int .i64]), (107, .tup [.str, .str, .int .i64]), (112, .int .u64), (124, .sl), (133, .tup [.int .i64, .str, .int .i64]), (136, .tup [.sl, .str, .int .i64]), (139, .tup [.int .i64, .int .i64]), (142, .tup [.sl, .str, .int .i64]), (148, .tup [.int .i64, .int .i64]), (150, .tup [.sl, .int .i64, .bool]), (152, .tup [.str, .str, .int .i64]), (165, .tup [.int .i64, .bool]), (167, .tup [.sl, .int .i64, .bool]), (171, .rpa), (175, .tup [.any, .int .i64])]
noncomputable def fnl : List (Nat × Fx) := [
 (3, ⟨Tryz.f3, [0, 1, 2, 3, 4, 5, 6, 9, 18], [], [], []⟩),
 (4, ⟨Tryz.f4, [0, 2, 3, 4, 5, 6, 9, 22], [], [], []⟩),
 (5, ⟨Tryz.f5, [0, 2, 3, 4, 5, 6, 7, 8, 9, 10, 11, 14, 44, 71], [(7, [10, 11, 44])], [], []⟩),
 (6, ⟨Tryz.f6, [0, 2, 3, 4, 5, 6, 7, 8, 9, 10, 12, 13, 14, 17, 20, 21, 22, 29, 36, 45, 62, 70, 78, 85, 123, 125, 126, 127, 138], [(6, [5, 22, 29, 36]), (14, [45]), (20, [70, 78]), (32, [14, 127, 138])], [], []⟩),
 (7, ⟨Tryz.f7, [0, 1, 2, 3, 46, 51, 61], [(4, [51, 61])], [], []⟩),
 (8, ⟨Tryz.f8, [0, 1, 2, 3, 4], [], [], []⟩),
 (9, ⟨Tryz.f9, [0, 1, 2, 3, 4, 5, 6, 8, 10, 11, 13, 16, 26, 108, 109, 110, 111, 137, 138, 139, 140], [(11, [10, 111]), (17, [13, 140])], [], []⟩),
 (10, ⟨Tryz.f10, [0, 1, 2, 3, 4, 58, 61, 68, 80, 100, 137, 140, 144, 167, 187, 192, 251], [(20, [4, 192, 251])], [], [(1, [0]), (3, [0, 58]), (6, [0, 58, 61, 68]), (8, [0, 58, 61, 68, 80]), (10, [0, 58, 61, 68, 80, 100]), (12, [0, 58, 61, 68, 80, 100, 137]), (15, [0, 58, 61, 68, 80, 100, 137, 140, 144]), (17, [0, 58, 61, 68, 80, 100, 137, 140, 144, 167])]⟩),
 (11, ⟨Tryz.f11, [0, 2, 3, 4, 5, 6, 7, 8, 88, 89, 90, 108, 109, 110, 128, 157], [(12, [90]), (17, [110, 128])], [], []⟩),
 (12, ⟨Tryz.f12, [0, 1, 2, 3, 4, 5, 6, 100, 144], [(5, [100]), (10, [6, 144])], [], []⟩),
 (13, ⟨Tryz.f13, [0, 1, 2, 3, 4, 5, 12, 17, 63, 159], [(4, [17, 63])], [], [(8, [0, 1, 5, 12, 17, 63])]⟩),
 (14, ⟨Tryz.f14, [0, 2, 3, 4, 5, 6, 7, 8, 9, 10, 11, 12, 13, 14, 79, 93, 116, 124], [(28, [11, 12, 13, 14, 116, 124])], [], []⟩),
 (15, ⟨Tryz.f15, [0, 2, 3, 4, 5, 6, 7, 9, 10, 11, 28, 29, 30, 31, 32, 41], [(6, [9, 10, 11, 32, 41])], [], []⟩),
 (16, ⟨Tryz.f16, [0, 2, 3, 4, 5, 6, 7, 8, 9, 12, 26, 34], [(6, [7, 8, 9, 26, 34])], [], []⟩),
 (17, ⟨Tryz.f17, [0, 2, 3, 4, 6, 7, 8, 9, 10, 11, 12, 21, 30], [(3, [6, 7, 8, 12, 21])], [], []⟩),
 (18, ⟨Tryz.f18, [0, 2, 3, 4, 5, 6, 7, 10, 24, 36], [(5, [6, 7, 24, 36])], [], []⟩),
 (19, ⟨Tryz.f19, [0, 1, 4, 5, 13, 17, 26], [(4, [17, 26])], [], []⟩),
 (20, ⟨Tryz.f20, [0, 1, 2, 3, 13, 18, 28], [(4, [18, 28])], [], []⟩),
 (21, ⟨Tryz.f21, [0], [], [], []⟩),
 (22, ⟨Tryz.f22, [0, 1, 2], [], [], []⟩),
 (23, ⟨Tryz.f23, [0, 1, 4, 5, 6, 7, 13, 26, 30, 31, 32], [(7, [7, 32])], [], []⟩),
 (24, ⟨Tryz.f24, [0, 2, 3, 4, 6, 7, 11, 16, 17, 18, 19], [(5, [6, 7, 19])], [], []⟩),
 (25, ⟨Tryz.f25, [0, 2, 3], [], [], []⟩),
 (26, ⟨Tryz.f26, [0, 2, 3, 5, 6, 8, 9, 10, 11], [(3, [5, 6, 11])], [], []⟩),
 (27, ⟨Tryz.f27, [0, 2, 3], [], [], []⟩),
 (28, ⟨Tryz.f28, [0, 2, 3, 5, 6, 13, 14, 15, 16], [(3, [5, 6, 16])], [], []⟩),
 (29, ⟨Tryz.f29, [0, 2, 3], [], [], []⟩),
 (30, ⟨Tryz.f30, [0, 2], [], [], []⟩),
 (31, ⟨Tryz.f31, [0, 1, 2], [], [], []⟩),
 (32, ⟨Tryz.f32, [0, 1, 2], [], [], []⟩),
 (33, ⟨Tryz.f33, [0, 1, 2], [], [], []⟩),
 (34, ⟨Tryz.f34, [0, 2], [], [], []⟩),
 (35, ⟨Tryz.f35, [0, 2, 3, 4, 7, 11, 63, 71, 83], [(4, [4, 11, 63, 71, 83]), (9, [71, 83])], [], []⟩),
 (36, ⟨Tryz.f36, [0, 1, 4], [], [], []⟩),
 (37, ⟨Tryz.f37, [0, 1, 2, 3, 4, 5, 6, 7, 26, 32, 51, 59], [], [], []⟩),
 (38, ⟨Tryz.f38, [0, 1, 4, 5, 6, 8, 14, 33], [(3, [8, 14, 33])], [], []⟩),
 (39, ⟨Tryz.f39, [0, 1, 2, 4, 40, 45, 48], [], [], []⟩),
 (40, ⟨Tryz.f40, [0, 1, 4, 5, 6, 7], [], [], []⟩),
 (41, ⟨Tryz.f41, [0, 2, 3], [], [], []⟩),
 (42, ⟨Tryz.f42, [0, 2, 3, 4, 5], [], [], []⟩),
 (43, ⟨Tryz.f43, [0, 2, 3, 4, 5, 6, 7, 8, 9, 25, 26, 27, 28, 49], [(6, [9, 28])], [], []⟩),
 (44, ⟨Tryz.f44, [0, 1, 2, 3, 8, 9, 17], [], [], []⟩),
 (45, ⟨Tryz.f45, [0, 2, 3, 4, 5, 6, 7, 9, 10, 11], [(3, [4, 5, 6, 7, 11])], [], []⟩),
 (46, ⟨Tryz.f46, [0, 2, 3, 4, 5], [], [], []⟩),
 (47, ⟨Tryz.f47, [0, 2], [], [], []⟩),
 (48, ⟨Tryz.f48, [0, 2, 3], [], [], []⟩),
 (49, ⟨Tryz.f49, [0, 2, 3], [], [], []⟩),
 (50, ⟨Tryz.f50, [0, 2, 3, 4, 11], [(3, [11])], [], []⟩),
 (51, ⟨Tryz.f51, [0, 2, 3, 4, 5, 14], [(3, [5, 14])], [], []⟩),
 (52, ⟨Tryz.f52, [0, 2, 3, 4, 5, 13], [(3, [5, 13])], [], []⟩),
 (53, ⟨Tryz.f53, [0, 2, 3, 4, 11], [(3, [11])], [], []⟩),
 (54, ⟨Tryz.f54, [0, 2], [], [], []⟩),
 (55, ⟨Tryz.f55, [0, 1, 4, 5, 10, 14, 25], [(4, [14, 25])], [], []⟩),
 (56, ⟨Tryz.f56, [0, 1, 4, 5, 10, 14, 25], [(4, [14, 25])], [], []⟩),
 (57, ⟨Tryz.f57, [0, 1, 4, 5, 6, 11, 15, 43, 51, 70], [(4, [6, 15, 43, 51, 70]), (9, [51, 70])], [], []⟩),
 (58, ⟨Tryz.f58, [0, 1, 4, 5, 10, 14, 25], [(4, [14, 25])], [], []⟩),
 (59, ⟨Tryz.f59, [0, 1, 2, 3, 4, 5, 34, 39, 85], [(4, [39, 85])], [], []⟩),
 (60, ⟨Tryz.f60, [0, 1, 4, 5, 6, 24], [], [], []⟩),
 (61, ⟨Tryz.f61, [0, 2, 3, 4, 5], [], [], []⟩),
 (62, ⟨Tryz.f62, [0, 2, 3, 4, 5, 6, 7, 20, 25, 63], [(5, [7, 25])], [], []⟩),
 (63, ⟨Tryz.f63, [0, 1, 3, 4, 5, 6, 7, 8, 9, 10, 14, 30, 51, 67, 90, 121], [(6, [8, 30]), (17, [10, 67])], [], []⟩),
 (64, ⟨Tryz.f64, [0, 2, 3, 4, 5, 6, 7, 8, 9, 10, 11, 19, 20, 21, 22, 30], [(6, [9, 10, 11, 22, 30])], [], []⟩),
 (65, ⟨Tryz.f65, [0, 2, 3, 4, 5, 8, 21], [], [], []⟩),
 (66, ⟨Tryz.f66, [0, 2, 3, 4, 6, 8, 9, 10, 13, 22, 23, 24, 25, 34], [(6, [8, 9, 10, 25, 34])], [], []⟩),
 (67, ⟨Tryz.f67, [0, 2, 3, 6], [], [], []⟩),
 (68, ⟨Tryz.f68, [0, 1, 2, 37, 40, 60], [], [], []⟩),
 (69, ⟨Tryz.f69, [0, 1, 2, 39, 42], [], [], []⟩),
 (70, ⟨Tryz.f70, [0, 1, 2, 3, 5, 7, 8, 9, 10, 49], [(3, [5, 10, 49])], [], []⟩),
 (71, ⟨Tryz.f71, [0, 1, 2, 4, 6, 7, 9, 38, 70, 92], [], [], []⟩),
 (72, ⟨Tryz.f72, [0, 2, 3, 5, 6, 7, 8, 9, 30], [(3, [5, 9, 30])], [], []⟩),
 (73, ⟨Tryz.f73, [0, 2, 3, 4, 6, 14, 20, 21, 22, 23], [(5, [6, 23])], [], []⟩),
 (74, ⟨Tryz.f74, [0, 2, 3, 4, 6, 8, 9, 13, 22, 23, 24, 25], [(6, [8, 9, 25])], [], []⟩),
 (75, ⟨Tryz.f75, [0, 2, 3, 11, 15, 47, 57, 87], [(4, [15, 47, 57, 87])], [], []⟩),
 (76, ⟨Tryz.f76, [0, 1, 4, 5, 7, 10, 14, 33, 41], [(4, [7, 14, 33, 41])], [], []⟩),
 (77, ⟨Tryz.f77, [0, 2, 3, 4, 5, 9, 28, 42, 45], [(2, [4, 5, 9, 28, 42, 45]), (4, [9, 28, 42])], [], []⟩),
 (78, ⟨Tryz.f78, [0, 1, 4, 5, 9, 26], [(2, [9, 26])], [], []⟩),
 (79, ⟨Tryz.f79, [0, 2, 3, 4, 5, 13, 17, 27], [(3, [5, 13, 17, 27]), (6, [17, 27])], [], []⟩),
 (80, ⟨Tryz.f80, [0, 1, 2, 6, 7, 8, 12, 21, 33], [(2, [12, 21, 33])], [], []⟩),
 (81, ⟨Tryz.f81, [0, 2, 3, 7, 58], [(2, [7, 58])], [], []⟩),
 (82, ⟨Tryz.f82, [0, 1, 2], [], [], []⟩),
 (83, ⟨Tryz.f83, [0, 1, 2, 3, 4, 5, 11, 41, 55, 69, 92], [(3, [5, 11, 41, 55])], [], []⟩),
 (84, ⟨Tryz.f84, [0, 1, 2, 6], [], [], []⟩),
 (85, ⟨Tryz.f85, [0, 1, 2, 3, 4, 9], [(3, [9])], [], []⟩),
 (86, ⟨Tryz.f86, [0, 2, 3, 13, 17, 58], [(4, [17, 58])], [], []⟩),
 (87, ⟨Tryz.f87, [0, 1, 2, 3, 9], [(2, [9])], [], []⟩),
 (88, ⟨Tryz.f88, [0, 1, 4, 5, 6, 7, 8, 9, 16, 29], [], [], []⟩),
 (89, ⟨Tryz.f89, [0, 1, 2, 3, 8, 9, 17], [], [], []⟩),
 (90, ⟨Tryz.f90, [0, 2, 3, 4, 5, 6, 15], [], [], []⟩),
 (91, ⟨Tryz.f91, [0, 1, 2, 3, 8, 9, 17], [], [], []⟩),
 (92, ⟨Tryz.f92, [0, 2, 3, 4, 5, 13, 15, 16, 17, 28], [(5, [5, 17])], [], []⟩),
 (93, ⟨Tryz.f93, [0, 1, 2, 3, 8, 9, 17], [], [], []⟩),
 (94, ⟨Tryz.f94, [0, 2, 3, 4, 5, 6, 15], [], [], []⟩),
 (95, ⟨Tryz.f95, [0, 1, 2, 3, 8, 9, 17], [], [], []⟩),
 (96, ⟨Tryz.f96, [0, 1, 4, 5, 6, 7, 13, 15, 18, 31], [(7, [18])], [], []⟩),
 (97, ⟨Tryz.f97, [0, 2], [], [], []⟩),
 (98, ⟨Tryz.f98, [0, 2, 3], [], [], []⟩),
 (99, ⟨Tryz.f99, [0, 2], [], [], []⟩),
 (100, ⟨Tryz.f100, [0, 2, 3, 4, 5, 13, 21, 25], [(7, [25])], [], []⟩),
 (101, ⟨Tryz.f101, [0, 1, 4, 5, 6, 7, 8, 9, 10, 11, 12, 13, 14, 22, 25, 53], [(6, [11, 12, 13, 14, 25, 53])], [], []⟩),
 (102, ⟨Tryz.f102, [0, 2, 3, 4, 5], [], [], []⟩),
 (103, ⟨Tryz.f103, [0, 2, 3, 4, 5, 6, 7, 21], [], [], []⟩),
 (104, ⟨Tryz.f104, [0, 2, 3, 4, 8], [], [], []⟩),
 (105, ⟨Tryz.f105, [0, 2], [], [], []⟩),
 (106, ⟨Tryz.f106, [0, 1, 2], [], [], []⟩),
 (107, ⟨Tryz.f107, [0, 1, 2], [], [], []⟩),
 (108, ⟨Tryz.f108, [0, 1, 2], [], [], []⟩),
 (109, ⟨Tryz.f109, [0, 2, 5], [], [], []⟩),
 (110, ⟨Tryz.f110, [0, 2, 3, 5, 6, 7, 8, 9, 27, 30], [(3, [5, 9, 27, 30])], [], []⟩),
 (111, ⟨Tryz.f111, [0, 1, 4], [], [], []⟩),
 (112, ⟨Tryz.f112, [0, 1, 2, 3, 4], [], [], []⟩),
 (113, ⟨Tryz.f113, [0, 1, 4, 5, 7, 15, 20, 21, 22, 23, 35], [(5, [7, 23, 35])], [], []⟩),
 (114, ⟨Tryz.f114, [0, 1, 4, 6, 8, 11, 12, 13, 14, 15, 28, 33], [(4, [6, 8, 15, 28, 33])], [], []⟩),
 (115, ⟨Tryz.f115, [0, 1, 2], [], [], []⟩),
 (116, ⟨Tryz.f116, [0, 1, 2, 3, 5, 9, 10, 11, 12, 43], [(3, [5, 12, 43])], [], []⟩),
 (117, ⟨Tryz.f117, [0, 1, 2, 5], [], [], []⟩),
 (118, ⟨Tryz.f118, [0, 1, 2, 4, 7, 8, 9, 10, 18], [(2, [4, 10, 18])], [], []⟩),
 (119, ⟨Tryz.f119, [0, 2, 3, 4, 6, 21, 22, 23, 24, 25, 47], [(5, [6, 25, 47])], [], []⟩),
 (120, ⟨Tryz.f120, [0, 2, 3, 5, 6, 8, 9, 10, 11], [(3, [5, 6, 11])], [], []⟩),
 (121, ⟨Tryz.f121, [0, 2], [], [], []⟩),
 (122, ⟨Tryz.f122, [0, 1, 2, 3, 4], [], [], []⟩),
 (123, ⟨Tryz.f123, [0, 1, 2, 6, 7, 18, 22, 31], [(4, [22, 31])], [], []⟩),
 (124, ⟨Tryz.f124, [0, 2, 3, 4, 7], [(3, [7])], [], []⟩),
 (125, ⟨Tryz.f125, [0, 2], [], [], []⟩),
 (126, ⟨Tryz.f126, [0, 2], [], [], []⟩),
 (127, ⟨Tryz.f127, [0, 2, 3, 5, 6, 7, 19], [(3, [7, 19])], [], []⟩),
 (128, ⟨Tryz.f128, [0, 2, 3, 4, 5, 6, 7, 9, 10, 11, 33], [(3, [4, 5, 6, 7, 11, 33])], [], []⟩),
 (129, ⟨Tryz.f129, [0, 1, 2, 6, 7, 8, 9, 19], [], [], []⟩),
 (130, ⟨Tryz.f130, [0, 2], [], [], []⟩),
 (131, ⟨Tryz.f131, [0, 1, 4, 5, 6, 7, 8, 9, 10, 11, 12, 20, 25, 45], [(7, [11, 12, 25, 45])], [], []⟩),
 (132, ⟨Tryz.f132, [0, 1, 4], [], [], []⟩),
 (133, ⟨Tryz.f133, [0, 2], [], [], []⟩),
 (134, ⟨Tryz.f134, [0, 2], [], [], []⟩),
 (135, ⟨Tryz.f135, [0, 1, 4], [], [], []⟩),
 (136, ⟨Tryz.f136, [0, 2], [], [], []⟩),
 (137, ⟨Tryz.f137, [0, 2, 3, 5, 6, 7, 23], [(2, [3, 7, 23])], [], []⟩),
 (138, ⟨Tryz.f138, [0, 1, 2, 3, 4, 5, 6, 8, 27, 52, 64, 65, 66, 67, 73], [(4, [52]), (8, [8, 67, 73])], [], []⟩),
 (139, ⟨Tryz.f139, [0, 2, 3, 5, 7, 8, 9, 10, 11, 14, 15, 16, 17], [(3, [5, 7, 11, 14, 15, 16, 17]), (6, [7, 17])], [], []⟩),
 (140, ⟨Tryz.f140, [0, 2, 3, 5, 8, 9, 10, 11, 12], [(5, [5, 12])], [], []⟩),
 (141, ⟨Tryz.f141, [0, 1, 2, 6, 7, 8, 10, 11, 12, 20, 32], [(2, [8, 12, 20, 32])], [], []⟩),
 (142, ⟨Tryz.f142, [0, 1, 2, 6], [], [], []⟩),
 (143, ⟨Tryz.f143, [0, 2], [], [], []⟩),
 (144, ⟨Tryz.f144, [0, 1, 4], [], [], []⟩),
 (145, ⟨Tryz.f145, [0, 1, 2], [], [], []⟩),
 (146, ⟨Tryz.f146, [0, 1, 4, 5, 6, 7, 25], [], [], []⟩),
 (147, ⟨Tryz.f147, [0, 1, 4, 5, 7, 8, 9, 16], [(2, [5, 9, 16])], [], []⟩),
 (148, ⟨Tryz.f148, [0, 1, 4, 5, 7, 8, 9, 16], [(2, [5, 9, 16])], [], []⟩),
 (149, ⟨Tryz.f149, [0, 1, 2, 3, 4], [], [], []⟩),
 (150, ⟨Tryz.f150, [0, 1, 4, 5, 7, 8, 9, 16], [(2, [5, 9, 16])], [], []⟩),
 (151, ⟨Tryz.f151, [0, 2, 3, 5, 6, 7, 8, 9, 14], [(3, [5, 9, 14])], [], []⟩),
 (152, ⟨Tryz.f152, [0, 1, 4, 5, 6, 11, 12, 13, 16, 19], [], [], []⟩),
 (153, ⟨Tryz.f153, [0, 2], [], [], []⟩)
]
noncomputable def pr : Prg := ⟨mkF fnl [], tb, sh⟩
theorem tb_ok : TbAll Tryz.prog tb :=
 ⟨by kernel_rfl, ⟨by kernel_rfl, ⟨by kernel_rfl, ⟨by kernel_rfl, ⟨by kernel_rfl, ⟨by kernel_rfl, ⟨by kernel_rfl, ⟨by kernel_rfl, ⟨by kernel_rfl, ⟨by kernel_rfl, ⟨by kernel_rfl, ⟨by kernel_rfl, ⟨by kernel_rfl, ⟨by kernel_rfl, ⟨by kernel_rfl, ⟨by kernel_rfl, ⟨by kernel_rfl, ⟨by kernel_rfl, ⟨by kernel_rfl, ⟨by kernel_rfl, ⟨by kernel_rfl, ⟨by kernel_rfl, ⟨by kernel_rfl, ⟨by kernel_rfl, ⟨by kernel_rfl, ⟨by kernel_rfl, ⟨by kernel_rfl, ⟨by kernel_rfl, ⟨by kernel_rfl, ⟨by kernel_rfl, ⟨by kernel_rfl, ⟨by kernel_rfl, ⟨by kernel_rfl, ⟨by kernel_rfl, ⟨by kernel_rfl, ⟨by kernel_rfl, ⟨by kernel_rfl, ⟨by kernel_rfl, ⟨by kernel_rfl, trivial⟩⟩⟩⟩⟩⟩⟩⟩⟩⟩⟩⟩⟩⟩⟩⟩⟩⟩⟩⟩⟩⟩⟩⟩⟩⟩⟩⟩⟩⟩⟩⟩⟩⟩⟩⟩⟩⟩⟩
theorem ok3 : fnOkB tb ⟨Tryz.f3, [], [], [], []⟩ = true := by kernel_rfl
theorem ok4 : fnOkB tb ⟨Tryz.f4, [], [], [], []⟩ = true := by kernel_rfl
theorem ok5 : fnOkB tb ⟨Tryz.f5, [], [], [], []⟩ = true := by kernel_rfl
theorem ok6 : fnOkB tb ⟨Tryz.f6, [], [], [], []⟩ = true := by kernel_rfl
theorem ok7 : fnOkB tb ⟨Tryz.f7, [], [], [], []⟩ = true := by kernel_rfl
theorem ok8 : fnOkB tb ⟨Tryz.f8, [], [], [], []⟩ = true := by kernel_rfl
theorem ok9 : fnOkB tb ⟨Tryz.f9, [], [], [], []⟩ = true := by kernel_rfl
theorem ok10 : fnOkB tb ⟨Tryz.f10, [], [], [], []⟩ = true := by kernel_rfl
theorem ok11 : fnOkB tb ⟨Tryz.f11, [], [], [], []⟩ = true := by kernel_rfl
theorem ok12 : fnOkB tb ⟨Tryz.f12, [], [], [], []⟩ = true := by kernel_rfl
theorem ok13 : fnOkB tb ⟨Tryz.f13, [], [], [], []⟩ = true := by kernel_rfl
theorem ok14 : fnOkB tb ⟨Tryz.f14, [], [], [], []⟩ = true := by kernel_rfl
theorem ok15 : fnOkB tb ⟨Tryz.f15, [], [], [], []⟩ = true := by kernel_rfl
theorem ok16 : fnOkB tb ⟨Tryz.f16, [], [], [], []⟩ = true := by kernel_rfl
theorem ok17 : fnOkB tb ⟨Tryz.f17, [], [], [], []⟩ = true := by kernel_rfl
theorem ok18 : fnOkB tb ⟨Tryz.f18, [], [], [], []⟩ = true := by kernel_rfl
theorem ok19 : fnOkB tb ⟨Tryz.f19, [], [], [], []⟩ = true := by kernel_rfl
theorem ok20 : fnOkB tb ⟨Tryz.f20, [], [], [], []⟩ = true := by kernel_rfl
theorem ok21 : fnOkB tb ⟨Tryz.f21, [], [], [], []⟩ = true := by kernel_rfl
theorem ok22 : fnOkB tb ⟨Tryz.f22, [], [], [], []⟩ = true := by kernel_rfl
theorem ok23 : fnOkB tb ⟨Tryz.f23, [], [], [], []⟩ = true := by kernel_rfl
theorem ok24 : fnOkB tb ⟨Tryz.f24, [], [], [], []⟩ = true := by kernel_rfl
theorem ok25 : fnOkB tb ⟨Tryz.f25, [], [], [], []⟩ = true := by kernel_rfl
theorem ok26 : fnOkB tb ⟨Tryz.f26, [], [], [], []⟩ = true := by kernel_rfl
theorem ok27 : fnOkB tb ⟨Tryz.f27, [], [], [], []⟩ = true := by kernel_rfl
theorem ok28 : fnOkB tb ⟨Tryz.f28, [], [], [], []⟩ = true := by kernel_rfl
theorem ok29 : fnOkB tb ⟨Tryz.f29, [], [], [], []⟩ = true := by kernel_rfl
theorem ok30 : fnOkB tb ⟨Tryz.f30, [], [], [], []⟩ = true := by kernel_rfl
theorem ok31 : fnOkB tb ⟨Tryz.f31, [], [], [], []⟩ = true := by kernel_rfl
theorem ok32 : fnOkB tb ⟨Tryz.f32, [], [], [], []⟩ = true := by kernel_rfl
theorem ok33 : fnOkB tb ⟨Tryz.f33, [], [], [], []⟩ = true := by kernel_rfl
theorem ok34 : fnOkB tb ⟨Tryz.f34, [], [], [], []⟩ = true := by kernel_rfl
theorem ok35 : fnOkB tb ⟨Tryz.f35, [], [], [], []⟩ = true := by kernel_rfl
theorem ok36 : fnOkB tb ⟨Tryz.f36, [], [], [], []⟩ = true := by kernel_rfl
theorem ok37 : fnOkB tb ⟨Tryz.f37, [], [], [], []⟩ = true := by kernel_rfl
theorem ok38 : fnOkB tb ⟨Tryz.f38, [], [], [], []⟩ = true := by kernel_rfl
theorem ok39 : fnOkB tb ⟨Tryz.f39, [], [], [], []⟩ = true := by kernel_rfl
theorem ok40 : fnOkB tb ⟨Tryz.f40, [], [], [], []⟩ = true := by kernel_rfl
theorem ok41 : fnOkB tb ⟨Tryz.f41, [], [], [], []⟩ = true := by kernel_rfl
theorem ok42 : fnOkB tb ⟨Tryz.f42, [], [], [], []⟩ = true := by kernel_rfl
theorem ok43 : fnOkB tb ⟨Tryz.f43, [], [], [], []⟩ = true := by kernel_rfl
theorem ok44 : fnOkB tb ⟨Tryz.f44, [], [], [], []⟩ = true := by kernel_rfl
theorem ok45 : fnOkB tb ⟨Tryz.f45, [], [], [], []⟩ = true := by kernel_rfl
theorem ok46 : fnOkB tb ⟨Tryz.f46, [], [], [], []⟩ = true := by kernel_rfl
theorem ok47 : fnOkB tb ⟨Tryz.f47, [], [], [], []⟩ = true := by kernel_rfl
theorem ok48 : fnOkB tb ⟨Tryz.f48, [], [], [], []⟩ = true := by kernel_rfl
theorem ok49 : fnOkB tb ⟨Tryz.f49, [], [], [], []⟩ = true := by kernel_rfl
theorem ok50 : fnOkB tb ⟨Tryz.f50, [], [], [], []⟩ = true := by kernel_rfl
theorem ok51 : fnOkB tb ⟨Tryz.f51, [], [], [], []⟩ = true := by kernel_rfl
theorem ok52 : fnOkB tb ⟨Tryz.f52, [], [], [], []⟩ = true := by kernel_rfl
theorem ok53 : fnOkB tb ⟨Tryz.f53, [], [], [], []⟩ = true := by kernel_rfl
theorem ok54 : fnOkB tb ⟨Tryz.f54, [], [], [], []⟩ = true := by kernel_rfl
theorem ok55 : fnOkB tb ⟨Tryz.f55, [], [], [], []⟩ = true := by kernel_rfl
theorem ok56 : fnOkB tb ⟨Tryz.f56, [], [], [], []⟩ = true := by kernel_rfl
theorem ok57 : fnOkB tb ⟨Tryz.f57, [], [], [], []⟩ = true := by kernel_rfl
theorem ok58 : fnOkB tb ⟨Tryz.f58, [], [], [], []⟩ = true := by kernel_rfl
theorem ok59 : fnOkB tb ⟨Tryz.f59, [], [], [], []⟩ = true := by kernel_rfl
theorem ok60 : fnOkB tb ⟨Tryz.f60, [], [], [], []⟩ = true := by kernel_rfl
theorem ok61 : fnOkB tb ⟨Tryz.f61, [], [], [], []⟩ = true := by kernel_rfl
theorem ok62 : fnOkB tb ⟨Tryz.f62, [], [], [], []⟩ = true := by kernel_rfl
theorem ok63 : fnOkB tb ⟨Tryz.f63, [], [], [], []⟩ = true := by kernel_rfl
theorem ok64 : fnOkB tb ⟨Tryz.f64, [], [], [], []⟩ = true := by kernel_rfl
theorem ok65 : fnOkB tb ⟨Tryz.f65, [], [], [], []⟩ = true := by kernel_rfl
theorem ok66 : fnOkB tb ⟨Tryz.f66, [], [], [], []⟩ = true := by kernel_rfl
theorem ok67 : fnOkB tb ⟨Tryz.f67, [], [], [], []⟩ = true := by kernel_rfl
theorem ok68 : fnOkB tb ⟨Tryz.f68, [], [], [], []⟩ = true := by kernel_rfl
theorem ok69 : fnOkB tb ⟨Tryz.f69, [], [], [], []⟩ = true := by kernel_rfl
theorem ok70 : fnOkB tb ⟨Tryz.f70, [], [], [], []⟩ = true := by kernel_rfl
theorem ok71 : fnOkB tb ⟨Tryz.f71, [], [], [], []⟩ = true := by kernel_rfl
theorem ok72 : fnOkB tb ⟨Tryz.f72, [], [], [], []⟩ = true := by kernel_rfl
theorem ok73 : fnOkB tb ⟨Tryz.f73, [], [], [], []⟩ = true := by kernel_rfl
theorem ok74 : fnOkB tb ⟨Tryz.f74, [], [], [], []⟩ = true := by kernel_rfl
theorem ok75 : fnOkB tb ⟨Tryz.f75, [], [], [], []⟩ = true := by kernel_rfl
theorem ok76 : fnOkB tb ⟨Tryz.f76, [], [], [], []⟩ = true := by kernel_rfl
theorem ok77 : fnOkB tb ⟨Tryz.f77, [], [], [], []⟩ = true := by kernel_rfl
theorem ok78 : fnOkB tb ⟨Tryz.f78, [], [], [], []⟩ = true := by kernel_rfl
theorem ok79 : fnOkB tb ⟨Tryz.f79, [], [], [], []⟩ = true := by kernel_rfl
theorem ok80 : fnOkB tb ⟨Tryz.f80, [], [], [], []⟩ = true := by kernel_rfl
theorem ok81 : fnOkB tb ⟨Tryz.f81, [], [], [], []⟩ = true := by kernel_rfl
theorem ok82 : fnOkB tb ⟨Tryz.f82, [], [], [], []⟩ = true := by kernel_rfl
theorem ok83 : fnOkB tb ⟨Tryz.f83, [], [], [], []⟩ = true := by kernel_rfl
theorem ok84 : fnOkB tb ⟨Tryz.f84, [], [], [], []⟩ = true := by kernel_rfl
theorem ok85 : fnOkB tb ⟨Tryz.f85, [], [], [], []⟩ = true := by kernel_rfl
theorem ok86 : fnOkB tb ⟨Tryz.f86, [], [], [], []⟩ = true := by kernel_rfl
theorem ok87 : fnOkB tb ⟨Tryz.f87, [], [], [], []⟩ = true := by kernel_rfl
theorem ok88 : fnOkB tb ⟨Tryz.f88, [], [], [], []⟩ = true := by kernel_rfl
theorem ok89 : fnOkB tb ⟨Tryz.f89, [], [], [], []⟩ = true := by kernel_rfl
theorem ok90 : fnOkB tb ⟨Tryz.f90, [], [], [], []⟩ = true := by kernel_rfl
theorem ok91 : fnOkB tb ⟨Tryz.f91, [], [], [], []⟩ = true := by kernel_rfl
theorem ok92 : fnOkB tb ⟨Tryz.f92, [], [], [], []⟩ = true := by kernel_rfl
theorem ok93 : fnOkB tb ⟨Tryz.f93, [], [], [], []⟩ = true := by kernel_rfl
theorem ok94 : fnOkB tb ⟨Tryz.f94, [], [], [], []⟩ = true := by kernel_rfl
theorem ok95 : fnOkB tb ⟨Tryz.f95, [], [], [], []⟩ = true := by kernel_rfl
theorem ok96 : fnOkB tb ⟨Tryz.f96, [], [], [], []⟩ = true := by kernel_rfl
theorem ok97 : fnOkB tb ⟨Tryz.f97, [], [], [], []⟩ = true := by kernel_rfl
theorem ok98 : fnOkB tb ⟨Tryz.f98, [], [], [], []⟩ = true := by kernel_rfl
theorem ok99 : fnOkB tb ⟨Tryz.f99, [], [], [], []⟩ = true := by kernel_rfl
theorem ok100 : fnOkB tb ⟨Tryz.f100, [], [], [], []⟩ = true := by kernel_rfl
theorem ok101 : fnOkB tb ⟨Tryz.f101, [], [], [], []⟩ = true := by kernel_rfl
theorem ok102 : fnOkB tb ⟨Tryz.f102, [], [], [], []⟩ = true := by kernel_rfl
theorem ok103 : fnOkB tb ⟨Tryz.f103, [], [], [], []⟩ = true := by kernel_rfl
theorem ok104 : fnOkB tb ⟨Tryz.f104, [], [], [], []⟩ = true := by kernel_rfl
theorem ok105 : fnOkB tb ⟨Tryz.f105, [], [], [], []⟩ = true := by kernel_rfl
theorem ok106 : fnOkB tb ⟨Tryz.f106, [], [], [], []⟩ = true := by kernel_rfl
theorem ok107 : fnOkB tb ⟨Tryz.f107, [], [], [], []⟩ = true := by kernel_rfl
theorem ok108 : fnOkB tb ⟨Tryz.f108, [], [], [], []⟩ = true := by kernel_rfl
theorem ok109 : fnOkB tb ⟨Tryz.f109, [], [], [], []⟩ = true := by kernel_rfl
theorem ok110 : fnOkB tb ⟨Tryz.f110, [], [], [], []⟩ = true := by kernel_rfl
theorem ok111 : fnOkB tb ⟨Tryz.f111, [], [], [], []⟩ = true := by kernel_rfl
theorem ok112 : fnOkB tb ⟨Tryz.f112, [], [], [], []⟩ = true := by kernel_rfl
theorem ok113 : fnOkB tb ⟨Tryz.f113, [], [], [], []⟩ = true := by kernel_rfl
theorem ok114 : fnOkB tb ⟨Tryz.f114, [], [], [], []⟩ = true := by kernel_rfl
theorem ok115 : fnOkB tb ⟨Tryz.f115, [], [], [], []⟩ = true := by kernel_rfl
theorem ok116 : fnOkB tb ⟨Tryz.f116, [], [], [], []⟩ = true := by kernel_rfl
theorem ok117 : fnOkB tb ⟨Tryz.f117, [], [], [], []⟩ = true := by kernel_rfl
theorem ok118 : fnOkB tb ⟨Tryz.f118, [], [], [], []⟩ = true := by kernel_rfl
theorem ok119 : fnOkB tb ⟨Tryz.f119, [], [], [], []⟩ = true := by kernel_rfl
theorem ok120 : fnOkB tb ⟨Tryz.f120, [], [], [], []⟩ = true := by kernel_rfl
theorem ok121 : fnOkB tb ⟨Tryz.f121, [], [], [], []⟩ = true := by kernel_rfl
theorem ok122 : fnOkB tb ⟨Tryz.f122, [], [], [], []⟩ = true := by kernel_rfl
theorem ok123 : fnOkB tb ⟨Tryz.f123, [], [], [], []⟩ = true := by kernel_rfl
theorem ok124 : fnOkB tb ⟨Tryz.f124, [], [], [], []⟩ = true := by kernel_rfl
theorem ok125 : fnOkB tb ⟨Tryz.f125, [], [], [], []⟩ = true := by kernel_rfl
theorem ok126 : fnOkB tb ⟨Tryz.f126, [], [], [], []⟩ = true := by kernel_rfl
theorem ok127 : fnOkB tb ⟨Tryz.f127, [], [], [], []⟩ = true := by kernel_rfl
theorem ok128 : fnOkB tb ⟨Tryz.f128, [], [], [], []⟩ = true := by kernel_rfl
theorem ok129 : fnOkB tb ⟨Tryz.f129, [], [], [], []⟩ = true := by kernel_rfl
theorem ok130 : fnOkB tb ⟨Tryz.f130, [], [], [], []⟩ = true := by kernel_rfl
theorem ok131 : fnOkB tb ⟨Tryz.f131, [], [], [], []⟩ = true := by kernel_rfl
theorem ok132 : fnOkB tb ⟨Tryz.f132, [], [], [], []⟩ = true := by kernel_rfl
theorem ok133 : fnOkB tb ⟨Tryz.f133, [], [], [], []⟩ = true := by kernel_rfl
theorem ok134 : fnOkB tb ⟨Tryz.f134, [], [], [], []⟩ = true := by kernel_rfl
theorem ok135 : fnOkB tb ⟨Tryz.f135, [], [], [], []⟩ = true := by kernel_rfl
theorem ok136 : fnOkB tb ⟨Tryz.f136, [], [], [], []⟩ = true := by kernel_rfl
theorem ok137 : fnOkB tb ⟨Tryz.f137, [], [], [], []⟩ = true := by kernel_rfl
theorem ok138 : fnOkB tb ⟨Tryz.f138, [], [], [], []⟩ = true := by kernel_rfl
theorem ok139 : fnOkB tb ⟨Tryz.f139, [], [], [], []⟩ = true := by kernel_rfl
theorem ok140 : fnOkB tb ⟨Tryz.f140, [], [], [], []⟩ = true := by kernel_rfl
theorem ok141 : fnOkB tb ⟨Tryz.f141, [], [], [], []⟩ = true := by kernel_rfl
theorem ok142 : fnOkB tb ⟨Tryz.f142, [], [], [], []⟩ = true := by kernel_rfl
theorem ok143 : fnOkB tb ⟨Tryz.f143, [], [], [], []⟩ = true := by kernel_rfl
theorem ok144 : fnOkB tb ⟨Tryz.f144, [], [], [], []⟩ = true := by kernel_rfl
theorem ok145 : fnOkB tb ⟨Tryz.f145, [], [], [], []⟩ = true := by kernel_rfl
theorem ok146 : fnOkB tb ⟨Tryz.f146, [], [], [], []⟩ = true := by kernel_rfl
theorem ok147 : fnOkB tb ⟨Tryz.f147, [], [], [], []⟩ = true := by kernel_rfl
theorem ok148 : fnOkB tb ⟨Tryz.f148, [], [], [], []⟩ = true := by kernel_rfl
theorem ok149 : fnOkB tb ⟨Tryz.f149, [], [], [], []⟩ = true := by kernel_rfl
theorem ok150 : fnOkB tb ⟨Tryz.f150, [], [], [], []⟩ = true := by kernel_rfl
theorem ok151 : fnOkB tb ⟨Tryz.f151, [], [], [], []⟩ = true := by kernel_rfl
theorem ok152 : fnOkB tb ⟨Tryz.f152, [], [], [], []⟩ = true := by kernel_rfl
theorem ok153 : fnOkB tb ⟨Tryz.f153, [], [], [], []⟩ = true := by kernel_rfl
theorem fn_ok : FnAll Tryz.prog tb fnl :=
 ⟨⟨Tryz.func3, ok3⟩, ⟨⟨Tryz.func4, ok4⟩, ⟨⟨Tryz.func5, ok5⟩, ⟨⟨Tryz.func6, ok6⟩, ⟨⟨Tryz.func7, ok7⟩, ⟨⟨Tryz.func8, ok8⟩, ⟨⟨Tryz.func9, ok9⟩, ⟨⟨Tryz.func10, ok10⟩, ⟨⟨Tryz.func11, ok11⟩, ⟨⟨Tryz.func12, ok12⟩, ⟨⟨Tryz.func13, ok13⟩, ⟨⟨Tryz.func14, ok14⟩, ⟨⟨Tryz.func15, ok15⟩, ⟨⟨Tryz.func16, ok16⟩, ⟨⟨Tryz.func17, ok17⟩, ⟨⟨Tryz.func18, ok18⟩, ⟨⟨Tryz.func19, ok19⟩, ⟨⟨Tryz.func20, ok20⟩, ⟨⟨Tryz.func21, ok21⟩, ⟨⟨Tryz.func22, ok22⟩, ⟨⟨Tryz.func23, ok23⟩, ⟨⟨Tryz.func24, ok24⟩, ⟨⟨Tryz.func25, ok25⟩, ⟨⟨Tryz.func26, ok26⟩, ⟨⟨Tryz.func27, ok27⟩, ⟨⟨Tryz.func28, ok28⟩, ⟨⟨Tryz.func29, ok29⟩, ⟨⟨Tryz.func30, ok30⟩, ⟨⟨Tryz.func31, ok31⟩, ⟨⟨Tryz.func32, ok32⟩, ⟨⟨Tryz.func33, ok33⟩, ⟨⟨Tryz.func34, ok34⟩, ⟨⟨Tryz.func35, ok35⟩, ⟨⟨Tryz.func36, ok36⟩, ⟨⟨Tryz.func37, ok37⟩, ⟨⟨Tryz.func38, ok38⟩, ⟨⟨Tryz.func39, ok39⟩, ⟨⟨Tryz.func40, ok40⟩, ⟨⟨Tryz.func41, ok41⟩, ⟨⟨Tryz.func42, ok42⟩, ⟨⟨Tryz.func43, ok43⟩, ⟨⟨Tryz.func44, ok44⟩, ⟨⟨Tryz.func45, ok45⟩, ⟨⟨Tryz.func46, ok46⟩, ⟨⟨Tryz.func47, ok47⟩, ⟨⟨Tryz.func48, ok48⟩, ⟨⟨Tryz.func49, ok49⟩, ⟨⟨Tryz.func50, ok50⟩, ⟨⟨Tryz.func51, ok51⟩, ⟨⟨Tryz.func52, ok52⟩, ⟨⟨Tryz.func53, ok53⟩, ⟨⟨Tryz.func54, ok54⟩, ⟨⟨Tryz.func55, ok55⟩, ⟨⟨Tryz.func56, ok56⟩, ⟨⟨Tryz.func57, ok57⟩, ⟨⟨Tryz.func58, ok58⟩, ⟨⟨Tryz.func59, ok59⟩, ⟨⟨Tryz.func60, ok60⟩, ⟨⟨Tryz.func61, ok61⟩, ⟨⟨Tryz.func62, ok62⟩, ⟨⟨Tryz.func63, ok63⟩, ⟨⟨Tryz.func64, ok64⟩, ⟨⟨Tryz.func65, ok65⟩, ⟨⟨Tryz.func66, ok66⟩, ⟨⟨Tryz.func67, ok67⟩, ⟨⟨Tryz.func68, ok68⟩, ⟨⟨Tryz.func69, ok69⟩, ⟨⟨Tryz.func70, ok70⟩, ⟨⟨Tryz.func71, ok71⟩, ⟨⟨Tryz.func72, ok72⟩, ⟨⟨Tryz.func73, ok73⟩, ⟨⟨Tryz.func74, ok74⟩, ⟨⟨Tryz.func75, ok75⟩, ⟨⟨Tryz.func76, ok76⟩, ⟨⟨Tryz.func77, ok77⟩, ⟨⟨Tryz.func78, ok78⟩, ⟨⟨Tryz.func79, ok79⟩, ⟨⟨Tryz.func80, ok80⟩, ⟨⟨Tryz.func81, ok81⟩, ⟨⟨Tryz.func82, ok82⟩, ⟨⟨Tryz.func83, ok83⟩, ⟨⟨Tryz.func84, ok84⟩, ⟨⟨Tryz.func85, ok85⟩, ⟨⟨Tryz.func86, ok86⟩, ⟨⟨Tryz.func87, ok87⟩, ⟨⟨Tryz.func88, ok88⟩, ⟨⟨Tryz.func89, ok89⟩, ⟨⟨Tryz.func90, ok90⟩, ⟨⟨Tryz.func91, ok91⟩, ⟨⟨Tryz.func92, ok92⟩, ⟨⟨Tryz.func93, ok93⟩, ⟨⟨Tryz.func94, ok94⟩, ⟨⟨Tryz.func95, ok95⟩, ⟨⟨Tryz.func96, ok96⟩, ⟨⟨Tryz.func97, ok97⟩, ⟨⟨Tryz.func98, ok98⟩, ⟨⟨Tryz.func99, ok99⟩, ⟨⟨Tryz.func100, ok100⟩, ⟨⟨Tryz.func101, ok101⟩, ⟨⟨Tryz.func102, ok102⟩, ⟨⟨Tryz.func103, ok103⟩, ⟨⟨Tryz.func104, ok104⟩, ⟨⟨Tryz.func105, ok105⟩, ⟨⟨Tryz.func106, ok106⟩, ⟨⟨Tryz.func107, ok107⟩, ⟨⟨Tryz.func108, ok108⟩, ⟨⟨Tryz.func109, ok109⟩, ⟨⟨Tryz.func110, ok110⟩, ⟨⟨Tryz.func111, ok111⟩, ⟨⟨Tryz.func112, ok112⟩, ⟨⟨Tryz.func113, ok113⟩, ⟨⟨Tryz.func114, ok114⟩, ⟨⟨Tryz.func115, ok115⟩, ⟨⟨Tryz.func116, ok116⟩, ⟨⟨Tryz.func117, ok117⟩, ⟨⟨Tryz.func118, ok118⟩, ⟨⟨Tryz.func119, ok119⟩, ⟨⟨Tryz.func120, ok120⟩, ⟨⟨Tryz.func121, ok121⟩, ⟨⟨Tryz.func122, ok122⟩, ⟨⟨Tryz.func123, ok123⟩, ⟨⟨Tryz.func124, ok124⟩, ⟨⟨Tryz.func125, ok125⟩, ⟨⟨Tryz.func126, ok126⟩, ⟨⟨Tryz.func127, ok127⟩, ⟨⟨Tryz.func128, ok128⟩, ⟨⟨Tryz.func129, ok129⟩, ⟨⟨Tryz.func130, ok130⟩, ⟨⟨Tryz.func131, ok131⟩, ⟨⟨Tryz.func132, ok132⟩, ⟨⟨Tryz.func133, ok133⟩, ⟨⟨Tryz.func134, ok134⟩, ⟨⟨Tryz.func135, ok135⟩, ⟨⟨Tryz.func136, ok136⟩, ⟨⟨Tryz.func137, ok137⟩, ⟨⟨Tryz.func138, ok138⟩, ⟨⟨Tryz.func139, ok139⟩, ⟨⟨Tryz.func140, ok140⟩, ⟨⟨Tryz.func141, ok141⟩, ⟨⟨Tryz.func142, ok142⟩, ⟨⟨Tryz.func143, ok143⟩, ⟨⟨Tryz.func144, ok144⟩, ⟨⟨Tryz.func145, ok145⟩, ⟨⟨Tryz.func146, ok146⟩, ⟨⟨Tryz.func147, ok147⟩, ⟨⟨Tryz.func148, ok148⟩, ⟨⟨Tryz.func149, ok149⟩, ⟨⟨Tryz.func150, ok150⟩, ⟨⟨Tryz.func151, ok151⟩, ⟨⟨Tryz.func152, ok152⟩, ⟨⟨Tryz.func153, ok153⟩, trivial⟩⟩⟩⟩⟩⟩⟩⟩⟩⟩⟩⟩⟩⟩⟩⟩⟩⟩⟩⟩⟩⟩⟩⟩⟩⟩⟩⟩⟩⟩⟩⟩⟩⟩⟩⟩⟩⟩⟩⟩⟩⟩⟩⟩⟩⟩⟩⟩⟩⟩⟩⟩⟩⟩⟩⟩⟩⟩⟩⟩⟩⟩⟩⟩⟩⟩⟩⟩⟩⟩⟩⟩⟩⟩⟩⟩⟩⟩⟩⟩⟩⟩⟩⟩⟩⟩⟩⟩⟩⟩⟩⟩⟩⟩⟩⟩⟩⟩⟩⟩⟩⟩⟩⟩⟩⟩⟩⟩⟩⟩⟩⟩⟩⟩⟩⟩⟩⟩⟩⟩⟩⟩⟩⟩⟩⟩⟩⟩⟩⟩⟩⟩⟩⟩⟩⟩⟩⟩⟩⟩⟩⟩⟩⟩⟩⟩⟩⟩⟩⟩⟩
theorem pr_ok : PrgOk Tryz.prog pr := PrgOk.of_plain rfl tb_ok fn_ok (by kernel_rfl) trivial
end Go.AM.YtnhfjkckgicidaaGreat
