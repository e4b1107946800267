/- Soundness: functions. -/
import Derived.Test.YtnhfjkckgicidaaAmEv
import Derived.Laws.Sem
set_option linter.unusedVariables false
set_option linter.unusedSimpArgs false
namespace Go.AM
open Go.RowKit Go.Lib

section
variable {P : Program} {c : Ctx} {γ : Gh} {D D' : Dead} {st : St} {a : Act} {w w' : World} {tb : Tb}

/-- What an answer of a function's owes. -/
def OverOk (P : Program) (f : Nat) (g : Over) : Prop :=
  ∀ vs bs r bs', g vs bs = some (r, bs') →
    (∃ fn, P.funcs[f]? = some fn ∧ (fn.name == "runtime.NumGoroutine") = false ∧ fn.body.isNone = false) ∧
    ∀ (w : World) (D : Dead) (B : Nat → Nat) (args : Array Value), (∀ b o, D b o → b < w.heap.size) → ArgsRep w D B vs args → BoxRep w D B bs →
      (∀ m n, m < bs.length → n < bs.length → B m = B n → m = n) → (∀ n, n < bs.length → ∀ o, ¬ D (B n) o) → Calls P f args w (Post w D B bs.length r bs')

structure FnOk (P : Program) (tb : Tb) (f : Nat) (fx : Fx) : Prop where
  fn : P.funcs[f]? = some fx.fn
  name : (fx.fn.name == "runtime.NumGoroutine") = false
  code : ∀ c, fx.fn.body = some c → CodeOk P tb c

structure PrgOk (P : Program) (pr : Prg) : Prop where
  tb : TbOk P pr.tb
  fn : ∀ f fx, pr.f f = some (.inl fx) → FnOk P pr.tb f fx
  ls : ∀ f fx, pr.f f = some (.inl fx) → ∀ k c, fx.fn.body = some c → LsOk ⟨evF pr k, pr.tb, pr.sh⟩ fx c
  over : ∀ f g, pr.f f = some (.inr g) → OverOk P f g

def inArg : AV → AV
  | .ptr k _ off => .ptr (1000000 + k) 0 off
  | v => v
theorem find_argT (t : Nat) : ∀ (vs : List AV) (i : Nat), find t (argT i vs) = if t < i then none else (vs[t - i]?).map inArg
  | [], i => by simp [argT, find]
  | v :: r, i => by
    have ih := find_argT t r (i + 1)
    have e : find t (argT i (v :: r)) = if t = i then some (inArg v) else find t (argT (i + 1) r) := by
      cases v <;> rfl
    rw [e, ih]
    by_cases h : t = i
    · subst h
      simp
    · simp only [h, if_false]
      by_cases h2 : t < i
      · simp [h2, show t < i + 1 by omega]
      · have : t - i = (t - (i + 1)) + 1 := by omega
        simp only [h2, show ¬ t < i + 1 by omega, if_false]
        rw [this, List.getElem?_cons_succ]
theorem find_boxB (k : Nat) : ∀ (bs : Boxes) (i : Nat) {cs : List AV}, find k (boxB i bs) = some cs → ∃ n, k = 1000000 + (i + n) ∧ bs[n]? = some cs
  | [], i, cs, h => by simp [boxB, find] at h
  | b :: r, i, cs, h => by
    simp only [boxB, find] at h
    split at h
    · rename_i e
      simp only [Option.some.injEq] at h
      subst h
      exact ⟨0, by simpa using e, by simp⟩
    · obtain ⟨n, e, hn⟩ := find_boxB k r (i + 1) h
      exact ⟨n + 1, by omega, by simpa using hn⟩

def startG (B : Nat → Nat) (nb : Nat) : Gh :=
  { bx := fun k => B (k - 1000000), rw := id, tp := id, own := fun b => ((List.range nb).find? (fun n => B n == b)).map (fun n => (0, 1000000 + n)) }

theorem startG_own {B : Nat → Nat} {nb : Nat} (hinj : ∀ m n, m < nb → n < nb → B m = B n → m = n) {n : Nat} (hn : n < nb) : (startG B nb).own (B n) = some (0, 1000000 + n) := by
  unfold startG
  simp only
  cases hf : (List.range nb).find? (fun m => B m == B n) with
  | none =>
    rw [List.find?_eq_none] at hf
    have := hf n (by simpa using hn)
    simp at this
  | some m =>
    have h1 := List.find?_some hf
    have h2 := List.mem_of_find?_eq_some hf
    simp only [beq_iff_eq] at h1
    simp only [List.mem_range] at h2
    rw [hinj m n h2 hn h1]
    rfl
theorem startG_own_inv {B : Nat → Nat} {nb b : Nat} {q : Nat × Nat} (h : (startG B nb).own b = some q) : ∃ n, n < nb ∧ B n = b ∧ q = (0, 1000000 + n) := by
  unfold startG at h
  simp only [Option.map_eq_some_iff] at h
  obtain ⟨n, h1, rfl⟩ := h
  have h2 := List.find?_some h1
  have h3 := List.mem_of_find?_eq_some h1
  exact ⟨n, by simpa using h3, by simpa using h2, rfl⟩

theorem Inv.start {w : World} {D : Dead} {B : Nat → Nat} {vs : List AV} {args : Array Value} {bs : Boxes} {nt : Nat} (hD : ∀ b o, D b o → b < w.heap.size) (ha : ArgsRep w D B vs args) (hb : BoxRep w D B bs)
    (hinj : ∀ m n, m < bs.length → n < bs.length → B m = B n → m = n) (hlive : ∀ n, n < bs.length → ∀ o, ¬ D (B n) o) (hnt : vs.length ≤ nt) :
    Inv ⟨w, (List.range bs.length).map B, D⟩ (startG B bs.length) D (startA nt vs bs) { tmps := args ++ Array.replicate (nt - args.size) Go.undef, defers := [] } w := by
  have hsz := ha.1
  refine ⟨by simp [startA]; omega, rfl, fun t => ?_, fun k cs hk => ?_, fun k xs hk => by simp [startA, find] at hk, fun b q hq => ?_, fun b k ho o hd => ?_, ⟨rfl, rfl, rfl, Nat.le_refl _, fun _ _ _ => rfl⟩, fun b o _ => Iff.rfl, hD, fun n hn => ?_⟩
  · have e : (startA nt vs bs).get t = match (vs[t]?).map inArg with | some v => v | none => .undef := by
      unfold St.get startA
      simp only [find_argT, Nat.not_lt_zero, if_false, Nat.sub_zero]
      rfl
    rw [e]
    cases hv : vs[t]? with
    | none => trivial
    | some v =>
      have hlt : t < vs.length := (List.getElem?_eq_some_iff.1 hv).1
      have hlt' : t < args.size := by omega
      have hr := ha.2 t v args[t] hv (Array.getElem?_eq_getElem hlt')
      have e2 : (args ++ Array.replicate (nt - args.size) Go.undef).getD t Go.undef = args[t] := by
        rw [Array.getD_eq_getD_getElem?, Array.getElem?_append_left hlt', Array.getElem?_eq_getElem hlt', Option.getD_some]
      simp only [Option.map_some]
      rw [e2]
      cases v <;> first | exact .of hr | skip
      rename_i k g off
      refine ⟨Nat.le_refl _, fun _ => ?_⟩
      have : args[t] = .pointer (some ⟨B k, off, none⟩) := hr
      rw [this]
      simp [startG]
  · obtain ⟨n, rfl, hn⟩ := find_boxB k bs 0 hk
    have hlt : n < bs.length := (List.getElem?_eq_some_iff.1 hn).1
    obtain ⟨vs', E, h1, h2, h3⟩ := hb n cs hn
    have e : (startG B bs.length).bx (1000000 + (0 + n)) = B n := by simp [startG]
    rw [e]
    refine ⟨by rw [startG_own hinj hlt]; simp, vs', E, h1, h2, fun i c v hi hj => ⟨.of (h3 i c v hi hj).1, .inr (h3 i c v hi hj).2⟩⟩
  · obtain ⟨n, hn, rfl, rfl⟩ := startG_own_inv hq
    obtain ⟨vs', E, h1, _⟩ := hb n bs[n] (List.getElem?_eq_getElem hn)
    exact ⟨(Array.getElem?_eq_some_iff.1 h1).1, .inr ⟨List.mem_map.2 ⟨n, by simpa using hn, rfl⟩, rfl⟩⟩
  · rcases ho with ho | ho
    · obtain ⟨n, hn, rfl, _⟩ := startG_own_inv ho
      exact hlive n hn o hd
    · obtain ⟨n, hn, rfl, e⟩ := startG_own_inv ho
      simp at e
  · simp only [List.length_map, List.length_range] at hn
    simp [startG, List.getD, List.getElem?_map, List.getElem?_range, hn]

def resF (tm : Array Value) : ResultVar → Sem Value
  | .tmp t => pure (tm.getD t Go.undef)
  | .cell a t => do loadVar t (← asAddr (tm.getD a Go.undef))
theorem mapM_cons_run {α β : Type} {g : α → Sem β} {x : α} {l : List α} {b : β} {bs : List β} (h1 : (g x).run P w = .ok b w) (h2 : (l.mapM g).run P w = .ok bs w) : ((x :: l).mapM g).run P w = .ok (b :: bs) w := by
  simp only [List.mapM_cons, Sem.run_bind, h1, h2, Result.andThen_ok, Sem.run_pure]

theorem resA_sound (hT : TbOk P tb) (h : Inv c γ D st a w) : ∀ {rs : List ResultVar} {l : List AV}, resA tb st rs = some l →
    ∃ vs : List Value, (rs.mapM (resF a.tmps)).run P w = .ok vs w ∧ vs.length = l.length ∧ ∀ (i : Nat) (c : AV) (v : Value), l[i]? = some c → vs[i]? = some v → RepD w D c v
  | [], l, hl => by
    simp only [resA, Option.some.injEq] at hl
    subst hl
    exact ⟨[], rfl, rfl, by simp⟩
  | .tmp t :: rs, l, hl => by
    simp only [resA] at hl
    split at hl
    · rename_i v l' hv hl'
      simp only [Option.some.injEq] at hl
      subst hl
      obtain ⟨vs, h1, h2, h3⟩ := resA_sound hT h hl'
      refine ⟨a.tmps.getD t Go.undef :: vs, mapM_cons_run rfl h1, by simp [h2], fun i c u hi hj => ?_⟩
      cases i with
      | zero =>
        simp only [List.getElem?_cons_zero, Option.some.injEq] at hi hj
        subst hi
        subst hj
        exact (h.tm t).dat hv
      | succ i => exact h3 i c u (by simpa using hi) (by simpa using hj)
    · simp at hl
  | .cell x t :: rs, l, hl => by
    simp only [resA] at hl
    split at hl
    · rename_i v0 rd hv0
      split at hl
      · rename_i v l' hv hl'
        simp only [Option.some.injEq] at hl
        subst hl
        obtain ⟨vs, h1, h2, h3⟩ := resA_sound hT h hl'
        obtain ⟨A, cv, q1, q2, q3⟩ := load_core hT h (x := .tmp x) hv0
        have q1' : a.tmps.getD x Go.undef = .pointer (some A) := q1
        refine ⟨cv :: vs, mapM_cons_run (by simp only [resF, q1']; simp only [asAddr, Sem.run_bind, Sem.run_pure, Result.andThen_ok, q2]) h1, by simp [h2], fun i c u hi hj => ?_⟩
        cases i with
        | zero =>
          simp only [List.getElem?_cons_zero, Option.some.injEq] at hi hj
          subst hi
          subst hj
          exact q3.dat hv
        | succ i => exact h3 i c u (by simpa using hi) (by simpa using hj)
      · simp at hl
    · simp at hl

def resV : List Value → Value
  | [v] => v
  | vs => .tuple vs.toArray
theorem results_run {fn : Func} {tm : Array Value} {vs : List Value} (h : (fn.results.toList.mapM (resF tm)).run P w = .ok vs w) : (results fn tm).run P w = .ok (resV vs) w := by
  have e : results fn tm = (do
    let vs ← fn.results.mapM (resF tm)
    pure (if h : vs.size = 1 then vs[0] else .tuple vs)) := rfl
  rw [e, Array.mapM_eq_mapM_toList]
  simp only [map_eq_pure_bind, Sem.run_bind, Sem.run_pure, h, Result.andThen_ok]
  match vs with
  | [] => rfl
  | [v] => rfl
  | v :: u :: r => rfl

/-- What comes back. -/
theorem end_sound (hT : TbOk P tb) {w0 : World} {D0 : Dead} {B : Nat → Nat} {nb : Nat} {fn : Func} (hD : ∀ b o, D0 b o → b < w0.heap.size) (h : Inv ⟨w0, (List.range nb).map B, D0⟩ γ D st a w) {r : AV} {bs' : Boxes} (hs : endA tb fn nb st = some (r, bs')) :
    a.defers = [] ∧ ∃ v, (results fn a.tmps).run P w = .ok v w ∧ Post w0 D0 B nb r bs' (.returned v) w := by
  have hA : After w0 w D0 D B nb := by
    refine ⟨h.fr.os, h.fr.tape, h.fr.output, h.fr.size, fun b hb hn => h.fr.block b hb ?_, fun b o hd => (h.dold b o (hD b o hd)).2 hd, fun b o hb hd => (h.dold b o hb).1 hd, h.dlt⟩
    intro hm
    obtain ⟨n, hn1, rfl⟩ := List.mem_map.1 hm
    exact hn n (by simpa using hn1) rfl
  have hB : ∀ {bs : Boxes}, st.boxesAt (paramKeys nb) = some bs → BoxRep w D B bs ∧ bs.length = nb := by
    intro bs hb
    obtain ⟨b1, b2⟩ := boxesAt_spec hb
    have hl : (paramKeys nb).length = nb := by simp [paramKeys]
    refine ⟨fun m cs hm => ?_, by omega⟩
    have hlt : m < bs.length := (List.getElem?_eq_some_iff.1 hm).1
    have hlt' : m < nb := by omega
    obtain ⟨cs0, hk0, hd0⟩ := b2 m (1000000 + m) cs (by simp [paramKeys, List.getElem?_map, List.getElem?_range, hlt']) hm
    obtain ⟨_, vs', E, q2, q3, q4⟩ := h.bx _ _ hk0
    obtain ⟨l1, l2⟩ := datAll_spec hd0
    have hpk := h.pk m (by simpa using hlt')
    have e : ((List.range nb).map B).getD m 0 = B m := by simp [List.getD, List.getElem?_map, List.getElem?_range, hlt']
    rw [hpk, e] at q2
    refine ⟨vs', E, q2, by simp at l1; omega, fun i c' v' hi hj => ?_⟩
    cases hc0 : cs0[i]? with
    | none =>
      have : cs0.length ≤ i := List.getElem?_eq_none_iff.1 hc0
      have h2 : i < cs.length := (List.getElem?_eq_some_iff.1 hi).1
      simp at l1
      omega
    | some c0 =>
      obtain ⟨d, hd, hd'⟩ := l2 i (st.cur c0) (by simp [List.getElem?_map, hc0])
      rw [hi] at hd
      simp only [Option.some.injEq] at hd
      subst hd
      obtain ⟨q5, q6⟩ := q4 i c0 v' hc0 hj
      refine ⟨q5.cur.dat hd', ?_⟩
      rcases cur_cell1 (st := st) q6 with e | e
      · rw [e] at hd'; simp [AV.dat] at hd'
      · exact dat_cell1 hd' e
  refine ⟨h.dfr, ?_⟩
  unfold endA at hs
  split at hs
  · rename_i v bs hr hb
    simp only [Option.some.injEq, Prod.mk.injEq] at hs
    obtain ⟨rfl, rfl⟩ := hs
    obtain ⟨vs, h1, h2, h3⟩ := resA_sound hT h hr
    obtain ⟨x, rfl⟩ : ∃ x, vs = [x] := by
      match vs, h2 with
      | [x], _ => exact ⟨x, rfl⟩
    have := h3 0 _ x rfl rfl
    obtain ⟨hB1, hB2⟩ := hB hb
    refine ⟨x, results_run h1, x, D, rfl, ?_, hB1, hB2, hA⟩
    cases v <;> first | exact this | (cases (show RepD w D _ x from this); done)
  · rename_i l bs hne hr hb
    simp only [Option.some.injEq, Prod.mk.injEq] at hs
    obtain ⟨rfl, rfl⟩ := hs
    obtain ⟨vs, h1, h2, h3⟩ := resA_sound hT h hr
    obtain ⟨hB1, hB2⟩ := hB hb
    refine ⟨_, results_run h1, _, D, rfl, ?_, hB1, hB2, hA⟩
    have e : resV vs = .tuple vs.toArray := by
      match vs, h2 with
      | [], _ => rfl
      | [v], h2 =>
        exfalso
        match l, h2, hr with
        | [u], _, hr => exact hne u rfl
      | v :: u :: r, _ => rfl
    rw [e]
    exact ⟨_, rfl, by simpa using h2, fun i c cv hi hj => h3 i c cv hi (by simpa using hj)⟩
  · simp at hs

theorem evFn_sound {F : Fns} {sh : List (Nat × Sh)} (hF : SoundF P F) (hT : TbOk P tb) {f : Nat} {fx : Fx} (hfx : FnOk P tb f fx) (hls : ∀ c, fx.fn.body = some c → LsOk ⟨F, tb, sh⟩ fx c) (n : Nat) : OverOk P f (evFn F tb sh fx n) := by
  intro vs bs r bs' h
  unfold evFn at h
  split at h
  · rename_i cd hcd
    split at h
    · rename_i hc
      obtain ⟨c1, c2, c3⟩ := hc
      refine ⟨⟨fx.fn, hfx.fn, hfx.name, by rw [hcd]; rfl⟩, fun w D B args hD ha hb hinj hlive => ?_⟩
      refine calls_of_wp hfx.fn hcd ?_
      have hE : EvOk P ⟨F, tb, sh⟩ := ⟨hF, hT⟩
      refine wp_mono (evC_sound hE fx cd (hfx.code cd hcd) (hls cd hcd) n _ (r, bs') _ _ _ _ _ (Inv.start hD ha hb hinj hlive (by omega)) h) fun e a w' hq => ?_
      cases e with
      | normal => obtain ⟨γ, D', st, hI, hk⟩ := hq; exact end_sound hT hD hI hk
      | exit id => obtain ⟨γ, D', st, hI, hk⟩ := hq; simp [endK] at hk
      | ret => obtain ⟨γ, D', st, hI, hk⟩ := hq; exact end_sound hT hD hI hk
      | goto l => exact hq.elim
      | panic ch => exact hq.elim
      | outgrown => exact hq.elim
    · simp at h
  · simp at h

theorem evF_sound {pr : Prg} (hP : PrgOk P pr) : ∀ k, SoundF P (evF pr k)
  | 0 => by
    intro f vs bs r bs' h
    unfold evF at h
    split at h
    · rename_i g hg
      exact hP.over f g hg vs bs r bs' h
    · simp at h
  | k + 1 => by
    intro f vs bs r bs' h
    unfold evF at h
    split at h
    · rename_i fx hf
      exact evFn_sound (evF_sound hP k) hP.tb (hP.fn f fx hf) (hP.ls f fx hf k) k vs bs r bs' h
    · rename_i g hg
      exact hP.over f g hg vs bs r bs' h
    · simp at h

/-- A function's answer, once shown, may stand for the function. -/
theorem OverOk.of {pr : Prg} (hP : PrgOk P pr) {f : Nat} {g : Over} (h : ∀ vs bs r, g vs bs = some r → ∃ k, evF pr k f vs bs = some r) : OverOk P f g := by
  intro vs bs r bs' hg
  obtain ⟨k, hk⟩ := h vs bs _ hg
  exact evF_sound hP k f vs bs r bs' hk

end
end Go.AM
