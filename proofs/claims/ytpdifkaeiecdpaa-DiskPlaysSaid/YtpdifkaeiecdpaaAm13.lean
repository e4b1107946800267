/- A part of the proof: machine and program. -/
import Derived.Test.YtpdifkaeiecdpaaAm12
import Derived.LoopN
namespace Go.AM
open Go.RowKit Go.Lib
section
variable [Reg]
section
variable {P : Program} {c : Ctx} {γ γ' γ'' : Gh} {D D' D'' : Dead} {st : St} {a : Act} {w w' w'' : World} {tb : Tb} {H : Hints} {h h' h'' : Heap} {u u' u'' : List Nat}

/-- States that nothing tells apart. -/
structure StEq (s t : St) : Prop where
  nt : s.nt = t.nt
  get : ∀ k, s.get k = t.get k
  h : ∀ k, find k s.h = find k t.h
  u : ∀ k, k ∈ s.u ↔ k ∈ t.u
theorem StEq.refl (s : St) : StEq s s := ⟨rfl, fun _ => rfl, fun _ => rfl, fun _ => Iff.rfl⟩
theorem StEq.trans {s t r : St} (h1 : StEq s t) (h2 : StEq t r) : StEq s r := ⟨h1.nt.trans h2.nt, fun k => (h1.get k).trans (h2.get k), fun k => (h1.h k).trans (h2.h k), fun k => (h1.u k).trans (h2.u k)⟩
theorem StEq.symm {s t : St} (h1 : StEq s t) : StEq t s := ⟨h1.nt.symm, fun k => (h1.get k).symm, fun k => (h1.h k).symm, fun k => (h1.u k).symm⟩
theorem same_ext (hf : ∀ k, find k h = find k h') (k : Nat) : Same γ γ h h' w w D D k := by
  refine ⟨fun cs' e => ?_, fun t xs e => ?_, fun t xs e => ?_, fun e => ?_⟩ <;> rw [← hf] at e
  · exact ⟨⟨cs', e⟩, rfl⟩
  · exact ⟨⟨xs, e, rfl⟩, rfl, fun ho => ⟨ho, fun n hb => hb⟩⟩
  · exact .inl e
  · exact ⟨e, rfl, fun ho => ⟨ho, fun n hb => hb, fun o hd => hd⟩⟩
theorem Inv.eqv {s t : St} (hi : Inv c γ D s a w) (he : StEq s t) : Inv c γ D t a w := by
  have hC : ∀ {x v}, RepC γ s.h s.u w D x v → RepC γ t.h t.u w D x v := fun {x v} hx => hx.mono (fun _ _ _ => rfl) (fun _ _ h => h) (fun k hk => (he.u k).1 hk) fun k _ => same_ext he.h k
  refine ⟨hi.nt.trans he.nt, hi.dfr, fun k => ?_, ⟨fun k cs e => ?_, fun k t xs e => ?_, fun b k ho => ?_, fun b k ho e => ?_, fun k e => ?_⟩, hi.os, hi.tape, hi.output, hi.size, hi.block, hi.lg, hi.ow, hi.dd, hi.dl, fun k hk cs e => ?_, fun k hk t xs e => ?_, fun k hk t xs e => ?_, fun k hk e => ?_⟩
  · rw [← he.get]
    exact (hi.tm k).mono (fun _ _ _ => rfl) (fun _ _ h => h) (fun k hk => (he.u k).1 hk) fun k _ => same_ext he.h k
  · rw [← he.h] at e
    obtain ⟨q1, vs, E, q2, q3, q4⟩ := hi.hp.box k cs e
    exact ⟨q1, vs, E, q2, q3, fun i c' v' h1 h2 => ⟨hC (q4 i c' v' h1 h2).1, (q4 i c' v' h1 h2).2⟩⟩
  · rw [← he.h] at e; exact hi.hp.row k t xs e
  · rw [← he.h]; exact hi.hp.own b k ho
  · rw [← he.h] at e; exact hi.hp.lv b k ho e
  · rw [← he.h] at e; exact (he.u k).1 (hi.hp.u k e)
  · rw [← he.h] at e; exact hi.ob k hk cs e
  · rw [← he.h] at e; exact hi.or k hk t xs e
  · rw [← he.h] at e; exact hi.ofz k hk t xs e
  · rw [← he.h] at e; exact hi.ot k hk e
theorem Inv.drawn (hi : Inv c γ D st a w) (n : Nat) : Inv c γ D st a { w with drawn := n } := by
  have hs : ∀ k, Same γ γ st.h st.h w { w with drawn := n } D D k := fun k => ⟨fun cs' e => ⟨⟨cs', e⟩, rfl⟩, fun t xs e => ⟨⟨xs, e, rfl⟩, rfl, fun ho => ⟨ho, fun n hb => hb⟩⟩, fun t xs e => .inl e, fun e => ⟨e, rfl, fun ho => ⟨ho, fun n hb => hb, fun o hd => hd⟩⟩⟩
  have hp : Pres D w { w with drawn := n } := fun _ _ _ => rfl
  have hD : ∀ {x v}, RepD w D x v → RepD { w with drawn := n } D x v := fun {x v} hx => hx.mono hp fun _ _ h => h
  refine ⟨hi.nt, hi.dfr, fun k => (hi.tm k).mono hp (fun _ _ h => h) (fun _ h => h) fun k _ => hs k, ⟨fun k cs e => ?_, fun k t xs e => ?_, hi.hp.own, hi.hp.lv, hi.hp.u⟩, hi.os, hi.tape, hi.output, hi.size, hi.block, hi.lg, hi.ow, hi.dd, hi.dl, hi.ob, hi.or, fun k hk t xs e => ?_, hi.ot⟩
  · obtain ⟨q1, vs, E, q2, q3, q4⟩ := hi.hp.box k cs e
    exact ⟨q1, vs, E, q2, q3, fun i c' v' h1 h2 => ⟨(q4 i c' v' h1 h2).1.mono hp (fun _ _ h => h) (fun _ h => h) fun k _ => hs k, (q4 i c' v' h1 h2).2⟩⟩
  · refine (hi.hp.row k t xs e).imp id ?_
    rintro ⟨q1, vs, E, q2, q3, q4⟩
    exact ⟨q1, vs, E, q2, q3, fun q c' v' h1 h2 => hD (q4 q c' v' h1 h2)⟩
  · refine (hi.ofz k hk t xs e).imp id ?_
    rintro ⟨q1, q2⟩
    refine ⟨q1, q2.imp id ?_⟩
    rintro ⟨f, q3⟩
    exact ⟨f, fun q c' hq => ⟨(q3 q c' hq).1, (q3 q c' hq).2.1, hD (q3 q c' hq).2.2⟩⟩

/-- A region that draws its order: each order ends where the text's order ends. -/
def DrawOk (P : Program) (tb : Tb) (ops : Array Oper) : Prop :=
  ∀ (E : Ev), E.tb = tb → ∀ (t : Nat) (st st' : St) (ts : List Trc), runD E ops ops.toList st = some (st', ts) → okT (masks ops.toList []) 0 [] [] ts →
    ∃ st2 ts2, runD E ops ((Region.schedule (P.follows .mixedOrders) ops t).filterMap (ops[·]?)) st = some (st2, ts2) ∧ StEq st2 st'
def CodeOk (P : Program) (tb : Tb) : Code → Prop
  | .region _ ops true => DrawOk P tb ops
  | .seq a b => CodeOk P tb a ∧ CodeOk P tb b
  | .cond _ a b => CodeOk P tb a ∧ CodeOk P tb b
  | .block _ c => CodeOk P tb c
  | .loop c => CodeOk P tb c
  | _ => True

/-- What holds behind a piece of code. -/
def QK {ρ : Type} (c : Ctx) (K : Ex → St → Option ρ) (r : ρ) : Exit → Act → World → Prop
  | .normal, a, w => ∃ γ D st, Inv c γ D st a w ∧ K .normal st = some r
  | .exit id, a, w => ∃ γ D st, Inv c γ D st a w ∧ K (.exit id) st = some r
  | .ret, a, w => ∃ γ D st, Inv c γ D st a w ∧ K .ret st = some r
  | _, _, _ => False

theorem evC_sound {ρ : Type} {E : Ev} (hE : EvOk P E) (fx : Fx) : ∀ (cd : Code), CodeOk P E.tb cd → ∀ (n : Nat) (K : Ex → St → Option ρ) (r : ρ) (γ : Gh) (D : Dead) (st : St) (a : Act) (w : World),
    Inv c γ D st a w → evC E fx n cd st K = some r → cd.wp P (QK c K r) a w := by
  intro cd
  induction cd with
  | skip => exact fun _ n K r γ D st a w h hs => wp_skip ⟨γ, D, st, h, hs⟩
  | label l => exact fun _ n K r γ D st a w h hs => wp_label ⟨γ, D, st, h, hs⟩
  | exit id => exact fun _ n K r γ D st a w h hs => wp_exit ⟨γ, D, st, h, hs⟩
  | ret => exact fun _ n K r γ D st a w h hs => wp_ret ⟨γ, D, st, h, hs⟩
  | region id ops draw =>
    intro hok n K r γ D st a w h hs
    unfold evC at hs
    obtain ⟨st', ts, h1, h0, h2⟩ := runOps_D hs
    have hq : ∀ γ' D' a' w', Inv c γ' D' st' a' w' → QK c K r .normal a' w' := fun γ' D' a' w' hI => by
      have hI := hI.only fun k => !fx.kp.contains k
      unfold joinK at h2
      split at h2
      · rename_i l _
        rw [joinA_eq] at h2
        obtain ⟨γ2, hI2⟩ := (hI.only l.contains).gc
        exact ⟨γ2, D', _, hI2, h2⟩
      · exact ⟨γ', D', _, hI, h2⟩
    cases draw
    · refine wp_region (wpOps_sound hE hq _ ts γ D st a w h ?_)
      rw [range_filterMap]
      exact h1
    · refine wp_region_draw fun t => ?_
      obtain ⟨st2, ts2, h3, h4⟩ := hok E rfl t st st' ts h1 (h0 rfl)
      exact wpOps_sound hE (fun γ' D' a' w' hI => hq γ' D' a' w' (hI.eqv h4)) _ ts2 γ D st a _ (h.drawn _) h3
  | seq x y ihx ihy =>
    intro hok n K r γ D st a w h hs
    unfold evC at hs
    refine wp_seq (wp_mono (ihx hok.1 n _ r γ D st a w h hs) fun e a' w' hq => ?_)
    cases e with
    | normal => obtain ⟨γ', D', st', hI, hk⟩ := hq; exact ihy hok.2 n K r γ' D' st' a' w' hI hk
    | exit id => obtain ⟨γ', D', st', hI, hk⟩ := hq; exact ⟨γ', D', st', hI, hk⟩
    | ret => obtain ⟨γ', D', st', hI, hk⟩ := hq; exact ⟨γ', D', st', hI, hk⟩
    | goto l => exact hq.elim
    | panic ch => exact hq.elim
    | outgrown => exact hq.elim
  | cond x y z ihy ihz =>
    intro hok n K r γ D st a w h hs
    unfold evC at hs
    split at hs
    · rename_i t hx
      have e := inv_bool' (hx ▸ h.ev x)
      cases t
      · exact wp_cond_false e (ihz hok.2 n K r γ D st a w h hs)
      · exact wp_cond_true e (ihy hok.1 n K r γ D st a w h hs)
    · simp at hs
  | block id x ih =>
    intro hok n K r γ D st a w h hs
    unfold evC at hs
    refine wp_block (wp_mono (ih hok n _ r γ D st a w h hs) fun e a' w' hq => ?_)
    cases e with
    | normal => obtain ⟨γ', D', st', hI, hk⟩ := hq; exact ⟨γ', D', st', hI, hk⟩
    | exit id' =>
      obtain ⟨γ', D', st', hI, hk⟩ := hq
      simp only at hk
      unfold Exit.inBlock
      cases hb : Nat.beq id' id with
      | true =>
        rw [hb] at hk
        have e := Nat.eq_of_beq_eq_true hb
        simp only [e, if_true]
        exact ⟨γ', D', st', hI, hk⟩
      | false =>
        rw [hb] at hk
        have e : ¬ id' = id := fun e => by subst e; simp at hb
        simp only [e, if_false]
        exact ⟨γ', D', st', hI, hk⟩
    | ret => obtain ⟨γ', D', st', hI, hk⟩ := hq; exact ⟨γ', D', st', hI, hk⟩
    | goto l => exact hq.elim
    | panic ch => exact hq.elim
    | outgrown => exact hq.elim
  | loop x ih =>
    intro hok n K r γ D st a w h hs
    have key : ∀ (n : Nat) dead m γ D st a w, Inv c γ D st a w → loopA (evC E fx n x) dead K m st = some r → Code.rounds P x (QK c K r) m a w := by
      intro n dead m
      induction m with
      | zero => intro γ D st a w _ hs; simp [loopA] at hs
      | succ m ihm =>
        intro γ D st a w h hs
        unfold loopA at hs
        rw [rounds_succ]
        obtain ⟨γ1, h1⟩ := h.clean dead
        refine wp_mono (ih hok n _ r γ1 D _ a w h1 hs) fun e a' w' hq => ?_
        cases e with
        | normal => obtain ⟨γ', D', st', hI, hk⟩ := hq; exact ihm γ' D' st' a' w' hI hk
        | exit id => obtain ⟨γ', D', st', hI, hk⟩ := hq; exact ⟨γ', D', st', hI, hk⟩
        | ret => obtain ⟨γ', D', st', hI, hk⟩ := hq; exact ⟨γ', D', st', hI, hk⟩
        | goto l => exact hq.elim
        | panic ch => exact hq.elim
        | outgrown => exact hq.elim
    unfold evC at hs
    exact wp_loop_rounds n (key n _ n γ D st a w h hs)
  | rangeFunc f ps x y ihx ihy => intro _ n K r γ D st a w h hs; simp [evC] at hs
  | scope x ih => intro _ n K r γ D st a w h hs; simp [evC] at hs
  | goto l => intro _ n K r γ D st a w h hs; simp [evC] at hs
  | refuse s => intro _ n K r γ D st a w h hs; simp [evC] at hs
end
end
end Go.AM
namespace Go.AM
open Go.RowKit Go.Lib
section
variable [Reg]
section
variable {P : Program} {c : Ctx} {γ γ' γ'' : Gh} {D D' D'' : Dead} {st : St} {a : Act} {w w' w'' : World} {tb : Tb} {H : Hints} {h h' h'' : Heap} {u u' u'' : List Nat}

theorem find_argT (t : Nat) : ∀ (vs : List AV) (i : Nat), find t (argT i vs) = if t < i then none else vs[t - i]?
  | [], i => by simp [argT, find]
  | v :: r, i => by
    have ih := find_argT t r (i + 1)
    have e : find t (argT i (v :: r)) = if t = i then some v else find t (argT (i + 1) r) := rfl
    rw [e, ih]
    by_cases h : t = i
    · subst h
      simp
    · simp only [h, if_false]
      by_cases h2 : t < i
      · simp [h2, show t < i + 1 by omega]
      · have : t - i = (t - (i + 1)) + 1 := by omega
        simp only [h2, show ¬ t < i + 1 by omega, if_false]
        rw [this, List.getElem?_cons_succ]
theorem heap0_notok {os : List Ob} {k : Nat} : find k (heap0 os) ≠ some .tok := fun e => by
  obtain ⟨m, o', h1, h2⟩ := mem_unpack (find_mem e)
  rcases h2 with ⟨_, ⟨_, _, h⟩ | ⟨h1, h2, _⟩⟩ | ⟨_, _, _, _, _, _, _, h⟩
  · cases h
  · exact h2 h1.symm
  · cases h
theorem Inv.start {vs : List AV} {os : List Ob} {args : Array Value} {nt : Nat} (hp : Pre c vs os args) (hnt : vs.length ≤ nt) :
    Inv c c.γ c.D (startA nt vs os) { tmps := args ++ Array.replicate (nt - args.size) Go.undef, defers := [] } c.w := by
  have hsz := hp.size
  refine ⟨by simp [startA]; omega, rfl, fun t => ?_, hp.ok, rfl, rfl, rfl, Nat.le_refl _, fun _ _ _ => rfl, fun _ _ h => h, fun b k ho => .inr (by rw [ho]; simp), ⟨fun _ _ h => h, fun _ _ _ _ h => h⟩, hp.dl, fun k hk cs e => ⟨⟨cs, by rw [hp.hd]; exact e⟩, rfl⟩, fun k hk t xs e => ⟨⟨xs, by rw [hp.hd]; exact e, rfl⟩, rfl, fun ho => ho⟩, fun k hk t xs e => .inl (by rw [hp.hd]; exact e), fun k hk => heap0_notok⟩
  have e : (startA nt vs os).get t = match vs[t]? with | some v => v | none => .undef := by
    unfold St.get startA
    simp only [find_argT, Nat.not_lt_zero, if_false, Nat.sub_zero]
    rfl
  rw [e]
  cases hv : vs[t]? with
  | none => trivial
  | some v =>
    have hlt : t < vs.length := (List.getElem?_eq_some_iff.1 hv).1
    have hlt' : t < args.size := by omega
    have hr := hp.args t v args[t] hv (Array.getElem?_eq_getElem hlt')
    have e2 : (args ++ Array.replicate (nt - args.size) Go.undef).getD t Go.undef = args[t] := by
      rw [Array.getD_eq_getD_getElem?, Array.getElem?_append_left hlt', Array.getElem?_eq_getElem hlt', Option.getD_some]
    show RepV _ _ _ _ _ v ((args ++ Array.replicate (nt - args.size) Go.undef).getD t Go.undef)
    rw [e2]
    exact hr.v

def resF (tm : Array Value) : ResultVar → Sem Value
  | .tmp t => pure (tm.getD t Go.undef)
  | .cell a t => do loadVar t (← asAddr (tm.getD a Go.undef))
omit [Reg] in
theorem mapM_cons_run {α β : Type} {g : α → Sem β} {x : α} {l : List α} {b : β} {bs : List β} (h1 : (g x).run P w = .ok b w) (h2 : (l.mapM g).run P w = .ok bs w) : ((x :: l).mapM g).run P w = .ok (b :: bs) w := by
  simp only [List.mapM_cons, Sem.run_bind, h1, h2, Result.andThen_ok, Sem.run_pure]
theorem rawA_sound (hT : TbOk P tb) (hi : Inv c γ D st a w) : ∀ {rs : List ResultVar} {l : List AV}, rawA tb st rs = some l →
    ∃ vs : List Value, (rs.mapM (resF a.tmps)).run P w = .ok vs w ∧ RepLs (RepB γ st.h st.u w D) l vs
  | [], l, hl => by
    simp only [rawA, Option.some.injEq] at hl
    subst hl
    exact ⟨[], rfl, trivial⟩
  | .tmp t :: rs, l, hl => by
    simp only [rawA] at hl
    split at hl
    · rename_i l' hl'
      cases hb : notTup (st.get t) with
      | false => rw [hb] at hl; simp at hl
      | true =>
        rw [hb] at hl
        simp only [cond_true, Option.some.injEq] at hl
        subst hl
        obtain ⟨vs, h1, h2⟩ := rawA_sound hT hi hl'
        exact ⟨a.tmps.getD t Go.undef :: vs, mapM_cons_run rfl h1, (hi.tm t).toB fun l e => by rw [e] at hb; simp [notTup] at hb, h2⟩
    · simp at hl
  | .cell x t :: rs, l, hl => by
    simp only [rawA] at hl
    split at hl
    · rename_i e l' he hl'
      simp only [Option.some.injEq] at hl
      subst hl
      obtain ⟨vs, h1, h2⟩ := rawA_sound hT hi hl'
      obtain ⟨A, cv, q1, q2, q3⟩ := load_core hT hi (x := .tmp x) he
      have q1' : a.tmps.getD x Go.undef = .pointer (some A) := q1
      exact ⟨cv :: vs, mapM_cons_run (by simp only [resF, q1']; simp only [asAddr, Sem.run_bind, Sem.run_pure, Result.andThen_ok, q2]) h1, q3, h2⟩
    · simp at hl
def resV : List Value → Value
  | [v] => v
  | vs => .tuple vs.toArray
omit [Reg] in
theorem results_run {fn : Func} {tm : Array Value} {vs : List Value} (h : (fn.results.toList.mapM (resF tm)).run P w = .ok vs w) : (results fn tm).run P w = .ok (resV vs) w := by
  have e : results fn tm = (do
    let vs ← fn.results.mapM (resF tm)
    pure (if h : vs.size = 1 then vs[0] else .tuple vs)) := rfl
  rw [e, Array.mapM_eq_mapM_toList]
  simp only [map_eq_pure_bind, Sem.run_bind, Sem.run_pure, h, Result.andThen_ok]
  match vs with
  | [] => rfl
  | [v] => rfl
  | v :: u :: r => rfl

theorem finC_sound {ow : List Nat} {p : Nat} (hi : Inv c γ D st a w) {x : AV} {v : Value} (hx : CC γ st.h st.u w D x v) : ∃ γ' D', Stp γ γ' st.h (finC ow p st.h x).2 st.u st.u w w D D' ∧ CC γ' (finC ow p st.h x).2 st.u w D' (finC ow p st.h x).1 v := by
  have same : ∀ {x}, CC γ st.h st.u w D x v → ∃ γ' D', Stp γ γ' st.h st.h st.u st.u w w D D' ∧ CC γ' st.h st.u w D' x v := fun {x} hx => ⟨γ, D, stp_ext hi fun _ => rfl, hx⟩
  unfold finC
  split
  · rename_i k t
    cases (Nat.blt k 1000 || ow.contains p)
    · exact frC_sound hi hx
    · exact same hx
  · rename_i k t lo n
    cases Nat.blt k 1000
    · exact frC_sound hi hx
    · exact same hx
  · exact same hx
theorem finCs_sound {ow : List Nat} : ∀ {cs : List AV} {p : Nat} {vs : List Value} {γ : Gh} {D : Dead} {st : St}, Inv c γ D st a w → RepLs (CC γ st.h st.u w D) cs vs →
    ∃ γ' D', Inv c γ' D' { st with h := (finCs ow p st.h cs).2 } a w ∧ RepLs (CC γ' (finCs ow p st.h cs).2 st.u w D') (finCs ow p st.h cs).1 vs ∧ (∀ x v, CC γ st.h st.u w D x v → CC γ' (finCs ow p st.h cs).2 st.u w D' x v) ∧ ∀ x v, RepB γ st.h st.u w D x v → RepB γ' (finCs ow p st.h cs).2 st.u w D' x v
  | [], p, [], γ, D, st, hi, _ => ⟨γ, D, hi, trivial, fun _ _ h => h, fun _ _ h => h⟩
  | [], _, _ :: _, γ, D, st, hi, h => h.elim
  | _ :: _, _, [], γ, D, st, hi, h => h.elim
  | x :: cs, p, v :: vs, γ, D, st, hi, hR => by
    obtain ⟨γ1, D1, s1, h1⟩ := finC_sound (ow := ow) (p := p) hi hR.1
    have hi1 := hi.step s1
    have hR1 : RepLs (CC γ1 (finC ow p st.h x).2 st.u w D1) cs vs := RepLs.mono (fun c' v' h => h.step s1) hR.2
    obtain ⟨γ2, D2, hi2, h2, h3, h4⟩ := finCs_sound (st := { st with h := (finC ow p st.h x).2 }) (p := p + 1) hi1 hR1
    exact ⟨γ2, D2, hi2, ⟨h3 _ _ h1, h2⟩, fun x' v' h => h3 _ _ (h.step s1), fun x' v' h => h4 _ _ (h.mono s1.pres s1.dd s1.uu s1.same)⟩
theorem finV_sound {ow : List Nat} {p : Nat} (hi : Inv c γ D st a w) {x : AV} {v : Value} (hx : RepB γ st.h st.u w D x v) : ∃ γ' D', Inv c γ' D' { st with h := (finV ow p st.h x).2 } a w ∧ RepB γ' (finV ow p st.h x).2 st.u w D' (finV ow p st.h x).1 v ∧ ∀ y z, RepB γ st.h st.u w D y z → RepB γ' (finV ow p st.h x).2 st.u w D' y z := by
  have cell : ∀ {x : AV}, RepB γ st.h st.u w D x v → Cell x → ∃ γ' D', Inv c γ' D' { st with h := (finC ow p st.h x).2 } a w ∧ RepB γ' (finC ow p st.h x).2 st.u w D' (finC ow p st.h x).1 v ∧ ∀ y z, RepB γ st.h st.u w D y z → RepB γ' (finC ow p st.h x).2 st.u w D' y z := fun {x} hx hc => by
    obtain ⟨γ', D', s, h1⟩ := finC_sound (ow := ow) (p := p) hi ⟨hx.toC hc, hc⟩
    exact ⟨γ', D', hi.step s, h1.1.b, fun y z h => h.mono s.pres s.dd s.uu s.same⟩
  cases x with
  | agg cs =>
    obtain ⟨vs, rfl, hn, hh⟩ := hx
    obtain ⟨γ', D', h1, h2, _, h4⟩ := finCs_sound (ow := ow) (p := p) hi (cs := cs) (vs := vs.toList) (RepLs.of (by simpa using hn) fun i c' v' hi' hj => hh i c' v' hi' (by simpa using hj))
    obtain ⟨g1, g2⟩ := h2.get
    exact ⟨γ', D', h1, ⟨vs, rfl, by simpa using g1, fun i c' v' hi' hj => g2 i c' v' hi' (by simpa using hj)⟩, h4⟩
  | undef => exact cell hx (.inl rfl)
  | tup vs => exact (nomatch (show RepD w D (.tup vs) v from hx))
  | ow t xs => exact (nomatch (show RepD w D (.ow t xs) v from hx))
  | _ => exact cell hx (.inr rfl)
theorem finVs_sound {ow : List Nat} : ∀ {xs : List AV} {p : Nat} {vs : List Value} {γ : Gh} {D : Dead} {st : St}, Inv c γ D st a w → RepLs (RepB γ st.h st.u w D) xs vs →
    ∃ γ' D', Inv c γ' D' { st with h := (finVs ow p st.h xs).2 } a w ∧ RepLs (RepB γ' (finVs ow p st.h xs).2 st.u w D') (finVs ow p st.h xs).1 vs ∧ ∀ y z, RepB γ st.h st.u w D y z → RepB γ' (finVs ow p st.h xs).2 st.u w D' y z
  | [], _, [], γ, D, st, hi, _ => ⟨γ, D, hi, trivial, fun _ _ h => h⟩
  | [], _, _ :: _, γ, D, st, hi, h => h.elim
  | _ :: _, _, [], γ, D, st, hi, h => h.elim
  | x :: xs, p, v :: vs, γ, D, st, hi, hR => by
    obtain ⟨γ1, D1, hi1, h1, k1⟩ := finV_sound (ow := ow) (p := p) hi hR.1
    obtain ⟨γ2, D2, hi2, h2, k2⟩ := finVs_sound (st := { st with h := (finV ow p st.h x).2 }) (p := p + 128) hi1 (RepLs.mono k1 hR.2)
    exact ⟨γ2, D2, hi2, ⟨k2 _ _ h1, h2⟩, fun y z h => k2 _ _ (k1 _ _ h)⟩
end
end
end Go.AM
namespace Go.AM
open Go.RowKit Go.Lib
section
variable [Reg]
section
variable {P : Program} {c : Ctx} {γ γ' γ'' : Gh} {D D' D'' : Dead} {st : St} {a : Act} {w w' w'' : World} {tb : Tb} {H : Hints} {h h' h'' : Heap} {u u' u'' : List Nat}

/-- Where a row lies in the results. -/
def conIx (k : Nat) : Nat → List AV → Option (Nat × Nat)
  | _, [] => none
  | j, v :: r => match rowPos k 0 v.cells with | some i => some (j, i) | none => conIx k (j + 1) r
theorem conPos_at {k t : Nat} (hk : 1000 ≤ k) : ∀ {cs : List AV} {i m : Nat}, (cs.flatMap conC).Nodup → cs[i]? = some (.vw k t) → rowPos k m cs = some (m + i)
  | [], i, m, _, h => by simp at h
  | c :: r, i, m, hn, h => by
    rw [List.flatMap_cons] at hn
    cases i with
    | zero =>
      simp at h
      subst h
      simp [rowPos]
    | succ i =>
      have hkr : r[i]? = some (.vw k t) := by simpa using h
      have hblt : Nat.blt k 1000 = false := by
        cases hb : Nat.blt k 1000 with
        | false => rfl
        | true => have := blt_iff.1 hb; omega
      have hin : k ∈ r.flatMap conC := List.mem_flatMap.2 ⟨.vw k t, List.mem_of_getElem? hkr, by simp [conC, hblt]⟩
      have ih := conPos_at (m := m + 1) hk (List.nodup_append.1 hn).2.1 hkr
      unfold rowPos
      split
      · rename_i k' t'
        have hne : Nat.beq k' k = false := by
          cases hb : Nat.beq k' k with
          | false => rfl
          | true =>
            have := Nat.eq_of_beq_eq_true hb
            subst this
            exact absurd rfl ((List.nodup_append.1 hn).2.2 k' (by simp [conC, hblt]) k' hin)
        rw [hne]
        simp only [cond_false, ih]
        congr 1
        omega
      · rw [ih]
        congr 1
        omega
theorem conIx_at {k t : Nat} (hk : 1000 ≤ k) : ∀ {vs : List AV} {j i m : Nat} {v : AV}, (vs.flatMap conV).Nodup → vs[j]? = some v → v.cells[i]? = some (.vw k t) → conIx k m vs = some (m + j, i)
  | [], j, i, m, v, _, h, _ => by simp at h
  | x :: r, j, i, m, v, hn, h, h2 => by
    rw [List.flatMap_cons] at hn
    obtain ⟨n1, n2, n3⟩ := List.nodup_append.1 hn
    cases j with
    | zero =>
      simp at h
      subst h
      unfold conIx
      rw [conPos_at hk n1 h2]
      simp
    | succ j =>
      have h1 : r[j]? = some v := by simpa using h
      have ih := conIx_at (m := m + 1) hk n2 h1 h2
      have hblt : Nat.blt k 1000 = false := by
        cases hb : Nat.blt k 1000 with
        | false => rfl
        | true => have := blt_iff.1 hb; omega
      have hin : ∀ {cs : List AV} {i : Nat} {t : Nat}, cs[i]? = some (.vw k t) → k ∈ cs.flatMap conC := fun {cs i t} he => List.mem_flatMap.2 ⟨.vw k t, List.mem_of_getElem? he, by simp [conC, hblt]⟩
      unfold conIx
      split
      · rename_i i' hi
        obtain ⟨_, t', hi⟩ := rowPos_spec hi
        exact absurd rfl (n3 k (hin hi) k (List.mem_flatMap.2 ⟨v, List.mem_of_getElem? h1, hin h2⟩))
      · rw [ih]; congr 2; omega
theorem conIx_spec {k : Nat} : ∀ {vs : List AV} {j i m : Nat}, conIx k m vs = some (j, i) → m ≤ j ∧ ∃ v t, vs[j - m]? = some v ∧ v.cells[i]? = some (.vw k t)
  | [], j, i, m, e => by simp [conIx] at e
  | x :: r, j, i, m, e => by
    unfold conIx at e
    split at e
    · rename_i i' hi
      simp only [Option.some.injEq, Prod.mk.injEq] at e
      obtain ⟨rfl, rfl⟩ := e
      obtain ⟨_, t, hi⟩ := rowPos_spec hi
      exact ⟨Nat.le_refl _, x, t, by simp, by simpa using hi⟩
    · obtain ⟨h1, v, t, h2, h3⟩ := conIx_spec e
      refine ⟨by omega, v, t, ?_, h3⟩
      rw [show j - m = (j - (m + 1)) + 1 by omega, List.getElem?_cons_succ]
      exact h2

theorem ownV_cells (x : AV) : (ownV h x).cells = x.cells.map (ownC h) := by
  cases x with
  | vw k t =>
    show (ownC h (.vw k t)).cells = [ownC h (.vw k t)]
    unfold ownC
    simp only
    cases Nat.blt k 1000
    · simp only [cond_false]
      split
      · split <;> rfl
      · rfl
    · rfl
  | _ => rfl
theorem outC_cells {ks : List Nat} {x d : AV} (e : outC ks x = some d) : d.cells = [d] ∧ (∀ l, d ≠ .tup l) ∧ (∀ l, d ≠ .agg l) ∧ ((∃ t xs, x = .ow t xs) ∨ ((∀ t xs, d ≠ .ow t xs) ∧ ∀ r, in0 (fun n => n) r d = d)) := by
  cases x <;> simp only [outC, out0, AV.dat, Option.some.injEq, reduceCtorEq] at e
  case ptr => split at e <;> simp at e; subst e; exact ⟨rfl, by simp, by simp, .inr ⟨by simp, fun _ => rfl⟩⟩
  case vw => split at e <;> simp at e; subst e; exact ⟨rfl, by simp, by simp, .inr ⟨by simp, fun _ => rfl⟩⟩
  case sv => split at e <;> simp at e; subst e; exact ⟨rfl, by simp, by simp, .inr ⟨by simp, fun _ => rfl⟩⟩
  case fn n cs =>
    split at e
    · rename_i l hl
      simp only [Option.some.injEq] at e
      subst e
      refine ⟨rfl, by simp, by simp, .inr ⟨by simp, fun r => ?_⟩⟩
      simp only [in0]
      congr 1
      exact (List.map_congr_left fun x _ => by cases x <;> rfl).trans (List.map_id l)
    · simp at e
  case ow t xs => subst e; exact ⟨rfl, by simp, by simp, .inl ⟨t, xs, rfl⟩⟩
  all_goals (subst e; exact ⟨rfl, by simp, by simp, .inr ⟨by simp, fun _ => rfl⟩⟩)
theorem outV_cells {ks : List Nat} {x d : AV} (e : outV ks x = some d) : (∀ l, d ≠ .tup l) ∧ d.cells.length = x.cells.length ∧ ∀ (i : Nat) (b : AV), d.cells[i]? = some b → ∃ a, x.cells[i]? = some a ∧ outC ks a = some b := by
  by_cases hx : ∃ cs, x = .agg cs
  · obtain ⟨cs, rfl⟩ := hx
    simp only [outV] at e
    split at e
    · rename_i l hl
      simp only [Option.some.injEq] at e
      subst e
      exact ⟨by simp, (mapO_spec hl).1, (mapO_spec hl).2⟩
    · simp at e
  · have hc : x.cells = [x] := by cases x <;> first | rfl | exact absurd ⟨_, rfl⟩ hx
    have ho : outC ks x = some d := by
      rw [← e]
      cases x <;> first | rfl | exact absurd ⟨_, rfl⟩ hx
    obtain ⟨h1, h2, _⟩ := outC_cells ho
    refine ⟨h2, by rw [h1, hc]; rfl, fun i b hb => ?_⟩
    rw [h1] at hb
    rw [hc]
    cases i with
    | zero => simp at hb; subst hb; exact ⟨x, rfl, ho⟩
    | succ i => simp at hb

theorem parts_tupOf {l : List AV} (hl : ∀ v ∈ l, ∀ vs, v ≠ .tup vs) : parts (tupOf l) = l := by
  match l, hl with
  | [], _ => rfl
  | [v], hl =>
    have := hl v (by simp)
    show parts v = [v]
    cases v <;> first | rfl | exact absurd rfl (this _)
  | v :: u :: r, _ => rfl
theorem inVs_get (bid : Nat → Nat) (rid : Nat → Nat → Nat) : ∀ (l : List AV) (j i : Nat), (inVs bid rid j l)[i]? = (l[i]?).map (inV bid (rid (j + i)))
  | [], j, i => by simp [inVs]
  | v :: r, j, 0 => by simp [inVs]
  | v :: r, j, i + 1 => by
    simp only [inVs, List.getElem?_cons_succ]
    rw [inVs_get bid rid r (j + 1) i, show j + 1 + i = j + (i + 1) by omega]
theorem inVs_len (bid : Nat → Nat) (rid : Nat → Nat → Nat) : ∀ (l : List AV) (j : Nat), (inVs bid rid j l).length = l.length
  | [], j => rfl
  | v :: r, j => by simp [inVs, inVs_len bid rid r (j + 1)]
theorem rowsVs_mem {rid : Nat → Nat → Nat} {t : Nat} {xs : List (R t)} : ∀ {l : List AV} {j m i : Nat} {v : AV}, l[j]? = some v → v.cells[i]? = some (.ow t xs) → (rid (m + j) i, Ob.row t xs) ∈ rowsVs rid m l
  | [], j, m, i, v, h, _ => by simp at h
  | x :: r, j, m, i, v, h, h2 => by
    simp only [rowsVs]
    cases j with
    | zero =>
      simp at h
      subst h
      have := rowsCs_mem (rid := rid m) (n := 0) h2
      exact List.mem_append.2 (.inl (by simpa using this))
    | succ j =>
      have := rowsVs_mem (rid := rid) (m := m + 1) (j := j) (by simpa using h) h2
      rw [show m + 1 + j = m + (j + 1) by omega] at this
      exact List.mem_append.2 (.inr this)
omit [Reg] in
theorem find_append {α : Type} {k : Nat} : ∀ {a b : List (Nat × α)}, find k (a ++ b) = match find k a with | some o => some o | none => find k b
  | [], b => rfl
  | (m, o) :: r, b => by
    simp only [List.cons_append, find]
    split
    · rfl
    · exact find_append

def phiE (h : Heap) (ks : List Nat) (vs : List AV) (k : Nat) : Option Nat :=
  match phi h ks k with
  | some x => some x
  | none => if k < 1000 then none else (match conIx k 0 vs with | some (j, i) => some (rrd0 j i) | none => none)

section
variable {ks : List Nat} {os : List Ob} {vs l : List AV}
theorem end_cell (hvs : mapO (outV ks) (vs.map (ownV h)) = some l) {j i k t : Nat} {v : AV} (hv : vs[j]? = some v) (hc : v.cells[i]? = some (.vw k t)) (hk : 1000 ≤ k) : ∃ v' xs, l[j]? = some v' ∧ v'.cells[i]? = some (.ow t xs) ∧ find k h = some (.row t xs) := by
  obtain ⟨h1, h2⟩ := mapO_spec hvs
  have hj : j < l.length := by rw [h1, List.length_map]; exact (List.getElem?_eq_some_iff.1 hv).1
  have e1 := List.getElem?_eq_getElem hj
  obtain ⟨x, g1, g2⟩ := h2 j l[j] e1
  rw [List.getElem?_map, hv] at g1
  simp only [Option.map_some, Option.some.injEq] at g1
  subst g1
  obtain ⟨_, g3, g4⟩ := outV_cells g2
  have hi : i < l[j].cells.length := by
    rw [g3, ownV_cells, List.length_map]; exact (List.getElem?_eq_some_iff.1 hc).1
  have e2 := List.getElem?_eq_getElem hi
  obtain ⟨b, g5, g6⟩ := g4 i _ e2
  rw [ownV_cells, List.getElem?_map, hc] at g5
  simp only [Option.map_some, Option.some.injEq] at g5
  have hblt : Nat.blt k 1000 = false := by
    cases hb : Nat.blt k 1000 with
    | false => rfl
    | true => have := blt_iff.1 hb; omega
  simp only [ownC, hblt, cond_false] at g5
  split at g5
  · rename_i t' xs hr
    split at g5
    · rename_i e
      subst e
      subst g5
      simp only [outC, Option.some.injEq] at g6
      exact ⟨_, xs, e1, by rw [e2, ← g6], hr⟩
    · subst g5; simp [outC, out0, AV.dat] at g6
  · subst g5; simp [outC, out0, AV.dat] at g6

theorem end_ren {cvs : List Value} (hR : RepLs (RepB γ h u w D) vs cvs) (hnd : (ks ++ (inls h ks ++ vs.flatMap conV)).Nodup) (hos : mapO (packO h ks) ks = some os) (hvs : mapO (outV ks) (vs.map (ownV h)) = some l) (hok : objsOk os = true) (hr : resOk (tupOf l) = true) (hnt : os.all notTok = true) (hk : (keys (heapR (tupOf l) os)).Nodup) :
    Ren (phiE h ks vs) h (heapR (tupOf l) os) u (keys (heapR (tupOf l) os)) := by
  obtain ⟨n1, n2, n3⟩ := List.nodup_append.1 hnd
  obtain ⟨n4, n5, n6⟩ := List.nodup_append.1 n2
  have hnd' : (ks ++ inls h ks).Nodup := List.nodup_append.2 ⟨n1, n4, fun x hx y hy => n3 x hx y (List.mem_append.2 (.inl hy))⟩
  obtain ⟨m1, m2⟩ := mapO_spec hvs
  have hl : ∀ v ∈ l, ∀ vs', v ≠ .tup vs' := fun v hv => by
    obtain ⟨j, hj⟩ := List.getElem?_of_mem hv
    obtain ⟨x, _, g⟩ := m2 j v hj
    exact (outV_cells g).1
  have hP : heapR (tupOf l) os = heap0 os ++ rowsVs rrd0 0 l := by unfold heapR; rw [parts_tupOf hl]; rfl
  have hk' := hk
  rw [hP] at hk'
  simp only [keys, List.map_append] at hk'
  obtain ⟨k1, k2, k3⟩ := List.nodup_append.1 hk'
  have rO := ren_out (u := u) hnd' hos hok k1 hnt
  simp only [resOk, parts_tupOf hl, Bool.and_eq_true, Nat.ble_eq] at hr
  have h128 : ∀ {j i : Nat} {v c : AV}, vs[j]? = some v → v.cells[i]? = some c → i < 128 := fun {j i v c} hv hc => by
    have hj : j < l.length := by rw [m1, List.length_map]; exact (List.getElem?_eq_some_iff.1 hv).1
    obtain ⟨x, g1, g2⟩ := m2 j l[j] (List.getElem?_eq_getElem hj)
    rw [List.getElem?_map, hv] at g1
    simp only [Option.map_some, Option.some.injEq] at g1
    subst g1
    have g3 := (outV_cells g2).2.1
    rw [ownV_cells, List.length_map] at g3
    have := List.all_eq_true.1 hr.2 l[j] (List.getElem_mem hj)
    simp only [cellsOk, Bool.and_eq_true, Nat.ble_eq] at this
    have := (List.getElem?_eq_some_iff.1 hc).1
    omega
  -- what a number comes to
  have hcase : ∀ {k k'}, phiE h ks vs k = some k' → phi h ks k = some k' ∨ (1000 ≤ k ∧ ∃ j i v t v' xs, k' = rrd0 j i ∧ vs[j]? = some v ∧ v.cells[i]? = some (.vw k t) ∧ i < 128 ∧ l[j]? = some v' ∧ v'.cells[i]? = some (.ow t xs) ∧ find k h = some (.row t xs)) := fun {k k'} e => by
    unfold phiE at e
    split at e
    · rename_i x hx
      simp only [Option.some.injEq] at e
      subst e
      exact .inl hx
    · split at e
      · simp at e
      · rename_i hlt
        split at e
        · rename_i j i hc
          simp only [Option.some.injEq] at e
          subst e
          obtain ⟨_, v, t, g1, g2⟩ := conIx_spec hc
          rw [Nat.sub_zero] at g1
          obtain ⟨v', xs, g3, g4, g5⟩ := end_cell hvs g1 g2 (by omega)
          exact .inr ⟨by omega, j, i, v, t, v', xs, rfl, g1, g2, h128 g1 g2, g3, g4, g5⟩
        · simp at e
  have hin : ∀ {j i t : Nat} {v' : AV} {xs : List (R t)}, l[j]? = some v' → v'.cells[i]? = some (.ow t xs) → rrd0 j i ∈ keys (rowsVs rrd0 0 l) := fun {j i t v' xs} g1 g2 => by
    have := rowsVs_mem (rid := rrd0) (m := 0) g1 g2
    rw [Nat.zero_add] at this
    exact List.mem_map.2 ⟨_, this, rfl⟩
  refine ⟨fun x y i e1 e2 => ?_, fun k' o' e => ?_, fun k k' e => ?_⟩
  · rcases hcase e1 with a1 | ⟨_, j, i1, v, t, v', xs, rfl, g1, g2, g3, g4, g5, _⟩ <;> rcases hcase e2 with b1 | ⟨_, j', i1', v2, t', v2', xs', b0, b1, b2, b3, b4, b5, _⟩
    · exact rO.inj _ _ _ a1 b1
    · subst b0
      exact absurd rfl (k3 _ (rO.u _ _ a1) _ (hin b4 b5))
    · exact absurd rfl (k3 _ (rO.u _ _ b1) _ (hin g4 g5))
    · unfold rrd0 at b0
      have e3 : j = j' := by omega
      have e4 : i1 = i1' := by omega
      subst e3
      subst e4
      rw [g1] at b1
      cases b1
      rw [g2] at b2
      cases b2
      rfl
  · rw [hP, find_append] at e
    split at e
    · rename_i o hf
      cases e
      obtain ⟨k, o, h1, h2, h3⟩ := out_at (f := phiE h ks vs) (u := u) (fun k k' e => by simp only [phiE, e]) hnd' hos hok k1 hnt k' _ hf
      exact ⟨k, o, by simp only [phiE, h1], h2, h3⟩
    · obtain ⟨j, v', i, t, xs, g1, g2, rfl, rfl⟩ := mem_rowsVs (find_mem e)
      obtain ⟨x, g3, g4⟩ := m2 j v' g1
      rw [List.getElem?_map, Option.map_eq_some_iff] at g3
      obtain ⟨v, g3, rfl⟩ := g3
      obtain ⟨_, _, g5⟩ := outV_cells g4
      obtain ⟨b, g6, g7⟩ := g5 i _ g2
      rw [ownV_cells, List.getElem?_map, Option.map_eq_some_iff] at g6
      obtain ⟨c', g6, rfl⟩ := g6
      have how : ownC h c' = .ow t xs := by
        rcases (outC_cells g7).2.2.2 with ⟨t', xs', e'⟩ | ⟨e', _⟩
        · rw [e'] at g7 ⊢
          simp only [outC, Option.some.injEq] at g7
          exact g7
        · exact absurd rfl (e' t xs)
      have hlt : j < cvs.length := by rw [hR.get.1]; exact (List.getElem?_eq_some_iff.1 g3).1
      have hrep := hR.at g3 (List.getElem?_eq_getElem hlt)
      have hno : ∀ t' xs', c' ≠ .ow t' xs' := fun t' xs' e' => by
        subst e'
        by_cases hag : ∃ cs, v = .agg cs
        · obtain ⟨cs, rfl⟩ := hag
          obtain ⟨arr, _, hn, hh⟩ := hrep
          have hi2 : i < arr.size := by rw [hn]; exact (List.getElem?_eq_some_iff.1 g6).1
          have := (hh i _ _ g6 (Array.getElem?_eq_getElem hi2)).1
          exact (nomatch (show RepD w D (.ow t' xs') _ from this))
        · have hcl : v.cells = [v] := by cases v <;> first | rfl | exact absurd ⟨_, rfl⟩ hag
          rw [hcl] at g6
          cases i with
          | zero =>
            simp at g6
            rw [g6] at hrep
            exact (nomatch (show RepD w D (.ow t' xs') _ from hrep))
          | succ i => simp at g6
      have hc : ∃ k, c' = .vw k t ∧ 1000 ≤ k ∧ find k h = some (.row t xs) := by
        cases c' with
        | vw k t' =>
          simp only [ownC] at how
          cases hb : Nat.blt k 1000 with
          | true => rw [hb] at how; simp at how
          | false =>
            rw [hb] at how
            simp only [cond_false] at how
            have hge : 1000 ≤ k := Nat.le_of_not_lt fun h => by rw [blt_iff.2 h] at hb; cases hb
            split at how
            · rename_i t2 xs2 hf
              split at how
              · rename_i e2
                subst e2
                cases how
                exact ⟨k, rfl, hge, hf⟩
              · simp at how
            · simp at how
        | ow t' xs' => exact absurd rfl (hno t' xs')
        | _ => simp [ownC] at how
      obtain ⟨k, rfl, hge, hf⟩ := hc
      have hix := conIx_at (m := 0) hge n5 g3 g6
      have hcon : k ∈ vs.flatMap conV := List.mem_flatMap.2 ⟨v, List.mem_of_getElem? g3, List.mem_flatMap.2 ⟨.vw k t, List.mem_of_getElem? g6, by
        have hblt : Nat.blt k 1000 = false := by
          cases hb : Nat.blt k 1000 with
          | false => rfl
          | true => have := blt_iff.1 hb; omega
        simp [conC, hblt]⟩⟩
      have hphi : phi h ks k = none := by
        cases hp : phi h ks k with
        | none => rfl
        | some m =>
          rcases List.mem_append.1 (phi_mem hp) with hm | hm
          · exact absurd rfl (n3 k hm k (List.mem_append.2 (.inr hcon)))
          · exact absurd rfl (n6 k hm k hcon)
      refine ⟨k, _, ?_, hf, rfl⟩
      simp only [phiE, hphi, if_neg (show ¬ k < 1000 by omega), hix]
  · rw [hP]
    simp only [keys, List.map_append]
    rcases hcase e with a1 | ⟨_, j, i1, v, t, v', xs, rfl, g1, g2, g3, g4, g5, _⟩
    · exact List.mem_append.2 (.inl (rO.u _ _ a1))
    · exact List.mem_append.2 (.inr (hin g4 g5))

theorem end_rep {f : Nat → Option Nat} (hf : ∀ k m, idxOf k ks 0 = some m → f k = some m) {j : Nat} {v v' : AV} {y : Value} (hcon : ∀ i k t, v.cells[i]? = some (.vw k t) → 1000 ≤ k → f k = some (rrd0 j i)) (hx : RepB γ' h' u' w D (renB f v) y) (hx0 : RepB γ h u w D v y) (e : outV ks (ownV h v) = some v') : RepB γ' h' u' w D (inV (fun n => n) (rrd0 j) v') y := by
  have cell : ∀ {i : Nat} {c' b : AV} {z : Value}, v.cells[i]? = some c' → (∀ t xs, c' ≠ .ow t xs) → outC ks (ownC h c') = some b → RepC γ' h' u' w D (renC f c') z → RepC γ' h' u' w D (in0 (fun n => n) (rrd0 j i) b) z ∧ Cell (in0 (fun n => n) (rrd0 j i) b) := fun {i c' b z} hc hno ho hz => by
    have keep : ownC h c' = c' → RepC γ' h' u' w D (in0 (fun n => n) (rrd0 j i) b) z ∧ Cell (in0 (fun n => n) (rrd0 j i) b) := fun ek => by
      rw [ek] at ho
      rcases (outC_cells ho).2.2.2 with ⟨t', xs', e'⟩ | ⟨_, e'⟩
      · exact absurd e' (hno t' xs')
      · rw [e']
        exact outC_rep hf ho hz
    cases c' with
    | vw k t =>
      cases hb : Nat.blt k 1000 with
      | true => exact keep (by simp only [ownC, hb, cond_true])
      | false =>
        have hge : 1000 ≤ k := Nat.le_of_not_lt fun h => by rw [blt_iff.2 h] at hb; cases hb
        simp only [ownC, hb, cond_false] at ho
        split at ho
        · split at ho
          · rename_i e2
            subst e2
            simp only [outC, Option.some.injEq] at ho
            subst ho
            simp only [renC, ren1, hcon i k _ hc hge] at hz
            exact ⟨hz, .inr rfl⟩
          · simp [outC, out0, AV.dat] at ho
        · simp [outC, out0, AV.dat] at ho
    | ow t xs => exact absurd rfl (hno t xs)
    | _ => exact keep rfl
  by_cases hag : ∃ cs, v = .agg cs
  · obtain ⟨cs, rfl⟩ := hag
    simp only [ownV, outV] at e
    split at e
    · rename_i l hl
      simp only [Option.some.injEq] at e
      subst e
      obtain ⟨h1, h2⟩ := mapO_spec hl
      obtain ⟨arr, e1, hn, hh⟩ := hx
      obtain ⟨arr0, e10, hn0, hh0⟩ := hx0
      refine ⟨arr, e1, by rw [hn, inCs_len, h1]; simp, fun i b z hi hj => ?_⟩
      rw [inCs_get, Option.map_eq_some_iff] at hi
      obtain ⟨b0, hb0, rfl⟩ := hi
      obtain ⟨x, g1, g2⟩ := h2 i b0 hb0
      rw [List.getElem?_map, Option.map_eq_some_iff] at g1
      obtain ⟨c', g1, rfl⟩ := g1
      rw [Nat.zero_add]
      refine cell (i := i) g1 (fun t xs e' => ?_) g2 (hh i (renC f c') z (by simp [g1]) hj).1
      subst e'
      have hi2 : i < arr0.size := by rw [hn0]; exact (List.getElem?_eq_some_iff.1 g1).1
      have := (hh0 i _ _ g1 (Array.getElem?_eq_getElem hi2)).1
      exact (nomatch (show RepD w D (.ow t xs) _ from this))
    · simp at e
  · have hne : ∀ cs, v ≠ .agg cs := fun cs e => hag ⟨cs, e⟩
    have hcl : v.cells = [v] := by cases v <;> first | rfl | exact absurd rfl (hne _)
    have hno : ∀ t xs, v ≠ .ow t xs := fun t xs e' => by
      subst e'
      exact (nomatch (show RepD w D (.ow t xs) _ from hx0))
    have ho : outC ks (ownC h v) = some v' := by
      rw [← e]
      cases v <;> first | rfl | (exact absurd rfl (hne _)) | skip
      rename_i k t
      show outC ks (ownC h (.vw k t)) = outV ks (ownC h (.vw k t))
      unfold ownC
      simp only
      cases Nat.blt k 1000
      · simp only [cond_false]
        split
        · split <;> rfl
        · rfl
      · rfl
    have hcell : Cell v := by
      cases v <;> first | exact .inl rfl | exact .inr rfl | (exact absurd rfl (hne _)) | (exact absurd rfl (hno _ _)) | skip
      exact (nomatch (show RepD w D (.tup _) _ from hx0))
    rw [renB_ne hne] at hx
    have := cell (i := 0) (c' := v) (b := v') (z := y) (by rw [hcl]; rfl) hno ho (hx.toC (renC_cell f hcell))
    have e2 : inV (fun n => n) (rrd0 j) v' = in0 (fun n => n) (rrd0 j 0) v' := by
      have := (outC_cells ho).2.2.1
      cases v' <;> first | rfl | exact absurd rfl (this _)
    rw [e2]
    exact this.1.b
end
end
end
end Go.AM
