/- Soundness: code. -/
import Derived.Test.YtpdifkaeiecdpaaAmMY
import Derived.LoopN
namespace Go.AM
open Go.RowKit Go.Lib
section
variable [Reg]
section
variable {P : Program} {c : Ctx} {γ γ' γ'' : Gh} {D D' D'' : Dead} {st : St} {a : Act} {w w' w'' : World} {tb : Tb} {H : Hints} {h h' h'' : Heap} {u u' u'' : List Nat}

/-- States that nothing tells apart. -/
structure StEq (s t : St) : Prop where
  nt : s.nt = t.nt
  get : ∀ k, s.get k = t.get k
  h : ∀ k, find k s.h = find k t.h
  u : ∀ k, k ∈ s.u ↔ k ∈ t.u
theorem StEq.refl (s : St) : StEq s s := ⟨rfl, fun _ => rfl, fun _ => rfl, fun _ => Iff.rfl⟩
theorem StEq.trans {s t r : St} (h1 : StEq s t) (h2 : StEq t r) : StEq s r := ⟨h1.nt.trans h2.nt, fun k => (h1.get k).trans (h2.get k), fun k => (h1.h k).trans (h2.h k), fun k => (h1.u k).trans (h2.u k)⟩
theorem StEq.symm {s t : St} (h1 : StEq s t) : StEq t s := ⟨h1.nt.symm, fun k => (h1.get k).symm, fun k => (h1.h k).symm, fun k => (h1.u k).symm⟩
theorem same_ext (hf : ∀ k, find k h = find k h') (k : Nat) : Same γ γ h h' w w D D k := by
  refine ⟨fun cs' e => ?_, fun t xs e => ?_, fun t xs e => ?_, fun e => ?_⟩ <;> rw [← hf] at e
  · exact ⟨⟨cs', e⟩, rfl⟩
  · exact ⟨⟨xs, e, rfl⟩, rfl, fun ho => ⟨ho, fun n hb => hb⟩⟩
  · exact .inl e
  · exact ⟨e, rfl, fun ho => ⟨ho, fun n hb => hb, fun o hd => hd⟩⟩
theorem Inv.eqv {s t : St} (hi : Inv c γ D s a w) (he : StEq s t) : Inv c γ D t a w := by
  have hC : ∀ {x v}, RepC γ s.h s.u w D x v → RepC γ t.h t.u w D x v := fun {x v} hx => hx.mono (fun _ _ _ => rfl) (fun _ _ h => h) (fun k hk => (he.u k).1 hk) fun k _ => same_ext he.h k
  refine ⟨hi.nt.trans he.nt, hi.dfr, fun k => ?_, ⟨fun k cs e => ?_, fun k t xs e => ?_, fun b k ho => ?_, fun b k ho e => ?_, fun k e => ?_⟩, hi.os, hi.tape, hi.output, hi.size, hi.block, hi.lg, hi.ow, hi.dd, hi.dl, fun k hk cs e => ?_, fun k hk t xs e => ?_, fun k hk t xs e => ?_, fun k hk e => ?_⟩
  · rw [← he.get]
    exact (hi.tm k).mono (fun _ _ _ => rfl) (fun _ _ h => h) (fun k hk => (he.u k).1 hk) fun k _ => same_ext he.h k
  · rw [← he.h] at e
    obtain ⟨q1, vs, E, q2, q3, q4⟩ := hi.hp.box k cs e
    exact ⟨q1, vs, E, q2, q3, fun i c' v' h1 h2 => ⟨hC (q4 i c' v' h1 h2).1, (q4 i c' v' h1 h2).2⟩⟩
  · rw [← he.h] at e; exact hi.hp.row k t xs e
  · rw [← he.h]; exact hi.hp.own b k ho
  · rw [← he.h] at e; exact hi.hp.lv b k ho e
  · rw [← he.h] at e; exact (he.u k).1 (hi.hp.u k e)
  · rw [← he.h] at e; exact hi.ob k hk cs e
  · rw [← he.h] at e; exact hi.or k hk t xs e
  · rw [← he.h] at e; exact hi.ofz k hk t xs e
  · rw [← he.h] at e; exact hi.ot k hk e
theorem Inv.drawn (hi : Inv c γ D st a w) (n : Nat) : Inv c γ D st a { w with drawn := n } := by
  have hs : ∀ k, Same γ γ st.h st.h w { w with drawn := n } D D k := fun k => ⟨fun cs' e => ⟨⟨cs', e⟩, rfl⟩, fun t xs e => ⟨⟨xs, e, rfl⟩, rfl, fun ho => ⟨ho, fun n hb => hb⟩⟩, fun t xs e => .inl e, fun e => ⟨e, rfl, fun ho => ⟨ho, fun n hb => hb, fun o hd => hd⟩⟩⟩
  have hp : Pres D w { w with drawn := n } := fun _ _ _ => rfl
  have hD : ∀ {x v}, RepD w D x v → RepD { w with drawn := n } D x v := fun {x v} hx => hx.mono hp fun _ _ h => h
  refine ⟨hi.nt, hi.dfr, fun k => (hi.tm k).mono hp (fun _ _ h => h) (fun _ h => h) fun k _ => hs k, ⟨fun k cs e => ?_, fun k t xs e => ?_, hi.hp.own, hi.hp.lv, hi.hp.u⟩, hi.os, hi.tape, hi.output, hi.size, hi.block, hi.lg, hi.ow, hi.dd, hi.dl, hi.ob, hi.or, fun k hk t xs e => ?_, hi.ot⟩
  · obtain ⟨q1, vs, E, q2, q3, q4⟩ := hi.hp.box k cs e
    exact ⟨q1, vs, E, q2, q3, fun i c' v' h1 h2 => ⟨(q4 i c' v' h1 h2).1.mono hp (fun _ _ h => h) (fun _ h => h) fun k _ => hs k, (q4 i c' v' h1 h2).2⟩⟩
  · refine (hi.hp.row k t xs e).imp id ?_
    rintro ⟨q1, vs, E, q2, q3, q4⟩
    exact ⟨q1, vs, E, q2, q3, fun q c' v' h1 h2 => hD (q4 q c' v' h1 h2)⟩
  · refine (hi.ofz k hk t xs e).imp id ?_
    rintro ⟨q1, q2⟩
    refine ⟨q1, q2.imp id ?_⟩
    rintro ⟨f, q3⟩
    exact ⟨f, fun q c' hq => ⟨(q3 q c' hq).1, (q3 q c' hq).2.1, hD (q3 q c' hq).2.2⟩⟩

/-- A region that draws its order: each order ends where the text's order ends. -/
def DrawOk (P : Program) (tb : Tb) (ops : Array Oper) : Prop :=
  ∀ (E : Ev), E.tb = tb → ∀ (t : Nat) (st st' : St) (ts : List Trc), runD E ops ops.toList st = some (st', ts) → okT (masks ops.toList []) 0 [] [] ts →
    ∃ st2 ts2, runD E ops ((Region.schedule (P.follows .mixedOrders) ops t).filterMap (ops[·]?)) st = some (st2, ts2) ∧ StEq st2 st'
def CodeOk (P : Program) (tb : Tb) : Code → Prop
  | .region _ ops true => DrawOk P tb ops
  | .seq a b => CodeOk P tb a ∧ CodeOk P tb b
  | .cond _ a b => CodeOk P tb a ∧ CodeOk P tb b
  | .block _ c => CodeOk P tb c
  | .loop c => CodeOk P tb c
  | _ => True

/-- What holds behind a piece of code. -/
def QK {ρ : Type} (c : Ctx) (K : Ex → St → Option ρ) (r : ρ) : Exit → Act → World → Prop
  | .normal, a, w => ∃ γ D st, Inv c γ D st a w ∧ K .normal st = some r
  | .exit id, a, w => ∃ γ D st, Inv c γ D st a w ∧ K (.exit id) st = some r
  | .ret, a, w => ∃ γ D st, Inv c γ D st a w ∧ K .ret st = some r
  | _, _, _ => False

theorem evC_sound {ρ : Type} {E : Ev} (hE : EvOk P E) (fx : Fx) : ∀ (cd : Code), CodeOk P E.tb cd → ∀ (n : Nat) (K : Ex → St → Option ρ) (r : ρ) (γ : Gh) (D : Dead) (st : St) (a : Act) (w : World),
    Inv c γ D st a w → evC E fx n cd st K = some r → cd.wp P (QK c K r) a w := by
  intro cd
  induction cd with
  | skip => exact fun _ n K r γ D st a w h hs => wp_skip ⟨γ, D, st, h, hs⟩
  | label l => exact fun _ n K r γ D st a w h hs => wp_label ⟨γ, D, st, h, hs⟩
  | exit id => exact fun _ n K r γ D st a w h hs => wp_exit ⟨γ, D, st, h, hs⟩
  | ret => exact fun _ n K r γ D st a w h hs => wp_ret ⟨γ, D, st, h, hs⟩
  | region id ops draw =>
    intro hok n K r γ D st a w h hs
    unfold evC at hs
    obtain ⟨st', ts, h1, h0, h2⟩ := runOps_D hs
    have hq : ∀ γ' D' a' w', Inv c γ' D' st' a' w' → QK c K r .normal a' w' := fun γ' D' a' w' hI => by
      have hI := hI.only fun k => !fx.kp.contains k
      unfold joinK at h2
      split at h2
      · rename_i l _
        rw [joinA_eq] at h2
        obtain ⟨γ2, hI2⟩ := (hI.only l.contains).gc
        exact ⟨γ2, D', _, hI2, h2⟩
      · exact ⟨γ', D', _, hI, h2⟩
    cases draw
    · refine wp_region (wpOps_sound hE hq _ ts γ D st a w h ?_)
      rw [range_filterMap]
      exact h1
    · refine wp_region_draw fun t => ?_
      obtain ⟨st2, ts2, h3, h4⟩ := hok E rfl t st st' ts h1 (h0 rfl)
      exact wpOps_sound hE (fun γ' D' a' w' hI => hq γ' D' a' w' (hI.eqv h4)) _ ts2 γ D st a _ (h.drawn _) h3
  | seq x y ihx ihy =>
    intro hok n K r γ D st a w h hs
    unfold evC at hs
    refine wp_seq (wp_mono (ihx hok.1 n _ r γ D st a w h hs) fun e a' w' hq => ?_)
    cases e with
    | normal => obtain ⟨γ', D', st', hI, hk⟩ := hq; exact ihy hok.2 n K r γ' D' st' a' w' hI hk
    | exit id => obtain ⟨γ', D', st', hI, hk⟩ := hq; exact ⟨γ', D', st', hI, hk⟩
    | ret => obtain ⟨γ', D', st', hI, hk⟩ := hq; exact ⟨γ', D', st', hI, hk⟩
    | goto l => exact hq.elim
    | panic ch => exact hq.elim
    | outgrown => exact hq.elim
  | cond x y z ihy ihz =>
    intro hok n K r γ D st a w h hs
    unfold evC at hs
    split at hs
    · rename_i t hx
      have e := inv_bool' (hx ▸ h.ev x)
      cases t
      · exact wp_cond_false e (ihz hok.2 n K r γ D st a w h hs)
      · exact wp_cond_true e (ihy hok.1 n K r γ D st a w h hs)
    · simp at hs
  | block id x ih =>
    intro hok n K r γ D st a w h hs
    unfold evC at hs
    refine wp_block (wp_mono (ih hok n _ r γ D st a w h hs) fun e a' w' hq => ?_)
    cases e with
    | normal => obtain ⟨γ', D', st', hI, hk⟩ := hq; exact ⟨γ', D', st', hI, hk⟩
    | exit id' =>
      obtain ⟨γ', D', st', hI, hk⟩ := hq
      simp only at hk
      unfold Exit.inBlock
      cases hb : Nat.beq id' id with
      | true =>
        rw [hb] at hk
        have e := Nat.eq_of_beq_eq_true hb
        simp only [e, if_true]
        exact ⟨γ', D', st', hI, hk⟩
      | false =>
        rw [hb] at hk
        have e : ¬ id' = id := fun e => by subst e; simp at hb
        simp only [e, if_false]
        exact ⟨γ', D', st', hI, hk⟩
    | ret => obtain ⟨γ', D', st', hI, hk⟩ := hq; exact ⟨γ', D', st', hI, hk⟩
    | goto l => exact hq.elim
    | panic ch => exact hq.elim
    | outgrown => exact hq.elim
  | loop x ih =>
    intro hok n K r γ D st a w h hs
    have key : ∀ (n : Nat) dead m γ D st a w, Inv c γ D st a w → loopA (evC E fx n x) dead K m st = some r → Code.rounds P x (QK c K r) m a w := by
      intro n dead m
      induction m with
      | zero => intro γ D st a w _ hs; simp [loopA] at hs
      | succ m ihm =>
        intro γ D st a w h hs
        unfold loopA at hs
        rw [rounds_succ]
        obtain ⟨γ1, h1⟩ := h.clean dead
        refine wp_mono (ih hok n _ r γ1 D _ a w h1 hs) fun e a' w' hq => ?_
        cases e with
        | normal => obtain ⟨γ', D', st', hI, hk⟩ := hq; exact ihm γ' D' st' a' w' hI hk
        | exit id => obtain ⟨γ', D', st', hI, hk⟩ := hq; exact ⟨γ', D', st', hI, hk⟩
        | ret => obtain ⟨γ', D', st', hI, hk⟩ := hq; exact ⟨γ', D', st', hI, hk⟩
        | goto l => exact hq.elim
        | panic ch => exact hq.elim
        | outgrown => exact hq.elim
    unfold evC at hs
    exact wp_loop_rounds n (key n _ n γ D st a w h hs)
  | rangeFunc f ps x y ihx ihy => intro _ n K r γ D st a w h hs; simp [evC] at hs
  | scope x ih => intro _ n K r γ D st a w h hs; simp [evC] at hs
  | goto l => intro _ n K r γ D st a w h hs; simp [evC] at hs
  | refuse s => intro _ n K r γ D st a w h hs; simp [evC] at hs
end
end
end Go.AM
