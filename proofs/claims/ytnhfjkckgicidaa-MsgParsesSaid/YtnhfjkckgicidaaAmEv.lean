/- Soundness: code. -/
import Derived.Test.YtnhfjkckgicidaaAmRun2
import Derived.LoopN
set_option linter.unusedVariables false
set_option linter.unusedSimpArgs false
namespace Go.AM
open Go.RowKit Go.Lib

theorem find_without {α : Type} (dead : List Nat) (k : Nat) : ∀ l : List (Nat × α), find k (without dead l) = if dead.contains k then none else find k l
  | [] => by simp [without, find]
  | (m, v) :: r => by
    simp only [without]
    split
    · rename_i hm
      rw [find_without dead k r]
      simp only [find]
      split
      · rfl
      · rename_i hk
        split
        · rename_i e; subst e; exact absurd hm hk
        · rfl
    · rename_i hm
      simp only [find]
      split
      · rename_i e
        subst e
        rw [if_neg hm]
      · exact find_without dead k r
theorem find_normT (st : St) (kp : List Nat) (k : Nat) : ∀ l : List (Nat × AV), find k (normT st kp l) = if kp.contains k then (find k l).map st.norm else none
  | [] => by simp [normT, find]
  | (m, v) :: r => by
    simp only [normT]
    split
    · rename_i hm
      simp only [find]
      split
      · rename_i e
        subst e
        rw [if_pos hm]
        rfl
      · exact find_normT st kp k r
    · rename_i hm
      rw [find_normT st kp k r]
      simp only [find]
      split
      · rename_i hk
        split
        · rename_i e; subst e; exact absurd hk hm
        · rfl
      · rfl
theorem find_normB (st : St) (k : Nat) : ∀ l : List (Nat × List AV), find k (normB st l) = (find k l).map (·.map st.norm)
  | [] => rfl
  | (m, v) :: r => by
    simp only [normB, find]
    split
    · rfl
    · exact find_normB st k r

section
variable {P : Program} {c : Ctx} {γ : Gh} {D D' : Dead} {st : St} {a : Act} {w w' : World} {tb : Tb}

theorem RepV.norm {kp : List Nat} {v : AV} {cv : Value} (h : RepV γ w D st v cv) : RepV γ w D (st.fin kp) (st.norm v) cv := by
  have hc := st.cur_isCur v
  have hv := h.cur
  unfold St.norm
  generalize st.cur v = u at *
  cases u with
  | tip k g s xs => exact ⟨Nat.le_refl _, hv.2.1, fun _ => hv.2.2 hc⟩
  | ptr k g off => exact ⟨Nat.le_refl _, fun _ => hv.2 hc⟩
  | row k g => exact ⟨Nat.le_refl _, fun _ => hv.2 hc⟩
  | rowp k g i => exact ⟨Nat.le_refl _, fun _ => hv.2 hc⟩
  | _ => exact hv
theorem norm_cell1 {v : AV} (h : v = .undef ∨ v.cell1 = true) : st.norm v = .undef ∨ (st.norm v).cell1 = true := by
  have := cur_cell1 (st := st) h
  unfold St.norm
  generalize st.cur v = u at *
  cases u <;> first | exact this | (simp [AV.cell1] at this ⊢)

theorem Inv.fin (h : Inv c γ D st a w) (kp : List Nat) : Inv c γ D (st.fin kp) a w := by
  refine ⟨h.nt, h.dfr, fun t => ?_, fun k cs hk => ?_, h.rw, h.own, h.live, h.fr, h.dold, h.dlt, h.pk⟩
  · have e : (st.fin kp).get t = match (if kp.contains t then (find t st.t).map st.norm else none) with | some v => v | none => .undef := by
      unfold St.get St.fin
      simp only [find_normT]
      rfl
    rw [e]
    split
    · rename_i v hv
      split at hv
      · have hg : st.get t = match find t st.t with | some v => v | none => .undef := rfl
        have ht := h.tm t
        rw [hg] at ht
        cases hf : find t st.t with
        | none => rw [hf] at hv; simp at hv
        | some u =>
          rw [hf] at hv ht
          simp only [Option.map_some, Option.some.injEq] at hv
          subst hv
          exact RepV.norm ht
      · simp at hv
    · trivial
  · have hk' : (find k st.b).map (·.map st.norm) = some cs := by rw [← find_normB]; exact hk
    cases hc : find k st.b with
    | none => rw [hc] at hk'; simp at hk'
    | some cs0 =>
      rw [hc] at hk'
      simp only [Option.map_some, Option.some.injEq] at hk'
      subst hk'
      obtain ⟨h1, vs, E, h2, h3, h4⟩ := h.bx k cs0 hc
      refine ⟨h1, vs, E, h2, by simpa using h3, fun i c v hi hj => ?_⟩
      rw [List.getElem?_map] at hi
      cases hc0 : cs0[i]? with
      | none => rw [hc0] at hi; simp at hi
      | some c0 =>
        rw [hc0] at hi
        simp only [Option.map_some, Option.some.injEq] at hi
        subst hi
        obtain ⟨q1, q2⟩ := h4 i c0 v hc0 hj
        exact ⟨q1.norm, norm_cell1 q2⟩

theorem Inv.clean (h : Inv c γ D st a w) (dead : List Nat) : Inv c γ D (st.clean dead) a w := by
  have hV : ∀ {av : AV} {v : Value}, RepV γ w D st av v → RepV γ w D (st.clean dead) av v := fun {av v} hv =>
    RepV.mono (st := st) (st' := st.clean dead) (w := w) (w' := w) (fun _ _ _ => rfl) (fun _ _ hd => hd) (fun _ => Nat.le_refl _) (fun k _ => ⟨rfl, rfl, fun xs hx => by
      have : find k (without dead st.r) = some xs := hx
      rw [find_without] at this
      split at this
      · simp at this
      · exact ⟨xs, this, rfl⟩, fun _ _ _ hh => hh⟩) hv
  refine ⟨h.nt, h.dfr, fun t => ?_, fun k cs hk => ?_, fun k xs hk => ?_, h.own, h.live, h.fr, h.dold, h.dlt, h.pk⟩
  · have e : (st.clean dead).get t = match (if dead.contains t then none else find t st.t) with | some v => v | none => .undef := by
      unfold St.get St.clean
      simp only [find_without]
      rfl
    rw [e]
    split
    · rename_i v hv
      split at hv
      · simp at hv
      · have ht := h.tm t
        have hg : st.get t = match find t st.t with | some v => v | none => .undef := rfl
        rw [hg, hv] at ht
        exact hV ht
    · trivial
  · have hk' : find k (without dead st.b) = some cs := hk
    rw [find_without] at hk'
    split at hk'
    · simp at hk'
    · obtain ⟨q1, vs, E, q2, q3, q4⟩ := h.bx k cs hk'
      exact ⟨q1, vs, E, q2, q3, fun i c v hi hj => ⟨hV (q4 i c v hi hj).1, (q4 i c v hi hj).2⟩⟩
  · have hk' : find k (without dead st.r) = some xs := hk
    rw [find_without] at hk'
    split at hk'
    · simp at hk'
    · exact h.rw k xs hk'

theorem Inv.drawn (h : Inv c γ D st a w) (n : Nat) : Inv c γ D st a { w with drawn := n } := by
  have hV : ∀ {av : AV} {v : Value}, RepV γ w D st av v → RepV γ { w with drawn := n } D st av v := fun {av v} hv =>
    RepV.mono (w := w) (w' := { w with drawn := n }) (fun _ _ _ => rfl) (fun _ _ hd => hd) (fun _ => Nat.le_refl _) (fun k _ => ⟨rfl, rfl, fun xs hx => ⟨xs, hx, rfl⟩, fun _ _ _ hh => hh⟩) hv
  refine ⟨h.nt, h.dfr, fun t => hV (h.tm t), fun k cs hk => ?_, fun k xs hk => ?_, h.own, h.live, ⟨h.fr.os, h.fr.tape, h.fr.output, h.fr.size, h.fr.block⟩, h.dold, h.dlt, h.pk⟩
  · obtain ⟨q1, vs, E, q2, q3, q4⟩ := h.bx k cs hk
    exact ⟨q1, vs, E, q2, q3, fun i c v hi hj => ⟨hV (q4 i c v hi hj).1, (q4 i c v hi hj).2⟩⟩
  · obtain ⟨q1, vs, E, q2, q3, q4⟩ := h.rw k xs hk
    exact ⟨q1, vs, E, q2, q3, fun i c v hi hj => ⟨RepD.mono (w := w) (w' := { w with drawn := n }) (fun _ _ _ => rfl) (fun _ _ hd => hd) (q4 i c v hi hj).1, (q4 i c v hi hj).2⟩⟩

/-- A region that draws its order: each order ends where the text's order ends. -/
def DrawOk (P : Program) (tb : Tb) (ops : Array Oper) : Prop :=
  ∀ (E : Ev), E.tb = tb → ∀ (t : Nat) (st st' : St), runD E true ops ops.toList st.canon = some st' →
    runD E true ops ((Region.schedule (P.follows .mixedOrders) ops t).filterMap (ops[·]?)) st.canon = some st'

def CodeOk (P : Program) (tb : Tb) : Code → Prop
  | .region _ ops true => DrawOk P tb ops
  | .seq a b => CodeOk P tb a ∧ CodeOk P tb b
  | .cond _ a b => CodeOk P tb a ∧ CodeOk P tb b
  | .block _ c => CodeOk P tb c
  | .loop c => CodeOk P tb c
  | _ => True

def loopsOf : Code → List Code
  | .seq a b => loopsOf a ++ loopsOf b
  | .cond _ a b => loopsOf a ++ loopsOf b
  | .block _ c => loopsOf c
  | .loop c => c :: loopsOf c
  | _ => []
/-- The summaries of loops say what the loops do. -/
def LsOk (E : Ev) (fx : Fx) (cd : Code) : Prop :=
  ∀ c ∈ loopsOf cd, ∀ LS, find (headId c) fx.ls = some LS → ∀ st K r, LS st K = some r → ∃ n, loopA (evC E fx n c) (fx.deadAt c) K n st = some r

/-- What holds behind a piece of code. -/
def QK (c : Ctx) (K : Ex → St → Res) (r : AV × Boxes) : Exit → Act → World → Prop
  | .normal, a, w => ∃ γ D st, Inv c γ D st a w ∧ K .normal st = some r
  | .exit id, a, w => ∃ γ D st, Inv c γ D st a w ∧ K (.exit id) st = some r
  | .ret, a, w => ∃ γ D st, Inv c γ D st a w ∧ K .ret st = some r
  | _, _, _ => False

theorem evC_sound {E : Ev} (hE : EvOk P E) (fx : Fx) : ∀ (cd : Code), CodeOk P E.tb cd → LsOk E fx cd → ∀ (n : Nat) (K : Ex → St → Res) (r : AV × Boxes) (γ : Gh) (D : Dead) (st : St) (a : Act) (w : World),
    Inv c γ D st a w → evC E fx n cd st K = some r → cd.wp P (QK c K r) a w := by
  intro cd
  induction cd with
  | skip => exact fun _ _ n K r γ D st a w h hs => wp_skip ⟨γ, D, st, h, hs⟩
  | label l => exact fun _ _ n K r γ D st a w h hs => wp_label ⟨γ, D, st, h, hs⟩
  | exit id => exact fun _ _ n K r γ D st a w h hs => wp_exit ⟨γ, D, st, h, hs⟩
  | ret => exact fun _ _ n K r γ D st a w h hs => wp_ret ⟨γ, D, st, h, hs⟩
  | region id ops draw =>
    intro hok _ n K r γ D st a w h hs
    unfold evC at hs
    obtain ⟨st', h1, h2⟩ := runOps_D hs
    have hq : ∀ γ' D' a' w', Inv c γ' D' st' a' w' → QK c K r .normal a' w' := fun γ' D' a' w' hI => ⟨γ', D', _, hI.fin fx.kp, h2⟩
    cases draw
    · simp only [cond_false] at h1
      refine wp_region (wpOps_sound hE (draw := false) hq _ γ D st a w h ?_)
      rw [range_filterMap]
      exact h1
    · simp only [cond_true] at h1
      refine wp_region_draw fun t => ?_
      exact wpOps_sound hE (draw := true) hq _ γ D st.canon a _ (h.canon.drawn _) (hok E rfl t st st' h1)
  | seq x y ihx ihy =>
    intro hok hls n K r γ D st a w h hs
    unfold evC at hs
    refine wp_seq (wp_mono (ihx hok.1 (fun c hc => hls c (List.mem_append.2 (.inl hc))) n _ r γ D st a w h hs) fun e a' w' hq => ?_)
    cases e with
    | normal => obtain ⟨γ', D', st', hI, hk⟩ := hq; exact ihy hok.2 (fun c hc => hls c (List.mem_append.2 (.inr hc))) n K r γ' D' st' a' w' hI hk
    | exit id => obtain ⟨γ', D', st', hI, hk⟩ := hq; exact ⟨γ', D', st', hI, hk⟩
    | ret => obtain ⟨γ', D', st', hI, hk⟩ := hq; exact ⟨γ', D', st', hI, hk⟩
    | goto l => exact hq.elim
    | panic ch => exact hq.elim
    | outgrown => exact hq.elim
  | cond x y z ihy ihz =>
    intro hok hls n K r γ D st a w h hs
    unfold evC at hs
    split at hs
    · rename_i t hx
      have e := inv_bool (hx ▸ h.ev x)
      cases t
      · exact wp_cond_false e (ihz hok.2 (fun c hc => hls c (List.mem_append.2 (.inr hc))) n K r γ D st a w h hs)
      · exact wp_cond_true e (ihy hok.1 (fun c hc => hls c (List.mem_append.2 (.inl hc))) n K r γ D st a w h hs)
    · simp at hs
  | block id x ih =>
    intro hok hls n K r γ D st a w h hs
    unfold evC at hs
    refine wp_block (wp_mono (ih hok hls n _ r γ D st a w h hs) fun e a' w' hq => ?_)
    cases e with
    | normal => obtain ⟨γ', D', st', hI, hk⟩ := hq; exact ⟨γ', D', st', hI, hk⟩
    | exit id' =>
      obtain ⟨γ', D', st', hI, hk⟩ := hq
      simp only at hk
      unfold Exit.inBlock
      split at hk
      · rename_i e; simp only [e, if_true]; exact ⟨γ', D', st', hI, hk⟩
      · rename_i e; simp only [e, if_false]; exact ⟨γ', D', st', hI, hk⟩
    | ret => obtain ⟨γ', D', st', hI, hk⟩ := hq; exact ⟨γ', D', st', hI, hk⟩
    | goto l => exact hq.elim
    | panic ch => exact hq.elim
    | outgrown => exact hq.elim
  | loop x ih =>
    intro hok hls n K r γ D st a w h hs
    have hls' : LsOk E fx x := fun c hc => hls c (List.mem_cons_of_mem _ hc)
    have key : ∀ (n : Nat) (dead : List Nat) m γ D st a w, Inv c γ D st a w → loopA (evC E fx n x) dead K m st = some r → Code.rounds P x (QK c K r) m a w := by
      intro n dead m
      induction m with
      | zero => intro γ D st a w _ hs; simp [loopA] at hs
      | succ m ihm =>
        intro γ D st a w h hs
        unfold loopA at hs
        rw [rounds_succ]
        refine wp_mono (ih hok hls' n _ r γ D _ a w (h.clean dead) hs) fun e a' w' hq => ?_
        cases e with
        | normal => obtain ⟨γ', D', st', hI, hk⟩ := hq; exact ihm γ' D' st' a' w' hI hk
        | exit id => obtain ⟨γ', D', st', hI, hk⟩ := hq; exact ⟨γ', D', st', hI, hk⟩
        | ret => obtain ⟨γ', D', st', hI, hk⟩ := hq; exact ⟨γ', D', st', hI, hk⟩
        | goto l => exact hq.elim
        | panic ch => exact hq.elim
        | outgrown => exact hq.elim
    unfold evC at hs
    split at hs
    · rename_i LS hLS
      obtain ⟨m, hm⟩ := hls x (List.mem_cons_self ..) LS hLS st K r hs
      exact wp_loop_rounds m (key m _ m γ D st a w h hm)
    · exact wp_loop_rounds n (key n _ n γ D st a w h hs)
  | rangeFunc f ps x y ihx ihy => intro _ _ n K r γ D st a w h hs; simp [evC] at hs
  | scope x ih => intro _ _ n K r γ D st a w h hs; simp [evC] at hs
  | goto l => intro _ _ n K r γ D st a w h hs; simp [evC] at hs
  | refuse s => intro _ _ n K r γ D st a w h hs; simp [evC] at hs

end
end Go.AM
