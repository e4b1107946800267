/- Soundness: functions. -/
import Derived.Test.YtpdifkaeiecdpaaAmM2
namespace Go.AM
open Go.RowKit Go.Lib
section
variable [Reg]
section
variable {P : Program} {c : Ctx} {γ γ' γ'' : Gh} {D D' D'' : Dead} {st : St} {a : Act} {w w' w'' : World} {tb : Tb} {H : Hints} {h h' h'' : Heap} {u u' u'' : List Nat}

theorem phiE_con {ks : List Nat} {vs : List AV} (hnd : (ks ++ (inls h ks ++ vs.flatMap conV)).Nodup) {j i k t : Nat} {v : AV} (hv : vs[j]? = some v) (hc : v.cells[i]? = some (.vw k t)) (hge : 1000 ≤ k) : phiE h ks vs k = some (rrd0 j i) := by
  obtain ⟨n1, n2, n3⟩ := List.nodup_append.1 hnd
  obtain ⟨n4, n5, n6⟩ := List.nodup_append.1 n2
  have hix := conIx_at (m := 0) hge n5 hv hc
  have hcon : k ∈ vs.flatMap conV := List.mem_flatMap.2 ⟨v, List.mem_of_getElem? hv, List.mem_flatMap.2 ⟨.vw k t, List.mem_of_getElem? hc, by
    have hblt : Nat.blt k 1000 = false := by
      cases hb : Nat.blt k 1000 with
      | false => rfl
      | true => have := blt_iff.1 hb; omega
    simp [conC, hblt]⟩⟩
  have hphi : phi h ks k = none := by
    cases hp : phi h ks k with
    | none => rfl
    | some m =>
      rcases List.mem_append.1 (phi_mem hp) with hm | hm
      · exact absurd rfl (n3 k hm k (List.mem_append.2 (.inr hcon)))
      · exact absurd rfl (n6 k hm k hcon)
  simp only [phiE, hphi, if_neg (show ¬ k < 1000 by omega), hix, Nat.zero_add]

/-- What comes back. -/
theorem end_sound (hT : TbOk P tb) {fn : Func} {ow : List Nat} {m : Nat} {r : AV} {os : List Ob} (hi : Inv c γ D st a w) (hs : endA tb fn ow m st = some (r, os)) :
    a.defers = [] ∧ ∃ v, (results fn a.tmps).run P w = .ok v w ∧ Post c m r os (.returned v) w := by
  refine ⟨hi.dfr, ?_⟩
  unfold endA at hs
  split at hs
  · rename_i l0 hl0
    obtain ⟨cvs, hrun, hR0⟩ := rawA_sound hT hi hl0
    obtain ⟨γ1, D1, hi1, hR, _⟩ := finVs_sound (ow := ow) (p := 0) hi hR0
    generalize finVs ow 0 st.h l0 = q at hs hi1 hR
    obtain ⟨vs, h⟩ := q
    simp only at hs hi1 hR
    generalize reach (boxRefs h) 200 [] (List.range m ++ (vs.map (ownV h)).flatMap AV.refs) = ks at hs
    unfold endO at hs
    split at hs
    · rename_i l os' hvs hos
      generalize hb : ((nodupB (ks ++ (inls h ks ++ vs.flatMap conV)) && os'.all notTok) && (Nat.ble m 1000 && decide (ks.take m = List.range m))) = b at hs
      cases b
      · simp at hs
      · simp only [cond_true, Option.some.injEq, Prod.mk.injEq] at hs
        obtain ⟨rfl, rfl⟩ := hs
        simp only [Bool.and_eq_true, Nat.ble_eq, decide_eq_true_eq] at hb
        obtain ⟨⟨b1, hnt⟩, hm, htk⟩ := hb
        have hnd := nodupB_iff b1
        refine ⟨resV cvs, results_run hrun, resV cvs, γ1.ren (phiE h ks vs) (heapR (tupOf l) os'), D1, rfl, fun hok hr hk => ?_⟩
        have rE := end_ren (u := st.u) hR hnd hos hvs hok hr hnt hk
        obtain ⟨m1, m2⟩ := mapO_spec hvs
        have hl : ∀ v ∈ l, ∀ vs', v ≠ .tup vs' := fun v hv => by
          obtain ⟨j, hj⟩ := List.getElem?_of_mem hv
          obtain ⟨x, _, g⟩ := m2 j v hj
          exact (outV_cells g).1
        have hlen : cvs.length = l.length := by rw [hR.get.1, m1, List.length_map]
        have hrep : ∀ j v' y, l[j]? = some v' → cvs[j]? = some y → RepB (γ1.ren (phiE h ks vs) (heapR (tupOf l) os')) (heapR (tupOf l) os') (keys (heapR (tupOf l) os')) w D1 (inV (fun n => n) (rrd0 j) v') y := fun j v' y g1 g2 => by
          obtain ⟨x, g3, g4⟩ := m2 j v' g1
          rw [List.getElem?_map, Option.map_eq_some_iff] at g3
          obtain ⟨v, g3, rfl⟩ := g3
          have hx := hR.at g3 g2
          exact end_rep (fun k m e => by simp only [phiE, phi_idx e]) (fun i k t hc hge => phiE_con hnd g3 hc hge) (rE.repB hx) hx g4
        have hself : ∀ {k}, k < m → phiE h ks vs k = some k := fun {k} hkm => by
          have e1 : ks[k]? = some k := by
            have : (ks.take m)[k]? = (List.range m)[k]? := by rw [htk]
            rw [List.getElem?_take, if_pos hkm] at this
            rw [this]
            simp [hkm]
          have := idxOf_at (i := 0) (List.nodup_append.1 hnd).1 e1
          rw [Nat.zero_add] at this
          simp only [phiE, phi_idx this]
        refine ⟨rE.hok hi1.hp, ?_, ?_⟩
        · match l, cvs, hlen, hl, hrep with
          | [], [], _, _, _ => exact ⟨#[], rfl, rfl, by simp [inVs]⟩
          | [v'], [y], _, hl, hrep =>
            have := hrep 0 v' y rfl rfl
            have e2 : inR (fun n => n) rrd0 (tupOf [v']) = inV (fun n => n) (rrd0 0) v' := by
              have := hl v' (by simp)
              show inR (fun n => n) rrd0 v' = _
              cases v' <;> first | rfl | exact absurd rfl (this _)
            rw [e2]
            exact this.v
          | v1 :: v2 :: l', y1 :: y2 :: cvs', hlen, _, hrep =>
            refine ⟨(y1 :: y2 :: cvs').toArray, rfl, ?_, fun i c' x g1 g2 => ?_⟩
            · rw [inVs_len]; simpa using hlen
            · rw [inVs_get, Option.map_eq_some_iff] at g1
              obtain ⟨v', g1, rfl⟩ := g1
              rw [Nat.zero_add]
              exact hrep i v' x g1 (by simpa using g2)
        · refine ⟨hi1.os, hi1.tape, hi1.output, hi1.size, hi1.block, hi1.lg, fun b k ho => ?_, hi1.dd, hi1.dl, fun k hkm cs e => ?_, fun k hkm t xs e => ?_, fun k hkm t xs e => ?_⟩
          · obtain ⟨k0, h1, _⟩ := Ren.own ho
            exact hi1.ow b k0 h1
          · have hf := hself hkm
            obtain ⟨cs1, h1, _⟩ := rE.box hf e
            obtain ⟨h2, h3⟩ := hi1.ob k (by omega) cs1 h1
            exact ⟨h2, by rw [rE.g hf]; exact h3⟩
          · have hf := hself hkm
            obtain ⟨h2, h3, h4⟩ := hi1.or k (by omega) t xs (rE.row hf e)
            refine ⟨h2, by rw [rE.g hf]; exact h3, fun ho => ?_⟩
            rw [rE.g hf] at ho ⊢
            exact Ren.own_of (h4 ho) hf (by rw [e]; simp)
          · have hf := hself hkm
            exact hi1.ofz k (by omega) t xs (rE.fz hf e)
    · simp at hs
  · simp at hs

/-- A function's text: its code, its name. -/
structure FnOk (P : Program) (tb : Tb) (f : Nat) (fx : Fx) : Prop where
  fn : P.funcs[f]? = some fx.fn
  name : (fx.fn.name == "runtime.NumGoroutine") = false
  code : ∀ c, fx.fn.body = some c → CodeOk P tb c
/-- What a function answers, and that it does. -/
abbrev Over := List AV → List Ob → Q Ret
def OverOk (P : Program) (f : Nat) (g : Over) : Prop :=
  ∀ vs os r os', (g vs os).val = some (r, os') →
    (∃ fn, P.funcs[f]? = some fn ∧ (fn.name == "runtime.NumGoroutine") = false ∧ fn.body.isNone = false) ∧
    ∀ (c : Ctx) (args : Array Value), Pre c vs os args → Calls P f args c.w (Post c os.length r os')
/-- Functions by a table. -/
def tabF (l : List (Nat × Over)) : Fns := fun f vs os => match find f l with | some g => g vs os | none => .fail
omit [Reg] in
theorem find_mem' {α : Type _} {k : Nat} {v : α} : ∀ {l : List (Nat × α)}, AM.find k l = some v → (k, v) ∈ l
  | [], h => by simp [AM.find] at h
  | (m, u) :: r, h => by
    simp only [AM.find] at h
    split at h
    · rename_i e
      subst e
      simp only [Option.some.injEq] at h
      subst h
      simp
    · exact List.mem_cons_of_mem _ (find_mem' h)
theorem SoundF.tab {l : List (Nat × Over)} (h : ∀ p ∈ l, OverOk P (p.1 % 1000000) p.2) : SoundF P (tabF l) := by
  intro f vs os r os' hr
  unfold tabF at hr
  split at hr
  · rename_i g hg
    exact h (f, g) (find_mem' hg) vs os r os' hr
  · cases hr
theorem evFn_sound {F : Fns} (hF : SoundF P F) (hT : TbOk P tb) {f : Nat} {fx : Fx} (hfx : FnOk P tb f fx) {vs : List AV} {os : List Ob} {r : AV} {os' : List Ob} {n : Nat} (h : evFn F tb fx n vs os = some (r, os')) :
    (∃ fn, P.funcs[f]? = some fn ∧ (fn.name == "runtime.NumGoroutine") = false ∧ fn.body.isNone = false) ∧ ∀ (c : Ctx) (args : Array Value), Pre c vs os args → Calls P f args c.w (Post c os.length r os') := by
  unfold evFn at h
  split at h
  · rename_i cd hcd
    generalize hb : (Nat.beq vs.length (fx.fn.params.size + fx.fn.nfree) && Nat.ble (fx.fn.params.size + fx.fn.nfree) fx.fn.ntmps) = b at h
    cases b
    · simp at h
    · simp only [cond_true] at h
      simp only [Bool.and_eq_true, Nat.beq_eq, Nat.ble_eq] at hb
      refine ⟨⟨fx.fn, hfx.fn, hfx.name, by rw [hcd]; rfl⟩, fun c args hp => ?_⟩
      refine calls_of_wp hfx.fn hcd ?_
      have hE : EvOk P ⟨F, tb, fx.H⟩ := ⟨hF, hT⟩
      refine wp_mono (evC_sound hE fx cd (hfx.code cd hcd) n _ (r, os') _ _ _ _ _ (Inv.start (nt := fx.fn.ntmps) hp (by omega)) h) fun e a w' hq => ?_
      cases e with
      | normal => obtain ⟨γ, D', st, hI, hk⟩ := hq; exact end_sound hT hI hk
      | exit id => obtain ⟨γ, D', st, hI, hk⟩ := hq; simp [endK] at hk
      | ret => obtain ⟨γ, D', st, hI, hk⟩ := hq; exact end_sound hT hI hk
      | goto l => exact hq.elim
      | panic ch => exact hq.elim
      | outgrown => exact hq.elim
  · simp at h
/-- A function's answer, once shown, stands for the function. -/
theorem OverOk.of {F : Fns} (hF : SoundF P F) (hT : TbOk P tb) {f : Nat} {fx : Fx} (hfx : FnOk P tb f fx) {g : Over} (h : ∀ vs os r, (g vs os).val = some r → ∃ n, evFn F tb fx n vs os = some r) : OverOk P f g := by
  intro vs os r os' hg
  obtain ⟨n, hn⟩ := h vs os _ hg
  exact evFn_sound hF hT hfx hn
end
end
end Go.AM
