/- A part of the proof: machine and program. -/
import Derived.Test.YtpdifkaeiecdpaaAm13
namespace Go.AM
open Go.RowKit Go.Lib
section
variable [Reg]
section
variable {P : Program} {c : Ctx} {γ γ' γ'' : Gh} {D D' D'' : Dead} {st : St} {a : Act} {w w' w'' : World} {tb : Tb} {H : Hints} {h h' h'' : Heap} {u u' u'' : List Nat}

theorem phiE_con {ks : List Nat} {vs : List AV} (hnd : (ks ++ (inls h ks ++ vs.flatMap conV)).Nodup) {j i k t : Nat} {v : AV} (hv : vs[j]? = some v) (hc : v.cells[i]? = some (.vw k t)) (hge : 1000 ≤ k) : phiE h ks vs k = some (rrd0 j i) := by
  obtain ⟨n1, n2, n3⟩ := List.nodup_append.1 hnd
  obtain ⟨n4, n5, n6⟩ := List.nodup_append.1 n2
  have hix := conIx_at (m := 0) hge n5 hv hc
  have hcon : k ∈ vs.flatMap conV := List.mem_flatMap.2 ⟨v, List.mem_of_getElem? hv, List.mem_flatMap.2 ⟨.vw k t, List.mem_of_getElem? hc, by
    have hblt : Nat.blt k 1000 = false := by
      cases hb : Nat.blt k 1000 with
      | false => rfl
      | true => have := blt_iff.1 hb; omega
    simp [conC, hblt]⟩⟩
  have hphi : phi h ks k = none := by
    cases hp : phi h ks k with
    | none => rfl
    | some m =>
      rcases List.mem_append.1 (phi_mem hp) with hm | hm
      · exact absurd rfl (n3 k hm k (List.mem_append.2 (.inr hcon)))
      · exact absurd rfl (n6 k hm k hcon)
  simp only [phiE, hphi, if_neg (show ¬ k < 1000 by omega), hix, Nat.zero_add]

/-- What comes back. -/
theorem end_sound (hT : TbOk P tb) {fn : Func} {ow : List Nat} {m : Nat} {r : AV} {os : List Ob} (hi : Inv c γ D st a w) (hs : endA tb fn ow m st = some (r, os)) :
    a.defers = [] ∧ ∃ v, (results fn a.tmps).run P w = .ok v w ∧ Post c m r os (.returned v) w := by
  refine ⟨hi.dfr, ?_⟩
  unfold endA at hs
  split at hs
  · rename_i l0 hl0
    obtain ⟨cvs, hrun, hR0⟩ := rawA_sound hT hi hl0
    obtain ⟨γ1, D1, hi1, hR, _⟩ := finVs_sound (ow := ow) (p := 0) hi hR0
    generalize finVs ow 0 st.h l0 = q at hs hi1 hR
    obtain ⟨vs, h⟩ := q
    simp only at hs hi1 hR
    generalize reach (boxRefs h) 200 [] (List.range m ++ (vs.map (ownV h)).flatMap AV.refs) = ks at hs
    unfold endO at hs
    split at hs
    · rename_i l os' hvs hos
      generalize hb : ((nodupB (ks ++ (inls h ks ++ vs.flatMap conV)) && os'.all notTok) && (Nat.ble m 1000 && decide (ks.take m = List.range m))) = b at hs
      cases b
      · simp at hs
      · simp only [cond_true, Option.some.injEq, Prod.mk.injEq] at hs
        obtain ⟨rfl, rfl⟩ := hs
        simp only [Bool.and_eq_true, Nat.ble_eq, decide_eq_true_eq] at hb
        obtain ⟨⟨b1, hnt⟩, hm, htk⟩ := hb
        have hnd := nodupB_iff b1
        refine ⟨resV cvs, results_run hrun, resV cvs, γ1.ren (phiE h ks vs) (heapR (tupOf l) os'), D1, rfl, fun hok hr hk => ?_⟩
        have rE := end_ren (u := st.u) hR hnd hos hvs hok hr hnt hk
        obtain ⟨m1, m2⟩ := mapO_spec hvs
        have hl : ∀ v ∈ l, ∀ vs', v ≠ .tup vs' := fun v hv => by
          obtain ⟨j, hj⟩ := List.getElem?_of_mem hv
          obtain ⟨x, _, g⟩ := m2 j v hj
          exact (outV_cells g).1
        have hlen : cvs.length = l.length := by rw [hR.get.1, m1, List.length_map]
        have hrep : ∀ j v' y, l[j]? = some v' → cvs[j]? = some y → RepB (γ1.ren (phiE h ks vs) (heapR (tupOf l) os')) (heapR (tupOf l) os') (keys (heapR (tupOf l) os')) w D1 (inV (fun n => n) (rrd0 j) v') y := fun j v' y g1 g2 => by
          obtain ⟨x, g3, g4⟩ := m2 j v' g1
          rw [List.getElem?_map, Option.map_eq_some_iff] at g3
          obtain ⟨v, g3, rfl⟩ := g3
          have hx := hR.at g3 g2
          exact end_rep (fun k m e => by simp only [phiE, phi_idx e]) (fun i k t hc hge => phiE_con hnd g3 hc hge) (rE.repB hx) hx g4
        have hself : ∀ {k}, k < m → phiE h ks vs k = some k := fun {k} hkm => by
          have e1 : ks[k]? = some k := by
            have : (ks.take m)[k]? = (List.range m)[k]? := by rw [htk]
            rw [List.getElem?_take, if_pos hkm] at this
            rw [this]
            simp [hkm]
          have := idxOf_at (i := 0) (List.nodup_append.1 hnd).1 e1
          rw [Nat.zero_add] at this
          simp only [phiE, phi_idx this]
        refine ⟨rE.hok hi1.hp, ?_, ?_⟩
        · match l, cvs, hlen, hl, hrep with
          | [], [], _, _, _ => exact ⟨#[], rfl, rfl, by simp [inVs]⟩
          | [v'], [y], _, hl, hrep =>
            have := hrep 0 v' y rfl rfl
            have e2 : inR (fun n => n) rrd0 (tupOf [v']) = inV (fun n => n) (rrd0 0) v' := by
              have := hl v' (by simp)
              show inR (fun n => n) rrd0 v' = _
              cases v' <;> first | rfl | exact absurd rfl (this _)
            rw [e2]
            exact this.v
          | v1 :: v2 :: l', y1 :: y2 :: cvs', hlen, _, hrep =>
            refine ⟨(y1 :: y2 :: cvs').toArray, rfl, ?_, fun i c' x g1 g2 => ?_⟩
            · rw [inVs_len]; simpa using hlen
            · rw [inVs_get, Option.map_eq_some_iff] at g1
              obtain ⟨v', g1, rfl⟩ := g1
              rw [Nat.zero_add]
              exact hrep i v' x g1 (by simpa using g2)
        · refine ⟨hi1.os, hi1.tape, hi1.output, hi1.size, hi1.block, hi1.lg, fun b k ho => ?_, hi1.dd, hi1.dl, fun k hkm cs e => ?_, fun k hkm t xs e => ?_, fun k hkm t xs e => ?_⟩
          · obtain ⟨k0, h1, _⟩ := Ren.own ho
            exact hi1.ow b k0 h1
          · have hf := hself hkm
            obtain ⟨cs1, h1, _⟩ := rE.box hf e
            obtain ⟨h2, h3⟩ := hi1.ob k (by omega) cs1 h1
            exact ⟨h2, by rw [rE.g hf]; exact h3⟩
          · have hf := hself hkm
            obtain ⟨h2, h3, h4⟩ := hi1.or k (by omega) t xs (rE.row hf e)
            refine ⟨h2, by rw [rE.g hf]; exact h3, fun ho => ?_⟩
            rw [rE.g hf] at ho ⊢
            exact Ren.own_of (h4 ho) hf (by rw [e]; simp)
          · have hf := hself hkm
            exact hi1.ofz k (by omega) t xs (rE.fz hf e)
    · simp at hs
  · simp at hs

/-- A function's text: its code, its name. -/
structure FnOk (P : Program) (tb : Tb) (f : Nat) (fx : Fx) : Prop where
  fn : P.funcs[f]? = some fx.fn
  name : (fx.fn.name == "runtime.NumGoroutine") = false
  code : ∀ c, fx.fn.body = some c → CodeOk P tb c
/-- What a function answers, and that it does. -/
abbrev Over := List AV → List Ob → Q Ret
def OverOk (P : Program) (f : Nat) (g : Over) : Prop :=
  ∀ vs os r os', (g vs os).val = some (r, os') →
    (∃ fn, P.funcs[f]? = some fn ∧ (fn.name == "runtime.NumGoroutine") = false ∧ fn.body.isNone = false) ∧
    ∀ (c : Ctx) (args : Array Value), Pre c vs os args → Calls P f args c.w (Post c os.length r os')
/-- Functions by a table. -/
def tabF (l : List (Nat × Over)) : Fns := fun f vs os => match find f l with | some g => g vs os | none => .fail
omit [Reg] in
theorem find_mem' {α : Type _} {k : Nat} {v : α} : ∀ {l : List (Nat × α)}, AM.find k l = some v → (k, v) ∈ l
  | [], h => by simp [AM.find] at h
  | (m, u) :: r, h => by
    simp only [AM.find] at h
    split at h
    · rename_i e
      subst e
      simp only [Option.some.injEq] at h
      subst h
      simp
    · exact List.mem_cons_of_mem _ (find_mem' h)
theorem SoundF.tab {l : List (Nat × Over)} (h : ∀ p ∈ l, OverOk P (p.1 % 1000000) p.2) : SoundF P (tabF l) := by
  intro f vs os r os' hr
  unfold tabF at hr
  split at hr
  · rename_i g hg
    exact h (f, g) (find_mem' hg) vs os r os' hr
  · cases hr
theorem evFn_sound {F : Fns} (hF : SoundF P F) (hT : TbOk P tb) {f : Nat} {fx : Fx} (hfx : FnOk P tb f fx) {vs : List AV} {os : List Ob} {r : AV} {os' : List Ob} {n : Nat} (h : evFn F tb fx n vs os = some (r, os')) :
    (∃ fn, P.funcs[f]? = some fn ∧ (fn.name == "runtime.NumGoroutine") = false ∧ fn.body.isNone = false) ∧ ∀ (c : Ctx) (args : Array Value), Pre c vs os args → Calls P f args c.w (Post c os.length r os') := by
  unfold evFn at h
  split at h
  · rename_i cd hcd
    generalize hb : (Nat.beq vs.length (fx.fn.params.size + fx.fn.nfree) && Nat.ble (fx.fn.params.size + fx.fn.nfree) fx.fn.ntmps) = b at h
    cases b
    · simp at h
    · simp only [cond_true] at h
      simp only [Bool.and_eq_true, Nat.beq_eq, Nat.ble_eq] at hb
      refine ⟨⟨fx.fn, hfx.fn, hfx.name, by rw [hcd]; rfl⟩, fun c args hp => ?_⟩
      refine calls_of_wp hfx.fn hcd ?_
      have hE : EvOk P ⟨F, tb, fx.H⟩ := ⟨hF, hT⟩
      refine wp_mono (evC_sound hE fx cd (hfx.code cd hcd) n _ (r, os') _ _ _ _ _ (Inv.start (nt := fx.fn.ntmps) hp (by omega)) h) fun e a w' hq => ?_
      cases e with
      | normal => obtain ⟨γ, D', st, hI, hk⟩ := hq; exact end_sound hT hI hk
      | exit id => obtain ⟨γ, D', st, hI, hk⟩ := hq; simp [endK] at hk
      | ret => obtain ⟨γ, D', st, hI, hk⟩ := hq; exact end_sound hT hI hk
      | goto l => exact hq.elim
      | panic ch => exact hq.elim
      | outgrown => exact hq.elim
  · simp at h
/-- A function's answer, once shown, stands for the function. -/
theorem OverOk.of {F : Fns} (hF : SoundF P F) (hT : TbOk P tb) {f : Nat} {fx : Fx} (hfx : FnOk P tb f fx) {g : Over} (h : ∀ vs os r, (g vs os).val = some r → ∃ n, evFn F tb fx n vs os = some r) : OverOk P f g := by
  intro vs os r os' hg
  obtain ⟨n, hn⟩ := h vs os _ hg
  exact evFn_sound hF hT hfx hn
end
end
end Go.AM
namespace Go.AM
open Go.RowKit Go.Lib
section
variable [Reg]
section
variable {tb : Tb} {H : Hints} {h h' : Heap} {u : List Nat} {ev ev2 : Operand → AV} {op : Op}

theorem fillParts_congr {fs : List (Nat × Nat)} : ∀ {ps : List (Nat × Operand)} {cs : List AV}, (∀ p ∈ ps, ev2 p.2 = ev p.2) → fillParts tb fs ev2 cs ps = fillParts tb fs ev cs ps
  | [], cs, _ => rfl
  | (i, x) :: r, cs, h => by
    have h1 := h (i, x) (by simp)
    have ih := fun cs => fillParts_congr (fs := fs) (ps := r) (cs := cs) fun p hp => h p (by simp [hp])
    simp only [fillParts, ih]
    simp only at h1
    rw [h1]
theorem optmap_congr {lo : Option Operand} (h : ∀ x, lo = some x → ev2 x = ev x) : lo.map ev2 = lo.map ev := by
  cases lo with
  | none => rfl
  | some x => simp [h x rfl]
theorem args_congr {args : Array Operand} (h : ∀ x ∈ args.toList, ev2 x = ev x) : args.toList.map ev2 = args.toList.map ev := List.map_congr_left h

theorem pure_congr (h : ∀ x ∈ op.operands.toList, ev2 x = ev x) : pureQ tb ev2 op = pureQ tb ev op := by
  cases op with
  | build t ps =>
    have h' : ∀ p ∈ ps.toList, ev2 p.2 = ev p.2 := fun p hp => h p.2 (by simp only [Op.operands, List.toList_toArray]; exact List.mem_map_of_mem hp)
    simp only [pureQ, fillParts_congr h']
  | buildSlice t n ps =>
    have h' : ∀ p ∈ ps.toList, ev2 p.2 = ev p.2 := fun p hp => h p.2 (by simp only [Op.operands, List.toList_toArray]; exact List.mem_map_of_mem hp)
    simp only [pureQ, fillParts_congr h']
  | call c =>
    obtain ⟨callee, args, ts⟩ := c
    have h' : args.toList.map ev2 = args.toList.map ev := List.map_congr_left fun x hx => h x (by simp only [Op.operands, Call.operands]; cases callee <;> simp [Array.mem_toList_iff.1 hx])
    cases callee with
    | builtin b => simp only [pureQ, h']
    | value f => rfl
    | invoke f n => rfl
  | makeFunc f first cap =>
    have h' : cap.toList.map ev2 = cap.toList.map ev := List.map_congr_left fun x hx => h x (by simp only [Op.operands]; simp [Array.mem_toList_iff.1 hx])
    cases f <;> simp only [pureQ, h']
  | _ =>
    simp [Op.operands] at h
    simp only [pureQ, h]
theorem look_congr (h : ∀ x ∈ op.operands.toList, ev2 x = ev x) {hp : Heap} : lookQ tb ev2 hp op = lookQ tb ev hp op := by
  cases op with
  | slice t x lo hi mx =>
    have hx : ev2 x = ev x := h x (by simp [Op.operands])
    have h1 := optmap_congr (ev := ev) (ev2 := ev2) (lo := lo) fun y hy => h y (by subst hy; simp [Op.operands])
    have h2 := optmap_congr (ev := ev) (ev2 := ev2) (lo := hi) fun y hy => h y (by subst hy; simp [Op.operands])
    have h3 := optmap_congr (ev := ev) (ev2 := ev2) (lo := mx) fun y hy => h y (by subst hy; simp [Op.operands])
    simp only [lookQ, hx, h1, h2, h3]
  | call c =>
    obtain ⟨callee, args, ts⟩ := c
    have h' : args.toList.map ev2 = args.toList.map ev := List.map_congr_left fun x hx => h x (by simp only [Op.operands, Call.operands]; cases callee <;> simp [Array.mem_toList_iff.1 hx])
    cases callee with
    | builtin b => simp only [lookQ, h']
    | value f => rfl
    | invoke f n => rfl
  | load t x => simp [Op.operands] at h; simp only [lookQ, h]
  | convert s d x => simp [Op.operands] at h; simp only [lookQ, h]
  | indexAddr t x i => simp [Op.operands] at h; simp only [lookQ, h]
  | _ => rfl
theorem eff_congr (h : ∀ x ∈ op.operands.toList, ev2 x = ev x) {hp : Heap} {dst : Option Nat} : effQ tb H ev2 hp u dst op = effQ tb H ev hp u dst op := by
  cases op with
  | call c =>
    obtain ⟨callee, args, ts⟩ := c
    have h' : args.toList.map ev2 = args.toList.map ev := List.map_congr_left fun x hx => h x (by simp only [Op.operands, Call.operands]; cases callee <;> simp [Array.mem_toList_iff.1 hx])
    cases callee with
    | builtin b => simp only [effQ, h']
    | value f => rfl
    | invoke f n => rfl
  | box e x => simp [Op.operands] at h; simp only [effQ, h]
  | store t x v => simp [Op.operands] at h; simp only [effQ, h]
  | makeInterface t x => simp [Op.operands] at h; simp only [effQ, h]
  | convert s d x => simp [Op.operands] at h; simp only [effQ, h]
  | makeSlice t l m => simp [Op.operands] at h; simp only [effQ, h]
  | _ => rfl

theorem asSv_congr {v : AV} (hk : ∀ k, keyOf v = some k → find k h' = find k h) : asSv h' v = asSv h v := by
  cases v <;> first | rfl | skip
  all_goals (simp only [keyOf, Option.some.injEq, forall_eq'] at hk; simp only [asSv, vwN, rowAt, hk])
theorem look_frame {e : AV × Option Nat} (hv : (lookQ tb ev h op).val = some e) (hk : ∀ k, e.2 = some k → find k h' = find k h) : (lookQ tb ev h' op).val = some e := by
  cases op with
  | load t x =>
    unfold lookQ at hv ⊢
    simp only at hv ⊢
    split at hv
    · cases hv
    · split at hv
      · split at hv
        · split at hv
          · cases hv
            rename_i hx _ _ hf _ _ hp
            have := hk _ rfl
            simp only [this, hf, hp]
            rfl
          · cases hv
        · cases hv
      · exact hv
      · split at hv
        · split at hv
          · rename_i hr hu
            obtain ⟨y, h1, h2⟩ := Q.val_get hv
            split at h2
            · rename_i hp
              cases h2
              have := hk _ rfl
              have e2 : ∀ k, find k h' = find k h → rowAt h' k = rowAt h k := fun k e => by unfold rowAt; rw [e]
              simp only [e2 _ this, hr, if_pos hu]
              subst hu
              simp only [Q.val, Q.run, getO, h1, hp]
            · cases h2
          · cases hv
        · cases hv
      · cases hv
  | convert s d x =>
    unfold lookQ at hv ⊢
    simp only at hv ⊢
    split at hv
    · split at hv
      · rename_i k hkk
        split at hv
        · split at hv
          · rename_i l hl
            split at hv
            · rename_i hc
              cases hv
              have := hk _ rfl
              have e2 : elemsOf h' _ (ev x) = some l := by
                rw [← hl]
                generalize ev x = X at hkk
                cases X <;> simp only [keyOf, reduceCtorEq, Option.some.injEq] at hkk <;> (subst hkk; simp only [elemsOf, rowAt, this])
              simp only [e2, if_pos hc]
              rfl
            · cases hv
          · cases hv
        · cases hv
      · exact hv
    · cases hv
  | slice t x lo hi mx =>
    unfold lookQ at hv ⊢
    simp only at hv ⊢
    obtain ⟨v, h1, h2⟩ := Q.val_bind hv
    cases h2
    rw [asSv_congr (h' := h') (h := h) hk]
    exact hv
  | indexAddr t x i =>
    unfold lookQ at hv ⊢
    simp only at hv ⊢
    split at hv
    · obtain ⟨v, h1, h2⟩ := Q.val_bind hv
      cases h2
      rw [asSv_congr (h' := h') (h := h) hk]
      exact hv
    · cases hv
  | call c =>
    obtain ⟨callee, args, ts⟩ := c
    cases callee with
    | builtin b =>
      unfold lookQ at hv ⊢
      simp only at hv ⊢
      split at hv
      · rename_i t x hts hargs
        have key : e.2 = keyOf x := by
          split at hv
          · split at hv
            · cases hv; rfl
            · cases hv; rfl
            · cases hv; rfl
            · split at hv
              · cases hv; rfl
              · cases hv
            · cases hv; rfl
            · cases hv
          · cases hv
        rw [key] at hk
        rw [asSv_congr (h' := h') (h := h) hk]
        exact hv
      · exact hv
      · cases hv
    | _ => cases hv
  | _ => cases hv
end
end
end Go.AM
set_option linter.unusedSimpArgs false
namespace Go.AM
open Go.RowKit Go.Lib
section
variable [Reg]
section
variable {tb : Tb} {H : Hints} {h h' : Heap} {u : List Nat} {ev ev2 : Operand → AV} {op : Op} {dst : Option Nat}

omit [Reg] in
theorem bif_val {α : Type} {b : Bool} {q : Q α} {e : α} (h : (bif b then q else .fail).val = some e) : q.val = some e := by
  cases b
  · cases h
  · exact h
/-- All but what is noted is as it was. -/
abbrev Kept (h : Heap) (e : Eff) : Prop := ∀ k, k ∉ e.2.2.2 → find k e.2.1 = find k h
theorem boxRows_kept : ∀ {l : List (Nat × Nat)} {cs : List AV} {h : Heap} {u : List Nat} {r : List AV × Heap × List Nat}, boxRows dst l cs h u = some r → ∀ k, k ∉ l.map (fun p => nk dst (p.1 + 1)) → find k r.2.1 = find k h
  | [], cs, h, u, r, e => by
    simp only [boxRows, Option.some.injEq] at e
    subst e
    exact fun _ _ => rfl
  | (off, t) :: l, cs, h, u, r, e => by
    intro k hk
    simp only [List.map_cons, List.mem_cons, not_or] at hk
    unfold boxRows at e
    split at e
    · generalize isNew u (nk dst (off + 1)) = b at e
      cases b
      · simp at e
      · simp only [cond_true] at e
        rw [boxRows_kept e k hk.2, find_put, if_neg hk.1]
    · exact boxRows_kept e k hk.2
theorem newBox_kept {e : Nat} {cs : List AV} {r : Eff} (hr : (newBox H h u dst e cs).val = some r) : Kept h r := by
  unfold newBox at hr
  have hr := bif_val hr
  split at hr
  · rename_i cs' h' u' hb
    have hr := bif_val hr
    cases hr
    intro k hk
    have key : (match find e H.rb with | some l => l.map fun p : Nat × Nat => nk dst (p.1 + 1) | none => []) = (match find e H.rb with | some l => l | none => []).map fun p : Nat × Nat => nk dst (p.1 + 1) := by cases find e H.rb <;> rfl
    simp only [List.mem_cons, not_or] at hk
    rw [find_put, if_neg hk.1]
    refine boxRows_kept hb k fun hm => hk.2 (Eq.mpr (congrArg (k ∈ ·) key) hm)
  · cases hr
theorem newRow_kept {t : Nat} {xs : List (R t)} {v : AV} {r : Eff} (hr : (newRow h u dst t xs v).val = some r) : Kept h r := by
  unfold newRow at hr
  have hr := bif_val hr
  cases hr
  intro k hk
  simp only [List.mem_cons, not_or] at hk
  rw [find_put, if_neg hk.1]
theorem append_kept {e : Nat} {ti : TI} {x : AV} {ys : List (R e)} {wr : List Nat} {r : Eff} (hr : (appendQ tb H h u dst e ti x ys wr).val = some r) : Kept h r := by
  unfold appendQ at hr
  have hr := bif_val hr
  split at hr
  · generalize flag H dst 0 = b at hr
    cases b
    · obtain ⟨_, hr⟩ := Q.val_ask (bif_val hr)
      cases hr
      (intro k hk; simp only [List.mem_cons, List.not_mem_nil, or_false, not_or] at hk; simp only [find_put, find_del, hk, if_false])
    · exact newRow_kept (Q.val_ask hr).2
  · generalize flag H dst 0 = b at hr
    cases b
    · simp only [cond_false] at hr
      split at hr
      · obtain ⟨_, hr⟩ := Q.val_ask (bif_val hr)
        cases hr
        (intro k hk; simp only [List.mem_cons, List.not_mem_nil, or_false, not_or] at hk; simp only [find_put, find_del, hk, if_false])
      · cases hr
    · simp only [cond_true] at hr
      split at hr
      · exact newRow_kept (Q.val_ask hr).2
      · cases hr
  · split at hr
    · obtain ⟨_, hr⟩ := Q.val_ask (bif_val hr)
      cases hr
      (intro k hk; simp only [List.mem_cons, List.not_mem_nil, or_false, not_or] at hk; simp only [find_put, find_del, hk, if_false])
    · cases hr
  · split at hr
    · split at hr
      · split at hr
        · obtain ⟨_, hr⟩ := Q.val_ask (bif_val hr)
          cases hr
          (intro k hk; simp only [List.mem_cons, List.not_mem_nil, or_false, not_or] at hk; simp only [find_put, find_del, hk, if_false])
        · cases hr
      · cases hr
    · cases hr
  · split at hr
    · split at hr
      · split at hr
        · obtain ⟨_, hr⟩ := Q.val_ask hr
          cases hr
          (intro k hk; simp only [List.mem_cons, List.not_mem_nil, or_false, not_or] at hk; simp only [find_put, find_del, hk, if_false])
        · cases hr
      · cases hr
    · cases hr
  · cases hr
theorem store_kept {t : Nat} {x v : AV} {r : Eff} (hr : (storeQ tb H h u dst t x v).val = some r) : Kept h r := by
  unfold storeQ at hr
  split at hr
  · cases hr
  · split at hr
    · split at hr
      · split at hr
        · have hr := bif_val hr
          cases hr
          (intro k hk; simp only [List.mem_cons, List.not_mem_nil, or_false, not_or] at hk; simp only [find_put, find_del, hk, if_false])
        · have hr := bif_val hr
          cases hr
          (intro k hk; simp only [List.mem_cons, List.not_mem_nil, or_false, not_or] at hk; simp only [find_put, find_del, hk, if_false])
      · cases hr
    · split at hr
      · split at hr
        · obtain ⟨y, _, hr⟩ := Q.val_get hr
          split at hr
          · cases hr
            (intro k hk; simp only [List.mem_cons, List.not_mem_nil, or_false, not_or] at hk; simp only [find_put, find_del, hk, if_false])
          · cases hr
        · cases hr
      · cases hr
    · cases hr
theorem eff_kept {r : Eff} (hr : (effQ tb H ev h u dst op).val = some r) : Kept h r := by
  cases op with
  | alloc e =>
    unfold effQ at hr
    simp only at hr
    split at hr
    · split at hr
      · rename_i n e' _
        generalize Nat.blt 16 n = b at hr
        cases b
        · exact newBox_kept hr
        · simp only [cond_true] at hr
          split at hr
          · split at hr
            · split at hr
              · exact newRow_kept (bif_val hr)
              · cases hr
            · cases hr
          · cases hr
      · exact newBox_kept hr
    · cases hr
  | box e x => exact newBox_kept hr
  | store t x v => exact store_kept (dst := dst) hr
  | makeInterface t x =>
    unfold effQ at hr
    simp only at hr
    split at hr
    · split at hr
      · have hr := bif_val hr
        split at hr
        · cases hr; (intro k hk; simp only [List.mem_cons, List.not_mem_nil, or_false, not_or] at hk; simp only [find_put, find_del, hk, if_false])
        · cases hr
      · cases hr
    · cases hr; (intro k hk; simp only [List.mem_cons, List.not_mem_nil, or_false, not_or] at hk; simp only [find_put, find_del, hk, if_false])
    · cases hr
  | convert s d x =>
    unfold effQ at hr
    simp only at hr
    split at hr
    · split at hr
      · split at hr
        · obtain ⟨_, hr⟩ := Q.val_ask (bif_val hr)
          cases hr; (intro k hk; simp only [List.mem_cons, List.not_mem_nil, or_false, not_or] at hk; simp only [find_put, find_del, hk, if_false])
        · cases hr
      · cases hr
    · cases hr
  | makeSlice t l m =>
    unfold effQ at hr
    simp only at hr
    split at hr
    · split at hr
      · split at hr
        · obtain ⟨_, hr⟩ := Q.val_ask (bif_val hr)
          generalize flag H dst 0 = b at hr
          cases b
          · cases hr; (intro k hk; simp only [List.mem_cons, List.not_mem_nil, or_false, not_or] at hk; simp only [find_put, find_del, hk, if_false])
          · exact newRow_kept hr
        · cases hr
      · cases hr
    · cases hr
  | call c =>
    obtain ⟨callee, args, ts⟩ := c
    cases callee with
    | builtin b =>
      unfold effQ at hr
      simp only at hr
      split at hr
      · split at hr
        · split at hr
          · exact append_kept hr
          · cases hr
        · cases hr
      · cases hr
    | _ => cases hr
  | _ => cases hr

theorem frC_kept {k : Nat} {c : AV} (hk : k ∉ c.refs1) : find k (frC h c).2 = find k h := by
  unfold frC
  split
  · simp only [AV.refs1, List.mem_singleton] at hk
    split
    · split
      · rw [find_put, if_neg hk]
      · rfl
    · split <;> rfl
    · rfl
  · simp only [AV.refs1, List.mem_singleton] at hk
    split
    · split
      · rw [find_put, if_neg hk]
      · rfl
    · split <;> rfl
    · rfl
  · rfl
theorem frCs_kept {k : Nat} : ∀ {cs : List AV} {h : Heap}, k ∉ cs.flatMap AV.refs1 → find k (frCs h cs).2 = find k h
  | [], h, _ => rfl
  | c :: r, h, hk => by
    simp only [List.flatMap_cons, List.mem_append, not_or] at hk
    show find k (frCs (frC h c).2 r).2 = _
    rw [frCs_kept hk.2, frC_kept hk.1]
theorem frV_kept {k : Nat} {v : AV} (hk : k ∉ v.refs) : find k (frV h v).2 = find k h := by
  by_cases hv : ∃ cs, v = .agg cs
  · obtain ⟨cs, rfl⟩ := hv
    exact frCs_kept (cs := cs) hk
  · have h1 : v.refs = v.refs1 ∨ v.refs = [] ∨ True := .inr (.inr trivial)
    have hc : v.cells = [v] := by cases v <;> first | rfl | exact absurd ⟨_, rfl⟩ hv
    have hf : (frV h v).2 = (frC h v).2 := by cases v <;> first | rfl | exact absurd ⟨_, rfl⟩ hv
    rw [hf]
    refine frC_kept ?_
    unfold AV.refs at hk
    rw [hc] at hk
    simpa using hk
theorem frVs_kept {k : Nat} : ∀ {vs : List AV} {h : Heap}, k ∉ vs.flatMap AV.refs → find k (frVs h vs).2 = find k h
  | [], h, _ => rfl
  | v :: r, h, hk => by
    simp only [List.flatMap_cons, List.mem_append, not_or] at hk
    show find k (frVs (frV h v).2 r).2 = _
    rw [frVs_kept hk.2, frV_kept hk.1]
theorem go_kept {F : Fns} {n : Nat} {as : List AV} {ks : List Nat} {e : Eff} (hs : (goQ F H u dst n h as ks).val = some e) : Kept h e := by
  unfold goQ at hs
  split at hs
  · obtain ⟨⟨r, os'⟩, _, hs⟩ := Q.val_bind (bif_val hs)
    unfold backQ at hs
    generalize hb : ((objsOk os' && resOk r) && (nodupB ((backL dst ks r os').map (·.1)) && ((newsOf ks (backL dst ks r os')).all (isNew u) && ks.all (far dst)))) = b at hs
    cases b
    · cases hs
    · simp only [cond_true] at hs
      simp only [Bool.and_eq_true] at hb
      cases hs
      intro k hk
      simp only [List.mem_append, not_or] at hk
      obtain ⟨k1, k2, k3⟩ := hk
      rw [find_addAll (nodupB_iff hb.2.1), find_delAll, if_neg (by simp [k2, k3])]
      cases hf : find k (backL dst ks r os') with
      | none => rfl
      | some o =>
        have : k ∈ keys (backL dst ks r os') := find_keys.1 (by rw [hf]; simp)
        exact absurd (List.mem_filter.2 ⟨this, by simp [k2]⟩) k1
  · cases hs
theorem call_kept {F : Fns} {f : AV} {args : List AV} {e : Eff} (hs : (callQ F H h u dst f args).val = some e) : Kept h e := by
  unfold callQ at hs
  split at hs
  · have hs := bif_val hs
    generalize flag H dst 2 = b at hs
    cases b
    · obtain ⟨e', hs', h0⟩ := Q.val_bind hs
      cases h0
      intro k hk
      simp only [cond_false, List.mem_append, not_or] at hk
      rw [go_kept hs' k hk.2, frVs_kept hk.1]
    · obtain ⟨e', hs', h0⟩ := Q.val_bind hs
      cases h0
      intro k hk
      exact go_kept hs' k hk
  · cases hs
end
end
end Go.AM
