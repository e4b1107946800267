/- A part of the proof: machine and program. -/
import Derived.Test.YtpdifkaeiecdpaaAm12
import Derived.LoopN
namespace Go.AM
open Go.RowKit Go.Lib
section
variable [Reg]
section
variable {P : Program} {c : Ctx} {γ γ' γ'' : Gh} {D D' D'' : Dead} {st : St} {a : Act} {w w' w'' : World} {tb : Tb} {H : Hints} {h h' h'' : Heap} {u u' u'' : List Nat}

theorem RepLs.at {Q : AV → Value → Prop} {cs : List AV} {vs : List Value} (h : RepLs Q cs vs) {i : Nat} {c : AV} {v : Value} (h1 : cs[i]? = some c) (h2 : vs[i]? = some v) : Q c v := h.get.2 i c v h1 h2
theorem RepLs.append {Q : AV → Value → Prop} : ∀ {cs cs' : List AV} {vs vs' : List Value}, RepLs Q cs vs → RepLs Q cs' vs' → RepLs Q (cs ++ cs') (vs ++ vs')
  | [], _, [], _, _, h => h
  | [], _, _ :: _, _, h, _ => h.elim
  | _ :: _, _, [], _, h, _ => h.elim
  | _c :: _cs, _, _v :: _vs, _, h, h' => ⟨h.1, RepLs.append h.2 h'⟩

theorem go_sound {F : Fns} (hF : SoundF P F) {o : Oper} (hi : Inv c γ D st a w) {n : Nat} {as : List AV} {cvs : Array Value} {ks : List Nat} {e : Eff}
    (hR : RepLs (RepB γ st.h st.u w D) as cvs.toList) (hs : (goQ F H st.u o.dst n st.h as ks).val = some e)
    (hx0 : (∃ fn, P.funcs[n]? = some fn ∧ (fn.name == "runtime.NumGoroutine") = false ∧ fn.body.isNone = false) → (execOp a.eval o).run P w = .ok (.enter n cvs) w)
    {next : Act → World → Prop} {T : Exit → Act → World → Prop} (hn : ∀ cv w' γ' D', Inv c γ' D' ({ st with h := e.2.1, u := e.2.2.1 }.put o.dst e.1) (a.put o.dst cv) w' → next (a.put o.dst cv) w') : o.wp P a w next T := by
  unfold goQ at hs
  split at hs
  · rename_i vs os hvs hos
    generalize hb : ((nodupB (ks ++ inls st.h ks) && Nat.blt n 1000000) && (objsOk os && (nodupB ((heap0 os).map (·.1)) && os.all notTok))) = b at hs
    cases b
    · cases hs
    · simp only [cond_true] at hs
      simp only [Bool.and_eq_true] at hb
      obtain ⟨⟨b1, b2⟩, b3, b4, b5⟩ := hb
      obtain ⟨⟨r, os'⟩, hr, hs⟩ := Q.val_bind hs
      unfold backQ at hs
      generalize hb : ((objsOk os' && resOk r) && (nodupB ((backL o.dst ks r os').map (·.1)) && ((newsOf ks (backL o.dst ks r os')).all (isNew st.u) && ks.all (far o.dst)))) = b at hs
      cases b
      · cases hs
      · simp only [cond_true] at hs
        simp only [Bool.and_eq_true] at hb
        obtain ⟨⟨c1, c2⟩, c3, c4, c5⟩ := hb
        cases hs
        have hnd := nodupB_iff b1
        have hnl := nodupB_iff c3
        have hn0 := nodupB_iff b4
        obtain ⟨hfn, hcall⟩ := hF _ _ _ _ _ hr
        have hmod : (n + ownN H o.dst) % 1000000 = n := by
          have := blt_iff.1 b2
          unfold ownN
          cases flag H o.dst 3 <;> simp <;> omega
        rw [hmod] at hfn hcall
        have rO := ren_out (u := st.u) hnd hos b3 hn0 b5
        have hC := hcall ⟨w, D, γ.ren (phi st.h ks) (heap0 os), heap0 os⟩ cvs ⟨rfl, hn0, b5, rO.hok hi.hp, hi.dl, by
            rw [(mapO_spec hvs).1, ← hR.get.1]; simp, fun i v cv h1 h2 => by
            obtain ⟨x, g1, g2⟩ := (mapO_spec hvs).2 i v h1
            exact outV_rep (f := phi st.h ks) (fun k m => phi_idx) g2 (rO.repB (hR.at g1 (by simpa using h2)))⟩
        unfold Oper.wp
        rw [hx0 hfn, Oper.upon_enter]
        refine hC.mono fun e w' hp => ?_
        obtain ⟨cv, γ', D', rfl, hp⟩ := hp
        obtain ⟨_, hnR⟩ := ren_back (dst := o.dst) (ks := ks) c1 c2 hnl
        obtain ⟨p1, p2, p3⟩ := hp c1 c2 hnR
        obtain ⟨γf, s, hv⟩ := back_stp hi hnd hos b3 hn0 b5 c1 c2 hnl c4 c5 p1 p3
        exact hn cv w' γf D' ((hi.step s).put (hv cv p2) o.dst)
  · cases hs

theorem call_sound {F : Fns} (hF : SoundF P F) {o : Oper} (hi : Inv c γ D st a w) {f : Operand} {args : Array Operand} {ts : Array Nat} (ho : o.op = .call { callee := .value f, args := args, argTypes := ts }) {e : Eff}
    (hs : (callQ F H st.h st.u o.dst (st.ev f) (args.toList.map st.ev)).val = some e) {next : Act → World → Prop} {T : Exit → Act → World → Prop} (hn : ∀ cv w' γ' D', Inv c γ' D' ({ st with h := e.2.1, u := e.2.2.1 }.put o.dst e.1) (a.put o.dst cv) w' → next (a.put o.dst cv) w') : o.wp P a w next T := by
  unfold callQ at hs
  split at hs
  · rename_i n caps hf
    cases hnt : (args.toList.map st.ev).all notTup with
    | false => rw [hnt] at hs; cases hs
    | true =>
      rw [hnt] at hs
      simp only [cond_true] at hs
      have hfv := hi.ev f
      rw [hf] at hfv
      obtain ⟨vs, ev, hvn, hvc⟩ := (show RepC γ st.h st.u w D (.fn n caps) (a.eval f) from hfv)
      have hA : RepLs (RepB γ st.h st.u w D) (args.toList.map st.ev) (args.toList.map a.eval) := RepLs.of (by simp) fun i x v h1 h2 => by
        have hx := List.all_eq_true.1 hnt x (List.mem_of_getElem? h1)
        simp only [List.getElem?_map] at h1 h2
        cases ha : args.toList[i]? with
        | none => rw [ha] at h1; simp at h1
        | some y =>
          rw [ha] at h1 h2
          simp only [Option.map_some, Option.some.injEq] at h1 h2
          subst h2
          have := hi.ev y
          rw [h1] at this
          exact this.toB fun l e => by rw [e] at hx; simp [notTup] at hx
      have hC : RepLs (RepB γ st.h st.u w D) caps vs.toList := RepLs.of (by simp [hvn]) fun i x v h1 h2 => (hvc i x v h1 (by simpa using h2)).1.c.b
      have hrun : (∃ fn, P.funcs[n]? = some fn ∧ (fn.name == "runtime.NumGoroutine") = false ∧ fn.body.isNone = false) → (execOp a.eval o).run P w = .ok (.enter n (args.map a.eval ++ vs)) w := by
        rintro ⟨fn, f1, f2, f3⟩
        have f2' : ¬ fn.name = "runtime.NumGoroutine" := by simpa using f2
        have f3' : ¬ fn.body = none := by intro e; simp [e] at f3
        simp [execOp, ho, resolve, ev, Deferred.ofValue, invoke, callFunc, f1, f2', f3']
      generalize flag H o.dst 2 = b at hs
      cases b
      · simp only [cond_false] at hs
        obtain ⟨e', hs', h0⟩ := Q.val_bind hs
        cases h0
        obtain ⟨γ1, D1, hi1, h1, h2⟩ := frVs_sound hi hA
        refine go_sound (H := H) (e := e') hF hi1 (h1.append (RepLs.mono h2 hC) |> fun q => ?_) hs' hrun hn
        rw [Array.toList_append, Array.toList_map]
        exact q
      · simp only [cond_true] at hs
        obtain ⟨e', hs', h0⟩ := Q.val_bind hs
        cases h0
        refine go_sound (H := H) (e := e') hF hi (hA.append hC |> fun q => ?_) hs' hrun hn
        rw [Array.toList_append, Array.toList_map]
        exact q
  · cases hs

/-! ### Operations, one by one -/
abbrev Trc := Option Nat × List Nat
def stepD (E : Ev) (st : St) (o : Oper) : Option (St × Trc) :=
  match o.op with
  | .call { callee := .value f, args, .. } => (callQ E.F E.H st.h st.u o.dst (st.ev f) (args.toList.map st.ev)).val.map fun e => ({ st with h := e.2.1, u := e.2.2.1 }.put o.dst e.1, none, e.2.2.2)
  | _ => (match kindA E.tb o.op with
    | 0 => (pureQ E.tb st.ev o.op).val.map fun v => (st.put o.dst v, none, [])
    | 1 => (lookQ E.tb st.ev st.h o.op).val.map fun e => (st.put o.dst e.1, e.2, [])
    | _ => (effQ E.tb E.H st.ev st.h st.u o.dst o.op).val.map fun e => ({ st with h := e.2.1, u := e.2.2.1 }.put o.dst e.1, none, e.2.2.2))
def opD (E : Ev) (ops : Array Oper) (st : St) (o : Oper) : Option (St × Trc) :=
  match guardOf ops o with
  | .bad => none
  | .free => stepD E st o
  | .at_ t want => (match st.get t with
    | .bool b => if b = want then stepD E (st.put (some t) (.bool b)) o else some ((st.put (some t) (.bool b)).put o.dst (.tup []), none, [])
    | .tup [] => some (st.put o.dst (.tup []), none, [])
    | _ => none)
def runD (E : Ev) (ops : Array Oper) : List Oper → St → Option (St × List Trc)
  | [], st => some (st, [])
  | o :: r, st => match opD E ops st o with
    | some (st', t) => (match runD E ops r st' with | some (st2, ts) => some (st2, t :: ts) | none => none)
    | none => none
def noteR (i : Nat) (rd : List (Nat × Nat)) (t : Trc) : List (Nat × Nat) := match t.1 with | some k => (i, k) :: rd | none => rd
def noteW (i : Nat) (wr : List (Nat × Nat)) (t : Trc) : List (Nat × Nat) := t.2.map (fun k => (i, k)) ++ wr
/-- What is looked at is not turned by what may come first. -/
def okT (ms : List Nat) : Nat → List (Nat × Nat) → List (Nat × Nat) → List Trc → Prop
  | _, _, _, [] => True
  | i, rd, wr, t :: ts => ((t.2.any (hit (ms.getD i 0) rd) || t.2.any (hit (ms.getD i 0) wr)) = false ∧ ∀ k, t.1 = some k → hit (ms.getD i 0) wr k = false) ∧ okT ms (i + 1) (noteR i rd t) (noteW i wr t) ts
theorem kindA_cases (tb : Tb) (op : Op) : kindA tb op = 0 ∨ kindA tb op = 1 ∨ kindA tb op = 2 := by
  unfold kindA
  split <;> try simp
  · unfold convK
    repeat' split
    all_goals simp
  · cases isPtrT tb _ <;> simp
theorem stepD_call {E : Ev} {o : Oper} {f : Operand} {args : Array Operand} {ts : Array Nat} (ho : o.op = .call { callee := .value f, args := args, argTypes := ts }) : stepD E st o = (callQ E.F E.H st.h st.u o.dst (st.ev f) (args.toList.map st.ev)).val.map fun e => ({ st with h := e.2.1, u := e.2.2.1 }.put o.dst e.1, none, e.2.2.2) := by
  unfold stepD
  rw [ho]
theorem stepD_ne {E : Ev} {o : Oper} (hne : ∀ f args ts, o.op ≠ .call { callee := .value f, args := args, argTypes := ts }) : stepD E st o = (match kindA E.tb o.op with
    | 0 => (pureQ E.tb st.ev o.op).val.map fun v => (st.put o.dst v, none, [])
    | 1 => (lookQ E.tb st.ev st.h o.op).val.map fun e => (st.put o.dst e.1, e.2, [])
    | _ => (effQ E.tb E.H st.ev st.h st.u o.dst o.op).val.map fun e => ({ st with h := e.2.1, u := e.2.2.1 }.put o.dst e.1, none, e.2.2.2)) := by
  unfold stepD
  split
  · rename_i ho
    exact absurd ho (hne _ _ _)
  · rfl
theorem stepK_D {ρ : Type} {E : Ev} {draw : Bool} {o : Oper} {i m : Nat} {rd wr : List (Nat × Nat)} {K : St → List (Nat × Nat) → List (Nat × Nat) → Option ρ} {r : ρ} (h : stepK E draw st o i m rd wr K = some r) :
    ∃ st' t, stepD E st o = some (st', t) ∧ (draw = true → (t.2.any (hit m rd) || t.2.any (hit m wr)) = false ∧ ∀ k, t.1 = some k → hit m wr k = false) ∧ K st' (bif draw then noteR i rd t else rd) (bif draw then noteW i wr t else wr) = some r := by
  have eff : ∀ {e : Eff}, effK draw st o.dst i m rd wr K e = some r → (draw = true → (e.2.2.2.any (hit m rd) || e.2.2.2.any (hit m wr)) = false) ∧ K ({ st with h := e.2.1, u := e.2.2.1 }.put o.dst e.1) rd (bif draw then e.2.2.2.map (fun k => (i, k)) ++ wr else wr) = some r := fun {e} h => by
    unfold effK at h
    cases draw
    · exact ⟨fun h => by simp at h, h⟩
    · cases hb : (e.2.2.2.any (hit m rd) || e.2.2.2.any (hit m wr))
      · rw [hb] at h
        exact ⟨fun _ => rfl, h⟩
      · rw [hb] at h; simp at h
  unfold stepK at h
  split at h
  · rename_i ho
    obtain ⟨e, h1, h2⟩ := Q.run_val h
    obtain ⟨h3, h4⟩ := eff h2
    rw [stepD_call ho, h1]
    refine ⟨_, _, rfl, fun hd => ⟨h3 hd, by simp⟩, ?_⟩
    cases draw <;> exact h4
  · rename_i hne
    rw [stepD_ne fun f args ts e => hne f args ts e]
    split at h
    · obtain ⟨e, h1, h2⟩ := Q.run_val h
      rename_i hk
      simp only [hk, h1]
      refine ⟨_, _, rfl, fun _ => ⟨rfl, by simp⟩, ?_⟩
      cases draw <;> exact h2
    · obtain ⟨e, h1, h2⟩ := Q.run_val h
      rename_i hk
      simp only [hk, h1]
      refine ⟨_, _, rfl, ?_⟩
      unfold lookK at h2
      obtain ⟨v, kk⟩ := e
      cases kk with
      | none =>
        refine ⟨fun _ => ⟨rfl, by simp⟩, ?_⟩
        cases draw <;> exact h2
      | some k =>
        cases draw
        · exact ⟨fun h => by simp at h, h2⟩
        · simp only [Bool.true_and] at h2
          cases hw : hit m wr k
          · rw [hw] at h2
            exact ⟨fun _ => ⟨rfl, fun k' e => by cases e; exact hw⟩, h2⟩
          · rw [hw] at h2; simp at h2
    · obtain ⟨e, h1, h2⟩ := Q.run_val h
      obtain ⟨h3, h4⟩ := eff h2
      rename_i hk1 hk2
      have hk : kindA E.tb o.op = 2 := by
        rcases kindA_cases E.tb o.op with q | q | q
        · exact absurd q hk1
        · exact absurd q hk2
        · exact q
      simp only [hk, h1]
      refine ⟨_, _, rfl, fun hd => ⟨h3 hd, by simp⟩, ?_⟩
      cases draw <;> exact h4
theorem runOps_D {ρ : Type} {E : Ev} {draw : Bool} {ops : Array Oper} {ms : List Nat} {K : St → Option ρ} {r : ρ} : ∀ {l : List Oper} {i : Nat} {st : St} {rd wr : List (Nat × Nat)}, runOps E draw ops ms K l i st rd wr = some r → ∃ st' ts, runD E ops l st = some (st', ts) ∧ (draw = true → okT ms i rd wr ts) ∧ K st' = some r
  | [], i, st, rd, wr, h => ⟨st, [], rfl, fun _ => trivial, h⟩
  | o :: l, i, st, rd, wr, h => by
    have go : ∀ {st1}, opD E ops st o = some (st1, none, []) → runOps E draw ops ms K l (i + 1) st1 rd wr = some r → ∃ st' ts, runD E ops (o :: l) st = some (st', ts) ∧ (draw = true → okT ms i rd wr ts) ∧ K st' = some r := fun {st1} h1 h2 => by
      obtain ⟨st', ts, h3, h4, h5⟩ := runOps_D h2
      exact ⟨st', (none, []) :: ts, by simp only [runD, h1, h3], fun hd => ⟨⟨rfl, by simp⟩, h4 hd⟩, h5⟩
    have stp : ∀ {st0}, opD E ops st o = stepD E st0 o → stepK E draw st0 o i (ms.getD i 0) rd wr (fun st' rd' wr' => runOps E draw ops ms K l (i + 1) st' rd' wr') = some r → ∃ st' ts, runD E ops (o :: l) st = some (st', ts) ∧ (draw = true → okT ms i rd wr ts) ∧ K st' = some r := fun {st0} h0 h2 => by
      obtain ⟨st1, t, h3, h4, h5⟩ := stepK_D h2
      obtain ⟨st', ts, h6, h7, h8⟩ := runOps_D h5
      refine ⟨st', t :: ts, by simp only [runD, h0, h3, h6], fun hd => ⟨h4 hd, ?_⟩, h8⟩
      have := h7 hd
      rw [hd] at this
      exact this
    unfold runOps at h
    split at h
    · cases h
    · rename_i hg
      exact stp (by simp only [opD, hg]) h
    · rename_i t hg
      split at h
      · rename_i b hb
        cases b
        · exact go (by simp [opD, hg, hb]) h
        · exact stp (st0 := st.put (some t) (.bool true)) (by simp [opD, hg, hb]) h
      · rename_i hb
        exact go (by simp [opD, hg, hb]) h
      · cases h
    · rename_i t hg
      split at h
      · rename_i b hb
        cases b
        · exact stp (st0 := st.put (some t) (.bool false)) (by simp [opD, hg, hb]) h
        · exact go (by simp [opD, hg, hb]) h
      · rename_i hb
        exact go (by simp [opD, hg, hb]) h
      · cases h

theorem inv_bool' {b : Bool} {v : Value} (hv : RepV γ h u w D (.bool b) v) : v = .bool b := by
  cases (show RepD w D (.bool b) v from hv); rfl
theorem Inv.reput (hi : Inv c γ D st a w) {t : Nat} {b : Bool} (hb : st.get t = .bool b) : Inv c γ D (st.put (some t) (.bool b)) a w ∧ a.tmps[t]? = some (.bool b) := by
  have hv := hi.tm t
  rw [hb] at hv
  have e := inv_bool' hv
  have e' : a.tmps[t]? = some (.bool b) := by
    rw [Array.getD_eq_getD_getElem?] at e
    cases ht : a.tmps[t]? with
    | none => rw [ht] at e; simp [Go.undef] at e
    | some v => rw [ht] at e; simpa using e
  have hp := hi.put (v := .bool b) (cv := .bool b) (.of (.bool b)) (some t)
  have : a.put (some t) (.bool b) = a := by
    obtain ⟨tm, df⟩ := a
    simp only [Act.put, Act.mk.injEq, and_true]
    apply Array.ext_getElem?
    intro i
    rw [Array.getElem?_setIfInBounds]
    split
    · rename_i e2
      subst e2
      split
      · exact e'.symm
      · rename_i hlt
        have : t < tm.size := (Array.getElem?_eq_some_iff.1 e').1
        omega
    · rfl
  rw [this] at hp
  exact ⟨hp, e'⟩

/-- What may be asked of a program's functions and types. -/
structure EvOk (P : Program) (E : Ev) : Prop where
  F : SoundF P E.F
  tb : TbOk P E.tb
theorem stepD_sound {E : Ev} (hE : EvOk P E) {o : Oper} (hi : Inv c γ D st a w) {st' : St} {t : Trc} (hs : stepD E st o = some (st', t)) {next : Act → World → Prop} {T : Exit → Act → World → Prop}
    (hn : ∀ cv w' γ' D', Inv c γ' D' st' (a.put o.dst cv) w' → next (a.put o.dst cv) w') : o.wp P a w next T := by
  have gives : Gives P c o a w st' → o.wp P a w next T := fun hg => by
    obtain ⟨cv, w', hr, γ', D', hI⟩ := hg
    unfold Oper.wp
    rcases hr with hr | ⟨hr, rfl⟩
    · rw [hr, Oper.upon_value]
      exact hn _ _ _ _ hI
    · rw [hr, Oper.upon_skip]
      exact hn _ _ _ _ hI
  unfold stepD at hs
  split at hs
  · rename_i f args ts ho
    simp only [Option.map_eq_some_iff, Prod.mk.injEq] at hs
    obtain ⟨e, h1, rfl, _⟩ := hs
    exact call_sound hE.F hi ho h1 hn
  · split at hs
    · simp only [Option.map_eq_some_iff, Prod.mk.injEq] at hs
      obtain ⟨e, h1, rfl, _⟩ := hs
      exact gives (pure_sound hE.tb hi h1)
    · simp only [Option.map_eq_some_iff, Prod.mk.injEq] at hs
      obtain ⟨e, h1, rfl, _⟩ := hs
      exact gives (look_sound hE.tb hi h1)
    · rename_i hk1 hk2
      have hk : kindA E.tb o.op = 2 := by
        rcases kindA_cases E.tb o.op with q | q | q
        · exact absurd q hk1
        · exact absurd q hk2
        · exact q
      simp only [Option.map_eq_some_iff, Prod.mk.injEq] at hs
      obtain ⟨e, h1, rfl, _⟩ := hs
      exact gives (eff_sound hE.tb hi hk h1)

omit [Reg] in
theorem guardOf_free {ops : Array Oper} {o : Oper} (h : guardOf ops o = .free) (y : Nat → Option Bool) : Region.wanted o y = true := by
  unfold guardOf at h
  unfold Region.wanted
  split at h
  · rename_i e; simp [e]
  · split at h <;> simp at h
omit [Reg] in
theorem guardOf_at {ops : Array Oper} {o : Oper} {t : Nat} {want : Bool} (h : guardOf ops o = .at_ t want) {tm : Array Value} {b : Bool} (hb : tm[t]? = some (.bool b)) : Region.wanted o (yielded ops tm) = decide (b = want) := by
  unfold guardOf at h
  unfold Region.wanted
  split at h
  · simp at h
  · rename_i j w' e
    split at h
    · rename_i t' e'
      simp only [Gd.at_.injEq] at h
      obtain ⟨rfl, rfl⟩ := h
      simp only [e, yielded, e', Option.bind_some, hb]
      cases b <;> cases w' <;> rfl
    · simp at h
omit [Reg] in
theorem guardOf_none {ops : Array Oper} {o : Oper} {t : Nat} {want : Bool} (h : guardOf ops o = .at_ t want) {tm : Array Value} (hb : ∀ b, tm[t]? ≠ some (.bool b)) : Region.wanted o (yielded ops tm) = false := by
  unfold guardOf at h
  unfold Region.wanted
  split at h
  · simp at h
  · rename_i j w' e
    split at h
    · rename_i t' e'
      simp only [Gd.at_.injEq] at h
      obtain ⟨rfl, rfl⟩ := h
      have hy : yielded ops tm j = none := by
        have hu : yielded ops tm j = (match ((ops[j]?).bind (·.dst)).bind (tm[·]?) with | some (.bool b) => some b | _ => none) := rfl
        rw [hu, e', Option.bind_some]
        cases hh : tm[t']? with
        | none => rfl
        | some v => cases v <;> first | rfl | exact absurd hh (hb _)
      simp [e, hy]
    · simp at h

theorem wpOps_sound {E : Ev} (hE : EvOk P E) {ops : Array Oper} {T : Exit → Act → World → Prop} {st' : St} (hq : ∀ γ' D' a' w', Inv c γ' D' st' a' w' → T .normal a' w') :
    ∀ (l : List Nat) (ts : List Trc) (γ : Gh) (D : Dead) (st : St) (a : Act) (w : World), Inv c γ D st a w → runD E ops (l.filterMap (ops[·]?)) st = some (st', ts) → wpOps P ops T l a w
  | [], ts, γ, D, st, a, w, h, hs => by
    simp only [List.filterMap_nil, runD, Option.some.injEq, Prod.mk.injEq] at hs
    obtain ⟨rfl, _⟩ := hs
    exact hq _ _ _ _ h
  | i :: l, ts, γ, D, st, a, w, h, hs => by
    unfold wpOps
    cases ho : ops[i]? with
    | none =>
      rw [List.filterMap_cons_none ho] at hs
      exact wpOps_sound hE hq l ts γ D st a w h hs
    | some o =>
      rw [List.filterMap_cons_some ho] at hs
      simp only [runD] at hs
      simp only
      split at hs
      · rename_i s1 t1 h1
        split at hs
        · rename_i s2 ts2 h2
          simp only [Option.some.injEq, Prod.mk.injEq] at hs
          obtain ⟨rfl, _⟩ := hs
          have hnext : ∀ cv w' γ' D', Inv c γ' D' s1 (a.put o.dst cv) w' → wpOps P ops T l (a.put o.dst cv) w' := fun cv w' γ' D' hI => wpOps_sound hE hq l ts2 γ' D' s1 _ w' hI h2
          unfold opD at h1
          split at h1
          · simp at h1
          · rename_i hg
            rw [if_pos (guardOf_free hg _)]
            exact .inl (stepD_sound hE h h1 hnext)
          · rename_i t want hg
            split at h1
            · rename_i b hb
              obtain ⟨hp, ht⟩ := h.reput hb
              rw [guardOf_at hg ht]
              split at h1
              · rename_i e
                rw [decide_eq_true e, if_pos rfl]
                exact .inl (stepD_sound hE hp h1 hnext)
              · rename_i e
                rw [decide_eq_false e, if_neg (by simp)]
                simp only [Option.some.injEq, Prod.mk.injEq] at h1
                obtain ⟨rfl, _⟩ := h1
                exact hnext _ _ γ D (hp.put (v := .tup []) (show RepV _ _ _ _ _ (.tup []) Go.undef from ⟨#[], rfl, rfl, by simp⟩) o.dst)
            · rename_i hb
              have hv := h.tm t
              rw [hb] at hv
              obtain ⟨arr, e1, e2, _⟩ := hv
              have e3 : arr = #[] := by simpa using e2
              subst e3
              rw [guardOf_none hg (tm := a.tmps) (by
                intro b e4
                rw [Array.getD_eq_getD_getElem?, e4] at e1
                simp at e1), if_neg (by simp)]
              simp only [Option.some.injEq, Prod.mk.injEq] at h1
              obtain ⟨rfl, _⟩ := h1
              exact hnext _ _ γ D (h.put (v := .tup []) (show RepV _ _ _ _ _ (.tup []) Go.undef from ⟨#[], rfl, rfl, by simp⟩) o.dst)
            · simp at h1
        · simp at hs
      · simp at hs

omit [Reg] in
theorem range_filterMap (ops : Array Oper) : (List.range ops.size).filterMap (ops[·]?) = ops.toList := by
  have h : (List.range ops.size).map (fun i : Nat => ops[i]?) = ops.toList.map some := by
    apply List.ext_getElem?
    intro i
    by_cases h : i < ops.size
    · simp [h]
    · simp [h]
  have h2 : ∀ l : List Nat, l.filterMap (ops[·]?) = (l.map (fun i : Nat => ops[i]?)).filterMap id := fun l => by simp [List.filterMap_map]
  rw [h2, h]
  simp [List.filterMap_map]
end
end
end Go.AM
namespace Go.AM
open Go.RowKit Go.Lib
section
variable [Reg]
section
variable {P : Program} {c : Ctx} {γ γ' γ'' : Gh} {D D' D'' : Dead} {st : St} {a : Act} {w w' w'' : World} {tb : Tb} {H : Hints} {h h' h'' : Heap} {u u' u'' : List Nat}

/-- States that nothing tells apart. -/
structure StEq (s t : St) : Prop where
  nt : s.nt = t.nt
  get : ∀ k, s.get k = t.get k
  h : ∀ k, find k s.h = find k t.h
  u : ∀ k, k ∈ s.u ↔ k ∈ t.u
theorem StEq.refl (s : St) : StEq s s := ⟨rfl, fun _ => rfl, fun _ => rfl, fun _ => Iff.rfl⟩
theorem StEq.trans {s t r : St} (h1 : StEq s t) (h2 : StEq t r) : StEq s r := ⟨h1.nt.trans h2.nt, fun k => (h1.get k).trans (h2.get k), fun k => (h1.h k).trans (h2.h k), fun k => (h1.u k).trans (h2.u k)⟩
theorem StEq.symm {s t : St} (h1 : StEq s t) : StEq t s := ⟨h1.nt.symm, fun k => (h1.get k).symm, fun k => (h1.h k).symm, fun k => (h1.u k).symm⟩
theorem same_ext (hf : ∀ k, find k h = find k h') (k : Nat) : Same γ γ h h' w w D D k := by
  refine ⟨fun cs' e => ?_, fun t xs e => ?_, fun t xs e => ?_, fun e => ?_⟩ <;> rw [← hf] at e
  · exact ⟨⟨cs', e⟩, rfl⟩
  · exact ⟨⟨xs, e, rfl⟩, rfl, fun ho => ⟨ho, fun n hb => hb⟩⟩
  · exact .inl e
  · exact ⟨e, rfl, fun ho => ⟨ho, fun n hb => hb, fun o hd => hd⟩⟩
theorem Inv.eqv {s t : St} (hi : Inv c γ D s a w) (he : StEq s t) : Inv c γ D t a w := by
  have hC : ∀ {x v}, RepC γ s.h s.u w D x v → RepC γ t.h t.u w D x v := fun {x v} hx => hx.mono (fun _ _ _ => rfl) (fun _ _ h => h) (fun k hk => (he.u k).1 hk) fun k _ => same_ext he.h k
  refine ⟨hi.nt.trans he.nt, hi.dfr, fun k => ?_, ⟨fun k cs e => ?_, fun k t xs e => ?_, fun b k ho => ?_, fun b k ho e => ?_, fun k e => ?_⟩, hi.os, hi.tape, hi.output, hi.size, hi.block, hi.lg, hi.ow, hi.dd, hi.dl, fun k hk cs e => ?_, fun k hk t xs e => ?_, fun k hk t xs e => ?_, fun k hk e => ?_⟩
  · rw [← he.get]
    exact (hi.tm k).mono (fun _ _ _ => rfl) (fun _ _ h => h) (fun k hk => (he.u k).1 hk) fun k _ => same_ext he.h k
  · rw [← he.h] at e
    obtain ⟨q1, vs, E, q2, q3, q4⟩ := hi.hp.box k cs e
    exact ⟨q1, vs, E, q2, q3, fun i c' v' h1 h2 => ⟨hC (q4 i c' v' h1 h2).1, (q4 i c' v' h1 h2).2⟩⟩
  · rw [← he.h] at e; exact hi.hp.row k t xs e
  · rw [← he.h]; exact hi.hp.own b k ho
  · rw [← he.h] at e; exact hi.hp.lv b k ho e
  · rw [← he.h] at e; exact (he.u k).1 (hi.hp.u k e)
  · rw [← he.h] at e; exact hi.ob k hk cs e
  · rw [← he.h] at e; exact hi.or k hk t xs e
  · rw [← he.h] at e; exact hi.ofz k hk t xs e
  · rw [← he.h] at e; exact hi.ot k hk e
theorem Inv.drawn (hi : Inv c γ D st a w) (n : Nat) : Inv c γ D st a { w with drawn := n } := by
  have hs : ∀ k, Same γ γ st.h st.h w { w with drawn := n } D D k := fun k => ⟨fun cs' e => ⟨⟨cs', e⟩, rfl⟩, fun t xs e => ⟨⟨xs, e, rfl⟩, rfl, fun ho => ⟨ho, fun n hb => hb⟩⟩, fun t xs e => .inl e, fun e => ⟨e, rfl, fun ho => ⟨ho, fun n hb => hb, fun o hd => hd⟩⟩⟩
  have hp : Pres D w { w with drawn := n } := fun _ _ _ => rfl
  have hD : ∀ {x v}, RepD w D x v → RepD { w with drawn := n } D x v := fun {x v} hx => hx.mono hp fun _ _ h => h
  refine ⟨hi.nt, hi.dfr, fun k => (hi.tm k).mono hp (fun _ _ h => h) (fun _ h => h) fun k _ => hs k, ⟨fun k cs e => ?_, fun k t xs e => ?_, hi.hp.own, hi.hp.lv, hi.hp.u⟩, hi.os, hi.tape, hi.output, hi.size, hi.block, hi.lg, hi.ow, hi.dd, hi.dl, hi.ob, hi.or, fun k hk t xs e => ?_, hi.ot⟩
  · obtain ⟨q1, vs, E, q2, q3, q4⟩ := hi.hp.box k cs e
    exact ⟨q1, vs, E, q2, q3, fun i c' v' h1 h2 => ⟨(q4 i c' v' h1 h2).1.mono hp (fun _ _ h => h) (fun _ h => h) fun k _ => hs k, (q4 i c' v' h1 h2).2⟩⟩
  · refine (hi.hp.row k t xs e).imp id ?_
    rintro ⟨q1, vs, E, q2, q3, q4⟩
    exact ⟨q1, vs, E, q2, q3, fun q c' v' h1 h2 => hD (q4 q c' v' h1 h2)⟩
  · refine (hi.ofz k hk t xs e).imp id ?_
    rintro ⟨q1, q2⟩
    refine ⟨q1, q2.imp id ?_⟩
    rintro ⟨f, q3⟩
    exact ⟨f, fun q c' hq => ⟨(q3 q c' hq).1, (q3 q c' hq).2.1, hD (q3 q c' hq).2.2⟩⟩

/-- A region that draws its order: each order ends where the text's order ends. -/
def DrawOk (P : Program) (tb : Tb) (ops : Array Oper) : Prop :=
  ∀ (E : Ev), E.tb = tb → ∀ (t : Nat) (st st' : St) (ts : List Trc), runD E ops ops.toList st = some (st', ts) → okT (masks ops.toList []) 0 [] [] ts →
    ∃ st2 ts2, runD E ops ((Region.schedule (P.follows .mixedOrders) ops t).filterMap (ops[·]?)) st = some (st2, ts2) ∧ StEq st2 st'
def CodeOk (P : Program) (tb : Tb) : Code → Prop
  | .region _ ops true => DrawOk P tb ops
  | .seq a b => CodeOk P tb a ∧ CodeOk P tb b
  | .cond _ a b => CodeOk P tb a ∧ CodeOk P tb b
  | .block _ c => CodeOk P tb c
  | .loop c => CodeOk P tb c
  | _ => True

omit [Reg] in
theorem casesL_spec {ρ : Type} {x : Int} {f : Nat → Option ρ} {g : Option ρ} {r : ρ} : ∀ {n : Nat}, casesL x f g n = some r → g = some r ∨ ∃ j : Nat, x = j ∧ f j = some r
  | 0, h => .inl h
  | n + 1, h => by
    unfold casesL at h
    cases hb : decide (x = (n : Int)) with
    | true => rw [hb] at h; exact .inr ⟨n, of_decide_eq_true hb, h⟩
    | false => rw [hb] at h; exact casesL_spec h
theorem put_self_find {k : Nat} {o : Ob} {h : Heap} (hf : find k h = some o) (j : Nat) : find j h = find j (AM.put k o h) := by
  rw [find_put]
  split
  · rename_i e; subst e; exact hf
  · rfl
theorem splitA_spec {ρ : Type} {sp : List (Nat × Nat × Nat × Nat)} {id : Nat} {K : St → Option ρ} {r : ρ} (h : splitA sp id st K = some r) : ∃ st', StEq st st' ∧ K st' = some r := by
  unfold splitA at h
  split at h
  · exact ⟨st, .refl st, h⟩
  · rename_i s off n _
    split at h
    · rename_i k x hs
      rcases casesL_spec h with h2 | ⟨j, rfl, h2⟩
      · cases h2
      · obtain ⟨e1, e2, e3⟩ := st.put_h (some s) (.int k (j : Int))
        refine ⟨_, ⟨e3.symm, fun t => ?_, fun t => by rw [e1], fun t => by rw [e2]⟩, h2⟩
        rw [St.get_put]
        split
        · rename_i e; rw [e.1, hs]
        · rfl
    · rename_i b o hs
      split at h
      · rename_i cs hb
        split at h
        · rename_i k x hc
          rcases casesL_spec h with h2 | ⟨j, rfl, h2⟩
          · cases h2
          · refine ⟨{ st with h := AM.put b (.box (cs.set (o + off) (.int k (j : Int)))) st.h }, ⟨rfl, fun t => rfl, fun t => ?_, fun t => Iff.rfl⟩, h2⟩
            have e : cs.set (o + off) (.int k (j : Int)) = cs := by
              obtain ⟨hl, he⟩ := List.getElem?_eq_some_iff.1 hc
              rw [← he]
              exact List.set_getElem_self hl
            show find t st.h = find t (AM.put b (.box (cs.set (o + off) (.int k (j : Int)))) st.h)
            rw [e]
            exact put_self_find hb t
        · exact ⟨st, .refl st, h⟩
      · exact ⟨st, .refl st, h⟩
    · exact ⟨st, .refl st, h⟩

/-- What holds behind a piece of code. -/
def QK {ρ : Type} (c : Ctx) (K : Ex → St → Option ρ) (r : ρ) : Exit → Act → World → Prop
  | .normal, a, w => ∃ γ D st, Inv c γ D st a w ∧ K .normal st = some r
  | .exit id, a, w => ∃ γ D st, Inv c γ D st a w ∧ K (.exit id) st = some r
  | .ret, a, w => ∃ γ D st, Inv c γ D st a w ∧ K .ret st = some r
  | _, _, _ => False

theorem evC_sound {ρ : Type} {E : Ev} (hE : EvOk P E) (fx : Fx) : ∀ (cd : Code), CodeOk P E.tb cd → ∀ (n : Nat) (K : Ex → St → Option ρ) (r : ρ) (γ : Gh) (D : Dead) (st : St) (a : Act) (w : World),
    Inv c γ D st a w → evC E fx n cd st K = some r → cd.wp P (QK c K r) a w := by
  intro cd
  induction cd with
  | skip => exact fun _ n K r γ D st a w h hs => wp_skip ⟨γ, D, st, h, hs⟩
  | label l => exact fun _ n K r γ D st a w h hs => wp_label ⟨γ, D, st, h, hs⟩
  | exit id => exact fun _ n K r γ D st a w h hs => wp_exit ⟨γ, D, st, h, hs⟩
  | ret => exact fun _ n K r γ D st a w h hs => wp_ret ⟨γ, D, st, h, hs⟩
  | region id ops draw =>
    intro hok n K r γ D st a w h hs
    unfold evC at hs
    obtain ⟨st1, he1, hs⟩ := splitA_spec hs
    replace h := h.eqv he1
    clear he1
    revert h hs
    generalize st1 = st
    intro hs h
    obtain ⟨st', ts, h1, h0, h2⟩ := runOps_D hs
    have hq : ∀ γ' D' a' w', Inv c γ' D' st' a' w' → QK c K r .normal a' w' := fun γ' D' a' w' hI => by
      have hI := hI.only fun k => !fx.kp.contains k
      unfold joinK at h2
      split at h2
      · rename_i l _
        rw [joinA_eq] at h2
        obtain ⟨γ2, hI2⟩ := (hI.only l.contains).gc
        exact ⟨γ2, D', _, hI2, h2⟩
      · exact ⟨γ', D', _, hI, h2⟩
    cases draw
    · refine wp_region (wpOps_sound hE hq _ ts γ D st a w h ?_)
      rw [range_filterMap]
      exact h1
    · refine wp_region_draw fun t => ?_
      obtain ⟨st2, ts2, h3, h4⟩ := hok E rfl t st st' ts h1 (h0 rfl)
      exact wpOps_sound hE (fun γ' D' a' w' hI => hq γ' D' a' w' (hI.eqv h4)) _ ts2 γ D st a _ (h.drawn _) h3
  | seq x y ihx ihy =>
    intro hok n K r γ D st a w h hs
    unfold evC at hs
    refine wp_seq (wp_mono (ihx hok.1 n _ r γ D st a w h hs) fun e a' w' hq => ?_)
    cases e with
    | normal => obtain ⟨γ', D', st', hI, hk⟩ := hq; exact ihy hok.2 n K r γ' D' st' a' w' hI hk
    | exit id => obtain ⟨γ', D', st', hI, hk⟩ := hq; exact ⟨γ', D', st', hI, hk⟩
    | ret => obtain ⟨γ', D', st', hI, hk⟩ := hq; exact ⟨γ', D', st', hI, hk⟩
    | goto l => exact hq.elim
    | panic ch => exact hq.elim
    | outgrown => exact hq.elim
  | cond x y z ihy ihz =>
    intro hok n K r γ D st a w h hs
    unfold evC at hs
    split at hs
    · rename_i t hx
      have e := inv_bool' (hx ▸ h.ev x)
      cases t
      · exact wp_cond_false e (ihz hok.2 n K r γ D st a w h hs)
      · exact wp_cond_true e (ihy hok.1 n K r γ D st a w h hs)
    · simp at hs
  | block id x ih =>
    intro hok n K r γ D st a w h hs
    unfold evC at hs
    refine wp_block (wp_mono (ih hok n _ r γ D st a w h hs) fun e a' w' hq => ?_)
    cases e with
    | normal => obtain ⟨γ', D', st', hI, hk⟩ := hq; exact ⟨γ', D', st', hI, hk⟩
    | exit id' =>
      obtain ⟨γ', D', st', hI, hk⟩ := hq
      simp only at hk
      unfold Exit.inBlock
      cases hb : Nat.beq id' id with
      | true =>
        rw [hb] at hk
        have e := Nat.eq_of_beq_eq_true hb
        simp only [e, if_true]
        exact ⟨γ', D', st', hI, hk⟩
      | false =>
        rw [hb] at hk
        have e : ¬ id' = id := fun e => by subst e; simp at hb
        simp only [e, if_false]
        exact ⟨γ', D', st', hI, hk⟩
    | ret => obtain ⟨γ', D', st', hI, hk⟩ := hq; exact ⟨γ', D', st', hI, hk⟩
    | goto l => exact hq.elim
    | panic ch => exact hq.elim
    | outgrown => exact hq.elim
  | loop x ih =>
    intro hok n K r γ D st a w h hs
    have key : ∀ (n : Nat) dead m γ D st a w, Inv c γ D st a w → loopC (evC E fx n x) dead K m st = some r → Code.rounds P x (QK c K r) m a w := by
      intro n dead m
      induction m with
      | zero => intro γ D st a w _ hs; simp [loopC] at hs
      | succ m ihm =>
        intro γ D st a w h1 hs
        unfold loopC at hs
        rw [rounds_succ]
        refine wp_mono (ih hok n _ r γ D _ a w h1 hs) fun e a' w' hq => ?_
        cases e with
        | normal =>
          obtain ⟨γ', D', st', hI, hk⟩ := hq
          obtain ⟨γ2, h2⟩ := hI.clean dead
          exact ihm γ2 D' _ a' w' h2 hk
        | exit id => obtain ⟨γ', D', st', hI, hk⟩ := hq; exact ⟨γ', D', st', hI, hk⟩
        | ret => obtain ⟨γ', D', st', hI, hk⟩ := hq; exact ⟨γ', D', st', hI, hk⟩
        | goto l => exact hq.elim
        | panic ch => exact hq.elim
        | outgrown => exact hq.elim
    unfold evC loopA at hs
    obtain ⟨γ1, h1⟩ := h.clean (fx.deadAt x)
    exact wp_loop_rounds n (key n _ n γ1 D _ a w h1 hs)
  | rangeFunc f ps x y ihx ihy => intro _ n K r γ D st a w h hs; simp [evC] at hs
  | scope x ih => intro _ n K r γ D st a w h hs; simp [evC] at hs
  | goto l => intro _ n K r γ D st a w h hs; simp [evC] at hs
  | refuse s => intro _ n K r γ D st a w h hs; simp [evC] at hs
end
end
end Go.AM
namespace Go.AM
open Go.RowKit Go.Lib
section
variable [Reg]
section
variable {P : Program} {c : Ctx} {γ γ' γ'' : Gh} {D D' D'' : Dead} {st : St} {a : Act} {w w' w'' : World} {tb : Tb} {H : Hints} {h h' h'' : Heap} {u u' u'' : List Nat}

theorem find_argT (t : Nat) : ∀ (vs : List AV) (i : Nat), find t (argT i vs) = if t < i then none else vs[t - i]?
  | [], i => by simp [argT, find]
  | v :: r, i => by
    have ih := find_argT t r (i + 1)
    have e : find t (argT i (v :: r)) = if t = i then some v else find t (argT (i + 1) r) := rfl
    rw [e, ih]
    by_cases h : t = i
    · subst h
      simp
    · simp only [h, if_false]
      by_cases h2 : t < i
      · simp [h2, show t < i + 1 by omega]
      · have : t - i = (t - (i + 1)) + 1 := by omega
        simp only [h2, show ¬ t < i + 1 by omega, if_false]
        rw [this, List.getElem?_cons_succ]
theorem heap0_notok {os : List Ob} {k : Nat} : find k (heap0 os) ≠ some .tok := fun e => by
  obtain ⟨m, o', h1, h2⟩ := mem_unpack (find_mem e)
  rcases h2 with ⟨_, ⟨_, _, h⟩ | ⟨h1, h2, _⟩⟩ | ⟨_, _, _, _, _, _, _, h⟩
  · cases h
  · exact h2 h1.symm
  · cases h
theorem Inv.start {vs : List AV} {os : List Ob} {args : Array Value} {nt : Nat} (hp : Pre c vs os args) (hnt : vs.length ≤ nt) :
    Inv c c.γ c.D (startA nt vs os) { tmps := args ++ Array.replicate (nt - args.size) Go.undef, defers := [] } c.w := by
  have hsz := hp.size
  refine ⟨by simp [startA]; omega, rfl, fun t => ?_, hp.ok, rfl, rfl, rfl, Nat.le_refl _, fun _ _ _ => rfl, fun _ _ h => h, fun b k ho => .inr (by rw [ho]; simp), ⟨fun _ _ h => h, fun _ _ _ _ h => h⟩, hp.dl, fun k hk cs e => ⟨⟨cs, by rw [hp.hd]; exact e⟩, rfl⟩, fun k hk t xs e => ⟨⟨xs, by rw [hp.hd]; exact e, rfl⟩, rfl, fun ho => ho⟩, fun k hk t xs e => .inl (by rw [hp.hd]; exact e), fun k hk => heap0_notok⟩
  have e : (startA nt vs os).get t = match vs[t]? with | some v => v | none => .undef := by
    unfold St.get startA
    simp only [find_argT, Nat.not_lt_zero, if_false, Nat.sub_zero]
    rfl
  rw [e]
  cases hv : vs[t]? with
  | none => trivial
  | some v =>
    have hlt : t < vs.length := (List.getElem?_eq_some_iff.1 hv).1
    have hlt' : t < args.size := by omega
    have hr := hp.args t v args[t] hv (Array.getElem?_eq_getElem hlt')
    have e2 : (args ++ Array.replicate (nt - args.size) Go.undef).getD t Go.undef = args[t] := by
      rw [Array.getD_eq_getD_getElem?, Array.getElem?_append_left hlt', Array.getElem?_eq_getElem hlt', Option.getD_some]
    show RepV _ _ _ _ _ v ((args ++ Array.replicate (nt - args.size) Go.undef).getD t Go.undef)
    rw [e2]
    exact hr.v

def resF (tm : Array Value) : ResultVar → Sem Value
  | .tmp t => pure (tm.getD t Go.undef)
  | .cell a t => do loadVar t (← asAddr (tm.getD a Go.undef))
omit [Reg] in
theorem mapM_cons_run {α β : Type} {g : α → Sem β} {x : α} {l : List α} {b : β} {bs : List β} (h1 : (g x).run P w = .ok b w) (h2 : (l.mapM g).run P w = .ok bs w) : ((x :: l).mapM g).run P w = .ok (b :: bs) w := by
  simp only [List.mapM_cons, Sem.run_bind, h1, h2, Result.andThen_ok, Sem.run_pure]
theorem rawA_sound (hT : TbOk P tb) (hi : Inv c γ D st a w) : ∀ {rs : List ResultVar} {l : List AV}, rawA tb st rs = some l →
    ∃ vs : List Value, (rs.mapM (resF a.tmps)).run P w = .ok vs w ∧ RepLs (RepB γ st.h st.u w D) l vs
  | [], l, hl => by
    simp only [rawA, Option.some.injEq] at hl
    subst hl
    exact ⟨[], rfl, trivial⟩
  | .tmp t :: rs, l, hl => by
    simp only [rawA] at hl
    split at hl
    · rename_i l' hl'
      cases hb : notTup (st.get t) with
      | false => rw [hb] at hl; simp at hl
      | true =>
        rw [hb] at hl
        simp only [cond_true, Option.some.injEq] at hl
        subst hl
        obtain ⟨vs, h1, h2⟩ := rawA_sound hT hi hl'
        exact ⟨a.tmps.getD t Go.undef :: vs, mapM_cons_run rfl h1, (hi.tm t).toB fun l e => by rw [e] at hb; simp [notTup] at hb, h2⟩
    · simp at hl
  | .cell x t :: rs, l, hl => by
    simp only [rawA] at hl
    split at hl
    · rename_i e l' he hl'
      simp only [Option.some.injEq] at hl
      subst hl
      obtain ⟨vs, h1, h2⟩ := rawA_sound hT hi hl'
      obtain ⟨A, cv, q1, q2, q3⟩ := load_core hT hi (x := .tmp x) he
      have q1' : a.tmps.getD x Go.undef = .pointer (some A) := q1
      exact ⟨cv :: vs, mapM_cons_run (by simp only [resF, q1']; simp only [asAddr, Sem.run_bind, Sem.run_pure, Result.andThen_ok, q2]) h1, q3, h2⟩
    · simp at hl
def resV : List Value → Value
  | [v] => v
  | vs => .tuple vs.toArray
omit [Reg] in
theorem results_run {fn : Func} {tm : Array Value} {vs : List Value} (h : (fn.results.toList.mapM (resF tm)).run P w = .ok vs w) : (results fn tm).run P w = .ok (resV vs) w := by
  have e : results fn tm = (do
    let vs ← fn.results.mapM (resF tm)
    pure (if h : vs.size = 1 then vs[0] else .tuple vs)) := rfl
  rw [e, Array.mapM_eq_mapM_toList]
  simp only [map_eq_pure_bind, Sem.run_bind, Sem.run_pure, h, Result.andThen_ok]
  match vs with
  | [] => rfl
  | [v] => rfl
  | v :: u :: r => rfl

theorem finC_sound {ow : List Nat} {p : Nat} (hi : Inv c γ D st a w) {x : AV} {v : Value} (hx : CC γ st.h st.u w D x v) : ∃ γ' D', Stp γ γ' st.h (finC ow p st.h x).2 st.u st.u w w D D' ∧ CC γ' (finC ow p st.h x).2 st.u w D' (finC ow p st.h x).1 v := by
  have same : ∀ {x}, CC γ st.h st.u w D x v → ∃ γ' D', Stp γ γ' st.h st.h st.u st.u w w D D' ∧ CC γ' st.h st.u w D' x v := fun {x} hx => ⟨γ, D, stp_ext hi fun _ => rfl, hx⟩
  unfold finC
  split
  · rename_i k t
    cases (Nat.blt k 1000 || ow.contains p)
    · exact frC_sound hi hx
    · exact same hx
  · rename_i k t lo n
    cases Nat.blt k 1000
    · exact frC_sound hi hx
    · exact same hx
  · rename_i k t i j
    cases Nat.blt k 1000
    · exact frC_sound hi hx
    · exact same hx
  · exact same hx
theorem finCs_sound {ow : List Nat} : ∀ {cs : List AV} {p : Nat} {vs : List Value} {γ : Gh} {D : Dead} {st : St}, Inv c γ D st a w → RepLs (CC γ st.h st.u w D) cs vs →
    ∃ γ' D', Inv c γ' D' { st with h := (finCs ow p st.h cs).2 } a w ∧ RepLs (CC γ' (finCs ow p st.h cs).2 st.u w D') (finCs ow p st.h cs).1 vs ∧ (∀ x v, CC γ st.h st.u w D x v → CC γ' (finCs ow p st.h cs).2 st.u w D' x v) ∧ ∀ x v, RepB γ st.h st.u w D x v → RepB γ' (finCs ow p st.h cs).2 st.u w D' x v
  | [], p, [], γ, D, st, hi, _ => ⟨γ, D, hi, trivial, fun _ _ h => h, fun _ _ h => h⟩
  | [], _, _ :: _, γ, D, st, hi, h => h.elim
  | _ :: _, _, [], γ, D, st, hi, h => h.elim
  | x :: cs, p, v :: vs, γ, D, st, hi, hR => by
    obtain ⟨γ1, D1, s1, h1⟩ := finC_sound (ow := ow) (p := p) hi hR.1
    have hi1 := hi.step s1
    have hR1 : RepLs (CC γ1 (finC ow p st.h x).2 st.u w D1) cs vs := RepLs.mono (fun c' v' h => h.step s1) hR.2
    obtain ⟨γ2, D2, hi2, h2, h3, h4⟩ := finCs_sound (st := { st with h := (finC ow p st.h x).2 }) (p := p + 1) hi1 hR1
    exact ⟨γ2, D2, hi2, ⟨h3 _ _ h1, h2⟩, fun x' v' h => h3 _ _ (h.step s1), fun x' v' h => h4 _ _ (h.mono s1.pres s1.dd s1.uu s1.same)⟩
theorem finV_sound {ow : List Nat} {p : Nat} (hi : Inv c γ D st a w) {x : AV} {v : Value} (hx : RepB γ st.h st.u w D x v) : ∃ γ' D', Inv c γ' D' { st with h := (finV ow p st.h x).2 } a w ∧ RepB γ' (finV ow p st.h x).2 st.u w D' (finV ow p st.h x).1 v ∧ ∀ y z, RepB γ st.h st.u w D y z → RepB γ' (finV ow p st.h x).2 st.u w D' y z := by
  have cell : ∀ {x : AV}, RepB γ st.h st.u w D x v → Cell x → ∃ γ' D', Inv c γ' D' { st with h := (finC ow p st.h x).2 } a w ∧ RepB γ' (finC ow p st.h x).2 st.u w D' (finC ow p st.h x).1 v ∧ ∀ y z, RepB γ st.h st.u w D y z → RepB γ' (finC ow p st.h x).2 st.u w D' y z := fun {x} hx hc => by
    obtain ⟨γ', D', s, h1⟩ := finC_sound (ow := ow) (p := p) hi ⟨hx.toC hc, hc⟩
    exact ⟨γ', D', hi.step s, h1.1.b, fun y z h => h.mono s.pres s.dd s.uu s.same⟩
  cases x with
  | agg cs =>
    obtain ⟨vs, rfl, hn, hh⟩ := hx
    obtain ⟨γ', D', h1, h2, _, h4⟩ := finCs_sound (ow := ow) (p := p) hi (cs := cs) (vs := vs.toList) (RepLs.of (by simpa using hn) fun i c' v' hi' hj => hh i c' v' hi' (by simpa using hj))
    obtain ⟨g1, g2⟩ := h2.get
    exact ⟨γ', D', h1, ⟨vs, rfl, by simpa using g1, fun i c' v' hi' hj => g2 i c' v' hi' (by simpa using hj)⟩, h4⟩
  | undef => exact cell hx (.inl rfl)
  | tup vs => exact (nomatch (show RepD w D (.tup vs) v from hx))
  | ow t xs => exact (nomatch (show RepD w D (.ow t xs) v from hx))
  | _ => exact cell hx (.inr rfl)
theorem finVs_sound {ow : List Nat} : ∀ {xs : List AV} {p : Nat} {vs : List Value} {γ : Gh} {D : Dead} {st : St}, Inv c γ D st a w → RepLs (RepB γ st.h st.u w D) xs vs →
    ∃ γ' D', Inv c γ' D' { st with h := (finVs ow p st.h xs).2 } a w ∧ RepLs (RepB γ' (finVs ow p st.h xs).2 st.u w D') (finVs ow p st.h xs).1 vs ∧ ∀ y z, RepB γ st.h st.u w D y z → RepB γ' (finVs ow p st.h xs).2 st.u w D' y z
  | [], _, [], γ, D, st, hi, _ => ⟨γ, D, hi, trivial, fun _ _ h => h⟩
  | [], _, _ :: _, γ, D, st, hi, h => h.elim
  | _ :: _, _, [], γ, D, st, hi, h => h.elim
  | x :: xs, p, v :: vs, γ, D, st, hi, hR => by
    obtain ⟨γ1, D1, hi1, h1, k1⟩ := finV_sound (ow := ow) (p := p) hi hR.1
    obtain ⟨γ2, D2, hi2, h2, k2⟩ := finVs_sound (st := { st with h := (finV ow p st.h x).2 }) (p := p + 128) hi1 (RepLs.mono k1 hR.2)
    exact ⟨γ2, D2, hi2, ⟨k2 _ _ h1, h2⟩, fun y z h => k2 _ _ (k1 _ _ h)⟩
end
end
end Go.AM
