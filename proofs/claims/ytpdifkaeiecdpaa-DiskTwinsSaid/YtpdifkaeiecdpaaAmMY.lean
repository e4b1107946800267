/- Soundness: a call; operations in a given order. -/
import Derived.Test.YtpdifkaeiecdpaaAmMX
namespace Go.AM
open Go.RowKit Go.Lib
section
variable [Reg]
section
variable {P : Program} {c : Ctx} {γ γ' γ'' : Gh} {D D' D'' : Dead} {st : St} {a : Act} {w w' w'' : World} {tb : Tb} {H : Hints} {h h' h'' : Heap} {u u' u'' : List Nat}

theorem RepLs.at {Q : AV → Value → Prop} {cs : List AV} {vs : List Value} (h : RepLs Q cs vs) {i : Nat} {c : AV} {v : Value} (h1 : cs[i]? = some c) (h2 : vs[i]? = some v) : Q c v := h.get.2 i c v h1 h2
theorem RepLs.append {Q : AV → Value → Prop} : ∀ {cs cs' : List AV} {vs vs' : List Value}, RepLs Q cs vs → RepLs Q cs' vs' → RepLs Q (cs ++ cs') (vs ++ vs')
  | [], _, [], _, _, h => h
  | [], _, _ :: _, _, h, _ => h.elim
  | _ :: _, _, [], _, h, _ => h.elim
  | _c :: _cs, _, _v :: _vs, _, h, h' => ⟨h.1, RepLs.append h.2 h'⟩

theorem go_sound {F : Fns} (hF : SoundF P F) {o : Oper} (hi : Inv c γ D st a w) {n : Nat} {as : List AV} {cvs : Array Value} {ks : List Nat} {e : Eff}
    (hR : RepLs (RepB γ st.h st.u w D) as cvs.toList) (hs : (goQ F H st.u o.dst n st.h as ks).val = some e)
    (hx0 : (∃ fn, P.funcs[n]? = some fn ∧ (fn.name == "runtime.NumGoroutine") = false ∧ fn.body.isNone = false) → (execOp a.eval o).run P w = .ok (.enter n cvs) w)
    {next : Act → World → Prop} {T : Exit → Act → World → Prop} (hn : ∀ cv w' γ' D', Inv c γ' D' ({ st with h := e.2.1, u := e.2.2.1 }.put o.dst e.1) (a.put o.dst cv) w' → next (a.put o.dst cv) w') : o.wp P a w next T := by
  unfold goQ at hs
  split at hs
  · rename_i vs os hvs hos
    generalize hb : ((nodupB (ks ++ inls st.h ks) && Nat.blt n 1000000) && (objsOk os && (nodupB ((heap0 os).map (·.1)) && os.all notTok))) = b at hs
    cases b
    · cases hs
    · simp only [cond_true] at hs
      simp only [Bool.and_eq_true] at hb
      obtain ⟨⟨b1, b2⟩, b3, b4, b5⟩ := hb
      obtain ⟨⟨r, os'⟩, hr, hs⟩ := Q.val_bind hs
      unfold backQ at hs
      generalize hb : ((objsOk os' && resOk r) && (nodupB ((backL o.dst ks r os').map (·.1)) && ((newsOf ks (backL o.dst ks r os')).all (isNew st.u) && ks.all (far o.dst)))) = b at hs
      cases b
      · cases hs
      · simp only [cond_true] at hs
        simp only [Bool.and_eq_true] at hb
        obtain ⟨⟨c1, c2⟩, c3, c4, c5⟩ := hb
        cases hs
        have hnd := nodupB_iff b1
        have hnl := nodupB_iff c3
        have hn0 := nodupB_iff b4
        obtain ⟨hfn, hcall⟩ := hF _ _ _ _ _ hr
        have hmod : (n + ownN H o.dst) % 1000000 = n := by
          have := blt_iff.1 b2
          unfold ownN
          cases flag H o.dst 3 <;> simp <;> omega
        rw [hmod] at hfn hcall
        have rO := ren_out (u := st.u) hnd hos b3 hn0 b5
        have hC := hcall ⟨w, D, γ.ren (phi st.h ks) (heap0 os), heap0 os⟩ cvs ⟨rfl, hn0, b5, rO.hok hi.hp, hi.dl, by
            rw [(mapO_spec hvs).1, ← hR.get.1]; simp, fun i v cv h1 h2 => by
            obtain ⟨x, g1, g2⟩ := (mapO_spec hvs).2 i v h1
            exact outV_rep (f := phi st.h ks) (fun k m => phi_idx) g2 (rO.repB (hR.at g1 (by simpa using h2)))⟩
        unfold Oper.wp
        rw [hx0 hfn, Oper.upon_enter]
        refine hC.mono fun e w' hp => ?_
        obtain ⟨cv, γ', D', rfl, hp⟩ := hp
        obtain ⟨_, hnR⟩ := ren_back (dst := o.dst) (ks := ks) c1 c2 hnl
        obtain ⟨p1, p2, p3⟩ := hp c1 c2 hnR
        obtain ⟨γf, s, hv⟩ := back_stp hi hnd hos b3 hn0 b5 c1 c2 hnl c4 c5 p1 p3
        exact hn cv w' γf D' ((hi.step s).put (hv cv p2) o.dst)
  · cases hs

theorem call_sound {F : Fns} (hF : SoundF P F) {o : Oper} (hi : Inv c γ D st a w) {f : Operand} {args : Array Operand} {ts : Array Nat} (ho : o.op = .call { callee := .value f, args := args, argTypes := ts }) {e : Eff}
    (hs : (callQ F H st.h st.u o.dst (st.ev f) (args.toList.map st.ev)).val = some e) {next : Act → World → Prop} {T : Exit → Act → World → Prop} (hn : ∀ cv w' γ' D', Inv c γ' D' ({ st with h := e.2.1, u := e.2.2.1 }.put o.dst e.1) (a.put o.dst cv) w' → next (a.put o.dst cv) w') : o.wp P a w next T := by
  unfold callQ at hs
  split at hs
  · rename_i n caps hf
    cases hnt : (args.toList.map st.ev).all notTup with
    | false => rw [hnt] at hs; cases hs
    | true =>
      rw [hnt] at hs
      simp only [cond_true] at hs
      have hfv := hi.ev f
      rw [hf] at hfv
      obtain ⟨vs, ev, hvn, hvc⟩ := (show RepC γ st.h st.u w D (.fn n caps) (a.eval f) from hfv)
      have hA : RepLs (RepB γ st.h st.u w D) (args.toList.map st.ev) (args.toList.map a.eval) := RepLs.of (by simp) fun i x v h1 h2 => by
        have hx := List.all_eq_true.1 hnt x (List.mem_of_getElem? h1)
        simp only [List.getElem?_map] at h1 h2
        cases ha : args.toList[i]? with
        | none => rw [ha] at h1; simp at h1
        | some y =>
          rw [ha] at h1 h2
          simp only [Option.map_some, Option.some.injEq] at h1 h2
          subst h2
          have := hi.ev y
          rw [h1] at this
          exact this.toB fun l e => by rw [e] at hx; simp [notTup] at hx
      have hC : RepLs (RepB γ st.h st.u w D) caps vs.toList := RepLs.of (by simp [hvn]) fun i x v h1 h2 => (hvc i x v h1 (by simpa using h2)).1.c.b
      have hrun : (∃ fn, P.funcs[n]? = some fn ∧ (fn.name == "runtime.NumGoroutine") = false ∧ fn.body.isNone = false) → (execOp a.eval o).run P w = .ok (.enter n (args.map a.eval ++ vs)) w := by
        rintro ⟨fn, f1, f2, f3⟩
        have f2' : ¬ fn.name = "runtime.NumGoroutine" := by simpa using f2
        have f3' : ¬ fn.body = none := by intro e; simp [e] at f3
        simp [execOp, ho, resolve, ev, Deferred.ofValue, invoke, callFunc, f1, f2', f3']
      generalize flag H o.dst 2 = b at hs
      cases b
      · simp only [cond_false] at hs
        obtain ⟨e', hs', h0⟩ := Q.val_bind hs
        cases h0
        obtain ⟨γ1, D1, hi1, h1, h2⟩ := frVs_sound hi hA
        refine go_sound (H := H) (e := e') hF hi1 (h1.append (RepLs.mono h2 hC) |> fun q => ?_) hs' hrun hn
        rw [Array.toList_append, Array.toList_map]
        exact q
      · simp only [cond_true] at hs
        obtain ⟨e', hs', h0⟩ := Q.val_bind hs
        cases h0
        refine go_sound (H := H) (e := e') hF hi (hA.append hC |> fun q => ?_) hs' hrun hn
        rw [Array.toList_append, Array.toList_map]
        exact q
  · cases hs

/-! ### Operations, one by one -/
abbrev Trc := Option Nat × List Nat
def stepD (E : Ev) (st : St) (o : Oper) : Option (St × Trc) :=
  match o.op with
  | .call { callee := .value f, args, .. } => (callQ E.F E.H st.h st.u o.dst (st.ev f) (args.toList.map st.ev)).val.map fun e => ({ st with h := e.2.1, u := e.2.2.1 }.put o.dst e.1, none, e.2.2.2)
  | _ => (match kindA E.tb o.op with
    | 0 => (pureQ E.tb st.ev o.op).val.map fun v => (st.put o.dst v, none, [])
    | 1 => (lookQ E.tb st.ev st.h o.op).val.map fun e => (st.put o.dst e.1, e.2, [])
    | _ => (effQ E.tb E.H st.ev st.h st.u o.dst o.op).val.map fun e => ({ st with h := e.2.1, u := e.2.2.1 }.put o.dst e.1, none, e.2.2.2))
def opD (E : Ev) (ops : Array Oper) (st : St) (o : Oper) : Option (St × Trc) :=
  match guardOf ops o with
  | .bad => none
  | .free => stepD E st o
  | .at_ t want => (match st.get t with
    | .bool b => if b = want then stepD E (st.put (some t) (.bool b)) o else some ((st.put (some t) (.bool b)).put o.dst (.tup []), none, [])
    | .tup [] => some (st.put o.dst (.tup []), none, [])
    | _ => none)
def runD (E : Ev) (ops : Array Oper) : List Oper → St → Option (St × List Trc)
  | [], st => some (st, [])
  | o :: r, st => match opD E ops st o with
    | some (st', t) => (match runD E ops r st' with | some (st2, ts) => some (st2, t :: ts) | none => none)
    | none => none
def noteR (i : Nat) (rd : List (Nat × Nat)) (t : Trc) : List (Nat × Nat) := match t.1 with | some k => (i, k) :: rd | none => rd
def noteW (i : Nat) (wr : List (Nat × Nat)) (t : Trc) : List (Nat × Nat) := t.2.map (fun k => (i, k)) ++ wr
/-- What is looked at is not turned by what may come first. -/
def okT (ms : List Nat) : Nat → List (Nat × Nat) → List (Nat × Nat) → List Trc → Prop
  | _, _, _, [] => True
  | i, rd, wr, t :: ts => (t.2.any (hit (ms.getD i 0) rd) = false ∧ ∀ k, t.1 = some k → hit (ms.getD i 0) wr k = false) ∧ okT ms (i + 1) (noteR i rd t) (noteW i wr t) ts
theorem kindA_cases (tb : Tb) (op : Op) : kindA tb op = 0 ∨ kindA tb op = 1 ∨ kindA tb op = 2 := by
  unfold kindA
  split <;> try simp
  · unfold convK
    repeat' split
    all_goals simp
  · cases isPtrT tb _ <;> simp
theorem stepD_call {E : Ev} {o : Oper} {f : Operand} {args : Array Operand} {ts : Array Nat} (ho : o.op = .call { callee := .value f, args := args, argTypes := ts }) : stepD E st o = (callQ E.F E.H st.h st.u o.dst (st.ev f) (args.toList.map st.ev)).val.map fun e => ({ st with h := e.2.1, u := e.2.2.1 }.put o.dst e.1, none, e.2.2.2) := by
  unfold stepD
  rw [ho]
theorem stepD_ne {E : Ev} {o : Oper} (hne : ∀ f args ts, o.op ≠ .call { callee := .value f, args := args, argTypes := ts }) : stepD E st o = (match kindA E.tb o.op with
    | 0 => (pureQ E.tb st.ev o.op).val.map fun v => (st.put o.dst v, none, [])
    | 1 => (lookQ E.tb st.ev st.h o.op).val.map fun e => (st.put o.dst e.1, e.2, [])
    | _ => (effQ E.tb E.H st.ev st.h st.u o.dst o.op).val.map fun e => ({ st with h := e.2.1, u := e.2.2.1 }.put o.dst e.1, none, e.2.2.2)) := by
  unfold stepD
  split
  · rename_i ho
    exact absurd ho (hne _ _ _)
  · rfl
theorem stepK_D {ρ : Type} {E : Ev} {draw : Bool} {o : Oper} {i m : Nat} {rd wr : List (Nat × Nat)} {K : St → List (Nat × Nat) → List (Nat × Nat) → Option ρ} {r : ρ} (h : stepK E draw st o i m rd wr K = some r) :
    ∃ st' t, stepD E st o = some (st', t) ∧ (draw = true → t.2.any (hit m rd) = false ∧ ∀ k, t.1 = some k → hit m wr k = false) ∧ K st' (bif draw then noteR i rd t else rd) (bif draw then noteW i wr t else wr) = some r := by
  have eff : ∀ {e : Eff}, effK draw st o.dst i m rd wr K e = some r → (draw = true → e.2.2.2.any (hit m rd) = false) ∧ K ({ st with h := e.2.1, u := e.2.2.1 }.put o.dst e.1) rd (bif draw then e.2.2.2.map (fun k => (i, k)) ++ wr else wr) = some r := fun {e} h => by
    unfold effK at h
    cases draw
    · exact ⟨fun h => by simp at h, h⟩
    · cases hb : e.2.2.2.any (hit m rd)
      · rw [hb] at h
        exact ⟨fun _ => rfl, h⟩
      · rw [hb] at h; simp at h
  unfold stepK at h
  split at h
  · rename_i ho
    obtain ⟨e, h1, h2⟩ := Q.run_val h
    obtain ⟨h3, h4⟩ := eff h2
    rw [stepD_call ho, h1]
    refine ⟨_, _, rfl, fun hd => ⟨h3 hd, by simp⟩, ?_⟩
    cases draw <;> exact h4
  · rename_i hne
    rw [stepD_ne fun f args ts e => hne f args ts e]
    split at h
    · obtain ⟨e, h1, h2⟩ := Q.run_val h
      rename_i hk
      simp only [hk, h1]
      refine ⟨_, _, rfl, fun _ => ⟨rfl, by simp⟩, ?_⟩
      cases draw <;> exact h2
    · obtain ⟨e, h1, h2⟩ := Q.run_val h
      rename_i hk
      simp only [hk, h1]
      refine ⟨_, _, rfl, ?_⟩
      unfold lookK at h2
      obtain ⟨v, kk⟩ := e
      cases kk with
      | none =>
        refine ⟨fun _ => ⟨rfl, by simp⟩, ?_⟩
        cases draw <;> exact h2
      | some k =>
        cases draw
        · exact ⟨fun h => by simp at h, h2⟩
        · simp only [Bool.true_and] at h2
          cases hw : hit m wr k
          · rw [hw] at h2
            exact ⟨fun _ => ⟨rfl, fun k' e => by cases e; exact hw⟩, h2⟩
          · rw [hw] at h2; simp at h2
    · obtain ⟨e, h1, h2⟩ := Q.run_val h
      obtain ⟨h3, h4⟩ := eff h2
      rename_i hk1 hk2
      have hk : kindA E.tb o.op = 2 := by
        rcases kindA_cases E.tb o.op with q | q | q
        · exact absurd q hk1
        · exact absurd q hk2
        · exact q
      simp only [hk, h1]
      refine ⟨_, _, rfl, fun hd => ⟨h3 hd, by simp⟩, ?_⟩
      cases draw <;> exact h4
theorem runOps_D {ρ : Type} {E : Ev} {draw : Bool} {ops : Array Oper} {ms : List Nat} {K : St → Option ρ} {r : ρ} : ∀ {l : List Oper} {i : Nat} {st : St} {rd wr : List (Nat × Nat)}, runOps E draw ops ms K l i st rd wr = some r → ∃ st' ts, runD E ops l st = some (st', ts) ∧ (draw = true → okT ms i rd wr ts) ∧ K st' = some r
  | [], i, st, rd, wr, h => ⟨st, [], rfl, fun _ => trivial, h⟩
  | o :: l, i, st, rd, wr, h => by
    have go : ∀ {st1}, opD E ops st o = some (st1, none, []) → runOps E draw ops ms K l (i + 1) st1 rd wr = some r → ∃ st' ts, runD E ops (o :: l) st = some (st', ts) ∧ (draw = true → okT ms i rd wr ts) ∧ K st' = some r := fun {st1} h1 h2 => by
      obtain ⟨st', ts, h3, h4, h5⟩ := runOps_D h2
      exact ⟨st', (none, []) :: ts, by simp only [runD, h1, h3], fun hd => ⟨⟨rfl, by simp⟩, h4 hd⟩, h5⟩
    have stp : ∀ {st0}, opD E ops st o = stepD E st0 o → stepK E draw st0 o i (ms.getD i 0) rd wr (fun st' rd' wr' => runOps E draw ops ms K l (i + 1) st' rd' wr') = some r → ∃ st' ts, runD E ops (o :: l) st = some (st', ts) ∧ (draw = true → okT ms i rd wr ts) ∧ K st' = some r := fun {st0} h0 h2 => by
      obtain ⟨st1, t, h3, h4, h5⟩ := stepK_D h2
      obtain ⟨st', ts, h6, h7, h8⟩ := runOps_D h5
      refine ⟨st', t :: ts, by simp only [runD, h0, h3, h6], fun hd => ⟨h4 hd, ?_⟩, h8⟩
      have := h7 hd
      rw [hd] at this
      exact this
    unfold runOps at h
    split at h
    · cases h
    · rename_i hg
      exact stp (by simp only [opD, hg]) h
    · rename_i t hg
      split at h
      · rename_i b hb
        cases b
        · exact go (by simp [opD, hg, hb]) h
        · exact stp (st0 := st.put (some t) (.bool true)) (by simp [opD, hg, hb]) h
      · rename_i hb
        exact go (by simp [opD, hg, hb]) h
      · cases h
    · rename_i t hg
      split at h
      · rename_i b hb
        cases b
        · exact stp (st0 := st.put (some t) (.bool false)) (by simp [opD, hg, hb]) h
        · exact go (by simp [opD, hg, hb]) h
      · rename_i hb
        exact go (by simp [opD, hg, hb]) h
      · cases h

theorem inv_bool' {b : Bool} {v : Value} (hv : RepV γ h u w D (.bool b) v) : v = .bool b := by
  cases (show RepD w D (.bool b) v from hv); rfl
theorem Inv.reput (hi : Inv c γ D st a w) {t : Nat} {b : Bool} (hb : st.get t = .bool b) : Inv c γ D (st.put (some t) (.bool b)) a w ∧ a.tmps[t]? = some (.bool b) := by
  have hv := hi.tm t
  rw [hb] at hv
  have e := inv_bool' hv
  have e' : a.tmps[t]? = some (.bool b) := by
    rw [Array.getD_eq_getD_getElem?] at e
    cases ht : a.tmps[t]? with
    | none => rw [ht] at e; simp [Go.undef] at e
    | some v => rw [ht] at e; simpa using e
  have hp := hi.put (v := .bool b) (cv := .bool b) (.of (.bool b)) (some t)
  have : a.put (some t) (.bool b) = a := by
    obtain ⟨tm, df⟩ := a
    simp only [Act.put, Act.mk.injEq, and_true]
    apply Array.ext_getElem?
    intro i
    rw [Array.getElem?_setIfInBounds]
    split
    · rename_i e2
      subst e2
      split
      · exact e'.symm
      · rename_i hlt
        have : t < tm.size := (Array.getElem?_eq_some_iff.1 e').1
        omega
    · rfl
  rw [this] at hp
  exact ⟨hp, e'⟩

/-- What may be asked of a program's functions and types. -/
structure EvOk (P : Program) (E : Ev) : Prop where
  F : SoundF P E.F
  tb : TbOk P E.tb
theorem stepD_sound {E : Ev} (hE : EvOk P E) {o : Oper} (hi : Inv c γ D st a w) {st' : St} {t : Trc} (hs : stepD E st o = some (st', t)) {next : Act → World → Prop} {T : Exit → Act → World → Prop}
    (hn : ∀ cv w' γ' D', Inv c γ' D' st' (a.put o.dst cv) w' → next (a.put o.dst cv) w') : o.wp P a w next T := by
  have gives : Gives P c o a w st' → o.wp P a w next T := fun hg => by
    obtain ⟨cv, w', hr, γ', D', hI⟩ := hg
    unfold Oper.wp
    rcases hr with hr | ⟨hr, rfl⟩
    · rw [hr, Oper.upon_value]
      exact hn _ _ _ _ hI
    · rw [hr, Oper.upon_skip]
      exact hn _ _ _ _ hI
  unfold stepD at hs
  split at hs
  · rename_i f args ts ho
    simp only [Option.map_eq_some_iff, Prod.mk.injEq] at hs
    obtain ⟨e, h1, rfl, _⟩ := hs
    exact call_sound hE.F hi ho h1 hn
  · split at hs
    · simp only [Option.map_eq_some_iff, Prod.mk.injEq] at hs
      obtain ⟨e, h1, rfl, _⟩ := hs
      exact gives (pure_sound hE.tb hi h1)
    · simp only [Option.map_eq_some_iff, Prod.mk.injEq] at hs
      obtain ⟨e, h1, rfl, _⟩ := hs
      exact gives (look_sound hE.tb hi h1)
    · rename_i hk1 hk2
      have hk : kindA E.tb o.op = 2 := by
        rcases kindA_cases E.tb o.op with q | q | q
        · exact absurd q hk1
        · exact absurd q hk2
        · exact q
      simp only [Option.map_eq_some_iff, Prod.mk.injEq] at hs
      obtain ⟨e, h1, rfl, _⟩ := hs
      exact gives (eff_sound hE.tb hi hk h1)

omit [Reg] in
theorem guardOf_free {ops : Array Oper} {o : Oper} (h : guardOf ops o = .free) (y : Nat → Option Bool) : Region.wanted o y = true := by
  unfold guardOf at h
  unfold Region.wanted
  split at h
  · rename_i e; simp [e]
  · split at h <;> simp at h
omit [Reg] in
theorem guardOf_at {ops : Array Oper} {o : Oper} {t : Nat} {want : Bool} (h : guardOf ops o = .at_ t want) {tm : Array Value} {b : Bool} (hb : tm[t]? = some (.bool b)) : Region.wanted o (yielded ops tm) = decide (b = want) := by
  unfold guardOf at h
  unfold Region.wanted
  split at h
  · simp at h
  · rename_i j w' e
    split at h
    · rename_i t' e'
      simp only [Gd.at_.injEq] at h
      obtain ⟨rfl, rfl⟩ := h
      simp only [e, yielded, e', Option.bind_some, hb]
      cases b <;> cases w' <;> rfl
    · simp at h
omit [Reg] in
theorem guardOf_none {ops : Array Oper} {o : Oper} {t : Nat} {want : Bool} (h : guardOf ops o = .at_ t want) {tm : Array Value} (hb : ∀ b, tm[t]? ≠ some (.bool b)) : Region.wanted o (yielded ops tm) = false := by
  unfold guardOf at h
  unfold Region.wanted
  split at h
  · simp at h
  · rename_i j w' e
    split at h
    · rename_i t' e'
      simp only [Gd.at_.injEq] at h
      obtain ⟨rfl, rfl⟩ := h
      have hy : yielded ops tm j = none := by
        have hu : yielded ops tm j = (match ((ops[j]?).bind (·.dst)).bind (tm[·]?) with | some (.bool b) => some b | _ => none) := rfl
        rw [hu, e', Option.bind_some]
        cases hh : tm[t']? with
        | none => rfl
        | some v => cases v <;> first | rfl | exact absurd hh (hb _)
      simp [e, hy]
    · simp at h

theorem wpOps_sound {E : Ev} (hE : EvOk P E) {ops : Array Oper} {T : Exit → Act → World → Prop} {st' : St} (hq : ∀ γ' D' a' w', Inv c γ' D' st' a' w' → T .normal a' w') :
    ∀ (l : List Nat) (ts : List Trc) (γ : Gh) (D : Dead) (st : St) (a : Act) (w : World), Inv c γ D st a w → runD E ops (l.filterMap (ops[·]?)) st = some (st', ts) → wpOps P ops T l a w
  | [], ts, γ, D, st, a, w, h, hs => by
    simp only [List.filterMap_nil, runD, Option.some.injEq, Prod.mk.injEq] at hs
    obtain ⟨rfl, _⟩ := hs
    exact hq _ _ _ _ h
  | i :: l, ts, γ, D, st, a, w, h, hs => by
    unfold wpOps
    cases ho : ops[i]? with
    | none =>
      rw [List.filterMap_cons_none ho] at hs
      exact wpOps_sound hE hq l ts γ D st a w h hs
    | some o =>
      rw [List.filterMap_cons_some ho] at hs
      simp only [runD] at hs
      simp only
      split at hs
      · rename_i s1 t1 h1
        split at hs
        · rename_i s2 ts2 h2
          simp only [Option.some.injEq, Prod.mk.injEq] at hs
          obtain ⟨rfl, _⟩ := hs
          have hnext : ∀ cv w' γ' D', Inv c γ' D' s1 (a.put o.dst cv) w' → wpOps P ops T l (a.put o.dst cv) w' := fun cv w' γ' D' hI => wpOps_sound hE hq l ts2 γ' D' s1 _ w' hI h2
          unfold opD at h1
          split at h1
          · simp at h1
          · rename_i hg
            rw [if_pos (guardOf_free hg _)]
            exact .inl (stepD_sound hE h h1 hnext)
          · rename_i t want hg
            split at h1
            · rename_i b hb
              obtain ⟨hp, ht⟩ := h.reput hb
              rw [guardOf_at hg ht]
              split at h1
              · rename_i e
                rw [decide_eq_true e, if_pos rfl]
                exact .inl (stepD_sound hE hp h1 hnext)
              · rename_i e
                rw [decide_eq_false e, if_neg (by simp)]
                simp only [Option.some.injEq, Prod.mk.injEq] at h1
                obtain ⟨rfl, _⟩ := h1
                exact hnext _ _ γ D (hp.put (v := .tup []) (show RepV _ _ _ _ _ (.tup []) Go.undef from ⟨#[], rfl, rfl, by simp⟩) o.dst)
            · rename_i hb
              have hv := h.tm t
              rw [hb] at hv
              obtain ⟨arr, e1, e2, _⟩ := hv
              have e3 : arr = #[] := by simpa using e2
              subst e3
              rw [guardOf_none hg (tm := a.tmps) (by
                intro b e4
                rw [Array.getD_eq_getD_getElem?, e4] at e1
                simp at e1), if_neg (by simp)]
              simp only [Option.some.injEq, Prod.mk.injEq] at h1
              obtain ⟨rfl, _⟩ := h1
              exact hnext _ _ γ D (h.put (v := .tup []) (show RepV _ _ _ _ _ (.tup []) Go.undef from ⟨#[], rfl, rfl, by simp⟩) o.dst)
            · simp at h1
        · simp at hs
      · simp at hs

omit [Reg] in
theorem range_filterMap (ops : Array Oper) : (List.range ops.size).filterMap (ops[·]?) = ops.toList := by
  have h : (List.range ops.size).map (fun i : Nat => ops[i]?) = ops.toList.map some := by
    apply List.ext_getElem?
    intro i
    by_cases h : i < ops.size
    · simp [h]
    · simp [h]
  have h2 : ∀ l : List Nat, l.filterMap (ops[·]?) = (l.map (fun i : Nat => ops[i]?)).filterMap id := fun l => by simp [List.filterMap_map]
  rw [h2, h]
  simp [List.filterMap_map]
end
end
end Go.AM
