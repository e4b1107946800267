/- Regions that draw their order (5): operations that change places. -/
import Derived.Test.YtnhfjkckgicidaaAmDraw4
set_option linter.unusedVariables false
set_option linter.unusedSimpArgs false
namespace Go.AM
open Go.RowKit Go.Lib

section
variable {E : Ev} {ops : Array Oper} {st st2 s s2 : St} {o : Oper}

theorem pure_notBump {tb : Tb} (h : pureOp tb o = true) : isBump tb o = false := by
  cases ho : o.op with
  | convert a b x =>
    simp only [pureOp, isBump, ho] at h ⊢
    cases hf : find b tb with
    | none => rw [hf] at h; simp at h
    | some td =>
      rw [hf] at h
      dsimp only at h ⊢
      cases hk : td.k <;> rw [hk] at h <;> simp_all
  | call c =>
    obtain ⟨callee, args, ts⟩ := c
    simp only [pureOp, isBump, ho] at h ⊢
    cases callee with
    | builtin b => cases b <;> simp_all
    | value f => rfl
    | invoke f n => rfl
  | store t x y => simp [pureOp, ho] at h
  | _ => simp only [isBump, ho]

theorem curAt_congr {a b : St} (hn : a.nt = b.nt) (hg : a.g = b.g) (dst : Option Nat) (v : AV) : curAt (a.put dst v) dst = curAt (b.put dst v) dst := by
  rw [curAt_put, curAt_put, hn, isCurB_congr hg]
theorem ap_put (v : AV) (dst : Option Nat) (s : St) : Eff.ap ⟨none, v, none, [], []⟩ dst s = s.put dst v := by rw [St.put_eq]; rfl

theorem stepD_eff (hc : pureOp E.tb o = true ∨ loadOp o = true ∨ callOp o = true) {s' : St} (h : stepD E true s o = some s') :
    ∃ v rds ks bs, s' = Eff.ap ⟨none, v, rds, ks, bs⟩ o.dst s ∧ (∀ k, rds = some k → k ∉ s.wr) ∧ (∀ k ∈ ks, k ∉ s.rd) ∧ (callOp o = false → ks = []) ∧ (callOp o = true → rds = none) ∧
      ∀ s2 : St, s2.nt = s.nt → s2.g = s.g → s2.r = s.r → (∀ x ∈ o.op.operands.toList, s2.ev x = s.ev x) → (∀ k, (rds = some k ∨ k ∈ ks) → find k s2.b = find k s.b) → (∀ k, rds = some k → k ∉ s2.wr) → (∀ k ∈ ks, k ∉ s2.rd) →
        stepD E true s2 o = some (Eff.ap ⟨none, v, rds, ks, bs⟩ o.dst s2) := by
  unfold stepD at h
  split at h
  · rename_i f args ts ho
    have hev : ∀ s2 : St, (∀ x ∈ o.op.operands.toList, s2.ev x = s.ev x) → s2.ev f = s.ev f ∧ args.toList.map s2.ev = args.toList.map s.ev := fun s2 hh =>
      ⟨hh f (by rw [ho]; simp [Op.operands, Call.operands]), List.map_congr_left fun x hx => hh x (by rw [ho]; simp [Op.operands, Call.operands, Array.mem_toList_iff.1 hx])⟩
    unfold callD at h
    split at h
    · rename_i n hf
      split at h
      · rename_i vs ks hp
        split at h
        · rename_i bs hb
          split at h
          · rename_i hd
            split at h
            · rename_i v bs' hF
              split at h
              · rename_i hcond
                simp only [Option.some.injEq] at h
                subst h
                have hdis : ∀ k ∈ ks, k ∉ s.rd := by
                  intro k hk hk'
                  simp only [Bool.not_true, Bool.false_or, disj, List.all_eq_true] at hd
                  have := hd k hk
                  simp [hk'] at this
                refine ⟨v, none, ks, bs', by rw [St.put_eq]; rfl, by simp, hdis, by simp [callOp, ho], by simp, fun s2 h1 h2 h3 h4 h5 h6 h7 => ?_⟩
                obtain ⟨e1, e2⟩ := hev s2 h4
                have hgen : ∀ j, s2.gen j = s.gen j := fun j => by unfold St.gen; rw [h2]
                have hcur : s2.cur = s.cur := by funext u; cases u <;> simp only [St.cur, hgen]
                have hpass : ∀ (l : List AV) n, s2.pass n l = s.pass n l := by
                  intro l
                  induction l with
                  | nil => intro n; rfl
                  | cons a l ih => intro n; cases a <;> simp only [St.pass, ih]
                have hbox : ∀ l : List Nat, (∀ k ∈ l, k ∈ ks) → s2.boxesAt l = s.boxesAt l := by
                  intro l
                  induction l with
                  | nil => intro _; rfl
                  | cons k l ih =>
                    intro hh
                    simp only [St.boxesAt, ih (fun k hk => hh k (List.mem_cons_of_mem _ hk)), h5 k (.inr (hh k (List.mem_cons_self ..))), hcur]
                have hd2 : (!true || disj ks s2.rd) = true := by
                  simp only [Bool.not_true, Bool.false_or, disj, List.all_eq_true]
                  intro k hk
                  simp [h7 k hk]
                have hcx : ∀ l : Boxes, curBx s2 l = curBx s l := by
                  intro l
                  induction l with
                  | nil => rfl
                  | cons c l ih =>
                    simp only [curBx, ih]
                    rw [show (isCurB s2) = (isCurB s) from funext fun u => isCurB_congr h2 u]
                have hca : curAt ({ s2 with b := putBoxes s2.b ks bs', wr := ks ++ s2.wr }.put o.dst v) o.dst = curAt ({ s with b := putBoxes s.b ks bs', wr := ks ++ s.wr }.put o.dst v) o.dst := by
                  exact curAt_congr (a := { s2 with b := putBoxes s2.b ks bs', wr := ks ++ s2.wr }) (b := { s with b := putBoxes s.b ks bs', wr := ks ++ s.wr }) h1 h2 o.dst v
                unfold stepD
                rw [ho]
                dsimp only
                unfold callD
                rw [e1, e2, hf]
                dsimp only
                rw [hpass, hp]
                dsimp only
                rw [hbox ks (fun k hk => hk), hb]
                dsimp only
                rw [if_pos hd2, hF]
                dsimp only
                rw [if_pos ⟨hcond.1, fun _ => by rw [hcx, hca]; exact hcond.2 rfl⟩, St.put_eq]
                rfl
              · simp at h
            · simp at h
          · simp at h
        · simp at h
      · simp at h
    · simp at h
  · rename_i hno
    have hnc : callOp o = false := by
      unfold callOp
      split
      · rename_i f args ts e; exact absurd e (hno _ _ _)
      · rfl
    have hstep : ∀ s : St, stepD E true s o = (match stepA E.tb true s o with
        | some st' => bif true then (bif isBump E.tb o then (bif keepsPtr st' s.t && keepsPtrB st' s.b then some st'.canon else none) else (bif curAt st' o.dst then some st' else none)) else some st'
        | none => none) := by
      intro s
      unfold stepD
      split
      · rename_i f args ts e; exact absurd e (hno _ _ _)
      · rfl
    have hcurAt : ∀ (s2 : St) (v : AV), s2.nt = s.nt → s2.g = s.g → curAt (s2.put o.dst v) o.dst = curAt (s.put o.dst v) o.dst := by
      intro s2 v h1 h2
      exact curAt_congr h1 h2 _ _
    rcases hc with hp | hl | hcall
    · rw [stepA_val hp, pure_notBump hp] at h
      cases hv : valA E.tb s o with
      | none => rw [hv] at h; simp [putO] at h
      | some v =>
        rw [hv] at h
        simp only [putO, cond_true, cond_false] at h
        cases hk : curAt (s.put o.dst v) o.dst with
        | false => rw [hk] at h; simp at h
        | true =>
          rw [hk] at h
          simp only [cond_true, Option.some.injEq] at h
          subst h
          refine ⟨v, none, [], [], (ap_put v o.dst s).symm, by simp, by simp, fun _ => rfl, fun _ => rfl, fun s2 h1 h2 h3 h4 h5 h6 h7 => ?_⟩
          rw [hstep, stepA_val hp, pure_notBump hp, valA_congr h4 h3, hv]
          simp only [putO, cond_true, cond_false]
          rw [hcurAt s2 v h1 h2, hk, ap_put]
          rfl
    · cases ho : o.op with
      | load t x =>
        have hnb : isBump E.tb o = false := by simp [isBump, ho]
        have hsa : ∀ s : St, stepA E.tb true s o = (match loadA E.tb true s t (s.ev x) with | some (v, rd) => some ({ s with rd := rd }.put o.dst v) | none => none) := fun s => by simp only [stepA, ho]; rfl
        rw [hsa, hnb] at h
        cases hld : loadA E.tb true s t (s.ev x) with
        | none => rw [hld] at h; simp at h
        | some p =>
          obtain ⟨v, rd⟩ := p
          rw [hld] at h
          dsimp only at h
          simp only [cond_true, cond_false] at h
          cases hk : curAt ({ s with rd := rd }.put o.dst v) o.dst with
          | false => rw [hk] at h; simp at h
          | true =>
            rw [hk] at h
            simp only [cond_true, Option.some.injEq] at h
            subst h
            have hk' : ∀ (s2 : St) (rd2 : List Nat), s2.nt = s.nt → s2.g = s.g → curAt ({ s2 with rd := rd2 }.put o.dst v) o.dst = true := by
              intro s2 rd2 h1 h2
              exact (curAt_congr (a := { s2 with rd := rd2 }) (b := { s with rd := rd }) h1 h2 o.dst v).trans hk
            have hx : ∀ s2 : St, (∀ x' ∈ (Op.load t x).operands.toList, s2.ev x' = s.ev x') → s2.ev x = s.ev x := fun s2 hh => hh x (by simp [Op.operands])
            rcases loadA_congr hld with ⟨k, rfl, hw, hh⟩ | ⟨rfl, hh⟩
            · refine ⟨v, some k, [], [], by rw [St.put_eq]; rfl, by intro k' e; cases e; exact hw, by simp, fun _ => rfl, fun e => by rw [hnc] at e; simp at e, fun s2 h1 h2 h3 h4 h5 h6 h7 => ?_⟩
              have hgen : ∀ j, s2.gen j = s.gen j := fun j => by unfold St.gen; rw [h2]
              rw [hstep, hsa, hnb, hx s2 h4, hh s2 hgen (h5 k (.inl rfl)) (h6 k rfl) h3]
              dsimp only
              simp only [cond_true, cond_false]
              rw [hk' s2 _ h1 h2, St.put_eq]
              rfl
            · refine ⟨v, none, [], [], by rw [St.put_eq]; rfl, by simp, by simp, fun _ => rfl, fun _ => rfl, fun s2 h1 h2 h3 h4 h5 h6 h7 => ?_⟩
              rw [hstep, hsa, hnb, hx s2 h4, hh s2 h3]
              dsimp only
              simp only [cond_true, cond_false]
              rw [hk' s2 _ h1 h2, St.put_eq]
              rfl
      | _ => simp [loadOp, ho] at hl
    · rw [hnc] at hcall; simp at hcall

theorem guard_looks {t : Nat} {want : Bool} (h : guardOf ops o = .at_ t want) : t ∈ o.looksAt ops := by
  unfold guardOf at h
  split at h
  · simp at h
  · rename_i j w' e
    split at h
    · rename_i t' e'
      simp only [Gd.at_.injEq] at h
      obtain ⟨rfl, rfl⟩ := h
      unfold Oper.looksAt
      refine List.mem_append.2 (.inr ?_)
      rw [e]
      simp [e']
    · simp at h

theorem does_of (hc : pureOp E.tb o = true ∨ loadOp o = true ∨ callOp o = true) {st' : St} (h : opD E true ops st o = some st') :
    ∃ e, st' = e.ap o.dst st ∧ Does E ops o e st ∧ (callOp o = false → e.ks = []) ∧ (callOp o = true → e.rds = none) := by
  have h0 := h
  unfold opD at h
  split at h
  · simp at h
  · rename_i hg
    obtain ⟨v, rds, ks, bs, e0, h1, h2, h3, h4, h5⟩ := stepD_eff hc h
    subst e0
    refine ⟨⟨none, v, rds, ks, bs⟩, rfl, ⟨by simp, h1, h2, h0, fun st2 hs => ?_⟩, h3, h4⟩
    unfold opD
    rw [hg]
    exact h5 st2 hs.nt hs.g hs.r (fun x hx => ev_congr hs.g fun t e => hs.sl t (looks_operand hx t e)) hs.bx hs.rw hs.wr
  · rename_i t want hg
    have hlk := guard_looks hg
    split at h
    · rename_i b hb
      have hgp : ∀ s : St, s.put (some t) (.bool b) = gput s (some (t, b)) := fun s => by rw [St.put_eq]; rfl
      split at h
      · rename_i hbw
        rw [hgp] at h
        obtain ⟨v, rds, ks, bs, e0, h1, h2, h3, h4, h5⟩ := stepD_eff hc h
        refine ⟨⟨some (t, b), v, rds, ks, bs⟩, e0, ⟨?_, h1, h2, by rw [h0, e0]; rfl, fun st2 hs => ?_⟩, h3, h4⟩
        · intro t' b' e
          simp only [Option.some.injEq, Prod.mk.injEq] at e
          obtain ⟨rfl, rfl⟩ := e
          exact ⟨hb, hlk⟩
        · unfold opD
          rw [hg]
          dsimp only
          rw [hs.sl t hlk, hb]
          dsimp only
          rw [if_pos hbw, hgp]
          have hb2 : st2.get t = .bool b := by rw [hs.sl t hlk, hb]
          refine h5 (gput st2 (some (t, b))) hs.nt hs.g hs.r (fun x hx => ev_congr (st := gput st (some (t, b))) (st2 := gput st2 (some (t, b))) hs.g fun t' e => ?_) hs.bx hs.rw hs.wr
          rw [get_gput (st := st2) (by intro t' b' e; simp only [Option.some.injEq, Prod.mk.injEq] at e; obtain ⟨rfl, rfl⟩ := e; exact hb2), get_gput (st := st) (by intro t' b' e; simp only [Option.some.injEq, Prod.mk.injEq] at e; obtain ⟨rfl, rfl⟩ := e; exact hb)]
          exact hs.sl t' (looks_operand hx t' e)
      · rename_i hbw
        simp only [Option.some.injEq] at h
        have hap : ∀ s : St, (s.put (some t) (.bool b)).put o.dst (.tup []) = Eff.ap ⟨some (t, b), .tup [], none, [], []⟩ o.dst s := fun s => by rw [hgp, St.put_eq]; rfl
        subst h
        refine ⟨⟨some (t, b), .tup [], none, [], []⟩, hap st, ⟨?_, by simp, by simp, by rw [h0, hap], fun st2 hs => ?_⟩, fun _ => rfl, fun _ => rfl⟩
        · intro t' b' e
          simp only [Option.some.injEq, Prod.mk.injEq] at e
          obtain ⟨rfl, rfl⟩ := e
          exact ⟨hb, hlk⟩
        · unfold opD
          rw [hg]
          dsimp only
          rw [hs.sl t hlk, hb]
          dsimp only
          rw [if_neg hbw, hap]
    · rename_i hb
      simp only [Option.some.injEq] at h
      subst h
      refine ⟨⟨none, .tup [], none, [], []⟩, (ap_put _ _ _).symm, ⟨by simp, by simp, by simp, by rw [h0, ap_put], fun st2 hs => ?_⟩, fun _ => rfl, fun _ => rfl⟩
      unfold opD
      rw [hg]
      dsimp only
      rw [hs.sl t hlk, hb]
      dsimp only
      rw [ap_put]
    · simp at h

/-- They touch different slots. -/
def sep (ops : Array Oper) (x y : Oper) : Bool :=
  (match x.dst with | some d => !(y.looksAt ops).contains d && y.dst != some d | none => true) &&
  (match y.dst with | some d => !(x.looksAt ops).contains d | none => true)

theorem sep_spec {x y : Oper} (h : sep ops x y = true) : (∀ t ∈ y.looksAt ops, x.dst ≠ some t) ∧ (∀ t ∈ x.looksAt ops, y.dst ≠ some t) ∧ (∀ k, x.dst = some k → y.dst ≠ some k) := by
  unfold sep at h
  simp only [Bool.and_eq_true] at h
  obtain ⟨h1, h2⟩ := h
  refine ⟨fun t ht e => ?_, fun t ht e => ?_, fun k e e' => ?_⟩
  · rw [e] at h1
    simp [ht] at h1
  · rw [e] at h2
    simp [ht] at h2
  · rw [e] at h1
    simp [e'] at h1

theorem swap {x y : Oper} (hs : sep ops x y = true) (hx : pureOp E.tb x = true ∨ loadOp x = true ∨ callOp x = true) (hy : pureOp E.tb y = true ∨ loadOp y = true ∨ callOp y = true) (hxy : callOp x = false ∨ callOp y = false)
    {st1 st2 : St} (h1 : opD E true ops st x = some st1) (h2 : opD E true ops st1 y = some st2) : ∃ st1', opD E true ops st y = some st1' ∧ opD E true ops st1' x = some st2 := by
  obtain ⟨s1, s2, s3⟩ := sep_spec hs
  obtain ⟨e1, rfl, d1, n1, m1⟩ := does_of hx h1
  obtain ⟨e2, rfl, d2, n2, m2⟩ := does_of hy h2
  have hks : e1.ks = [] ∨ e2.ks = [] := hxy.imp n1 n2
  have g1 : ∀ t b, e1.gs = some (t, b) → st.get t = .bool b := fun t b e => (d1.gs t b e).1
  -- y at st
  have hbx : ∀ {b : List (Nat × List AV)} {ks : List Nat} {bs : Boxes} {k : Nat}, k ∉ ks → find k (putBoxes b ks bs) = find k b := by
    intro b ks
    induction ks generalizing b with
    | nil => intro bs k _; rfl
    | cons k' ks ih =>
      intro bs k hk
      cases bs with
      | nil => rfl
      | cons c bs =>
        simp only [List.mem_cons, not_or] at hk
        show find k (putBoxes (put k' c b) ks bs) = find k b
        rw [ih hk.2, find_put_ne hk.1]
  have hwr : ∀ k, k ∈ (e1.ap x.dst st).wr ↔ k ∈ e1.ks ∨ k ∈ st.wr := fun k => List.mem_append
  have hrd : ∀ k, k ∈ (e1.ap x.dst st).rd ↔ e1.rds = some k ∨ k ∈ st.rd := by
    intro k
    show k ∈ insO e1.rds st.rd ↔ _
    cases e1.rds with
    | none => simp [insO]
    | some k' => simp [insO, mem_insN, eq_comm]
  have hsame1 : Same ops y e2 (e1.ap x.dst st) st := by
    refine ⟨rfl, rfl, rfl, fun t ht => (Eff.get_ap g1 (s1 t ht)).symm, fun k hk => ?_, fun k hk => ?_, fun k hk => ?_⟩
    · refine (hbx (b := st.b) (ks := e1.ks) (bs := e1.bs) ?_).symm
      rcases hk with hk | hk
      · have := d2.rw k hk
        rw [hwr] at this
        exact fun h => this (.inl h)
      · rcases hks with e | e
        · rw [e]; simp
        · rw [e] at hk; simp at hk
    · have := d2.rw k hk
      rw [hwr] at this
      exact fun h => this (.inr h)
    · have := d2.wr k hk
      rw [hrd] at this
      exact fun h => this (.inr h)
  have hy1 := d2.again st hsame1
  have g2 : ∀ t b, e2.gs = some (t, b) → st.get t = .bool b := fun t b e => by
    obtain ⟨q1, q2⟩ := d2.gs t b e
    rw [Eff.get_ap g1 (s1 t q2)] at q1
    exact q1
  have hsame2 : Same ops x e1 st (e2.ap y.dst st) := by
    refine ⟨rfl, rfl, rfl, fun t ht => Eff.get_ap g2 (s2 t ht), fun k hk => ?_, fun k hk => ?_, fun k hk => ?_⟩
    · refine hbx (b := st.b) (ks := e2.ks) (bs := e2.bs) ?_
      rcases hk with hk | hk
      · intro h
        have := d2.wr k h
        rw [hrd] at this
        exact this (.inl hk)
      · rcases hks with e | e
        · rw [e] at hk; simp at hk
        · rw [e]; simp
    · show k ∉ e2.ks ++ st.wr
      rw [List.mem_append]
      rintro (h | h)
      · have := d2.wr k h
        rw [hrd] at this
        exact this (.inl hk)
      · exact d1.rw k hk h
    · show k ∉ insO e2.rds st.rd
      cases hr : e2.rds with
      | none => simp only [insO]; exact d1.wr k hk
      | some k' =>
        simp only [insO, mem_insN, not_or]
        refine ⟨?_, d1.wr k hk⟩
        intro e
        subst e
        have := d2.rw _ hr
        rw [hwr] at this
        exact this (.inl hk)
  have hx1 := d1.again _ hsame2
  refine ⟨_, hy1, ?_⟩
  rw [hx1]
  congr 1
  -- the two ways agree
  have ht : putT st.nt x.dst e1.v (putG st.nt e1.gs (putT st.nt y.dst e2.v (putG st.nt e2.gs st.t))) = putT st.nt y.dst e2.v (putG st.nt e2.gs (putT st.nt x.dst e1.v (putG st.nt e1.gs st.t))) := by
    have c1 : ∀ l, putG st.nt e1.gs (putT st.nt y.dst e2.v l) = putT st.nt y.dst e2.v (putG st.nt e1.gs l) := by
      intro l
      cases hg : e1.gs with
      | none => rfl
      | some p =>
        obtain ⟨t, b⟩ := p
        have := s2 t (d1.gs t b hg).2
        exact putT_comm (d := some t) (fun k e => by cases e; exact this) _ _ _
    have c2 : ∀ l, putT st.nt x.dst e1.v (putG st.nt e2.gs l) = putG st.nt e2.gs (putT st.nt x.dst e1.v l) := by
      intro l
      cases hg : e2.gs with
      | none => rfl
      | some p =>
        obtain ⟨t, b⟩ := p
        have := s1 t (d2.gs t b hg).2
        exact putT_comm (d' := some t) (fun k e e' => by cases e'; exact this e) _ _ _
    have c3 : ∀ l, putG st.nt e1.gs (putG st.nt e2.gs l) = putG st.nt e2.gs (putG st.nt e1.gs l) := by
      intro l
      cases hg : e1.gs with
      | none => rfl
      | some p =>
        obtain ⟨t, b⟩ := p
        cases hg' : e2.gs with
        | none => rfl
        | some p' =>
          obtain ⟨t', b'⟩ := p'
          by_cases e : t = t'
          · subst e
            have q1 := g1 t b hg
            have q2 := g2 t b' hg'
            rw [q1] at q2
            simp only [AV.bool.injEq] at q2
            subst q2
            rfl
          · exact putT_comm (d := some t) (d' := some t') (fun k e1 e2 => by cases e1; cases e2; exact e rfl) _ _ _
    rw [c1, putT_comm (fun k e => s3 k e), c3, c2]
  have hb : putBoxes (putBoxes st.b e2.ks e2.bs) e1.ks e1.bs = putBoxes (putBoxes st.b e1.ks e1.bs) e2.ks e2.bs := by
    rcases hks with e | e <;> rw [e] <;> rfl
  have hr : insO e1.rds (insO e2.rds st.rd) = insO e2.rds (insO e1.rds st.rd) := by
    cases e1.rds with
    | none => rfl
    | some a =>
      cases e2.rds with
      | none => rfl
      | some b => exact insN_comm a b _
  have hw : e1.ks ++ (e2.ks ++ st.wr) = e2.ks ++ (e1.ks ++ st.wr) := by
    rcases hks with e | e <;> rw [e] <;> rfl
  unfold Eff.ap
  simp only [ht, hb, hr, hw]

end
end Go.AM
