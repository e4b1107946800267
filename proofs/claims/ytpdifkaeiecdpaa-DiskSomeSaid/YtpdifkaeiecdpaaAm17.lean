/- A part of the proof: machine and program. -/
import Derived.Test.YtpdifkaeiecdpaaAm16
import Derived.LoopN
set_option linter.unusedVariables false
set_option linter.unusedSimpArgs false
namespace Go.AM
open Go.RowKit Go.Lib
theorem put_comm {α : Type} {a b : Nat} (h : a ≠ b) (x y : α) : ∀ l : List (Nat × α), put a x (put b y l) = put b y (put a x l)
  | [] => by
    simp only [put]
    rcases Nat.lt_trichotomy a b with hh | hh | hh
    · simp [h, Ne.symm h, hh, Nat.lt_asymm hh]
    · exact absurd hh h
    · simp [h, Ne.symm h, hh, Nat.lt_asymm hh]
  | (m, u) :: r => by
    have ih := put_comm h x y r
    have h' : ¬ b = a := fun e => h e.symm
    rcases Nat.lt_trichotomy a m with h1 | h1 | h1 <;> rcases Nat.lt_trichotomy b m with h2 | h2 | h2 <;>
      first
        | (exfalso; omega)
        | (rcases Nat.lt_trichotomy a b with h3 | h3 | h3 <;>
            first
              | (exfalso; omega)
              | (simp only [put, show (a = m) = False from eq_false (by omega), show (b = m) = False from eq_false (by omega), if_false, if_true, h1, h2, h3, h, h', show (m < a) = True from eq_true (by omega), show ¬ a < m by omega, show ¬ b < m by omega, show ¬ b < a by omega, show ¬ a < b by omega, ih]; done)
              | skip)
    all_goals (simp only [put]; repeat' split)
    all_goals first | rfl | (exfalso; omega) | (simp only [put]; repeat' split)
    all_goals first | rfl | (exfalso; omega) | (simp_all; done) | (simp only [ih])

section
variable [Reg]
def putT (nt : Nat) (dst : Option Nat) (v : AV) (t : List (Nat × AV)) : List (Nat × AV) :=
  match dst with | some d => bif Nat.blt d nt then put d v t else t | none => t
def putG (nt : Nat) (g : Option (Nat × Bool)) (t : List (Nat × AV)) : List (Nat × AV) :=
  match g with | some (d, b) => putT nt (some d) (.bool b) t | none => t
theorem putT_comm {nt : Nat} {d d' : Option Nat} (h : ∀ k, d = some k → d' ≠ some k) (v v' : AV) (t : List (Nat × AV)) : putT nt d v (putT nt d' v' t) = putT nt d' v' (putT nt d v t) := by
  cases d with
  | none => cases d' <;> rfl
  | some k =>
    cases d' with
    | none => rfl
    | some k' =>
      have hne : k ≠ k' := fun e => h k rfl (by rw [e])
      simp only [putT]
      cases Nat.blt k nt <;> cases Nat.blt k' nt <;> first | rfl | exact put_comm hne _ _ _
/-- What an operation does, written down. -/
structure Ef where
  gs : Option (Nat × Bool)
  v : AV
  hu : Option (Heap × List Nat)
  tr : Trc
def Ef.ap (e : Ef) (dst : Option Nat) (st : St) : St :=
  { nt := st.nt, t := putT st.nt dst e.v (putG st.nt e.gs st.t), h := match e.hu with | some p => p.1 | none => st.h, u := match e.hu with | some p => p.2 | none => st.u }
def isE (tb : Tb) (o : Oper) : Bool := Nat.beq (kindA tb o.op) 2
section
variable {E : Ev} {ops : Array Oper} {st st2 : St} {o : Oper} {tb : Tb}
theorem St.put_eq (st : St) (dst : Option Nat) (v : AV) : st.put dst v = { st with t := putT st.nt dst v st.t } := by
  cases dst with
  | none => rfl
  | some d => simp only [St.put, putT]; cases Nat.blt d st.nt <;> rfl
theorem get_putT (nt : Nat) (t : List (Nat × AV)) (d : Option Nat) (v : AV) {k : Nat} (h : d ≠ some k) : find k (putT nt d v t) = find k t := by
  cases d with
  | none => rfl
  | some d =>
    have hne : k ≠ d := fun e => h (by rw [e])
    simp only [putT]
    cases Nat.blt d nt
    · rfl
    · exact find_put_ne hne _ _
def gput (st : St) (g : Option (Nat × Bool)) : St := { st with t := putG st.nt g st.t }
theorem get_gput {g : Option (Nat × Bool)} (hg : ∀ t b, g = some (t, b) → st.get t = .bool b) (k : Nat) : (gput st g).get k = st.get k := by
  cases g with
  | none => rfl
  | some p =>
    obtain ⟨t, b⟩ := p
    have e : gput st (some (t, b)) = st.put (some t) (.bool b) := by rw [St.put_eq]; rfl
    rw [e, St.get_put]
    split
    · rename_i h; rw [h.1, hg t b rfl]
    · rfl
theorem Ef.get_ap {e : Ef} (hg : ∀ t b, e.gs = some (t, b) → st.get t = .bool b) {dst : Option Nat} {k : Nat} (h : dst ≠ some k) : (e.ap dst st).get k = st.get k := by
  have := get_gput (st := st) hg k
  unfold St.get Ef.ap gput at *
  simp only at *
  rw [get_putT _ _ _ _ h]
  exact this
theorem ev_congr {x : Operand} (h : ∀ t, x = .tmp t → st2.get t = st.get t) : st2.ev x = st.ev x := by
  cases x with
  | tmp t => exact h t rfl
  | _ => rfl
omit [Reg] in
theorem looks_operand {x : Operand} (hx : x ∈ o.op.operands.toList) : ∀ t, x = .tmp t → t ∈ o.looksAt ops := by
  intro t e
  subst e
  unfold Oper.looksAt
  exact List.mem_append.2 (.inl (List.mem_filterMap.2 ⟨_, hx, rfl⟩))
omit [Reg] in
theorem guard_looks {t : Nat} {want : Bool} (h : guardOf ops o = .at_ t want) : t ∈ o.looksAt ops := by
  unfold guardOf at h
  split at h
  · simp at h
  · rename_i j w' e
    split at h
    · rename_i t' e'
      simp only [Gd.at_.injEq] at h
      obtain ⟨rfl, rfl⟩ := h
      unfold Oper.looksAt
      refine List.mem_append.2 (.inr ?_)
      rw [e]
      simp [e']
    · simp at h

/-- What is there behind it. -/
def Ef.heap (e : Ef) (st : St) : Heap × List Nat := match e.hu with | some p => p | none => (st.h, st.u)
theorem Ef.ap_h (e : Ef) (dst : Option Nat) (st : St) : (e.ap dst st).h = (e.heap st).1 ∧ (e.ap dst st).u = (e.heap st).2 := by
  unfold Ef.ap Ef.heap
  cases e.hu <;> exact ⟨rfl, rfl⟩
def Ef.with (e : Ef) (hu : Option (Heap × List Nat)) : Ef := ⟨e.gs, e.v, hu, e.tr⟩
/-- All but what is noted is as it was. -/
def Stays (e : Ef) (st : St) : Prop := ∀ k, k ∉ e.tr.2 → find k (e.heap st).1 = find k st.h ∧ (k ∈ (e.heap st).2 ↔ k ∈ st.u)
/-- What may be changed elsewhere, and what is noted, are apart. -/
def Apart (K : Nat → Prop) (tb : Tb) (o : Oper) (t : Trc) : Prop := isE tb o = true → (∀ k ∈ t.2, ¬ K k) ∧ (frOk o.op = true ∨ ∀ k, ¬ K k)
structure Again (E : Ev) (o : Oper) (f : St → Option (St × Trc)) (e : Ef) (K : Nat → Prop) (st s2 : St) (hu2 : Option (Heap × List Nat)) : Prop where
  run : f s2 = some ((e.with hu2).ap o.dst s2, e.tr)
  off : Off K (e.heap st).1 ((e.with hu2).heap s2).1 (e.heap st).2 ((e.with hu2).heap s2).2
  stays : Stays (e.with hu2) s2
  ne : isE E.tb o = false → hu2 = none
theorem step_eff {s' : St} {t : Trc} (h : stepD E st o = some (s', t)) :
    ∃ v hu, s' = Ef.ap ⟨none, v, hu, t⟩ o.dst st ∧ (isE E.tb o = false → hu = none ∧ t.2 = []) ∧ (isE E.tb o = true → t.1 = none) ∧ Stays ⟨none, v, hu, t⟩ st ∧
      ∀ (K : Nat → Prop) (s2 : St), s2.nt = st.nt → (∀ x ∈ o.op.operands.toList, s2.ev x = st.ev x) → (∀ k, t.1 = some k → find k s2.h = find k st.h) → Off K st.h s2.h st.u s2.u → Apart K E.tb o t →
        ∃ hu2, Again E o (fun s => stepD E s o) ⟨none, v, hu, t⟩ K st s2 hu2 := by
  by_cases hcall : ∃ f args ts, o.op = .call { callee := .value f, args := args, argTypes := ts }
  · obtain ⟨f, args, ts, ho⟩ := hcall
    rw [stepD_call ho] at h
    simp only [Option.map_eq_some_iff, Prod.mk.injEq] at h
    obtain ⟨e, h1, rfl, rfl⟩ := h
    have hE : isE E.tb o = true := by unfold isE kindA; rw [ho]; rfl
    refine ⟨e.1, some (e.2.1, e.2.2.1), by rw [St.put_eq]; rfl, fun hf => by rw [hE] at hf; simp at hf, fun _ => rfl, fun k hk => ⟨call_kept h1 k hk, callU_kept h1 k hk⟩, fun K s2 hnt hev hrd hO ha => ?_⟩
    obtain ⟨e2, g1, g2, g3, g4⟩ := call_frame hO h1 (ha hE).1
    refine ⟨some (e2.2.1, e2.2.2.1), ?_, g4, fun k hk => ?_, fun hf => by rw [hE] at hf; simp at hf⟩
    · show stepD E s2 o = _
      rw [stepD_call ho]
      have ef : s2.ev f = st.ev f := hev f (by rw [ho]; simp [Op.operands, Call.operands])
      have ea : args.toList.map s2.ev = args.toList.map st.ev := List.map_congr_left fun x hx => hev x (by rw [ho]; simp [Op.operands, Call.operands, Array.mem_toList_iff.1 hx])
      rw [ef, ea, g1, Option.map_some, St.put_eq, g2, g3]
      rfl
    · have hk : k ∉ e2.2.2.2 := by rw [g3]; exact hk
      exact ⟨call_kept g1 k hk, callU_kept g1 k hk⟩
  · have hne : ∀ f args ts, o.op ≠ .call { callee := .value f, args := args, argTypes := ts } := fun f args ts e => hcall ⟨f, args, ts, e⟩
    rw [stepD_ne hne] at h
    split at h
    · rename_i hk
      simp only [Option.map_eq_some_iff, Prod.mk.injEq] at h
      obtain ⟨v, h1, rfl, rfl⟩ := h
      have hE : isE E.tb o = false := by unfold isE; rw [hk]; rfl
      refine ⟨v, none, by rw [St.put_eq]; rfl, fun _ => ⟨rfl, rfl⟩, fun _ => rfl, fun _ _ => ⟨rfl, Iff.rfl⟩, fun K s2 hnt hev hrd hO ha => ⟨none, ?_, hO, fun _ _ => ⟨rfl, Iff.rfl⟩, fun _ => rfl⟩⟩
      show stepD E s2 o = _
      rw [stepD_ne hne, hk]
      simp only
      rw [pure_congr hev, h1, Option.map_some, St.put_eq]
      rfl
    · rename_i hk
      simp only [Option.map_eq_some_iff, Prod.mk.injEq] at h
      obtain ⟨e, h1, rfl, rfl⟩ := h
      have hE : isE E.tb o = false := by unfold isE; rw [hk]; rfl
      refine ⟨e.1, none, by rw [St.put_eq]; rfl, fun _ => ⟨rfl, rfl⟩, fun hf => by rw [hE] at hf; simp at hf, fun _ _ => ⟨rfl, Iff.rfl⟩, fun K s2 hnt hev hrd hO ha => ⟨none, ?_, hO, fun _ _ => ⟨rfl, Iff.rfl⟩, fun _ => rfl⟩⟩
      show stepD E s2 o = _
      rw [stepD_ne hne, hk]
      simp only
      rw [look_congr hev, look_frame h1 hrd, Option.map_some, St.put_eq]
      rfl
    · rename_i hk1 hk2
      have hk : kindA E.tb o.op = 2 := by
        rcases kindA_cases E.tb o.op with q | q | q
        · exact absurd q hk1
        · exact absurd q hk2
        · exact q
      simp only [Option.map_eq_some_iff, Prod.mk.injEq] at h
      obtain ⟨e, h1, rfl, rfl⟩ := h
      have hE : isE E.tb o = true := by unfold isE; rw [hk]; rfl
      refine ⟨e.1, some (e.2.1, e.2.2.1), by rw [St.put_eq]; rfl, fun hf => by rw [hE] at hf; simp at hf, fun _ => rfl, fun k hk => ⟨eff_kept h1 k hk, effU_kept h1 k hk⟩, fun K s2 hnt hev hrd hO ha => ?_⟩
      obtain ⟨e2, g1, g2, g3, g4⟩ := eff_frame hO h1 (ha hE).1 (ha hE).2
      refine ⟨some (e2.2.1, e2.2.2.1), ?_, g4, fun k hk => ?_, fun hf => by rw [hE] at hf; simp at hf⟩
      · show stepD E s2 o = _
        rw [stepD_ne hne, hk]
        simp only
        rw [eff_congr hev, g1, Option.map_some, St.put_eq, g2, g3]
        rfl
      · have hk : k ∉ e2.2.2.2 := by rw [g3]; exact hk
        exact ⟨eff_kept g1 k hk, effU_kept g1 k hk⟩

structure Does (E : Ev) (ops : Array Oper) (o : Oper) (e : Ef) (st : St) : Prop where
  gs : ∀ t b, e.gs = some (t, b) → st.get t = .bool b ∧ t ∈ o.looksAt ops
  ne : isE E.tb o = false → e.hu = none ∧ e.tr.2 = []
  ee : isE E.tb o = true → e.tr.1 = none
  stays : Stays e st
  again : ∀ (K : Nat → Prop) (s2 : St), s2.nt = st.nt → (∀ t ∈ o.looksAt ops, s2.get t = st.get t) → (∀ k, e.tr.1 = some k → find k s2.h = find k st.h) → Off K st.h s2.h st.u s2.u → Apart K E.tb o e.tr → ∃ hu2, Again E o (fun s => opD E ops s o) e K st s2 hu2
theorem does_of {st1 : St} {t : Trc} (h : opD E ops st o = some (st1, t)) : ∃ e : Ef, st1 = e.ap o.dst st ∧ t = e.tr ∧ Does E ops o e st := by
  unfold opD at h
  split at h
  · simp at h
  · rename_i hg
    obtain ⟨v, hu, e0, h1, h2, h3, h4⟩ := step_eff h
    refine ⟨⟨none, v, hu, t⟩, e0, rfl, ⟨by simp, h1, h2, h3, fun K s2 hnt hs hrd hO ha => ?_⟩⟩
    obtain ⟨hu2, g1, g2, g3, g4⟩ := h4 K s2 hnt (fun x hx => ev_congr fun t e => hs t (looks_operand hx t e)) hrd hO ha
    refine ⟨hu2, ?_, g2, g3, g4⟩
    show opD E ops s2 o = _
    unfold opD
    rw [hg]
    exact g1
  · rename_i tt want hg
    have hlk := guard_looks hg
    split at h
    · rename_i b hb
      have hgp : ∀ s : St, s.put (some tt) (.bool b) = gput s (some (tt, b)) := fun s => by rw [St.put_eq]; rfl
      have hgs : ∀ t' b', some (tt, b) = some (t', b') → st.get t' = .bool b' ∧ t' ∈ o.looksAt ops := fun t' b' e => by
        simp only [Option.some.injEq, Prod.mk.injEq] at e
        obtain ⟨rfl, rfl⟩ := e
        exact ⟨hb, hlk⟩
      split at h
      · rename_i hbw
        rw [hgp] at h
        obtain ⟨v, hu, e0, h1, h2, h3, h4⟩ := step_eff h
        refine ⟨⟨some (tt, b), v, hu, t⟩, e0, rfl, ⟨hgs, h1, h2, h3, fun K s2 hnt hs hrd hO ha => ?_⟩⟩
        have hb2 : s2.get tt = .bool b := by rw [hs tt hlk, hb]
        obtain ⟨hu2, g1, g2, g3, g4⟩ := h4 K (gput s2 (some (tt, b))) hnt (fun x hx => ev_congr (st := gput st (some (tt, b))) (st2 := gput s2 (some (tt, b))) fun t' e => by
          rw [get_gput (st := s2) (by intro t' b' e; simp only [Option.some.injEq, Prod.mk.injEq] at e; obtain ⟨rfl, rfl⟩ := e; exact hb2), get_gput (st := st) (fun t' b' e => (hgs t' b' e).1)]
          exact hs t' (looks_operand hx t' e)) hrd hO ha
        refine ⟨hu2, ?_, g2, g3, g4⟩
        show opD E ops s2 o = _
        unfold opD
        rw [hg]
        dsimp only
        rw [hb2]
        dsimp only
        rw [if_pos hbw, hgp]
        exact g1
      · rename_i hbw
        simp only [Option.some.injEq, Prod.mk.injEq] at h
        obtain ⟨rfl, rfl⟩ := h
        have hap : ∀ s : St, (s.put (some tt) (.bool b)).put o.dst (.tup []) = Ef.ap ⟨some (tt, b), .tup [], none, none, []⟩ o.dst s := fun s => by rw [hgp, St.put_eq]; rfl
        refine ⟨⟨some (tt, b), .tup [], none, none, []⟩, hap st, rfl, ⟨hgs, fun _ => ⟨rfl, rfl⟩, fun _ => rfl, fun _ _ => ⟨rfl, Iff.rfl⟩, fun K s2 hnt hs hrd hO ha => ⟨none, ?_, hO, fun _ _ => ⟨rfl, Iff.rfl⟩, fun _ => rfl⟩⟩⟩
        show opD E ops s2 o = _
        unfold opD
        rw [hg]
        dsimp only
        rw [hs tt hlk, hb]
        dsimp only
        rw [if_neg hbw, hap]
        rfl
    · rename_i hb
      simp only [Option.some.injEq, Prod.mk.injEq] at h
      obtain ⟨rfl, rfl⟩ := h
      have hap : ∀ s : St, s.put o.dst (.tup []) = Ef.ap ⟨none, .tup [], none, none, []⟩ o.dst s := fun s => by rw [St.put_eq]; rfl
      refine ⟨⟨none, .tup [], none, none, []⟩, hap st, rfl, ⟨by simp, fun _ => ⟨rfl, rfl⟩, fun _ => rfl, fun _ _ => ⟨rfl, Iff.rfl⟩, fun K s2 hnt hs hrd hO ha => ⟨none, ?_, hO, fun _ _ => ⟨rfl, Iff.rfl⟩, fun _ => rfl⟩⟩⟩
      show opD E ops s2 o = _
      unfold opD
      rw [hg]
      dsimp only
      rw [hs tt hlk, hb]
      dsimp only
      rw [hap]
      rfl
    · simp at h

/-- They touch different slots. -/
def sep (ops : Array Oper) (x y : Oper) : Bool :=
  (match x.dst with | some d => !(y.looksAt ops).contains d && y.dst != some d | none => true) &&
  (match y.dst with | some d => !(x.looksAt ops).contains d | none => true)

omit [Reg] in
theorem sep_spec {x y : Oper} (h : sep ops x y = true) : (∀ t ∈ y.looksAt ops, x.dst ≠ some t) ∧ (∀ t ∈ x.looksAt ops, y.dst ≠ some t) ∧ (∀ k, x.dst = some k → y.dst ≠ some k) := by
  unfold sep at h
  simp only [Bool.and_eq_true] at h
  obtain ⟨h1, h2⟩ := h
  refine ⟨fun t ht e => ?_, fun t ht e => ?_, fun k e e' => ?_⟩
  · rw [e] at h1
    simp [ht] at h1
  · rw [e] at h2
    simp [ht] at h2
  · rw [e] at h1
    simp [e'] at h1

/-- What one looks at the other does not turn. -/
def NC (a b : Trc) : Prop := (∀ k, a.1 = some k → k ∉ b.2) ∧ (∀ k, b.1 = some k → k ∉ a.2) ∧ ∀ k ∈ a.2, k ∉ b.2
omit [Reg] in
theorem NC.symm {a b : Trc} (h : NC a b) : NC b a := ⟨h.2.1, h.1, fun k hb ha => h.2.2 k ha hb⟩
def compat (tb : Tb) (ops : Array Oper) (x y : Oper) : Bool := sep ops x y && (!isE tb x || (!isE tb y || (frOk x.op && frOk y.op)))
theorem swap {x y : Oper} (hc : compat E.tb ops x y = true) {st1 st2 : St} {t1 t2 : Trc} (hnc : NC t1 t2) (h1 : opD E ops st x = some (st1, t1)) (h2 : opD E ops st1 y = some (st2, t2)) :
    ∃ st1' st2', opD E ops st y = some (st1', t2) ∧ opD E ops st1' x = some (st2', t1) ∧ StEq st2' st2 := by
  unfold compat at hc
  simp only [Bool.and_eq_true, Bool.or_eq_true, Bool.not_eq_true'] at hc
  obtain ⟨hs, hxy⟩ := hc
  obtain ⟨s1, s2, s3⟩ := sep_spec hs
  obtain ⟨e1, rfl, rfl, d1⟩ := does_of h1
  obtain ⟨e2, rfl, rfl, d2⟩ := does_of h2
  obtain ⟨n1, n2, n3⟩ := hnc
  have g1 : ∀ t b, e1.gs = some (t, b) → st.get t = .bool b := fun t b e => (d1.gs t b e).1
  have q1 : ∀ t ∈ y.looksAt ops, st.get t = (e1.ap x.dst st).get t := fun t ht => (Ef.get_ap g1 (s1 t ht)).symm
  have g2 : ∀ t b, e2.gs = some (t, b) → st.get t = .bool b := fun t b e => by rw [q1 t (d2.gs t b e).2]; exact (d2.gs t b e).1
  obtain ⟨a1, a2⟩ := e1.ap_h x.dst st
  obtain ⟨a3, a4⟩ := e2.ap_h y.dst (e1.ap x.dst st)
  have nil : ∀ {o : Oper} {e : Ef} {s : St}, Does E ops o e s → isE E.tb o = false → ∀ k, ¬ (k ∈ e.tr.2) := fun d h k hk => by rw [(d.ne h).2] at hk; simp at hk
  obtain ⟨hu2, b1, b2, b3, b4⟩ := d2.again (· ∈ e1.tr.2) st rfl q1 (fun k hk => by rw [a1]; exact (d1.stays k (n2 k hk)).1.symm) ⟨fun k hk => by rw [a1]; exact (d1.stays k hk).1.symm, fun k hk => by rw [a2]; exact (d1.stays k hk).2.symm⟩ (fun hy => ⟨fun k hk hk1 => n3 k hk1 hk, by
    rcases hxy with hx | hx | hx
    · exact .inr (nil d1 hx)
    · rw [hx] at hy; simp at hy
    · exact .inl hx.2⟩)
  obtain ⟨a5, a6⟩ := (e2.with hu2).ap_h y.dst st
  obtain ⟨hu1, c1, c2, c3, c4⟩ := d1.again (· ∈ e2.tr.2) ((e2.with hu2).ap y.dst st) rfl (fun t ht => Ef.get_ap (e := e2.with hu2) g2 (s2 t ht)) (fun k hk => by rw [a5]; exact (b3 k (n1 k hk)).1) ⟨fun k hk => by rw [a5]; exact (b3 k hk).1, fun k hk => by rw [a6]; exact (b3 k hk).2⟩ (fun hx => ⟨fun k hk hk1 => n3 k hk hk1, by
    rcases hxy with hx' | hy | hy
    · rw [hx'] at hx; simp at hx
    · exact .inr (nil d2 hy)
    · exact .inl hy.1⟩)
  refine ⟨_, _, b1, c1, ?_⟩
  obtain ⟨a7, a8⟩ := (e1.with hu1).ap_h x.dst ((e2.with hu2).ap y.dst st)
  refine ⟨rfl, fun k => ?_, fun k => ?_, fun k => ?_⟩
  · have r1 : ∀ (l : List (Nat × AV)), putG st.nt e1.gs (putT st.nt y.dst e2.v l) = putT st.nt y.dst e2.v (putG st.nt e1.gs l) := fun l => by
      cases hg : e1.gs with
      | none => rfl
      | some p =>
        obtain ⟨t, b⟩ := p
        exact putT_comm (d := some t) (fun k e => by cases e; exact s2 t (d1.gs t b hg).2) _ _ _
    have r2 : ∀ (l : List (Nat × AV)), putG st.nt e2.gs (putT st.nt x.dst e1.v l) = putT st.nt x.dst e1.v (putG st.nt e2.gs l) := fun l => by
      cases hg : e2.gs with
      | none => rfl
      | some p =>
        obtain ⟨t, b⟩ := p
        exact putT_comm (d := some t) (fun k e => by cases e; exact s1 t (d2.gs t b hg).2) _ _ _
    have r3 : ∀ (l : List (Nat × AV)), putG st.nt e1.gs (putG st.nt e2.gs l) = putG st.nt e2.gs (putG st.nt e1.gs l) := fun l => by
      cases hg : e1.gs with
      | none => rfl
      | some p =>
        cases hg' : e2.gs with
        | none => rfl
        | some p' =>
          obtain ⟨t, b⟩ := p
          obtain ⟨t', b'⟩ := p'
          by_cases e : t = t'
          · subst e
            have e3 := (g1 t b hg).symm.trans (g2 t b' hg')
            simp only [AV.bool.injEq] at e3
            rw [e3]
          · exact putT_comm (d := some t) (d' := some t') (fun k e' => by cases e'; simpa using fun e2 => e e2.symm) _ _ _
    have ht : putT st.nt x.dst e1.v (putG st.nt e1.gs (putT st.nt y.dst e2.v (putG st.nt e2.gs st.t))) = putT st.nt y.dst e2.v (putG st.nt e2.gs (putT st.nt x.dst e1.v (putG st.nt e1.gs st.t))) := by
      rw [r1, r3, r2]
      exact putT_comm s3 _ _ _
    unfold St.get
    exact congrArg (fun l => match find k l with | some v => v | none => AV.undef) ht
  · rw [a7, a3]
    by_cases hk : k ∈ e1.tr.2
    · have hk2 := n3 k hk
      have u1 := c2.h k hk2
      have u2 := (d2.stays k hk2).1
      rw [a1] at u2
      exact u1.trans u2.symm
    · have u1 := (c3 k hk).1
      rw [a5] at u1
      exact u1.trans (b2.h k hk)
  · rw [a8, a4]
    by_cases hk : k ∈ e1.tr.2
    · have hk2 := n3 k hk
      have u1 := c2.u k hk2
      have u2 := (d2.stays k hk2).2
      rw [a2] at u2
      exact u1.trans u2.symm
    · have u1 := (c3 k hk).2
      rw [a6] at u1
      exact u1.trans (b2.u k hk)
/-- From a state that nothing tells apart the same is done. -/
theorem op_eqv {s s' s2 : St} {t : Trc} {o : Oper} (he : StEq s s2) (h : opD E ops s o = some (s', t)) : ∃ s2', opD E ops s2 o = some (s2', t) ∧ StEq s' s2' := by
  obtain ⟨e, rfl, rfl, d⟩ := does_of h
  obtain ⟨hu2, b1, b2, b3, b4⟩ := d.again (fun _ => False) s2 he.nt.symm (fun t _ => (he.get t).symm) (fun k _ => (he.h k).symm) ⟨fun k _ => (he.h k).symm, fun k _ => (he.u k).symm⟩ (fun _ => ⟨fun _ _ h => h, .inr fun _ h => h⟩)
  refine ⟨_, b1, ?_⟩
  obtain ⟨a1, a2⟩ := e.ap_h o.dst s
  obtain ⟨a3, a4⟩ := (e.with hu2).ap_h o.dst s2
  refine ⟨he.nt, fun k => ?_, fun k => ?_, fun k => ?_⟩
  · have hg : ∀ k, (match find k s.t with | some v => v | none => AV.undef) = (match find k s2.t with | some v => v | none => AV.undef) := he.get
    have key : ∀ (l l2 : List (Nat × AV)) (d : Option Nat) (v : AV), (∀ k, (match find k l with | some v => v | none => AV.undef) = (match find k l2 with | some v => v | none => AV.undef)) → ∀ k, (match find k (putT s.nt d v l) with | some v => v | none => AV.undef) = (match find k (putT s2.nt d v l2) with | some v => v | none => AV.undef) := fun l l2 d v hl k => by
      rw [← he.nt]
      cases d with
      | none => exact hl k
      | some d =>
        unfold putT
        simp only
        cases Nat.blt d s.nt
        · exact hl k
        · simp only [cond_true, find_put]
          by_cases e : k = d
          · simp only [e, if_true]
          · simp only [e, if_false]
            exact hl k
    have hG : ∀ k, (match find k (putG s.nt e.gs s.t) with | some v => v | none => AV.undef) = (match find k (putG s2.nt e.gs s2.t) with | some v => v | none => AV.undef) := fun k => by
      cases hgs : e.gs with
      | none => exact hg k
      | some p => exact key _ _ (some p.1) _ hg k
    exact key _ _ o.dst e.v hG k
  · rw [a1, a3]; exact (b2.h k fun h => h).symm
  · rw [a2, a4]; exact (b2.u k fun h => h).symm

def edgesDown (i : Nat) (o : Oper) : Bool := o.after.toList.all fun e => !Region.binds .any e || decide (e.on < i)
/-- The static look at a region that draws its order. -/
def drawOk (tb : Tb) (ops : Array Oper) : Bool :=
  (List.range ops.size).all fun i => match ops[i]? with
    | some y => edgesDown i y && (List.range i).all fun j => ((masks ops.toList []).getD i 0).testBit j || (match ops[j]? with | some x => compat tb ops x y | none => false)
    | none => false
inductive Reach (ops : Array Oper) : Nat → Nat → Prop
  | direct {i : Nat} {o : Oper} {e : Edge} (ho : ops[i]? = some o) (he : e ∈ o.after) (hb : Region.binds .any e = true) : Reach ops e.on i
  | trans {i j : Nat} {o : Oper} {e : Edge} (ho : ops[i]? = some o) (he : e ∈ o.after) (hb : Region.binds .any e = true) (h : Reach ops j e.on) : Reach ops j i

omit [Reg] in
theorem maskOf_reach {M : List Nat} (hM : ∀ i j, (M.getD i 0).testBit j = true → Reach ops j i) {i : Nat} {o : Oper} (ho : ops[i]? = some o) : ∀ {es : List Edge}, (∀ e ∈ es, e ∈ o.after) → ∀ j, (maskOf M es).testBit j = true → Reach ops j i
  | [], _, j, h => by simp [maskOf] at h
  | e :: r, he, j, h => by
    have ih := maskOf_reach hM ho (es := r) (fun e' h' => he e' (List.mem_cons_of_mem _ h')) j
    unfold maskOf at h
    cases hb : Region.binds .any e
    · rw [hb] at h; exact ih h
    · rw [hb] at h
      simp only [cond_true, Nat.testBit_or, Bool.or_eq_true] at h
      have hm : e ∈ o.after := he e (List.mem_cons_self ..)
      rcases h with h | h | h
      · rw [Nat.testBit_two_pow] at h
        have : e.on = j := by simpa using h
        subst this
        exact .direct ho hm hb
      · exact .trans ho hm hb (hM _ _ h)
      · exact ih h
omit [Reg] in
theorem masks_reach : ∀ (l : List Oper) (M : List Nat), (∀ i, l[i]? = ops[M.length + i]?) → (∀ i j, (M.getD i 0).testBit j = true → Reach ops j i) → ∀ i j, ((masks l M).getD i 0).testBit j = true → Reach ops j i
  | [], M, _, hM => hM
  | o :: r, M, hl, hM => by
    have ho : ops[M.length]? = some o := by simpa using (hl 0).symm
    unfold masks
    rw [force_eq]
    refine masks_reach r _ (fun i => ?_) (fun i j h => ?_)
    · have := hl (i + 1)
      simp only [List.getElem?_cons_succ] at this
      rw [this, List.length_append, List.length_singleton]
      congr 1
      omega
    · by_cases hlt : i < M.length
      · have e : (M ++ [maskOf M o.after.toList]).getD i 0 = M.getD i 0 := by simp [List.getD, List.getElem?_append_left hlt]
        rw [e] at h
        exact hM i j h
      · by_cases he : i = M.length
        · subst he
          have e : (M ++ [maskOf M o.after.toList]).getD M.length 0 = maskOf M o.after.toList := by simp [List.getD]
          rw [e] at h
          exact maskOf_reach hM ho (fun e he => Array.mem_toList_iff.1 he) j h
        · have e : (M ++ [maskOf M o.after.toList]).getD i 0 = 0 := by
            have : (M ++ [maskOf M o.after.toList])[i]? = none := List.getElem?_eq_none_iff.2 (by simp; omega)
            simp [List.getD, this]
          rw [e] at h
          simp at h


/-- The same, by the operations' numbers. -/
def runI (E : Ev) (ops : Array Oper) : List Nat → St → Option (St × List (Nat × Trc))
  | [], st => some (st, [])
  | i :: r, st => match ops[i]? with
    | none => runI E ops r st
    | some o => (match opD E ops st o with
      | some (st', t) => (match runI E ops r st' with | some (st2, ts) => some (st2, (i, t) :: ts) | none => none)
      | none => none)
theorem runI_D : ∀ {l : List Nat} {st st' : St} {its : List (Nat × Trc)}, runI E ops l st = some (st', its) → runD E ops (l.filterMap (ops[·]?)) st = some (st', its.map Prod.snd)
  | [], st, st', its, h => by
    simp only [runI, Option.some.injEq, Prod.mk.injEq] at h
    obtain ⟨rfl, rfl⟩ := h
    rfl
  | i :: r, st, st', its, h => by
    simp only [runI] at h
    split at h
    · rename_i ho
      rw [List.filterMap_cons_none ho]
      exact runI_D h
    · rename_i o ho
      rw [List.filterMap_cons_some ho]
      split at h
      · rename_i s1 t h1
        split at h
        · rename_i s2 ts h2
          simp only [Option.some.injEq, Prod.mk.injEq] at h
          obtain ⟨rfl, rfl⟩ := h
          simp only [runD, h1, runI_D h2, List.map_cons]
        · simp at h
      · simp at h
def idxL : Nat → List Trc → List (Nat × Trc)
  | _, [] => []
  | i, t :: ts => (i, t) :: idxL (i + 1) ts
theorem runD_I : ∀ {n i : Nat} {st st' : St} {ts : List Trc}, i + n ≤ ops.size → runD E ops ((List.range' i n).filterMap (ops[·]?)) st = some (st', ts) → runI E ops (List.range' i n) st = some (st', idxL i ts)
  | 0, i, st, st', ts, _, h => by
    simp only [List.range'_zero, List.filterMap_nil, runD, Option.some.injEq, Prod.mk.injEq] at h
    obtain ⟨rfl, rfl⟩ := h
    rfl
  | n + 1, i, st, st', ts, hn, h => by
    have ho : ops[i]? = some ops[i] := Array.getElem?_eq_getElem (by omega)
    rw [List.range'_succ, List.filterMap_cons_some ho] at h
    rw [List.range'_succ]
    simp only [runD] at h
    split at h
    · rename_i s1 t h1
      split at h
      · rename_i s2 ts2 h2
        simp only [Option.some.injEq, Prod.mk.injEq] at h
        obtain ⟨rfl, rfl⟩ := h
        have ih := runD_I (by omega) h2
        simp only [runI, ho, h1, ih, idxL]
      · simp at h
    · simp at h
/-- What is not ordered does not meet. -/
def NCx (ms : List Nat) (a b : Nat × Trc) : Prop := (a.1 < b.1 → (ms.getD b.1 0).testBit a.1 = false → NC a.2 b.2) ∧ (b.1 < a.1 → (ms.getD a.1 0).testBit b.1 = false → NC a.2 b.2)
omit [Reg] in
theorem NCx.symm {ms : List Nat} {a b : Nat × Trc} (h : NCx ms a b) : NCx ms b a := ⟨fun h1 h2 => (h.2 h1 h2).symm, fun h1 h2 => (h.1 h1 h2).symm⟩
theorem runI_eqv : ∀ {l : List Nat} {s s' s2 : St} {its : List (Nat × Trc)}, StEq s s2 → runI E ops l s = some (s', its) → ∃ s2', runI E ops l s2 = some (s2', its) ∧ StEq s' s2'
  | [], s, s', s2, its, he, h => by
    simp only [runI, Option.some.injEq, Prod.mk.injEq] at h
    obtain ⟨rfl, rfl⟩ := h
    exact ⟨_, rfl, he⟩
  | i :: r, s, s', s2, its, he, h => by
    simp only [runI] at h ⊢
    split at h
    · exact runI_eqv he h
    · rename_i o ho
      split at h
      · rename_i s1 t h1
        obtain ⟨s1', g1, g2⟩ := op_eqv he h1
        rw [g1]
        dsimp only
        split at h
        · rename_i s3 ts h2
          simp only [Option.some.injEq, Prod.mk.injEq] at h
          obtain ⟨rfl, rfl⟩ := h
          obtain ⟨s3', g3, g4⟩ := runI_eqv g2 h2
          rw [g3]
          exact ⟨_, rfl, g4⟩
        · simp at h
      · simp at h
theorem front (hE : E.tb = tb) {ms : List Nat} {i : Nat} {y : Oper} (hy : ops[i]? = some y) : ∀ (l1 l2 : List Nat) (st st' : St) (ts : List (Nat × Trc)), (∀ j ∈ l1, (∃ x, ops[j]? = some x ∧ compat tb ops x y = true) ∧ j < i ∧ (ms.getD i 0).testBit j = false) → ts.Pairwise (NCx ms) →
    runI E ops (l1 ++ i :: l2) st = some (st', ts) → ∃ ts' st2, runI E ops (i :: (l1 ++ l2)) st = some (st2, ts') ∧ ts'.Perm ts ∧ StEq st2 st'
  | [], l2, st, st', ts, _, _, h => ⟨ts, st', h, List.Perm.refl _, StEq.refl _⟩
  | j :: l1, l2, st, st', ts, hc, hp, h => by
    obtain ⟨⟨x, hx, hcx⟩, hji, hbit⟩ := hc j (List.mem_cons_self ..)
    simp only [List.cons_append] at h ⊢
    simp only [runI, hx] at h
    split at h
    · rename_i st1 t1 h1
      split at h
      · rename_i st2 ts2 h2
        simp only [Option.some.injEq, Prod.mk.injEq] at h
        obtain ⟨rfl, rfl⟩ := h
        obtain ⟨p1, p2⟩ := List.pairwise_cons.1 hp
        obtain ⟨ts', sf, ih, hperm, hse⟩ := front hE hy l1 l2 st1 _ ts2 (fun j hj => hc j (List.mem_cons_of_mem _ hj)) p2 h2
        simp only [runI, hy] at ih
        simp only [runI, hy, hx]
        split at ih
        · rename_i s3 t3 h3
          split at ih
          · rename_i s4 ts4 h4
            simp only [Option.some.injEq, Prod.mk.injEq] at ih
            obtain ⟨rfl, rfl⟩ := ih
            have hin : (i, t3) ∈ ts2 := hperm.mem_iff.1 (List.mem_cons_self ..)
            obtain ⟨st1', st2', q1, q2, q3⟩ := swap (E := E) (by rw [hE]; exact hcx) ((p1 _ hin).1 hji hbit) h1 h3
            obtain ⟨sg, q4, q5⟩ := runI_eqv q3.symm h4
            rw [q1]
            dsimp only
            rw [q2]
            dsimp only
            rw [q4]
            exact ⟨_, _, rfl, (List.Perm.swap (j, t1) (i, t3) ts4).trans (hperm.cons (j, t1)), q5.symm.trans hse⟩
          · simp at ih
        · simp at ih
      · simp at h
    · simp at h
omit [Reg] in
theorem getD_true {l : Array Bool} {k : Nat} (h : l.getD k false = true) : k < l.size ∧ l.getD k true = true := by
  by_cases hk : k < l.size
  · simp [hk] at h ⊢; exact h
  · simp [hk] at h
omit [Reg] in
theorem getD_false {l : Array Bool} {k : Nat} (hk : k < l.size) (h : l.getD k true = true) : l.getD k false = true := by
  simp [hk] at h ⊢; exact h

omit [Reg] in
theorem reach_listed {listed : Array Bool} (hcl : ∀ i, listed.getD i false = true → ∀ o, ops[i]? = some o → ∀ e ∈ o.after, Region.binds .any e = true → listed.getD e.on false = true) {j i : Nat} (h : Reach ops j i) :
    (∀ o, ops[i]? = some o → ∀ e ∈ o.after, Region.binds .any e = true → listed.getD e.on false = true) → listed.getD j false = true := by
  induction h with
  | direct ho he hb => exact fun hi => hi _ ho _ he hb
  | trans ho he hb _ ih => exact fun hi => ih (hcl _ (hi _ ho _ he hb))

theorem lin (hE : E.tb = tb) {ms : List Nat} (hd : ∀ i y, ops[i]? = some y → edgesDown i y = true ∧ ∀ j, j < i → Reach ops j i ∨ ((ms.getD i 0).testBit j = false ∧ ∃ x, ops[j]? = some x ∧ compat tb ops x y = true)) :
    ∀ (fuel t : Nat) (listed : Array Bool) (l : List Nat) (st st' : St) (ts : List (Nat × Trc)), listed.size = ops.size → l.Pairwise (· < ·) → (∀ i, i ∈ l ↔ i < ops.size ∧ listed.getD i true = false) →
      (∀ i, listed.getD i false = true → ∀ o, ops[i]? = some o → ∀ e ∈ o.after, Region.binds .any e = true → listed.getD e.on false = true) → l.length ≤ fuel → ts.Pairwise (NCx ms) →
      runI E ops l st = some (st', ts) → ∃ ts2 sl, runI E ops (Region.linearise.go .any ops fuel t listed []) st = some (sl, ts2) ∧ StEq sl st' := by
  intro fuel
  induction fuel with
  | zero =>
    intro t listed l st st' ts _ _ _ _ hl _ h
    have : l = [] := List.eq_nil_of_length_eq_zero (by omega)
    subst this
    exact ⟨ts, st', by simpa [Region.linearise.go] using h, StEq.refl _⟩
  | succ fuel ih =>
    intro t listed l st st' ts hsz hpw hmem hcl hlen hC h
    have hgo : Region.linearise.go .any ops (fuel + 1) t listed [] = (match (Region.ready .any ops listed)[t % (Region.ready .any ops listed).length]? with
      | some i => Region.linearise.go .any ops fuel (t / (Region.ready .any ops listed).length) (listed.setIfInBounds i true) [i]
      | none => [].reverse) := by
      simp only [Region.linearise.go]
      rfl
    rw [hgo]
    have hready : ∀ i, i ∈ Region.ready .any ops listed ↔ i < ops.size ∧ listed.getD i true = false ∧ ∃ o, ops[i]? = some o ∧ ∀ e ∈ o.after, Region.binds .any e = true → listed.getD e.on false = true := by
      intro i
      unfold Region.ready
      rw [List.mem_filter]
      simp only [List.mem_range, Bool.and_eq_true, Bool.not_eq_true']
      constructor
      · rintro ⟨h1, h2, h3⟩
        refine ⟨h1, h2, ?_⟩
        cases ho : ops[i]? with
        | none => rw [ho] at h3; simp at h3
        | some o =>
          rw [ho] at h3
          simp only [Option.map_some, Option.getD_some, Array.all_eq_true_iff_forall_mem] at h3
          refine ⟨o, rfl, fun e he hb => ?_⟩
          have := h3 e he
          simpa [hb] using this
      · rintro ⟨h1, h2, o, ho, h3⟩
        refine ⟨h1, h2, ?_⟩
        rw [ho]
        simp only [Option.map_some, Option.getD_some, Array.all_eq_true_iff_forall_mem]
        intro e he
        cases hb : Region.binds .any e
        · rfl
        · simpa using h3 e he hb
    cases hi : (Region.ready .any ops listed)[t % (Region.ready .any ops listed).length]? with
    | none =>
      have hnil : Region.ready .any ops listed = [] := by
        cases hr : Region.ready .any ops listed with
        | nil => rfl
        | cons x xs =>
          rw [hr] at hi
          have hlt : t % (x :: xs).length < (x :: xs).length := Nat.mod_lt _ (by simp)
          simp at hi
          simp at hlt
          omega
      have hl : l = [] := by
        cases l with
        | nil => rfl
        | cons k r =>
          exfalso
          obtain ⟨hk1, hk2⟩ := (hmem k).1 (List.mem_cons_self ..)
          have hk : k ∈ Region.ready .any ops listed := by
            refine (hready k).2 ⟨hk1, hk2, ops[k], Array.getElem?_eq_getElem hk1, fun e he hb => ?_⟩
            have hdn := (hd k ops[k] (Array.getElem?_eq_getElem hk1)).1
            simp only [edgesDown, List.all_eq_true] at hdn
            have hlt := hdn e (Array.mem_toList_iff.2 he)
            rw [hb] at hlt
            have hlt : e.on < k := by simpa using hlt
            have hlt2 : e.on < ops.size := by omega
            by_cases hl : listed.getD e.on true = true
            · exact getD_false (by omega) hl
            · have hin := (hmem e.on).2 ⟨hlt2, by simpa using hl⟩
              rcases List.mem_cons.1 hin with e1 | e1
              · omega
              · have := (List.pairwise_cons.1 hpw).1 _ e1
                omega
          rw [hnil] at hk
          simp at hk
      subst hl
      exact ⟨ts, st', by simpa using h, StEq.refl _⟩
    | some i =>
      dsimp only
      rw [linearise_go_acc, List.reverse_singleton, List.singleton_append]
      obtain ⟨r1, r2, y, hy, r3⟩ := (hready i).1 (List.mem_of_getElem? hi)
      have him : i ∈ l := (hmem i).2 ⟨r1, r2⟩
      obtain ⟨l1, l2, rfl⟩ := List.append_of_mem him
      have hlt : ∀ j ∈ l1, j < i := fun j hj => (List.pairwise_append.1 hpw).2.2 j hj i (List.mem_cons_self ..)
      have hgt : ∀ j ∈ l2, i < j := fun j hj => (List.pairwise_cons.1 (List.pairwise_append.1 hpw).2.1).1 j hj
      obtain ⟨ts', sf, hf, hperm, hse⟩ := front hE hy l1 l2 st st' ts (fun j hj => by
        rcases (hd i y hy).2 j (hlt j hj) with hr | hc
        · exfalso
          have := reach_listed hcl hr (fun o ho e he hb => by rw [hy] at ho; cases ho; exact r3 e he hb)
          have h2 := ((hmem j).1 (List.mem_append.2 (.inl hj))).2
          rw [(getD_true this).2] at h2
          simp at h2
        · exact ⟨hc.2, hlt j hj, hc.1⟩) hC h
      simp only [runI, hy] at hf ⊢
      split at hf
      · rename_i st1 t1 h1
        split at hf
        · rename_i st2 ts2 h2
          simp only [Option.some.injEq, Prod.mk.injEq] at hf
          obtain ⟨rfl, rfl⟩ := hf
          have hpw2 := (List.pairwise_cons.1 (hperm.symm.pairwise hC NCx.symm)).2
          have key := ih (t / (Region.ready .any ops listed).length) (listed.setIfInBounds i true) (l1 ++ l2) st1 _ ts2 (by simpa using hsz) ?_ (fun k => ?_) (fun k hk o ho e he hb => ?_) (by simp at hlen ⊢; omega) hpw2 h2
          · obtain ⟨ts3, sl, key, hse2⟩ := key
            rw [key]
            exact ⟨_, _, rfl, hse2.trans hse⟩
          · obtain ⟨p1, p2, p3⟩ := List.pairwise_append.1 hpw
            exact List.pairwise_append.2 ⟨p1, (List.pairwise_cons.1 p2).2, fun a ha b hb => p3 a ha b (List.mem_cons_of_mem _ hb)⟩
          · have hset : (listed.setIfInBounds i true).getD k true = if k = i then true else listed.getD k true := by
              rw [Array.getD_eq_getD_getElem?, Array.getElem?_setIfInBounds, Array.getD_eq_getD_getElem?]
              by_cases e : i = k
              · subst e
                have : i < listed.size := by omega
                simp [this]
              · simp [e, Ne.symm e]
            rw [hset]
            have hm := hmem k
            simp only [List.mem_append, List.mem_cons] at hm ⊢
            by_cases e : k = i
            · subst e
              simp only [if_true, Bool.true_eq_false, and_false, iff_false, not_or]
              exact ⟨fun hh => by have := hlt k hh; omega, fun hh => by have := hgt k hh; omega⟩
            · simp only [e, if_false, false_or] at hm ⊢
              exact hm
          · have hset : ∀ m, (listed.setIfInBounds i true).getD m false = if m = i then true else listed.getD m false := by
              intro m
              rw [Array.getD_eq_getD_getElem?, Array.getElem?_setIfInBounds, Array.getD_eq_getD_getElem?]
              by_cases e : i = m
              · subst e
                have : i < listed.size := by omega
                simp [this]
              · simp [e, Ne.symm e]
            rw [hset] at hk ⊢
            by_cases e1 : k = i
            · subst e1
              rw [hy] at ho
              cases ho
              split
              · rfl
              · exact r3 e he hb
            · simp only [e1, if_false] at hk
              split
              · rfl
              · exact hcl k hk o ho e he hb
        · simp at hf
      · simp at hf

omit [Reg] in
theorem hit_false {m k : Nat} {l : List (Nat × Nat)} (h : hit m l k = false) {j : Nat} (hj : (j, k) ∈ l) : m.testBit j = true := by
  unfold hit at h
  rw [List.any_eq_false] at h
  have := h (j, k) hj
  simpa using this
omit [Reg] in
theorem okT_pairwise {ms : List Nat} : ∀ {ts : List Trc} {i : Nat} {rd wr : List (Nat × Nat)}, okT ms i rd wr ts → (∀ p ∈ idxL i ts, i ≤ p.1 ∧ (∀ k ∈ p.2.2, hit (ms.getD p.1 0) rd k = false) ∧ (∀ k ∈ p.2.2, hit (ms.getD p.1 0) wr k = false) ∧ ∀ k, p.2.1 = some k → hit (ms.getD p.1 0) wr k = false) ∧ (idxL i ts).Pairwise (NCx ms)
  | [], i, rd, wr, _ => ⟨by simp [idxL], List.Pairwise.nil⟩
  | t :: ts, i, rd, wr, h => by
    obtain ⟨⟨h1, h2⟩, h3⟩ := h
    obtain ⟨i1, i2⟩ := okT_pairwise h3
    rw [Bool.or_eq_false_iff] at h1
    have a1 : ∀ k ∈ t.2, hit (ms.getD i 0) rd k = false := fun k hk => by
      have h1 := h1.1
      rw [List.any_eq_false] at h1
      simpa using h1 k hk
    have a2 : ∀ k ∈ t.2, hit (ms.getD i 0) wr k = false := fun k hk => by
      have h1 := h1.2
      rw [List.any_eq_false] at h1
      simpa using h1 k hk
    have sub : ∀ {m k : Nat} {l l' : List (Nat × Nat)}, (∀ x ∈ l, x ∈ l') → hit m l' k = false → hit m l k = false := fun {m k l l'} hs hh => by
      unfold hit at hh ⊢
      rw [List.any_eq_false] at hh ⊢
      exact fun x hx => hh x (hs x hx)
    have sR : ∀ x ∈ rd, x ∈ noteR i rd t := fun x hx => by
      unfold noteR
      split
      · exact List.mem_cons_of_mem _ hx
      · exact hx
    have sW : ∀ x ∈ wr, x ∈ noteW i wr t := fun x hx => List.mem_append.2 (.inr hx)
    refine ⟨fun p hp => ?_, List.pairwise_cons.2 ⟨fun p hp => ?_, i2⟩⟩
    · simp only [idxL, List.mem_cons] at hp
      rcases hp with rfl | hp
      · exact ⟨Nat.le_refl _, a1, a2, h2⟩
      · obtain ⟨q1, q2, q4, q3⟩ := i1 p hp
        exact ⟨by omega, fun k hk => sub sR (q2 k hk), fun k hk => sub sW (q4 k hk), fun k hk => sub sW (q3 k hk)⟩
    · obtain ⟨q1, q2, q4, q3⟩ := i1 p hp
      refine ⟨fun _ hbit => ⟨fun k hk hin => ?_, fun k hk hin => ?_, fun k hin hk => ?_⟩, fun hlt => by simp only at hlt; omega⟩
      · have : (i, k) ∈ noteR i rd t := by
          unfold noteR
          simp only at hk
          rw [hk]
          exact List.mem_cons_self ..
        have := hit_false (q2 k hin) this
        simp only at hbit
        rw [hbit] at this
        simp at this
      · have : (i, k) ∈ noteW i wr t := List.mem_append.2 (.inl (List.mem_map.2 ⟨k, hin, rfl⟩))
        have := hit_false (q3 k hk) this
        simp only at hbit
        rw [hbit] at this
        simp at this
      · have : (i, k) ∈ noteW i wr t := List.mem_append.2 (.inl (List.mem_map.2 ⟨k, hin, rfl⟩))
        have := hit_false (q4 k hk) this
        simp only at hbit
        rw [hbit] at this
        simp at this
theorem drawOk_sound {P : Program} (hm : P.follows .mixedOrders = true) (h : drawOk tb ops = true) : DrawOk P tb ops := by
  intro E hE t st st' ts hr hok
  unfold drawOk at h
  simp only [List.all_eq_true, List.mem_range] at h
  have h2 := h
  have hsch : Region.schedule (P.follows .mixedOrders) ops t = Region.linearise .any ops t := by
    unfold Region.schedule
    simp [hm]
  rw [hsch]
  have hM := masks_reach (ops := ops) ops.toList [] (fun i => by simp) (fun i j h => by simp at h)
  rw [← range_filterMap, List.range_eq_range'] at hr
  have hI := runD_I (E := E) (ops := ops) (by omega) hr
  rw [← List.range_eq_range'] at hI
  refine Exists.elim (lin (ops := ops) (ms := masks ops.toList []) hE (fun i y hy => ?_) ops.size t (Array.replicate ops.size false) (List.range ops.size) st st' (idxL 0 ts) (by simp) (List.pairwise_lt_range) (fun i => ?_) (fun i hi => ?_) (by simp) (okT_pairwise hok).2 hI) (fun ts2 h3 => Exists.elim h3 fun sl h3 => ⟨sl, _, runI_D h3.1, h3.2⟩)
  · have hlt : i < ops.size := (Array.getElem?_eq_some_iff.1 hy).1
    have := h2 i hlt
    rw [hy] at this
    simp only [Bool.and_eq_true, List.all_eq_true, List.mem_range, Bool.or_eq_true] at this
    refine ⟨this.1, fun j hj => ?_⟩
    cases hb : ((masks ops.toList []).getD i 0).testBit j with
    | true => exact .inl (hM i j hb)
    | false =>
      right
      refine ⟨rfl, ?_⟩
      rcases this.2 j hj with hh | hh
      · rw [hb] at hh; simp at hh
      · cases hx : ops[j]? with
        | none => rw [hx] at hh; simp at hh
        | some x => rw [hx] at hh; exact ⟨x, rfl, hh⟩
  · simp only [List.mem_range]
    constructor
    · intro hi; exact ⟨hi, by simp [hi]⟩
    · exact fun hi => hi.1
  · have := (getD_true hi).1
    simp at this
    simp [this] at hi

/-- The static look at a function's code. -/
def codeOkB (tb : Tb) : Code → Bool
  | .region _ ops draw => !draw || drawOk tb ops
  | .seq a b => codeOkB tb a && codeOkB tb b
  | .cond _ a b => codeOkB tb a && codeOkB tb b
  | .block _ c => codeOkB tb c
  | .loop c => codeOkB tb c
  | _ => true
theorem codeOkB_sound {P : Program} {tb : Tb} (hm : P.follows .mixedOrders = true) : ∀ {c : Code}, codeOkB tb c = true → CodeOk P tb c
  | .region _ ops draw, h => by
    cases draw
    · trivial
    · exact drawOk_sound hm (by simpa [codeOkB] using h)
  | .seq a b, h => by
    simp only [codeOkB, Bool.and_eq_true] at h
    exact ⟨codeOkB_sound hm h.1, codeOkB_sound hm h.2⟩
  | .cond _ a b, h => by
    simp only [codeOkB, Bool.and_eq_true] at h
    exact ⟨codeOkB_sound hm h.1, codeOkB_sound hm h.2⟩
  | .block _ c, h => codeOkB_sound hm (c := c) h
  | .loop c, h => codeOkB_sound hm (c := c) h
  | .skip, _ => trivial
  | .rangeFunc _ _ _ _, _ => trivial
  | .exit _, _ => trivial
  | .scope _, _ => trivial
  | .label _, _ => trivial
  | .goto _, _ => trivial
  | .ret, _ => trivial
  | .refuse _, _ => trivial

end
end
end Go.AM
