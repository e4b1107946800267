/- A part of the proof: machine and program. -/
import Derived.Test.YtpdifkaeiecdpaaAm09
namespace Go.AM
open Go.RowKit Go.Lib
section
variable [Reg]
section
variable {P : Program} {c : Ctx} {γ γ' γ'' : Gh} {D D' D'' : Dead} {st : St} {a : Act} {w w' w'' : World} {tb : Tb} {H : Hints} {h h' h'' : Heap} {u u' u'' : List Nat}

/-- A chain may count as finished. -/
def Wk (x y : AV) : Prop := x = y ∨ ∃ k t xs, x = .tip k t xs ∧ y = .sl t false xs
def ObLe (f : Nat → Option Nat) (u : List Nat) : Ob → Ob → Prop
  | .box cs, o => ∃ ds, o = .box ds ∧ ds.length = cs.length ∧ ∀ (i : Nat) (c d : AV), cs[i]? = some c → ds[i]? = some d → (∀ k ∈ c.refsG1, k ∈ u) → Wk (renC f c) d
  | o, o' => o' = o
/-- New numbers for some objects. -/
structure Ren (f : Nat → Option Nat) (h h' : Heap) (u u' : List Nat) : Prop where
  inj : ∀ j k i, f j = some i → f k = some i → j = k
  at_ : ∀ k' o', find k' h' = some o' → ∃ k o, f k = some k' ∧ find k h = some o ∧ ObLe f u o o'
  u : ∀ k k', f k = some k' → k' ∈ u'
open Classical in
noncomputable def Gh.ren (γ : Gh) (f : Nat → Option Nat) (h' : Heap) : Gh :=
  ⟨fun k' => if e : ∃ k, f k = some k' then γ.g e.choose else (0, 0), fun b => match γ.own b with | some k => (match f k with | some k' => (match find k' h' with | some _ => some k' | none => none) | none => none) | none => none⟩
section
variable {f : Nat → Option Nat}
theorem Ren.g (r : Ren f h h' u u') {k k' : Nat} (e : f k = some k') : (γ.ren f h').g k' = γ.g k := by
  have hx : ∃ k, f k = some k' := ⟨k, e⟩
  simp only [Gh.ren, dif_pos hx]
  rw [r.inj _ _ _ hx.choose_spec e]
theorem Ren.own {b k' : Nat} (e : (γ.ren f h').own b = some k') : ∃ k, γ.own b = some k ∧ f k = some k' ∧ find k' h' ≠ none := by
  simp only [Gh.ren] at e
  split at e
  · rename_i k hk
    split at e
    · rename_i k2 hk2
      split at e
      · rename_i o ho
        simp only [Option.some.injEq] at e
        subst e
        exact ⟨k, hk, hk2, by rw [ho]; simp⟩
      · simp at e
    · simp at e
  · simp at e
theorem Ren.own_of {b k k' : Nat} (h1 : γ.own b = some k) (h2 : f k = some k') (h3 : find k' h' ≠ none) : (γ.ren f h').own b = some k' := by
  simp only [Gh.ren, h1, h2]
  cases hf : find k' h' with
  | none => exact absurd hf h3
  | some o => rfl
theorem Ren.find (r : Ren f h h' u u') {k k' : Nat} {o' : Ob} (e : f k = some k') (hf : find k' h' = some o') : ∃ o, find k h = some o ∧ ObLe f u o o' := by
  obtain ⟨j, o, h1, h2, h3⟩ := r.at_ k' o' hf
  rw [r.inj _ _ _ h1 e] at h2
  exact ⟨o, h2, h3⟩
theorem Ren.row (r : Ren f h h' u u') {k k' t : Nat} {xs : List (R t)} (e : f k = some k') (hf : AM.find k' h' = some (.row t xs)) : AM.find k h = some (.row t xs) := by
  obtain ⟨o, h1, h2⟩ := r.find e hf
  cases o
  case box => obtain ⟨ds, h2, _⟩ := h2; cases h2
  all_goals (have h3 := h2; unfold ObLe at h3; first | (cases h3; exact h1) | (simp at h3; done))
theorem Ren.fz (r : Ren f h h' u u') {k k' t : Nat} {xs : List (R t)} (e : f k = some k') (hf : AM.find k' h' = some (.fz t xs)) : AM.find k h = some (.fz t xs) := by
  obtain ⟨o, h1, h2⟩ := r.find e hf
  cases o
  case box => obtain ⟨ds, h2, _⟩ := h2; cases h2
  all_goals (have h3 := h2; unfold ObLe at h3; first | (cases h3; exact h1) | (simp at h3; done))
theorem Ren.tok (r : Ren f h h' u u') {k k' : Nat} (e : f k = some k') (hf : AM.find k' h' = some .tok) : AM.find k h = some .tok := by
  obtain ⟨o, h1, h2⟩ := r.find e hf
  cases o
  case box => obtain ⟨ds, h2, _⟩ := h2; cases h2
  all_goals (have h3 := h2; unfold ObLe at h3; first | (cases h3; exact h1) | (simp at h3; done))
theorem Ren.box (r : Ren f h h' u u') {k k' : Nat} {ds : List AV} (e : f k = some k') (hf : AM.find k' h' = some (.box ds)) : ∃ cs, AM.find k h = some (.box cs) ∧ ds.length = cs.length ∧ ∀ (i : Nat) (c d : AV), cs[i]? = some c → ds[i]? = some d → (∀ k ∈ c.refsG1, k ∈ u) → Wk (renC f c) d := by
  obtain ⟨o, h1, h2⟩ := r.find e hf
  cases o
  case box cs => obtain ⟨ds', h2, h3⟩ := h2; cases h2; exact ⟨cs, h1, h3⟩
  all_goals (have h3 := h2; unfold ObLe at h3; cases h3)
theorem RepA.refs {x : AV} {y : Value} (hx : RepA γ h u w D x y) : ∀ k ∈ x.refsG1, k ∈ u := by
  cases x <;> simp only [AV.refsG1, List.not_mem_nil, false_implies, implies_true, List.mem_singleton, forall_eq]
  all_goals first | exact hx.1 | (cases (show RepD w D (.fn _ _) y from hx))
theorem RepC.refs {x : AV} {y : Value} (hx : RepC γ h u w D x y) : ∀ k ∈ x.refsG1, k ∈ u := by
  cases x with
  | fn n cs =>
    obtain ⟨vs, _, hn, hh⟩ := hx
    intro k hk
    simp only [AV.refsG1, List.mem_flatMap] at hk
    obtain ⟨c', h1, h2⟩ := hk
    obtain ⟨i, hi⟩ := List.getElem?_of_mem h1
    have hlt : i < vs.size := by rw [hn]; exact (List.getElem?_eq_some_iff.1 hi).1
    refine (hh i c' _ hi (Array.getElem?_eq_getElem hlt)).1.refs k ?_
    cases c' <;> simp_all [AV.refsG0, AV.refsG1]
  | _ => unfold RepC at hx; exact hx.refs
theorem Wk.rep {x y : AV} (hw : Wk x y) {v : Value} (hx : RepC γ h u w D x v) : RepC γ h u w D y v := by
  rcases hw with rfl | ⟨k, t, xs, rfl, rfl⟩
  · exact hx
  · exact hx.2.1.c
theorem Wk.cell {x y : AV} (hw : Wk x y) (hx : Cell x) : Cell y := by
  rcases hw with rfl | ⟨k, t, xs, rfl, rfl⟩
  · exact hx
  · exact .inr rfl

theorem Ren.repA (r : Ren f h h' u u') {x : AV} {y : Value} (hx : RepA γ h u w D x y) : RepA (γ.ren f h') h' u' w D (ren1 f x) y := by
  cases x with
  | ptr k off =>
    obtain ⟨q1, q2, q3⟩ := hx
    simp only [ren1]
    split
    · rename_i k' e
      refine ⟨r.u k k' e, q2, fun cs' hf => ?_⟩
      obtain ⟨cs, h1, _⟩ := r.box e hf
      rw [r.g e]
      exact q3 cs h1
    · trivial
  | vw k t =>
    obtain ⟨q1, q2, q3, q4⟩ := hx
    simp only [ren1]
    split
    · rename_i k' e
      refine ⟨r.u k k' e, q2, fun xs hf => ?_, fun xs hf => q4 xs (r.fz e hf)⟩
      obtain ⟨A, cap, e1, e2, e3, e4⟩ := q3 xs (r.row e hf)
      refine ⟨A, cap, e1, e2, e3, e4.imp id ?_⟩
      rintro ⟨f1, f2, f3, f4⟩
      rw [r.g e]
      exact ⟨f1, Ren.own_of f2 e (by rw [hf]; simp), f3, f4⟩
    · trivial
  | sv k t lo n =>
    obtain ⟨q1, q2, q3, q4⟩ := hx
    simp only [ren1]
    split
    · rename_i k' e
      refine ⟨r.u k k' e, q2, fun xs hf => ?_, fun xs hf => q4 xs (r.fz e hf)⟩
      obtain ⟨A, cap, e1, e2, e3, e4⟩ := q3 xs (r.row e hf)
      refine ⟨A, cap, e1, e2, e3, e4.imp id ?_⟩
      rintro ⟨f1, f2, f3, f4⟩
      rw [r.g e]
      exact ⟨f1, Ren.own_of f2 e (by rw [hf]; simp), f3, f4⟩
    · trivial
  | ep k t i j =>
    obtain ⟨q1, q2, q3, q4⟩ := hx
    simp only [ren1]
    split
    · rename_i k' e
      refine ⟨r.u k k' e, q2, fun xs hf => ?_, fun xs z hf hz => q4 xs z (r.fz e hf) hz⟩
      rw [r.g e]
      exact q3 xs (r.row e hf)
    · trivial
  | tip k t xs =>
    obtain ⟨q1, q2, q3⟩ := hx
    simp only [ren1]
    split
    · rename_i k' e
      refine ⟨r.u k k' e, q2, fun hf => ?_⟩
      obtain ⟨A, cap, e1, e2⟩ := q3 (r.tok e hf)
      refine ⟨A, cap, e1, e2.imp id ?_⟩
      rintro ⟨f1, f2, f3, f4, f5⟩
      rw [r.g e]
      exact ⟨f1, Ren.own_of f2 e (by rw [hf]; simp), f3, f4, f5⟩
    · exact q2
  | _ => exact hx
theorem ren1_cell (f : Nat → Option Nat) {x : AV} (hx : Cell x) : Cell (ren1 f x) := by
  cases x <;> first | exact hx | (simp only [ren1]; split <;> first | exact .inr rfl | exact .inl rfl)
theorem renC_cell (f : Nat → Option Nat) {x : AV} (hx : Cell x) : Cell (renC f x) := by
  cases x <;> first | exact ren1_cell f hx | exact .inr rfl
theorem Ren.repC (r : Ren f h h' u u') {x : AV} {y : Value} (hx : RepC γ h u w D x y) : RepC (γ.ren f h') h' u' w D (renC f x) y := by
  cases x with
  | fn n cs =>
    obtain ⟨vs, e, hn, hh⟩ := hx
    refine ⟨vs, e, by simp [hn], fun i c' z hi hj => ?_⟩
    rw [List.getElem?_map, Option.map_eq_some_iff] at hi
    obtain ⟨d, hd, rfl⟩ := hi
    exact ⟨r.repA (hh i d z hd hj).1, ren1_cell f (hh i d z hd hj).2⟩
  | _ => unfold RepC at hx; exact (r.repA hx).c
theorem Ren.repB (r : Ren f h h' u u') {x : AV} {y : Value} (hx : RepB γ h u w D x y) : RepB (γ.ren f h') h' u' w D (renB f x) y := by
  cases x with
  | agg cs =>
    obtain ⟨vs, e, hn, hh⟩ := hx
    refine ⟨vs, e, by simp [hn], fun i c' z hi hj => ?_⟩
    rw [List.getElem?_map, Option.map_eq_some_iff] at hi
    obtain ⟨d, hd, rfl⟩ := hi
    exact ⟨r.repC (hh i d z hd hj).1, renC_cell f (hh i d z hd hj).2⟩
  | _ => unfold RepB at hx; exact (r.repC hx).b
theorem Ren.repV (r : Ren f h h' u u') {x : AV} {y : Value} (hx : RepV γ h u w D x y) : RepV (γ.ren f h') h' u' w D (renV f x) y := by
  cases x with
  | tup cs =>
    obtain ⟨vs, e, hn, hh⟩ := hx
    refine ⟨vs, e, by simp [hn], fun i c' z hi hj => ?_⟩
    rw [List.getElem?_map, Option.map_eq_some_iff] at hi
    obtain ⟨d, hd, rfl⟩ := hi
    exact r.repB (hh i d z hd hj)
  | _ => unfold RepV at hx; exact (r.repB hx).v
theorem Ren.hok (r : Ren f h h' u u') (hh : HOk γ h u w D) : HOk (γ.ren f h') h' u' w D := by
  refine ⟨fun k' cs' e => ?_, fun k' t xs e => ?_, fun b k' ho => ?_, fun b k' ho e o hD => ?_, fun k' e => ?_⟩
  · obtain ⟨k, o, h1, _⟩ := r.at_ k' _ e
    obtain ⟨cs, h2, h3, h4⟩ := r.box h1 e
    obtain ⟨q1, vs, E, q2, q3, q4⟩ := hh.box k cs h2
    rw [r.g h1]
    refine ⟨Ren.own_of q1 h1 (by rw [e]; simp), vs, E, q2, by rw [q3, h3], fun i d v hi hj => ?_⟩
    have hlt : i < cs.length := by rw [← h3]; exact (List.getElem?_eq_some_iff.1 hi).1
    have hc := List.getElem?_eq_getElem hlt
    have hq := q4 i _ v hc hj
    have hw := h4 i _ d hc hi hq.1.refs
    exact ⟨hw.rep (r.repC hq.1), hw.cell (renC_cell f hq.2)⟩
  · obtain ⟨k, o, h1, _⟩ := r.at_ k' _ e
    rw [r.g h1]
    refine (hh.row k t xs (r.row h1 e)).imp id ?_
    rintro ⟨q1, q2⟩
    exact ⟨Ren.own_of q1 h1 (by rw [e]; simp), q2⟩
  · obtain ⟨k, h1, h2, h3⟩ := Ren.own ho
    rw [r.g h2]
    exact ⟨(hh.own b k h1).1, h3, (hh.own b k h1).2.2⟩
  · obtain ⟨k, h1, h2, h3⟩ := Ren.own ho
    refine hh.lv b k h1 (fun e2 => e ?_) o hD
    cases hf : AM.find k' h' with
    | none => exact absurd hf h3
    | some o' =>
      obtain ⟨o2, g1, g2⟩ := r.find h2 hf
      rw [e2] at g1
      cases g1
      have g3 := g2
      unfold ObLe at g3
      rw [g3]
  · cases hf : AM.find k' h' with
    | none => exact absurd hf e
    | some o' =>
      obtain ⟨k, o, h1, _⟩ := r.at_ k' o' hf
      exact r.u k k' h1

theorem find_renT (f : Nat → Option Nat) (t : Nat) : ∀ l : List (Nat × AV), AM.find t (renT f l) = (AM.find t l).map (renV f)
  | [] => rfl
  | (k, v) :: r => by
    simp only [renT, AM.find]
    split
    · rfl
    · exact find_renT f t r
theorem Inv.ren (r : Ren f st.h h' st.u u') (hi : Inv c γ D st a w) (hlow : ∀ k k', f k = some k' → k' < 1000 → k = k') : Inv c (γ.ren f h') D { nt := st.nt, t := renT f st.t, h := h', u := u' } a w := by
  refine ⟨hi.nt, hi.dfr, fun t => ?_, r.hok hi.hp, hi.os, hi.tape, hi.output, hi.size, hi.block, hi.lg, fun b k' ho => ?_, hi.dd, hi.dl, fun k' hk cs' e => ?_, fun k' hk t xs e => ?_, fun k' hk t xs e => ?_, fun k' hk e => ?_⟩
  · have : St.get { nt := st.nt, t := renT f st.t, h := h', u := u' } t = renV f (st.get t) := by
      unfold St.get
      simp only [find_renT]
      cases AM.find t st.t <;> rfl
    rw [this]
    exact r.repV (hi.tm t)
  · obtain ⟨k, h1, _⟩ := Ren.own ho
    exact hi.ow b k h1
  · obtain ⟨k, o, h1, _⟩ := r.at_ k' _ e
    have := hlow k k' h1 hk
    subst this
    obtain ⟨cs, h2, _⟩ := r.box h1 e
    rw [r.g h1]
    exact hi.ob k hk cs h2
  · obtain ⟨k, o, h1, _⟩ := r.at_ k' _ e
    have := hlow k k' h1 hk
    subst this
    obtain ⟨q1, q2, q3⟩ := hi.or k hk t xs (r.row h1 e)
    rw [r.g h1]
    exact ⟨q1, q2, fun ho => Ren.own_of (q3 ho) h1 (by rw [e]; simp)⟩
  · obtain ⟨k, o, h1, _⟩ := r.at_ k' _ e
    have := hlow k k' h1 hk
    subst this
    exact hi.ofz k hk t xs (r.fz h1 e)
  · obtain ⟨k, o, h1, _⟩ := r.at_ k' _ e
    have := hlow k k' h1 hk
    subst this
    exact hi.ot k hk (r.tok h1 e)

/-! ### The machine's own -/
omit [Reg] in
theorem idxOf_spec {k : Nat} : ∀ {ks : List Nat} {i m : Nat}, idxOf k ks i = some m → i ≤ m ∧ ks[m - i]? = some k
  | [], i, m, h => by simp [idxOf] at h
  | x :: r, i, m, h => by
    unfold idxOf at h
    cases hx : Nat.beq k x with
    | true =>
      rw [hx] at h
      simp only [cond_true, Option.some.injEq] at h
      subst h
      rw [Nat.eq_of_beq_eq_true hx]
      simp
    | false =>
      rw [hx] at h
      obtain ⟨h1, h2⟩ := idxOf_spec (ks := r) h
      refine ⟨by omega, ?_⟩
      have : m - i = (m - (i + 1)) + 1 := by omega
      rw [this, List.getElem?_cons_succ]
      exact h2
theorem ren_spec {l : List Nat} {k k' : Nat} (e : AM.ren l h k = some k') : AM.find k h ≠ none ∧ ((k < 1000 ∧ k' = k) ∨ (1000 ≤ k ∧ ∃ i, k' = 100000 + i ∧ l[i]? = some k)) := by
  unfold AM.ren at e
  split at e
  · simp at e
  · rename_i o ho
    refine ⟨by rw [ho]; simp, ?_⟩
    cases hb : Nat.blt k 1000 with
    | true =>
      rw [hb] at e
      simp only [cond_true, Option.some.injEq] at e
      exact .inl ⟨blt_iff.1 hb, e.symm⟩
    | false =>
      rw [hb] at e
      simp only [cond_false] at e
      split at e
      · rename_i i hi
        simp only [Option.some.injEq] at e
        have hle : 1000 ≤ k := Nat.le_of_not_lt fun h => (by rw [blt_iff.2 h] at hb; cases hb)
        refine .inr ⟨hle, i, e.symm, ?_⟩
        simpa using (idxOf_spec hi).2
      · simp at e
theorem find_renH (f : Nat → Option Nat) (k' : Nat) (o' : Ob) : ∀ l : List Nat, AM.find k' (renH f h l) = some o' → ∃ k o, f k = some k' ∧ AM.find k h = some o ∧ o' = renO f o
  | [], e => by simp [renH, AM.find] at e
  | k :: r, e => by
    simp only [renH] at e
    split at e
    · rename_i k2 o h1 h2
      simp only [AM.find] at e
      split at e
      · rename_i e2
        subst e2
        simp only [Option.some.injEq] at e
        exact ⟨k, o, h1, h2, e.symm⟩
      · exact find_renH f k' o' r e
    · exact find_renH f k' o' r e
omit [Reg] in
theorem find_mem {α : Type} {k : Nat} {v : α} : ∀ {l : List (Nat × α)}, AM.find k l = some v → (k, v) ∈ l
  | [], h => by simp [AM.find] at h
  | (m, u) :: r, h => by
    simp only [AM.find] at h
    split at h
    · rename_i e
      subst e
      simp only [Option.some.injEq] at h
      subst h
      simp
    · exact List.mem_cons_of_mem _ (find_mem h)
theorem Inv.renum (hi : Inv c γ D st a w) (l : List Nat) : ∃ γ', Inv c γ' D (st.renum l) a w := by
  refine ⟨_, Inv.ren (f := AM.ren (highs l) st.h) ⟨fun j k i e1 e2 => ?_, fun k' o' e => (by
    obtain ⟨k, o, e1, e2, rfl⟩ := find_renH _ _ _ _ e
    refine ⟨k, o, e1, e2, ?_⟩
    cases o with
    | box cs => exact ⟨_, rfl, by simp, fun i c' d h1 h2 _ => by rw [List.getElem?_map, h1] at h2; simp at h2; exact .inl h2⟩
    | _ => rfl), fun k k' e => ?_⟩ hi fun k k' e hk => ?_⟩
  · obtain ⟨_, q1⟩ := ren_spec e1
    obtain ⟨_, q2⟩ := ren_spec e2
    rcases q1 with ⟨a1, a2⟩ | ⟨a1, m, a2, a3⟩ <;> rcases q2 with ⟨b1, b2⟩ | ⟨b1, m', b2, b3⟩
    · omega
    · omega
    · omega
    · have : m = m' := by omega
      subst this
      rw [a3] at b3
      simpa using b3
  · obtain ⟨q0, q1⟩ := ren_spec e
    rcases q1 with ⟨a1, rfl⟩ | ⟨a1, m, rfl, a3⟩
    · refine List.mem_append.2 (.inl ?_)
      unfold lows
      rw [List.mem_filter]
      cases hf : AM.find k' st.h with
      | none => exact absurd hf q0
      | some o => exact ⟨List.mem_map.2 ⟨_, find_mem hf, rfl⟩, blt_iff.2 a1⟩
    · refine List.mem_append.2 (.inr (List.mem_map.2 ⟨m, List.mem_range.2 (List.getElem?_eq_some_iff.1 a3).1, rfl⟩))
  · obtain ⟨_, q1⟩ := ren_spec e
    rcases q1 with ⟨a1, rfl⟩ | ⟨a1, m, rfl, a3⟩
    · rfl
    · omega
theorem Inv.gc (hi : Inv c γ D st a w) : ∃ γ', Inv c γ' D st.gc a w := hi.renum _

omit [Reg] in
theorem find_without {α : Type} (p : Nat → Bool) (k : Nat) : ∀ l : List (Nat × α), AM.find k (without p l) = bif p k then none else AM.find k l
  | [] => by simp [without, AM.find]
  | (m, v) :: r => by
    have ih := find_without p k r
    simp only [without]
    cases hm : p m with
    | true =>
      simp only [cond_true, ih, AM.find]
      by_cases e : k = m
      · subst e; simp [hm]
      · simp [e]
    | false =>
      simp only [cond_false, AM.find, ih]
      by_cases e : k = m
      · subst e; simp [hm]
      · simp [e]
theorem Inv.only (hi : Inv c γ D st a w) (p : Nat → Bool) : Inv c γ D (st.only p) a w := by
  refine ⟨hi.nt, hi.dfr, fun t => ?_, hi.hp, hi.os, hi.tape, hi.output, hi.size, hi.block, hi.lg, hi.ow, hi.dd, hi.dl, hi.ob, hi.or, hi.ofz, hi.ot⟩
  have e : (st.only p).get t = match (bif p t then none else AM.find t st.t) with | some v => v | none => .undef := by
    unfold St.get St.only
    simp only [find_without]
    rfl
  rw [e]
  cases hp : p t with
  | true => trivial
  | false => exact hi.tm t
theorem raise1 (hi : Inv c γ D st a w) {s e : Nat} (hs : st.get s = .nils) (hk : isNew st.u (900000 + s) = true) {o' : Ob} {v : AV} (ho : (o' = .row e [] ∧ v = .vw (900000 + s) e) ∨ (o' = .tok ∧ v = .tip (900000 + s) e [])) : ∃ γ', Inv c γ' D ({ st with h := AM.put (900000 + s) o' st.h, u := (900000 + s) :: st.u }.put (some s) v) a w := by
  have hd : o' = .tok ∨ ∃ t, o' = .row t [] := by
    rcases ho with ⟨rfl, _⟩ | ⟨rfl, _⟩
    · exact .inr ⟨e, rfl⟩
    · exact .inl rfl
  have sb := stp_bare hi hk (show 1000 ≤ 900000 + s by omega) hd
  have hi1 := hi.step sb
  refine ⟨γ.bare (900000 + s), ?_⟩
  have hnil : a.tmps.getD s undef = .slice none 0 0 := by
    have := hi.tm s
    rw [hs] at this
    generalize a.tmps.getD s undef = V at this
    cases (show RepD w D .nils V from this)
    rfl
  have hv : RepV (γ.bare (900000 + s)) (AM.put (900000 + s) o' st.h) ((900000 + s) :: st.u) w D v (a.tmps.getD s undef) := by
    rw [hnil]
    rcases ho with ⟨rfl, rfl⟩ | ⟨rfl, rfl⟩
    · exact (vw_nil (List.mem_cons_self ..) (find_put_same _ _ _)).v
    · exact ⟨List.mem_cons_self .., .slN _ _ _ _ (by simp), fun _ => ⟨none, 0, rfl, .inl rfl⟩⟩
  have h2 := hi1.put hv (some s)
  have ea : a.put (some s) (a.tmps.getD s undef) = a := by
    obtain ⟨tmps, dfr⟩ := a
    simp only [Act.put, Act.mk.injEq, and_true]
    refine Array.ext_getElem? fun i => ?_
    rw [Array.getElem?_setIfInBounds]
    split
    · rename_i e
      subst e
      split
      · rename_i hlt
        rw [Array.getElem?_eq_getElem hlt]
        simp
      · rename_i hlt
        rw [Array.getElem?_eq_none_iff.2 (by omega)]
    · rfl
  rw [ea] at h2
  exact h2
theorem Inv.raise : ∀ (l : List (Nat × Nat × Bool)) {γ : Gh} {st : St}, Inv c γ D st a w → ∃ γ', Inv c γ' D (st.raise l) a w
  | [], γ, st, hi => ⟨γ, hi⟩
  | (s, e, row) :: r, γ, st, hi => by
    unfold St.raise
    split
    · rename_i hs
      cases hk : isNew st.u (900000 + s) with
      | false => exact Inv.raise r hi
      | true =>
        cases row with
        | true =>
          obtain ⟨γ', h1⟩ := raise1 hi hs hk (e := e) (.inl ⟨rfl, rfl⟩)
          exact Inv.raise r h1
        | false =>
          obtain ⟨γ', h1⟩ := raise1 hi hs hk (e := e) (.inr ⟨rfl, rfl⟩)
          exact Inv.raise r h1
    · exact Inv.raise r hi
theorem Inv.clean (hi : Inv c γ D st a w) (d : List Nat × List (Nat × Nat × Bool)) : ∃ γ', Inv c γ' D (st.clean d) a w := by
  obtain ⟨γ1, h1⟩ := Inv.raise d.2 (hi.only d.1.contains)
  exact h1.gc
end
end
end
end Go.AM
namespace Go.AM
open Go.RowKit Go.Lib
section
variable [Reg]
section
variable {P : Program} {c : Ctx} {γ γ' γ'' : Gh} {D D' D'' : Dead} {st : St} {a : Act} {w w' w'' : World} {tb : Tb} {H : Hints} {h h' h'' : Heap} {u u' u'' : List Nat}

/-! ### Rows that are frozen -/
/-- Values, one by one. -/
def RepLs (Q : AV → Value → Prop) : List AV → List Value → Prop
  | [], [] => True
  | c :: cs, v :: vs => Q c v ∧ RepLs Q cs vs
  | _, _ => False
theorem RepLs.get {Q : AV → Value → Prop} : ∀ {cs : List AV} {vs : List Value}, RepLs Q cs vs → vs.length = cs.length ∧ ∀ (i : Nat) (c : AV) (v : Value), cs[i]? = some c → vs[i]? = some v → Q c v
  | [], [], _ => ⟨rfl, by simp⟩
  | [], _ :: _, h => h.elim
  | _ :: _, [], h => h.elim
  | c :: cs, v :: vs, h => by
    obtain ⟨h1, h2⟩ := RepLs.get h.2
    refine ⟨by simp [h1], fun i c' v' hi hj => ?_⟩
    cases i with
    | zero => simp at hi hj; subst hi; subst hj; exact h.1
    | succ i => exact h2 i c' v' (by simpa using hi) (by simpa using hj)
theorem RepLs.of {Q : AV → Value → Prop} : ∀ {cs : List AV} {vs : List Value}, vs.length = cs.length → (∀ (i : Nat) (c : AV) (v : Value), cs[i]? = some c → vs[i]? = some v → Q c v) → RepLs Q cs vs
  | [], [], _, _ => trivial
  | [], _ :: _, h, _ => by simp at h
  | _ :: _, [], h, _ => by simp at h
  | c :: cs, v :: vs, h, hh => ⟨hh 0 c v rfl rfl, RepLs.of (by simpa using h) fun i c' v' hi hj => hh (i + 1) c' v' (by simpa using hi) (by simpa using hj)⟩
theorem RepLs.mono {Q Q' : AV → Value → Prop} (hq : ∀ c v, Q c v → Q' c v) : ∀ {cs : List AV} {vs : List Value}, RepLs Q cs vs → RepLs Q' cs vs
  | [], [], _ => trivial
  | [], _ :: _, h => h.elim
  | _ :: _, [], h => h.elim
  | _c :: _cs, _v :: _vs, h => ⟨hq _ _ h.1, RepLs.mono hq h.2⟩
def CC (γ : Gh) (h : Heap) (u : List Nat) (w : World) (D : Dead) (c : AV) (v : Value) : Prop := RepC γ h u w D c v ∧ Cell c
theorem CC.step (s : Stp γ γ' h h' u u' w w' D D') {x : AV} {v : Value} (hx : CC γ h u w D x v) : CC γ' h' u' w' D' x v := ⟨hx.1.mono s.pres s.dd s.uu s.same, hx.2⟩

theorem stp_fz (hi : Inv c γ D st a w) {k t : Nat} {xs : List (R t)} (hk : find k st.h = some (.row t xs)) : ∃ γ' D', Stp γ γ' st.h (AM.put k (.fz t xs) st.h) st.u st.u w w D D' := by
  by_cases hown : γ.own (γ.g k).1 = some k
  · refine ⟨_, fun b o => D b o ∨ (γ.own b = some k ∧ (γ.g k).2 ≤ o), stp_del hi k ⟨fun _ _ h => .inl h, fun b o hne h => h.resolve_right fun h2 => hne h2.1, fun b o h => ?_⟩ (fun j hj => find_put_ne hj _ _) (.inr ⟨t, xs, find_put_same _ _ _, hk, ?_⟩)⟩
    · rcases h with h | ⟨h, _⟩
      · exact hi.dl b o h
      · exact (hi.hp.own b k h).1
    · refine (hi.hp.row k t xs hk).imp id ?_
      rintro ⟨_, vs, E, h2, h3, h4⟩
      refine ⟨fun q => vs.getD ((γ.g k).2 + q) Go.undef, fun q c' hq => ?_⟩
      have hlt : (γ.g k).2 + q < vs.size := by
        have := (List.getElem?_eq_some_iff.1 hq).1
        rw [flat_len] at this
        omega
      have e1 : vs.getD ((γ.g k).2 + q) Go.undef = vs[(γ.g k).2 + q] := by simp [hlt]
      dsimp only
      rw [e1]
      exact ⟨.inr ⟨hown, by omega⟩, by rw [cell_of_block h2, Array.getElem?_eq_getElem hlt], (h4 q c' _ hq (Array.getElem?_eq_getElem hlt)).mono (fun _ _ _ => rfl) (fun _ _ h => .inl h)⟩
  · refine ⟨_, D, stp_del hi k (Dies.refl hi k) (fun j hj => find_put_ne hj _ _) (.inr ⟨t, xs, find_put_same _ _ _, hk, ?_⟩)⟩
    rcases hi.hp.row k t xs hk with e | ⟨h1, _⟩
    · exact .inl e
    · exact absurd h1 hown

theorem frC_sound (hi : Inv c γ D st a w) {x : AV} {v : Value} (hx : CC γ st.h st.u w D x v) : ∃ γ' D', Stp γ γ' st.h (frC st.h x).2 st.u st.u w w D D' ∧ CC γ' (frC st.h x).2 st.u w D' (frC st.h x).1 v := by
  have same : ∃ γ' D', Stp γ γ' st.h st.h st.u st.u w w D D' ∧ CC γ' st.h st.u w D' x v := ⟨γ, D, stp_ext hi fun _ => rfl, hx⟩
  have und : ∃ γ' D', Stp γ γ' st.h st.h st.u st.u w w D D' ∧ CC γ' st.h st.u w D' .undef v := ⟨γ, D, stp_ext hi fun _ => rfl, trivial, .inl rfl⟩
  unfold frC
  split
  · rename_i k t
    split
    · rename_i t' xs hk
      split
      · rename_i e
        subst e
        obtain ⟨γ', D', s⟩ := stp_fz hi hk
        exact ⟨γ', D', s, ((hx.step s).1.2.2.2 xs (find_put_same _ _ _)).c, .inr rfl⟩
      · exact und
    · rename_i t' xs hk
      split
      · rename_i e
        subst e
        exact ⟨γ, D, stp_ext hi fun _ => rfl, (hx.1.2.2.2 xs hk).c, .inr rfl⟩
      · exact und
    · exact und
  · rename_i k t lo n
    split
    · rename_i t' xs hk
      split
      · rename_i e
        subst e
        obtain ⟨γ', D', s⟩ := stp_fz hi hk
        exact ⟨γ', D', s, ((hx.step s).1.2.2.2 xs (find_put_same _ _ _)).1.c, .inr rfl⟩
      · exact und
    · rename_i t' xs hk
      split
      · rename_i e
        subst e
        exact ⟨γ, D, stp_ext hi fun _ => rfl, (hx.1.2.2.2 xs hk).1.c, .inr rfl⟩
      · exact und
    · exact und
  · exact same

/-- Something that stays true when memory is stepped on. -/
theorem frCs_sound {E : AV → Value → Prop} : ∀ {cs : List AV} {vs : List Value} {γ : Gh} {D : Dead} {st : St}, Inv c γ D st a w → RepLs (CC γ st.h st.u w D) cs vs →
    ∃ γ' D', Inv c γ' D' { st with h := (frCs st.h cs).2 } a w ∧ RepLs (CC γ' (frCs st.h cs).2 st.u w D') (frCs st.h cs).1 vs ∧ (∀ x v, CC γ st.h st.u w D x v → CC γ' (frCs st.h cs).2 st.u w D' x v) ∧ ∀ x v, RepB γ st.h st.u w D x v → RepB γ' (frCs st.h cs).2 st.u w D' x v
  | [], [], γ, D, st, hi, _ => ⟨γ, D, hi, trivial, fun _ _ h => h, fun _ _ h => h⟩
  | [], _ :: _, γ, D, st, hi, h => h.elim
  | _ :: _, [], γ, D, st, hi, h => h.elim
  | x :: cs, v :: vs, γ, D, st, hi, hR => by
    obtain ⟨γ1, D1, s1, h1⟩ := frC_sound hi hR.1
    have hi1 := hi.step s1
    have hR1 : RepLs (CC γ1 (frC st.h x).2 st.u w D1) cs vs := RepLs.mono (fun c' v' h => h.step s1) hR.2
    obtain ⟨γ2, D2, hi2, h2, h3, h4⟩ := frCs_sound (E := E) (st := { st with h := (frC st.h x).2 }) hi1 hR1
    exact ⟨γ2, D2, hi2, ⟨h3 _ _ h1, h2⟩, fun x' v' h => h3 _ _ (h.step s1), fun x' v' h => h4 _ _ (h.mono s1.pres s1.dd s1.uu s1.same)⟩

theorem frV_sound (hi : Inv c γ D st a w) {x : AV} {v : Value} (hx : RepB γ st.h st.u w D x v) : ∃ γ' D', Inv c γ' D' { st with h := (frV st.h x).2 } a w ∧ RepB γ' (frV st.h x).2 st.u w D' (frV st.h x).1 v ∧ ∀ y z, RepB γ st.h st.u w D y z → RepB γ' (frV st.h x).2 st.u w D' y z := by
  have cell : ∀ {x : AV}, RepB γ st.h st.u w D x v → Cell x → ∃ γ' D', Inv c γ' D' { st with h := (frC st.h x).2 } a w ∧ RepB γ' (frC st.h x).2 st.u w D' (frC st.h x).1 v ∧ ∀ y z, RepB γ st.h st.u w D y z → RepB γ' (frC st.h x).2 st.u w D' y z := fun {x} hx hc => by
    obtain ⟨γ', D', s, h1⟩ := frC_sound hi ⟨hx.toC hc, hc⟩
    exact ⟨γ', D', hi.step s, h1.1.b, fun y z h => h.mono s.pres s.dd s.uu s.same⟩
  cases x with
  | agg cs =>
    obtain ⟨vs, rfl, hn, hh⟩ := hx
    obtain ⟨γ', D', h1, h2, _, h4⟩ := frCs_sound (E := fun _ _ => True) hi (cs := cs) (vs := vs.toList) (RepLs.of (by simpa using hn) fun i c' v' hi' hj => hh i c' v' hi' (by simpa using hj))
    obtain ⟨g1, g2⟩ := h2.get
    exact ⟨γ', D', h1, ⟨vs, rfl, by simpa using g1, fun i c' v' hi' hj => g2 i c' v' hi' (by simpa using hj)⟩, h4⟩
  | undef => exact cell hx (.inl rfl)
  | tup vs => exact (nomatch (show RepD w D (.tup vs) v from hx))
  | ow t xs => exact (nomatch (show RepD w D (.ow t xs) v from hx))
  | _ => exact cell hx (.inr rfl)
theorem frVs_sound : ∀ {xs : List AV} {vs : List Value} {γ : Gh} {D : Dead} {st : St}, Inv c γ D st a w → RepLs (RepB γ st.h st.u w D) xs vs →
    ∃ γ' D', Inv c γ' D' { st with h := (frVs st.h xs).2 } a w ∧ RepLs (RepB γ' (frVs st.h xs).2 st.u w D') (frVs st.h xs).1 vs ∧ ∀ y z, RepB γ st.h st.u w D y z → RepB γ' (frVs st.h xs).2 st.u w D' y z
  | [], [], γ, D, st, hi, _ => ⟨γ, D, hi, trivial, fun _ _ h => h⟩
  | [], _ :: _, γ, D, st, hi, h => h.elim
  | _ :: _, [], γ, D, st, hi, h => h.elim
  | x :: xs, v :: vs, γ, D, st, hi, hR => by
    obtain ⟨γ1, D1, hi1, h1, k1⟩ := frV_sound hi hR.1
    obtain ⟨γ2, D2, hi2, h2, k2⟩ := frVs_sound (st := { st with h := (frV st.h x).2 }) hi1 (RepLs.mono k1 hR.2)
    exact ⟨γ2, D2, hi2, ⟨k2 _ _ h1, h2⟩, fun y z h => k2 _ _ (k1 _ _ h)⟩

/-! ### Lists of numbers -/
omit [Reg] in
theorem nodupB_iff : ∀ {l : List Nat}, nodupB l = true → l.Nodup
  | [], _ => List.nodup_nil
  | k :: r, h => by
    simp only [nodupB, Bool.and_eq_true, Bool.not_eq_true'] at h
    exact List.nodup_cons.2 ⟨by simpa using h.1, nodupB_iff h.2⟩
omit [Reg] in
theorem idxOf_at {k : Nat} : ∀ {ks : List Nat} {i m : Nat}, ks.Nodup → ks[m]? = some k → idxOf k ks i = some (i + m)
  | [], i, m, _, h => by simp at h
  | x :: r, i, m, hn, h => by
    unfold idxOf
    obtain ⟨h1, h2⟩ := List.nodup_cons.1 hn
    cases m with
    | zero =>
      simp at h
      subst h
      simp
    | succ m =>
      have hk : r[m]? = some k := by simpa using h
      have hne : Nat.beq k x = false := by
        cases hb : Nat.beq k x with
        | false => rfl
        | true => rw [Nat.eq_of_beq_eq_true hb] at hk; exact absurd (List.mem_of_getElem? hk) h1
      rw [hne]
      simp only [cond_false]
      rw [idxOf_at h2 hk]
      congr 1
      omega
omit [Reg] in
theorem idxOf_none {k : Nat} : ∀ {ks : List Nat} {i : Nat}, k ∉ ks → idxOf k ks i = none
  | [], i, _ => rfl
  | x :: r, i, h => by
    simp only [List.mem_cons, not_or] at h
    unfold idxOf
    have hne : Nat.beq k x = false := by
      cases hb : Nat.beq k x with
      | false => rfl
      | true => exact absurd (Nat.eq_of_beq_eq_true hb) h.1
    rw [hne]
    exact idxOf_none h.2

/-- Where a row lies in a box. -/
def rowPos (k : Nat) : Nat → List AV → Option Nat
  | _, [] => none
  | i, c :: r => match c with | .vw k' _ => (bif Nat.beq k' k then some i else rowPos k (i + 1) r) | _ => rowPos k (i + 1) r
def rowsOfBox (h : Heap) (k : Nat) : List Nat := match find k h with | some (.box cs) => rowRefs cs | _ => []
def rowIx (h : Heap) (k : Nat) : Nat → List Nat → Option (Nat × Nat)
  | _, [] => none
  | n, k0 :: r => match find k0 h with | some (.box cs) => (match rowPos k 0 cs with | some i => some (n, i) | none => rowIx h k (n + 1) r) | _ => rowIx h k (n + 1) r
theorem rowRefs_cons (c : AV) (r : List AV) : rowRefs (c :: r) = (match c with | .vw k _ => [k] | _ => []) ++ rowRefs r := rfl
theorem rowPos_at {k t : Nat} : ∀ {cs : List AV} {i m : Nat}, (rowRefs cs).Nodup → cs[i]? = some (.vw k t) → rowPos k m cs = some (m + i)
  | [], i, m, _, h => by simp at h
  | c :: r, i, m, hn, h => by
    rw [rowRefs_cons] at hn
    cases i with
    | zero =>
      simp at h
      subst h
      simp [rowPos]
    | succ i =>
      have hk : r[i]? = some (.vw k t) := by simpa using h
      have hin : k ∈ rowRefs r := by
        refine List.mem_flatMap.2 ⟨.vw k t, List.mem_of_getElem? hk, by simp⟩
      have hn2 : (rowRefs r).Nodup := (List.nodup_append.1 hn).2.1
      have ih := rowPos_at (m := m + 1) hn2 hk
      unfold rowPos
      split
      · rename_i k' t'
        have hne : Nat.beq k' k = false := by
          cases hb : Nat.beq k' k with
          | false => rfl
          | true =>
            have := Nat.eq_of_beq_eq_true hb
            subst this
            exact absurd rfl ((List.nodup_append.1 hn).2.2 k' (by simp) k' hin)
        rw [hne]
        simp only [cond_false, ih]
        congr 1
        omega
      · rw [ih]
        congr 1
        omega
theorem rowPos_spec {k : Nat} : ∀ {cs : List AV} {i m : Nat}, rowPos k m cs = some i → m ≤ i ∧ ∃ t, cs[i - m]? = some (.vw k t)
  | [], i, m, h => by simp [rowPos] at h
  | c :: r, i, m, h => by
    unfold rowPos at h
    have go : rowPos k (m + 1) r = some i → m ≤ i ∧ ∃ t, (c :: r)[i - m]? = some (.vw k t) := fun h => by
      obtain ⟨h1, t, h2⟩ := rowPos_spec h
      refine ⟨by omega, t, ?_⟩
      rw [show i - m = (i - (m + 1)) + 1 by omega, List.getElem?_cons_succ]
      exact h2
    split at h
    · rename_i k' t'
      cases hb : Nat.beq k' k with
      | true =>
        rw [hb] at h
        simp only [cond_true, Option.some.injEq] at h
        subst h
        rw [Nat.eq_of_beq_eq_true hb]
        exact ⟨Nat.le_refl _, t', by simp⟩
      | false => rw [hb] at h; exact go h
    · exact go h
theorem rowIx_at {k t : Nat} : ∀ {ks : List Nat} {n m i k0 : Nat} {cs : List AV}, (inls h ks).Nodup → ks[n]? = some k0 → find k0 h = some (.box cs) → cs[i]? = some (.vw k t) → rowIx h k m ks = some (m + n, i)
  | [], n, m, i, k0, cs, _, h1, _, _ => by simp at h1
  | k1 :: r, n, m, i, k0, cs, hn, h1, h2, h3 => by
    have e : inls h (k1 :: r) = rowsOfBox h k1 ++ inls h r := rfl
    rw [e] at hn
    obtain ⟨n1, n2, n3⟩ := List.nodup_append.1 hn
    cases n with
    | zero =>
      simp at h1
      subst h1
      unfold rowIx
      rw [h2]
      simp only
      have hn1 : (rowRefs cs).Nodup := by unfold rowsOfBox at n1; rw [h2] at n1; exact n1
      rw [rowPos_at (m := 0) hn1 h3]
      simp
    | succ n =>
      have h1' : r[n]? = some k0 := by simpa using h1
      have ih := rowIx_at (m := m + 1) n2 h1' h2 h3
      have hin : k ∈ inls h r := by
        refine List.mem_flatMap.2 ⟨k0, List.mem_of_getElem? h1', ?_⟩
        rw [h2]
        exact List.mem_flatMap.2 ⟨.vw k t, List.mem_of_getElem? h3, by simp⟩
      have go : rowIx h k (m + 1) r = some (m + (n + 1), i) := by rw [ih]; congr 2; omega
      unfold rowIx
      split
      · rename_i cs1 hb
        split
        · rename_i j hj
          obtain ⟨_, t', hj⟩ := rowPos_spec hj
          exfalso
          refine n3 k ?_ k hin rfl
          unfold rowsOfBox
          rw [hb]
          exact List.mem_flatMap.2 ⟨.vw k t', List.mem_of_getElem? hj, by simp⟩
        · exact go
      · exact go
theorem rowIx_spec {k : Nat} : ∀ {ks : List Nat} {n m i : Nat}, rowIx h k m ks = some (n, i) → m ≤ n ∧ ∃ k0 cs t, ks[n - m]? = some k0 ∧ find k0 h = some (.box cs) ∧ cs[i]? = some (.vw k t)
  | [], n, m, i, e => by simp [rowIx] at e
  | k1 :: r, n, m, i, e => by
    unfold rowIx at e
    have go : rowIx h k (m + 1) r = some (n, i) → m ≤ n ∧ ∃ k0 cs t, (k1 :: r)[n - m]? = some k0 ∧ find k0 h = some (.box cs) ∧ cs[i]? = some (.vw k t) := fun e => by
      obtain ⟨h1, k0, cs, t, h2, h3⟩ := rowIx_spec e
      refine ⟨by omega, k0, cs, t, ?_, h3⟩
      rw [show n - m = (n - (m + 1)) + 1 by omega, List.getElem?_cons_succ]
      exact h2
    split at e
    · rename_i cs hb
      split at e
      · rename_i j hj
        simp only [Option.some.injEq, Prod.mk.injEq] at e
        obtain ⟨rfl, rfl⟩ := e
        obtain ⟨_, t, hj⟩ := rowPos_spec hj
        exact ⟨Nat.le_refl _, k1, cs, t, by simp, hb, by simpa using hj⟩
      · exact go e
    · exact go e
end
end
end Go.AM
