/- Soundness, operation by operation (2): values that are built; new memory. -/
import Derived.Test.YtpdifkaeiecdpaaAmMF
import Derived.Great.BuildSlice
namespace Go.AM
open Go.RowKit
section
variable [Reg]

theorem among_val {i : Int} {f : Nat → Q AV} {v : AV} : ∀ {n : Nat}, (among i f n).val = some v → ∃ j, j < n ∧ i = j ∧ (f j).val = some v
  | 0, h => by cases h
  | n + 1, h => by
    rcases Q.val_br h with ⟨h1, h2⟩ | ⟨_, h2⟩
    · exact ⟨n, by omega, by simpa using h1, h2⟩
    · obtain ⟨j, h3, h4⟩ := among_val h2
      exact ⟨j, by omega, h4⟩

omit [Reg] in
theorem fold_set (cells : List Value) : ∀ (k off : Nat) (C : Array Value), off + k + cells.length ≤ C.size →
    ((cells.zipIdx k).foldl (fun cs (x : Value × Nat) => cs.setIfInBounds (off + x.2) x.1) C).size = C.size ∧
    ∀ j, ((cells.zipIdx k).foldl (fun cs (x : Value × Nat) => cs.setIfInBounds (off + x.2) x.1) C)[j]? = if off + k ≤ j ∧ j < off + k + cells.length then cells[j - (off + k)]? else C[j]? := by
  induction cells with
  | nil =>
    intro k off C h
    refine ⟨rfl, fun j => ?_⟩
    have : ¬ (off + k ≤ j ∧ j < off + k + ([] : List Value).length) := by simp
    rw [if_neg this]
    rfl
  | cons v r ih =>
    intro k off C h
    simp only [List.length_cons] at h
    obtain ⟨h1, h2⟩ := ih (k + 1) off (C.setIfInBounds (off + k) v) (by simp; omega)
    simp only [List.zipIdx_cons, List.foldl_cons]
    refine ⟨by rw [h1]; simp, fun j => ?_⟩
    rw [h2 j]
    by_cases e : j = off + k
    · subst e
      have e1 : ¬ (off + (k + 1) ≤ off + k ∧ off + k < off + (k + 1) + r.length) := by omega
      have e2 : off + k ≤ off + k ∧ off + k < off + k + (v :: r).length := by simp
      have e3 : off + k < C.size := by omega
      rw [if_neg e1, if_pos e2]
      simp [e3]
    · by_cases e4 : off + (k + 1) ≤ j ∧ j < off + (k + 1) + r.length
      · have e5 : off + k ≤ j ∧ j < off + k + (v :: r).length := by simp; omega
        rw [if_pos e4, if_pos e5]
        have : j - (off + k) = (j - (off + (k + 1))) + 1 := by omega
        rw [this, List.getElem?_cons_succ]
      · have e5 : ¬ (off + k ≤ j ∧ j < off + k + (v :: r).length) := by simp; omega
        rw [if_neg e4, if_neg e5, Array.getElem?_setIfInBounds_ne (by omega)]
omit [Reg] in
theorem array_fold_set (v : Array Value) (off : Nat) (C : Array Value) (h : off + v.size ≤ C.size) :
    (v.zipIdx.foldl (fun cs (x : Value × Nat) => cs.setIfInBounds (off + x.2) x.1) C).size = C.size ∧
    ∀ j, (v.zipIdx.foldl (fun cs (x : Value × Nat) => cs.setIfInBounds (off + x.2) x.1) C)[j]? = if off ≤ j ∧ j < off + v.size then v[j - off]? else C[j]? := by
  have e : v.zipIdx.foldl (fun cs (x : Value × Nat) => cs.setIfInBounds (off + x.2) x.1) C = (v.toList.zipIdx 0).foldl (fun cs (x : Value × Nat) => cs.setIfInBounds (off + x.2) x.1) C := by
    rw [← Array.foldl_toList, Array.toList_zipIdx]
  rw [e]
  obtain ⟨h1, h2⟩ := fold_set v.toList 0 off C (by simpa using h)
  refine ⟨h1, fun j => ?_⟩
  rw [h2 j]
  simp

theorem setCells_len : ∀ (l : List AV) (cs : List AV) (off : Nat), (setCells cs off l).length = cs.length
  | [], cs, off => rfl
  | v :: r, cs, off => by rw [setCells, setCells_len r]; simp
theorem setCells_get : ∀ (l : List AV) (cs : List AV) (off j : Nat), off + l.length ≤ cs.length → (setCells cs off l)[j]? = if off ≤ j ∧ j < off + l.length then l[j - off]? else cs[j]?
  | [], cs, off, j, h => by
    have : ¬ (off ≤ j ∧ j < off + ([] : List AV).length) := by simp
    rw [if_neg this]
    rfl
  | v :: r, cs, off, j, h => by
    simp only [List.length_cons] at h
    rw [setCells, setCells_get r _ _ _ (by simp; omega)]
    by_cases e : j = off
    · subst e
      have e1 : ¬ (j + 1 ≤ j ∧ j < j + 1 + r.length) := by omega
      have e2 : j ≤ j ∧ j < j + (v :: r).length := by simp
      rw [if_neg e1, if_pos e2]
      simp [show j < cs.length by omega]
    · by_cases e4 : off + 1 ≤ j ∧ j < off + 1 + r.length
      · have e5 : off ≤ j ∧ j < off + (v :: r).length := by simp; omega
        rw [if_pos e4, if_pos e5]
        have : j - off = (j - (off + 1)) + 1 := by omega
        rw [this, List.getElem?_cons_succ]
      · have e5 : ¬ (off ≤ j ∧ j < off + (v :: r).length) := by simp; omega
        rw [if_neg e4, if_neg e5, List.getElem?_set_ne (by omega)]

/-- Cell by cell. -/
def RepL (γ : Gh) (h : Heap) (u : List Nat) (w : World) (D : Dead) (cs : List AV) (vs : Array Value) : Prop :=
  vs.size = cs.length ∧ ∀ (i : Nat) (c : AV) (v : Value), cs[i]? = some c → vs[i]? = some v → RepC γ h u w D c v ∧ Cell c

section
variable {P : Program} {c : Ctx} {γ : Gh} {D D' : Dead} {st : St} {a : Act} {w w' : World} {tb : Tb} {h : Heap} {u : List Nat}

omit [Reg] in
theorem one_cells {v : Value} (h : v.oneCell' = true) : v.cells = #[v] := by cases v <;> first | rfl | simp [Value.oneCell'] at h
/-- The cells of a value. -/
theorem RepV.cells {v : AV} {cv : Value} (h1 : RepV γ h u w D v cv) (h2 : one1 v.cells = true) : RepL γ h u w D v.cells cv.cells := by
  have gen : v.cell1 = true → v.cells = [v] → RepL γ h u w D v.cells cv.cells := by
    intro hc e
    have hC := h1.toC (.inr hc)
    rw [e, one_cells (hC.one hc)]
    refine ⟨rfl, fun i c x hi hj => ?_⟩
    cases i with
    | zero => simp at hi hj; subst hi; subst hj; exact ⟨hC, .inr hc⟩
    | succ i => simp at hi
  cases v with
  | agg cs => obtain ⟨vs, rfl, hn, hh⟩ := h1; exact ⟨hn, hh⟩
  | _ => exact gen (by simpa [AV.cells, one1] using h2) rfl
theorem RepL.one {cs : List AV} {vs : Array Value} (h1 : RepL γ h u w D cs vs) (h2 : one1 cs = true) : ∀ v ∈ vs, v.oneCell' = true := by
  intro v hv
  obtain ⟨i, hi, e⟩ := Array.getElem_of_mem hv
  have hlt : i < cs.length := by rw [← h1.1]; exact hi
  exact (h1.2 i cs[i] v (List.getElem?_eq_getElem hlt) (by rw [Array.getElem?_eq_getElem hi, e])).1.one (List.all_eq_true.1 h2 _ (List.getElem_mem hlt))

theorem RepL.set {cs : List AV} {vs : Array Value} (h1 : RepL γ h u w D cs vs) {l : List AV} {us : Array Value} (h2 : RepL γ h u w D l us) {off : Nat} (hle : off + l.length ≤ cs.length) :
    RepL γ h u w D (setCells cs off l) (us.zipIdx.foldl (fun x (y : Value × Nat) => x.setIfInBounds (off + y.2) y.1) vs) := by
  obtain ⟨e1, e2⟩ := array_fold_set us off vs (by rw [h1.1, h2.1]; exact hle)
  refine ⟨by rw [e1, setCells_len, h1.1], fun i c v hi hj => ?_⟩
  rw [setCells_get _ _ _ _ hle] at hi
  rw [e2, h2.1] at hj
  split at hi
  · rename_i hc
    rw [if_pos hc] at hj
    exact h2.2 _ _ _ hi hj
  · rename_i hc
    rw [if_neg hc] at hj
    exact h1.2 _ _ _ hi hj

theorem fillParts_sound (h : Inv c γ D st a w) {fs : List (Nat × Nat)} {place : Nat → Option (Nat × Nat)} (hp : ∀ (i off t : Nat) (ti : TI), fs[i]? = some (off, t) → find t tb = some ti → place i = some (off, ti.sz)) : ∀ (ps : List (Nat × Operand)) (cs : List AV) (vs : Array Value) (r : List AV), RepL γ st.h st.u w D cs vs → fillParts tb fs st.ev cs ps = some r →
    ∃ us, Instr.fill place vs (ps.map fun p => (p.1, a.eval p.2)) = some us ∧ RepL γ st.h st.u w D r us
  | [], cs, vs, r, hR, hf => by
    simp only [fillParts, Option.some.injEq] at hf
    subst hf
    exact ⟨vs, rfl, hR⟩
  | (i, x) :: ps, cs, vs, r, hR, hf => by
    simp only [fillParts] at hf
    split at hf
    · simp at hf
    rename_i off t hi
    split at hf
    · rename_i ti hti
      cases hc : (Nat.beq (st.ev x).cells.length ti.sz && Nat.ble (off + ti.sz) cs.length) && one1 (st.ev x).cells with
      | false => rw [hc] at hf; simp at hf
      | true =>
        rw [hc] at hf
        simp only [cond_true] at hf
        simp only [Bool.and_eq_true, Nat.beq_eq, Nat.ble_eq] at hc
        obtain ⟨⟨c1, c2⟩, c3⟩ := hc
        have hcl := (h.ev x).cells c3
        obtain ⟨us, h1, h2⟩ := fillParts_sound h hp ps _ _ _ (hR.set hcl (off := off) (by rw [c1]; exact c2)) hf
        refine ⟨us, ?_, h2⟩
        simp only [List.map_cons, Instr.fill]
        have e1 : ¬ ((a.eval x).cells.size ≠ ti.sz ∨ off + (a.eval x).cells.size > vs.size) := by
          rw [hcl.1, c1, hR.1]; omega
        rw [hp i off t ti hi hti]
        simp only [Bool.or_eq_true, decide_eq_true_eq]
        rw [if_neg e1]
        exact h1
    · simp at hf

omit [Reg] in
theorem mapM_places : ∀ fs : List Field, (∀ f ∈ fs, P.cellsOf f.type ≠ 0) → fs.mapM (fun f => (P.info? f.type).map fun i => (f.offset, i.size)) = some (fs.map fun f => (f.offset, P.cellsOf f.type))
  | [], _ => rfl
  | f :: fs, h => by
    have h1 := h f (by simp)
    cases hi : P.info? f.type with
    | none => simp [Program.cellsOf, hi] at h1
    | some i =>
      have ih := mapM_places fs (fun g hg => h g (by simp [hg]))
      simp [List.mapM_cons, hi, ih, Program.cellsOf]

theorem ty_zeroL {t : Nat} {ti : TI} (ht : tyOf P t = some ti) (h1 : one1 ti.z.cells = true) : ∃ i zv, P.info? t = some i ∧ i.zero = some zv ∧ i.size = ti.sz ∧ i.bytes = ti.bytes ∧ ∀ γ h u w D, RepL γ h u w D ti.z.cells zv.cells ∧ RepV γ h u w D ti.z zv := by
  obtain ⟨it, d, hit, _, _, hs, hb, hz1, hz2⟩ := tyOf.parts ht
  obtain ⟨zv, hzv⟩ : ∃ zv, it.zero = some zv := by
    cases hh : it.zero with
    | none => rw [hz2 hh] at h1; simp [one1, AV.cells, AV.cell1] at h1
    | some zv => exact ⟨zv, rfl⟩
  refine ⟨it, zv, hit, hzv, hs, hb, fun γ h u w D => ?_⟩
  have : RepV γ h u w D ti.z zv := by rw [← hz1 zv hzv]; exact RepV.ofVal zv
  exact ⟨this.cells h1, this⟩

theorem sound_build (hT : TbOk P tb) {o : Oper} (h : Inv c γ D st a w) {t : Nat} {ps : Array (Nat × Operand)} (ho : o.op = .build t ps) {ti : TI} (hti : find t tb = some ti) {z cs : List AV} (hz : ti.z = .agg z) (h1 : one1 z = true)
    (hf : (∃ fs, ti.k = .struct fs ∧ fillParts tb fs st.ev z ps.toList = some cs) ∨ ∃ n e te, ti.k = .arr n e ∧ find e tb = some te ∧ fillParts tb ((List.range n).map fun i => (i * te.sz, e)) st.ev z ps.toList = some cs) : Gives P c o a w (st.put o.dst (.agg cs)) := by
  obtain ⟨it, zv, hit, hzv, hs, _, hzR⟩ := ty_zeroL (hT _ _ hti) (by rw [hz]; exact h1)
  obtain ⟨hzz, _⟩ := hzR γ st.h st.u w D
  rw [hz] at hzz
  suffices hsuf : ∃ us, P.built t (ps.map fun (i, x) => (i, a.eval x)).toList = some us ∧ RepL γ st.h st.u w D cs us by
    obtain ⟨us, hb, hR⟩ := hsuf
    exact gives_put h (cv := .agg us) ⟨us, rfl, hR.1, hR.2⟩ (by simp [execOp, ho, run_build w t _ us hb])
  rcases hf with ⟨fs, hk, hf⟩ | ⟨n, e, te, hk, hte, hf⟩
  · obtain ⟨arr, hu, hfs, hsz⟩ := ty_struct (hT _ _ hti) hk
    obtain ⟨us, hfill, hR⟩ := fillParts_sound h (place := fun i => (arr.toList.map fun f => (f.offset, P.cellsOf f.type)).toArray[i]?) (by
      intro i off t ti hi hti'
      rw [hfs, List.getElem?_map, Option.map_eq_some_iff] at hi
      obtain ⟨fl, hfl, e⟩ := hi
      simp only [Prod.mk.injEq] at e
      simp only [List.getElem?_toArray]
      rw [List.getElem?_map, hfl]
      simp [← e.1, e.2, ty_cells (hT _ _ hti')]) ps.toList z zv.cells cs hzz hf
    refine ⟨us, ?_, hR⟩
    unfold Program.built
    simp only [hit, hu, hzv, mapM_places arr.toList (fun f hf => hsz f (by simpa using hf))]
    rw [← hfill]
    simp
  · have hu := ty_arr (hT _ _ hti) hk
    obtain ⟨ie, de, hie, _, _, hse, _⟩ := tyOf.parts (hT _ _ hte)
    obtain ⟨us, hfill, hR⟩ := fillParts_sound h (place := fun i => some (i * ie.size, ie.size)) (by
      intro i off t ti hi hti'
      rw [List.getElem?_map, Option.map_eq_some_iff] at hi
      obtain ⟨m, hm, e'⟩ := hi
      simp only [Prod.mk.injEq] at e'
      obtain ⟨rfl, rfl⟩ := e'
      rw [hte] at hti'
      simp only [Option.some.injEq] at hti'
      subst hti'
      have : m = i := by
        rw [List.getElem?_range] at hm
        · simpa using hm.symm
        · have := (List.getElem?_eq_some_iff.1 hm).1
          simpa using this
      rw [this, hse]) ps.toList z zv.cells cs hzz hf
    refine ⟨us, ?_, hR⟩
    unfold Program.built
    simp only [hit, hu, hzv, hie]
    rw [← hfill]
    simp


/-- The same, in a world in which what is the call's own is as it was. -/
theorem Same.world {k : Nat} (_hp : Pres D w w') (_hd : ∀ b o, D b o → D' b o) (hb : ∀ b k, γ.own b = some k → w'.heap[b]? = w.heap[b]? ∧ ∀ o, D' b o → D b o) : Same γ γ h h w w' D D' k := by
  have hB : ∀ b n, γ.own b = some k → Blk w b n → Blk w' b n := fun b n ho ⟨vs, E, h1, h2⟩ => ⟨vs, E, (hb b k ho).1.trans h1, h2⟩
  exact ⟨fun cs h1 => ⟨⟨cs, h1⟩, rfl⟩, fun t xs h1 => ⟨⟨xs, h1, rfl⟩, rfl, fun ho => ⟨ho, fun n => hB _ n ho⟩⟩, fun t xs h1 => .inl h1, fun h1 => ⟨h1, rfl, fun ho => ⟨ho, fun n ⟨vs, E, fr, q1, q2⟩ => ⟨vs, E, fr, (hb _ _ ho).1.trans q1, q2⟩, (hb _ _ ho).2⟩⟩⟩
theorem HOk.world (hh : HOk γ h u w D) (hp : Pres D w w') (hs : w.heap.size ≤ w'.heap.size) (hd : ∀ b o, D b o → D' b o) (hb : ∀ b k, γ.own b = some k → w'.heap[b]? = w.heap[b]? ∧ ∀ o, D' b o → D b o) : HOk γ h u w' D' := by
  refine ⟨fun k cs hk => ?_, fun k t xs hk => ?_, fun b k ho => ⟨Nat.lt_of_lt_of_le (hh.own b k ho).1 hs, (hh.own b k ho).2⟩, fun b k ho hk o hD => hh.lv b k ho hk o ((hb b k ho).2 o hD), hh.u⟩
  · obtain ⟨q1, vs, E, q2, q3, q4⟩ := hh.box k cs hk
    exact ⟨q1, vs, E, (hb _ _ q1).1.trans q2, q3, fun i c v hi hj => ⟨(q4 i c v hi hj).1.mono hp hd (fun _ h => h) (fun k _ => Same.world hp hd hb), (q4 i c v hi hj).2⟩⟩
  · refine (hh.row k t xs hk).imp id ?_
    rintro ⟨q1, vs, E, q2, q3, q4⟩
    exact ⟨q1, vs, E, (hb _ _ q1).1.trans q2, q3, fun q c v hi hj => (q4 q c v hi hj).mono hp hd⟩

theorem Inv.pres (h : Inv c γ D st a w) (hb : Below w.heap.size w w') : Pres D w w' := fun b o hd => by
  simp [World.cell?, hb.block b (h.dl b o hd)]
omit [Reg] in
theorem Blk.below {b n : Nat} (hb : Below w.heap.size w w') (h1 : Blk w b n) : Blk w' b n := by
  obtain ⟨vs, E, h2, h3⟩ := h1
  have hlt : b < w.heap.size := by
    rcases Nat.lt_or_ge b w.heap.size with q | q
    · exact q
    · rw [Array.getElem?_eq_none_iff.2 q] at h2; simp at h2
  exact ⟨vs, E, (hb.block b hlt).trans h2, h3⟩
/-- The world grows: what was there is there. -/
theorem Inv.grow (h : Inv c γ D st a w) (hb : Below w.heap.size w w') (h1 : ∀ b o, D b o → D' b o) (h2 : ∀ b o, b < w.heap.size → D' b o → D b o) (h3 : ∀ b o, D' b o → b < w'.heap.size) : Inv c γ D' st a w' := by
  have hp := h.pres hb
  have hB : ∀ b k, γ.own b = some k → w'.heap[b]? = w.heap[b]? ∧ ∀ o, D' b o → D b o := fun b k ho => ⟨hb.block b (h.hp.own b k ho).1, fun o => h2 b o (h.hp.own b k ho).1⟩
  refine ⟨h.nt, h.dfr, fun t => (h.tm t).mono hp h1 (fun _ h => h) (fun k _ => Same.world hp h1 hB), h.hp.world hp hb.size h1 hB, hb.os.trans h.os, hb.tape.trans h.tape, hb.output.trans h.output, Nat.le_trans h.size hb.size,
    fun b hlt hn => (hb.block b (Nat.lt_of_lt_of_le hlt h.size)).trans (h.block b hlt hn), fun b n hbl => (h.lg b n hbl).below hb, h.ow, ⟨fun b o hd => h1 b o (h.dd.1 b o hd), fun b o hlt hn hd => h.dd.2 b o hlt hn (h2 b o (Nat.lt_of_lt_of_le hlt h.size) hd)⟩, h3, h.ob, h.or, fun k hk t xs hf => (h.ofz k hk t xs hf).imp id ?_, h.ot⟩
  rintro ⟨q1, q2⟩
  refine ⟨q1, q2.imp id ?_⟩
  rintro ⟨f, q3⟩
  exact ⟨f, fun q c' hq => ⟨h1 _ _ (q3 q c' hq).1, (hp _ _ (q3 q c' hq).1).trans (q3 q c' hq).2.1, (q3 q c' hq).2.2.mono hp h1⟩⟩

/-- What is dead behind a new block of finished cells. -/
def deadNew (D : Dead) (b n : Nat) : Dead := fun b' o => D b' o ∨ (b' = b ∧ o < n)
omit [Reg] in
theorem below_alloc (w : World) (o : Go.Obj) : Below w.heap.size w (w.alloc o) := (Below.refl _ _).alloc (Nat.le_refl _) o
theorem Inv.newDead (h : Inv c γ D st a w) (vs : Array Value) (E : Nat) : Inv c γ (deadNew D w.heap.size vs.size) st a (w.alloc (.cells vs E)) := by
  refine h.grow (below_alloc w _) (fun b o hd => .inl hd) (fun b o hlt hd => hd.resolve_right (fun hh => by omega)) (fun b o hd => ?_)
  rw [World.size_alloc]
  rcases hd with hd | ⟨rfl, _⟩
  · have := h.dl b o hd; omega
  · omega

theorem dnRow_rep {t : Nat} : ∀ {n : Nat} {cs : List AV} {l : List (R t)}, dnRow t n cs = some l → l.length = n ∧ ∀ (q : Nat) (d : AV), (flat t l)[q]? = some d → ∃ c, cs[q]? = some c ∧ c.cell1 = true ∧ ∀ γ h u w D v, RepC γ h u w D c v → RepD w D d v
  | 0, cs, l, hl => by
    simp only [dnRow, Option.some.injEq] at hl
    subst hl
    exact ⟨rfl, by simp [flat]⟩
  | n + 1, cs, l, hl => by
    unfold dnRow at hl
    split at hl
    · rename_i x r hx hr
      simp only [Option.some.injEq] at hl
      subst hl
      obtain ⟨h1, h2⟩ := dnRow_rep hr
      refine ⟨by simp [h1], fun q d hq => ?_⟩
      have hlen : (cs.take (szR t)).length = szR t := (dnc_rep (γ := ⟨fun _ => (0, 0), fun _ => none⟩) (h := []) (u := []) (w := default) (D := fun _ _ => False) hx).1
      rw [flat_cons] at hq
      by_cases hlt : q < szR t
      · rw [List.getElem?_append_left (by rw [cel_len]; exact hlt)] at hq
        have hqc : q < (cs.take (szR t)).length := by omega
        refine ⟨(cs.take (szR t))[q], ?_, ?_⟩
        · rw [← List.getElem?_eq_getElem hqc, List.getElem?_take, if_pos hlt]
        · exact ⟨((dnc_rep (γ := ⟨fun _ => (0, 0), fun _ => none⟩) (h := []) (u := []) (w := default) (D := fun _ _ => False) hx).2 q _ d (List.getElem?_eq_getElem hqc) hq).1, fun γ h u w D => ((dnc_rep hx).2 q _ d (List.getElem?_eq_getElem hqc) hq).2⟩
      · rw [List.getElem?_append_right (by rw [cel_len]; omega), cel_len] at hq
        obtain ⟨c', e1, e2⟩ := h2 _ _ hq
        rw [List.getElem?_drop] at e1
        rw [show szR t + (q - szR t) = q by omega] at e1
        exact ⟨c', e1, e2⟩
    · simp at hl
theorem repC_len (cs : List AV) : ∀ n, (repC cs n).length = n * cs.length
  | 0 => by simp [repC]
  | n + 1 => by rw [repC, List.length_append, repC_len cs n, Nat.add_mul]; omega
theorem repC_get (cs : List AV) : ∀ (n i : Nat) (c : AV), (repC cs n)[i]? = some c → cs[i % cs.length]? = some c
  | 0, i, c, h => by simp [repC] at h
  | n + 1, i, c, h => by
    rw [repC, List.getElem?_append] at h
    split at h
    · rename_i hlt; rw [Nat.mod_eq_of_lt hlt]; exact h
    · rename_i hlt
      have := repC_get cs n _ c h
      have hp : 0 < cs.length := by
        rcases Nat.eq_zero_or_pos cs.length with e | e
        · have : cs = [] := List.eq_nil_of_length_eq_zero e
          subst this
          have h2 : ∀ n, repC [] n = [] := by intro n; induction n with | zero => rfl | succ n ih => simp [repC, ih]
          rw [h2] at h
          simp at h
        · exact e
      rw [← this, Nat.mod_eq_sub_mod (by omega)]
theorem zeroRow {cs : List AV} {vs : Array Value} (hz : RepL γ h u w D cs vs) (n : Nat) : RepL γ h u w D (repC cs n) ((Array.range (n * cs.length)).map (vs[· % vs.size]!)) := by
  refine ⟨by simp [repC_len], fun i c v hi hj => ?_⟩
  have h1 := repC_get cs n i c hi
  have hlt : i < n * cs.length := by rw [← repC_len]; exact (List.getElem?_eq_some_iff.1 hi).1
  have h2 : i % cs.length < cs.length := (List.getElem?_eq_some_iff.1 h1).1
  have hjz : i % vs.size < vs.size := by rw [hz.1]; exact h2
  have hv' : v = vs[i % vs.size]! := by
    simp [hlt] at hj
    exact hj.symm
  rw [getElem!_pos vs _ hjz] at hv'
  subst hv'
  exact hz.2 (i % vs.size) c _ (by rw [hz.1]; exact h1) (Array.getElem?_eq_getElem hjz)

/-- A new block of finished cells, as a slice. -/
theorem newSl (h : Inv c γ D st a w) {t : Nat} {xs : List (R t)} {vs : Array Value} (E : Nat) (hn : vs.size = (flat t xs).length) (hr : ∀ (q : Nat) (d : AV) (v : Value), (flat t xs)[q]? = some d → vs[q]? = some v → RepD w D d v) :
    RepD (w.alloc (.cells vs E)) (deadNew D w.heap.size vs.size) (.sl t true xs) (.slice (some ⟨w.heap.size, 0, none⟩) xs.length xs.length) := by
  refine .sl t true xs w.heap.size 0 xs.length (fun q => vs.getD q Go.undef) (Nat.le_refl _) (fun _ => rfl) (fun q d hq => ?_) (fun q d hq => ?_)
  · have hlt : q < vs.size := by rw [hn]; exact (List.getElem?_eq_some_iff.1 hq).1
    refine ⟨.inr ⟨rfl, by omega⟩, ?_⟩
    rw [Nat.zero_add, World.cell?_alloc_new]
    simp [hlt]
  · have hlt : q < vs.size := by rw [hn]; exact (List.getElem?_eq_some_iff.1 hq).1
    have e1 : vs.getD q Go.undef = vs[q] := by simp [hlt]
    rw [e1]
    exact (hr q d vs[q] hq (Array.getElem?_eq_getElem hlt)).mono (h.pres (below_alloc w _)) (fun b o hd => .inl hd)
theorem gives_alloc {o : Oper} {v : AV} {cv : Value} {vs : Array Value} {E : Nat} (h : Inv c γ D st a w) (hv : RepD (w.alloc (.cells vs E)) (deadNew D w.heap.size vs.size) v cv) (hr : (execOp a.eval o).run P w = .ok (.value cv) (w.alloc (.cells vs E))) : Gives P c o a w (st.put o.dst v) :=
  ⟨cv, _, .inl hr, γ, _, (h.newDead vs E).put (.of hv) o.dst⟩

theorem sound_buildSlice (hT : TbOk P tb) {o : Oper} (h : Inv c γ D st a w) {t n : Nat} {ps : Array (Nat × Operand)} (ho : o.op = .buildSlice t n ps) {ti te : TI} (hti : find t tb = some ti) {e : Nat} (hk : ti.k = .sl e) (hte : find e tb = some te)
    (hsm : n * te.sz ≤ 16777216) (hsz : 0 < te.sz) (hzl : te.z.cells.length = te.sz) (hz : one1 te.z.cells = true) (hR : te.sz = szR e) {cs : List AV} (hf : fillParts tb ((List.range n).map fun i => (i * te.sz, e)) st.ev (repC te.z.cells n) ps.toList = some cs) {l : List (R e)} (hl : dnRow e n cs = some l) (hn : n ≠ 0) : Gives P c o a w (st.put o.dst (.sl e true l)) := by
  have hu := ty_sl (hT _ _ hti) hk
  obtain ⟨ie, zv, hie, hzv, hs, _, hzr⟩ := ty_zeroL (hT _ _ hte) hz
  have hzc := (hzr γ st.h st.u w D).1
  obtain ⟨us, h1, h2⟩ := fillParts_sound (tb := tb) h (place := fun i => some (i * te.sz, te.sz)) (by
    intro i off t ti hi hti'
    rw [List.getElem?_map, Option.map_eq_some_iff] at hi
    obtain ⟨m, hm, e'⟩ := hi
    simp only [Prod.mk.injEq] at e'
    obtain ⟨rfl, rfl⟩ := e'
    rw [hte] at hti'
    simp only [Option.some.injEq] at hti'
    subst hti'
    have : m = i := by
      rw [List.getElem?_range] at hm
      · simpa using hm.symm
      · have := (List.getElem?_eq_some_iff.1 hm).1
        simpa using this
    rw [this]) ps.toList _ _ cs (zeroRow hzc n) hf
  obtain ⟨hlen, hrep⟩ := dnRow_rep hl
  have hcl : ∀ (ps : List (Nat × Operand)) (c0 c1 : List AV), fillParts tb ((List.range n).map fun i => (i * te.sz, e)) st.ev c0 ps = some c1 → c1.length = c0.length := by
    intro ps
    induction ps with
    | nil => intro c0 c1 hc; simp only [fillParts, Option.some.injEq] at hc; rw [hc]
    | cons p r ih =>
      intro c0 c1 hc
      obtain ⟨i, x⟩ := p
      simp only [fillParts] at hc
      split at hc
      · simp at hc
      · split at hc
        · generalize hb : ((Nat.beq (st.ev x).cells.length _ && _) && _) = b at hc
          cases b
          · simp at hc
          · rw [ih _ _ hc, setCells_len]
        · simp at hc
  have hpos : ¬ n * ie.size = 0 := by rw [hs]; exact Nat.mul_ne_zero hn (by omega)
  have hfl : us.size = (flat e l).length := by rw [h2.1, hcl _ _ _ hf, repC_len, hzl, flat_len, hlen, hR]
  refine gives_alloc h (newSl h e hfl (fun q d v hq hv => ?_)) ?_
  · obtain ⟨c', e1, _, e2⟩ := hrep q d hq
    exact e2 _ _ _ _ _ _ (h2.2 q c' v e1 hv).1
  · rw [hlen]
    have := run_buildSlice (P := P) w t e n (ps.map fun (i, x) => (i, a.eval x)) us ie zv hu hie hzv (by rw [hs]; omega) hpos (by rw [hs, ← h1]; simp [hzl])
    simp [execOp, ho, this]

end
end
end Go.AM
