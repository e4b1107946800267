/- A part of the proof: machine and program. -/
import Derived.Test.YtpdifkaeiecdpaaAm03
import Derived.Great.BuildSlice
import Derived.Lib.ConvBytes
import Derived.Laws.BytesArg
namespace Go.AM
open Go.RowKit
section
variable [Reg]

theorem among_val {i : Int} {f : Nat → Q AV} {v : AV} : ∀ {n : Nat}, (among i f n).val = some v → ∃ j, j < n ∧ i = j ∧ (f j).val = some v
  | 0, h => by cases h
  | n + 1, h => by
    rcases Q.val_br h with ⟨h1, h2⟩ | ⟨_, h2⟩
    · exact ⟨n, by omega, by simpa using h1, h2⟩
    · obtain ⟨j, h3, h4⟩ := among_val h2
      exact ⟨j, by omega, h4⟩

omit [Reg] in
theorem fold_set (cells : List Value) : ∀ (k off : Nat) (C : Array Value), off + k + cells.length ≤ C.size →
    ((cells.zipIdx k).foldl (fun cs (x : Value × Nat) => cs.setIfInBounds (off + x.2) x.1) C).size = C.size ∧
    ∀ j, ((cells.zipIdx k).foldl (fun cs (x : Value × Nat) => cs.setIfInBounds (off + x.2) x.1) C)[j]? = if off + k ≤ j ∧ j < off + k + cells.length then cells[j - (off + k)]? else C[j]? := by
  induction cells with
  | nil =>
    intro k off C h
    refine ⟨rfl, fun j => ?_⟩
    have : ¬ (off + k ≤ j ∧ j < off + k + ([] : List Value).length) := by simp
    rw [if_neg this]
    rfl
  | cons v r ih =>
    intro k off C h
    simp only [List.length_cons] at h
    obtain ⟨h1, h2⟩ := ih (k + 1) off (C.setIfInBounds (off + k) v) (by simp; omega)
    simp only [List.zipIdx_cons, List.foldl_cons]
    refine ⟨by rw [h1]; simp, fun j => ?_⟩
    rw [h2 j]
    by_cases e : j = off + k
    · subst e
      have e1 : ¬ (off + (k + 1) ≤ off + k ∧ off + k < off + (k + 1) + r.length) := by omega
      have e2 : off + k ≤ off + k ∧ off + k < off + k + (v :: r).length := by simp
      have e3 : off + k < C.size := by omega
      rw [if_neg e1, if_pos e2]
      simp [e3]
    · by_cases e4 : off + (k + 1) ≤ j ∧ j < off + (k + 1) + r.length
      · have e5 : off + k ≤ j ∧ j < off + k + (v :: r).length := by simp; omega
        rw [if_pos e4, if_pos e5]
        have : j - (off + k) = (j - (off + (k + 1))) + 1 := by omega
        rw [this, List.getElem?_cons_succ]
      · have e5 : ¬ (off + k ≤ j ∧ j < off + k + (v :: r).length) := by simp; omega
        rw [if_neg e4, if_neg e5, Array.getElem?_setIfInBounds_ne (by omega)]
omit [Reg] in
theorem array_fold_set (v : Array Value) (off : Nat) (C : Array Value) (h : off + v.size ≤ C.size) :
    (v.zipIdx.foldl (fun cs (x : Value × Nat) => cs.setIfInBounds (off + x.2) x.1) C).size = C.size ∧
    ∀ j, (v.zipIdx.foldl (fun cs (x : Value × Nat) => cs.setIfInBounds (off + x.2) x.1) C)[j]? = if off ≤ j ∧ j < off + v.size then v[j - off]? else C[j]? := by
  have e : v.zipIdx.foldl (fun cs (x : Value × Nat) => cs.setIfInBounds (off + x.2) x.1) C = (v.toList.zipIdx 0).foldl (fun cs (x : Value × Nat) => cs.setIfInBounds (off + x.2) x.1) C := by
    rw [← Array.foldl_toList, Array.toList_zipIdx]
  rw [e]
  obtain ⟨h1, h2⟩ := fold_set v.toList 0 off C (by simpa using h)
  refine ⟨h1, fun j => ?_⟩
  rw [h2 j]
  simp

theorem setCells_len : ∀ (l : List AV) (cs : List AV) (off : Nat), (setCells cs off l).length = cs.length
  | [], cs, off => rfl
  | v :: r, cs, off => by rw [setCells, setCells_len r]; simp
theorem setCells_get : ∀ (l : List AV) (cs : List AV) (off j : Nat), off + l.length ≤ cs.length → (setCells cs off l)[j]? = if off ≤ j ∧ j < off + l.length then l[j - off]? else cs[j]?
  | [], cs, off, j, h => by
    have : ¬ (off ≤ j ∧ j < off + ([] : List AV).length) := by simp
    rw [if_neg this]
    rfl
  | v :: r, cs, off, j, h => by
    simp only [List.length_cons] at h
    rw [setCells, setCells_get r _ _ _ (by simp; omega)]
    by_cases e : j = off
    · subst e
      have e1 : ¬ (j + 1 ≤ j ∧ j < j + 1 + r.length) := by omega
      have e2 : j ≤ j ∧ j < j + (v :: r).length := by simp
      rw [if_neg e1, if_pos e2]
      simp [show j < cs.length by omega]
    · by_cases e4 : off + 1 ≤ j ∧ j < off + 1 + r.length
      · have e5 : off ≤ j ∧ j < off + (v :: r).length := by simp; omega
        rw [if_pos e4, if_pos e5]
        have : j - off = (j - (off + 1)) + 1 := by omega
        rw [this, List.getElem?_cons_succ]
      · have e5 : ¬ (off ≤ j ∧ j < off + (v :: r).length) := by simp; omega
        rw [if_neg e4, if_neg e5, List.getElem?_set_ne (by omega)]

/-- Cell by cell. -/
def RepL (γ : Gh) (h : Heap) (u : List Nat) (w : World) (D : Dead) (cs : List AV) (vs : Array Value) : Prop :=
  vs.size = cs.length ∧ ∀ (i : Nat) (c : AV) (v : Value), cs[i]? = some c → vs[i]? = some v → RepC γ h u w D c v ∧ Cell c

section
variable {P : Program} {c : Ctx} {γ : Gh} {D D' : Dead} {st : St} {a : Act} {w w' : World} {tb : Tb} {h : Heap} {u : List Nat}

omit [Reg] in
theorem one_cells {v : Value} (h : v.oneCell' = true) : v.cells = #[v] := by cases v <;> first | rfl | simp [Value.oneCell'] at h
/-- The cells of a value. -/
theorem RepV.cells {v : AV} {cv : Value} (h1 : RepV γ h u w D v cv) (h2 : one1 v.cells = true) : RepL γ h u w D v.cells cv.cells := by
  have gen : v.cell1 = true → v.cells = [v] → RepL γ h u w D v.cells cv.cells := by
    intro hc e
    have hC := h1.toC (.inr hc)
    rw [e, one_cells (hC.one hc)]
    refine ⟨rfl, fun i c x hi hj => ?_⟩
    cases i with
    | zero => simp at hi hj; subst hi; subst hj; exact ⟨hC, .inr hc⟩
    | succ i => simp at hi
  cases v with
  | agg cs => obtain ⟨vs, rfl, hn, hh⟩ := h1; exact ⟨hn, hh⟩
  | _ => exact gen (by simpa [AV.cells, one1] using h2) rfl
theorem RepL.one {cs : List AV} {vs : Array Value} (h1 : RepL γ h u w D cs vs) (h2 : one1 cs = true) : ∀ v ∈ vs, v.oneCell' = true := by
  intro v hv
  obtain ⟨i, hi, e⟩ := Array.getElem_of_mem hv
  have hlt : i < cs.length := by rw [← h1.1]; exact hi
  exact (h1.2 i cs[i] v (List.getElem?_eq_getElem hlt) (by rw [Array.getElem?_eq_getElem hi, e])).1.one (List.all_eq_true.1 h2 _ (List.getElem_mem hlt))

theorem RepL.set {cs : List AV} {vs : Array Value} (h1 : RepL γ h u w D cs vs) {l : List AV} {us : Array Value} (h2 : RepL γ h u w D l us) {off : Nat} (hle : off + l.length ≤ cs.length) :
    RepL γ h u w D (setCells cs off l) (us.zipIdx.foldl (fun x (y : Value × Nat) => x.setIfInBounds (off + y.2) y.1) vs) := by
  obtain ⟨e1, e2⟩ := array_fold_set us off vs (by rw [h1.1, h2.1]; exact hle)
  refine ⟨by rw [e1, setCells_len, h1.1], fun i c v hi hj => ?_⟩
  rw [setCells_get _ _ _ _ hle] at hi
  rw [e2, h2.1] at hj
  split at hi
  · rename_i hc
    rw [if_pos hc] at hj
    exact h2.2 _ _ _ hi hj
  · rename_i hc
    rw [if_neg hc] at hj
    exact h1.2 _ _ _ hi hj

theorem fillParts_sound (h : Inv c γ D st a w) {fs : List (Nat × Nat)} {place : Nat → Option (Nat × Nat)} (hp : ∀ (i off t : Nat) (ti : TI), fs[i]? = some (off, t) → find t tb = some ti → place i = some (off, ti.sz)) : ∀ (ps : List (Nat × Operand)) (cs : List AV) (vs : Array Value) (r : List AV), RepL γ st.h st.u w D cs vs → fillParts tb fs st.ev cs ps = some r →
    ∃ us, Instr.fill place vs (ps.map fun p => (p.1, a.eval p.2)) = some us ∧ RepL γ st.h st.u w D r us
  | [], cs, vs, r, hR, hf => by
    simp only [fillParts, Option.some.injEq] at hf
    subst hf
    exact ⟨vs, rfl, hR⟩
  | (i, x) :: ps, cs, vs, r, hR, hf => by
    simp only [fillParts] at hf
    split at hf
    · simp at hf
    rename_i off t hi
    split at hf
    · rename_i ti hti
      cases hc : (Nat.beq (st.ev x).cells.length ti.sz && Nat.ble (off + ti.sz) cs.length) && one1 (st.ev x).cells with
      | false => rw [hc] at hf; simp at hf
      | true =>
        rw [hc] at hf
        simp only [cond_true] at hf
        simp only [Bool.and_eq_true, Nat.beq_eq, Nat.ble_eq] at hc
        obtain ⟨⟨c1, c2⟩, c3⟩ := hc
        have hcl := (h.ev x).cells c3
        obtain ⟨us, h1, h2⟩ := fillParts_sound h hp ps _ _ _ (hR.set hcl (off := off) (by rw [c1]; exact c2)) hf
        refine ⟨us, ?_, h2⟩
        simp only [List.map_cons, Instr.fill]
        have e1 : ¬ ((a.eval x).cells.size ≠ ti.sz ∨ off + (a.eval x).cells.size > vs.size) := by
          rw [hcl.1, c1, hR.1]; omega
        rw [hp i off t ti hi hti]
        simp only [Bool.or_eq_true, decide_eq_true_eq]
        rw [if_neg e1]
        exact h1
    · simp at hf

omit [Reg] in
theorem mapM_places : ∀ fs : List Field, (∀ f ∈ fs, P.cellsOf f.type ≠ 0) → fs.mapM (fun f => (P.info? f.type).map fun i => (f.offset, i.size)) = some (fs.map fun f => (f.offset, P.cellsOf f.type))
  | [], _ => rfl
  | f :: fs, h => by
    have h1 := h f (by simp)
    cases hi : P.info? f.type with
    | none => simp [Program.cellsOf, hi] at h1
    | some i =>
      have ih := mapM_places fs (fun g hg => h g (by simp [hg]))
      simp [List.mapM_cons, hi, ih, Program.cellsOf]

theorem ty_zeroL {t : Nat} {ti : TI} (ht : tyOf P t = some ti) (h1 : one1 ti.z.cells = true) : ∃ i zv, P.info? t = some i ∧ i.zero = some zv ∧ i.size = ti.sz ∧ i.bytes = ti.bytes ∧ ∀ γ h u w D, RepL γ h u w D ti.z.cells zv.cells ∧ RepV γ h u w D ti.z zv := by
  obtain ⟨it, d, hit, _, _, hs, hb, hz1, hz2⟩ := tyOf.parts ht
  obtain ⟨zv, hzv⟩ : ∃ zv, it.zero = some zv := by
    cases hh : it.zero with
    | none => rw [hz2 hh] at h1; simp [one1, AV.cells, AV.cell1] at h1
    | some zv => exact ⟨zv, rfl⟩
  refine ⟨it, zv, hit, hzv, hs, hb, fun γ h u w D => ?_⟩
  have : RepV γ h u w D ti.z zv := by rw [← hz1 zv hzv]; exact RepV.ofVal zv
  exact ⟨this.cells h1, this⟩

theorem sound_build (hT : TbOk P tb) {o : Oper} (h : Inv c γ D st a w) {t : Nat} {ps : Array (Nat × Operand)} (ho : o.op = .build t ps) {ti : TI} (hti : find t tb = some ti) {z cs : List AV} (hz : ti.z = .agg z) (h1 : one1 z = true)
    (hf : (∃ fs, ti.k = .struct fs ∧ fillParts tb fs st.ev z ps.toList = some cs) ∨ ∃ n e te, ti.k = .arr n e ∧ find e tb = some te ∧ fillParts tb ((List.range n).map fun i => (i * te.sz, e)) st.ev z ps.toList = some cs) : Gives P c o a w (st.put o.dst (.agg cs)) := by
  obtain ⟨it, zv, hit, hzv, hs, _, hzR⟩ := ty_zeroL (hT _ _ hti) (by rw [hz]; exact h1)
  obtain ⟨hzz, _⟩ := hzR γ st.h st.u w D
  rw [hz] at hzz
  suffices hsuf : ∃ us, P.built t (ps.map fun (i, x) => (i, a.eval x)).toList = some us ∧ RepL γ st.h st.u w D cs us by
    obtain ⟨us, hb, hR⟩ := hsuf
    exact gives_put h (cv := .agg us) ⟨us, rfl, hR.1, hR.2⟩ (by simp [execOp, ho, run_build w t _ us hb])
  rcases hf with ⟨fs, hk, hf⟩ | ⟨n, e, te, hk, hte, hf⟩
  · obtain ⟨arr, hu, hfs, hsz⟩ := ty_struct (hT _ _ hti) hk
    obtain ⟨us, hfill, hR⟩ := fillParts_sound h (place := fun i => (arr.toList.map fun f => (f.offset, P.cellsOf f.type)).toArray[i]?) (by
      intro i off t ti hi hti'
      rw [hfs, List.getElem?_map, Option.map_eq_some_iff] at hi
      obtain ⟨fl, hfl, e⟩ := hi
      simp only [Prod.mk.injEq] at e
      simp only [List.getElem?_toArray]
      rw [List.getElem?_map, hfl]
      simp [← e.1, e.2, ty_cells (hT _ _ hti')]) ps.toList z zv.cells cs hzz hf
    refine ⟨us, ?_, hR⟩
    unfold Program.built
    simp only [hit, hu, hzv, mapM_places arr.toList (fun f hf => hsz f (by simpa using hf))]
    rw [← hfill]
    simp
  · have hu := ty_arr (hT _ _ hti) hk
    obtain ⟨ie, de, hie, _, _, hse, _⟩ := tyOf.parts (hT _ _ hte)
    obtain ⟨us, hfill, hR⟩ := fillParts_sound h (place := fun i => some (i * ie.size, ie.size)) (by
      intro i off t ti hi hti'
      rw [List.getElem?_map, Option.map_eq_some_iff] at hi
      obtain ⟨m, hm, e'⟩ := hi
      simp only [Prod.mk.injEq] at e'
      obtain ⟨rfl, rfl⟩ := e'
      rw [hte] at hti'
      simp only [Option.some.injEq] at hti'
      subst hti'
      have : m = i := by
        rw [List.getElem?_range] at hm
        · simpa using hm.symm
        · have := (List.getElem?_eq_some_iff.1 hm).1
          simpa using this
      rw [this, hse]) ps.toList z zv.cells cs hzz hf
    refine ⟨us, ?_, hR⟩
    unfold Program.built
    simp only [hit, hu, hzv, hie]
    rw [← hfill]
    simp


/-- The same, in a world in which what is the call's own is as it was. -/
theorem Same.world {k : Nat} (_hp : Pres D w w') (_hd : ∀ b o, D b o → D' b o) (hb : ∀ b k, γ.own b = some k → w'.heap[b]? = w.heap[b]? ∧ ∀ o, D' b o → D b o) : Same γ γ h h w w' D D' k := by
  have hB : ∀ b n, γ.own b = some k → Blk w b n → Blk w' b n := fun b n ho ⟨vs, E, h1, h2⟩ => ⟨vs, E, (hb b k ho).1.trans h1, h2⟩
  exact ⟨fun cs h1 => ⟨⟨cs, h1⟩, rfl⟩, fun t xs h1 => ⟨⟨xs, h1, rfl⟩, rfl, fun ho => ⟨ho, fun n => hB _ n ho⟩⟩, fun t xs h1 => .inl h1, fun h1 => ⟨h1, rfl, fun ho => ⟨ho, fun n ⟨vs, E, fr, q1, q2⟩ => ⟨vs, E, fr, (hb _ _ ho).1.trans q1, q2⟩, (hb _ _ ho).2⟩⟩⟩
theorem HOk.world (hh : HOk γ h u w D) (hp : Pres D w w') (hs : w.heap.size ≤ w'.heap.size) (hd : ∀ b o, D b o → D' b o) (hb : ∀ b k, γ.own b = some k → w'.heap[b]? = w.heap[b]? ∧ ∀ o, D' b o → D b o) : HOk γ h u w' D' := by
  refine ⟨fun k cs hk => ?_, fun k t xs hk => ?_, fun b k ho => ⟨Nat.lt_of_lt_of_le (hh.own b k ho).1 hs, (hh.own b k ho).2⟩, fun b k ho hk o hD => hh.lv b k ho hk o ((hb b k ho).2 o hD), hh.u⟩
  · obtain ⟨q1, vs, E, q2, q3, q4⟩ := hh.box k cs hk
    exact ⟨q1, vs, E, (hb _ _ q1).1.trans q2, q3, fun i c v hi hj => ⟨(q4 i c v hi hj).1.mono hp hd (fun _ h => h) (fun k _ => Same.world hp hd hb), (q4 i c v hi hj).2⟩⟩
  · refine (hh.row k t xs hk).imp id ?_
    rintro ⟨q1, vs, E, q2, q3, q4⟩
    exact ⟨q1, vs, E, (hb _ _ q1).1.trans q2, q3, fun q c v hi hj => (q4 q c v hi hj).mono hp hd⟩

theorem Inv.pres (h : Inv c γ D st a w) (hb : Below w.heap.size w w') : Pres D w w' := fun b o hd => by
  simp [World.cell?, hb.block b (h.dl b o hd)]
omit [Reg] in
theorem Blk.below {b n : Nat} (hb : Below w.heap.size w w') (h1 : Blk w b n) : Blk w' b n := by
  obtain ⟨vs, E, h2, h3⟩ := h1
  have hlt : b < w.heap.size := by
    rcases Nat.lt_or_ge b w.heap.size with q | q
    · exact q
    · rw [Array.getElem?_eq_none_iff.2 q] at h2; simp at h2
  exact ⟨vs, E, (hb.block b hlt).trans h2, h3⟩
/-- The world grows: what was there is there. -/
theorem Inv.grow (h : Inv c γ D st a w) (hb : Below w.heap.size w w') (h1 : ∀ b o, D b o → D' b o) (h2 : ∀ b o, b < w.heap.size → D' b o → D b o) (h3 : ∀ b o, D' b o → b < w'.heap.size) : Inv c γ D' st a w' := by
  have hp := h.pres hb
  have hB : ∀ b k, γ.own b = some k → w'.heap[b]? = w.heap[b]? ∧ ∀ o, D' b o → D b o := fun b k ho => ⟨hb.block b (h.hp.own b k ho).1, fun o => h2 b o (h.hp.own b k ho).1⟩
  refine ⟨h.nt, h.dfr, fun t => (h.tm t).mono hp h1 (fun _ h => h) (fun k _ => Same.world hp h1 hB), h.hp.world hp hb.size h1 hB, hb.os.trans h.os, hb.tape.trans h.tape, hb.output.trans h.output, Nat.le_trans h.size hb.size,
    fun b hlt hn => (hb.block b (Nat.lt_of_lt_of_le hlt h.size)).trans (h.block b hlt hn), fun b n hbl => (h.lg b n hbl).below hb, h.ow, ⟨fun b o hd => h1 b o (h.dd.1 b o hd), fun b o hlt hn hd => h.dd.2 b o hlt hn (h2 b o (Nat.lt_of_lt_of_le hlt h.size) hd)⟩, h3, h.ob, h.or, fun k hk t xs hf => (h.ofz k hk t xs hf).imp id ?_, h.ot⟩
  rintro ⟨q1, q2⟩
  refine ⟨q1, q2.imp id ?_⟩
  rintro ⟨f, q3⟩
  exact ⟨f, fun q c' hq => ⟨h1 _ _ (q3 q c' hq).1, (hp _ _ (q3 q c' hq).1).trans (q3 q c' hq).2.1, (q3 q c' hq).2.2.mono hp h1⟩⟩

/-- What is dead behind a new block of finished cells. -/
def deadNew (D : Dead) (b n : Nat) : Dead := fun b' o => D b' o ∨ (b' = b ∧ o < n)
omit [Reg] in
theorem below_alloc (w : World) (o : Go.Obj) : Below w.heap.size w (w.alloc o) := (Below.refl _ _).alloc (Nat.le_refl _) o
theorem Inv.newDead (h : Inv c γ D st a w) (vs : Array Value) (E : Nat) : Inv c γ (deadNew D w.heap.size vs.size) st a (w.alloc (.cells vs E)) := by
  refine h.grow (below_alloc w _) (fun b o hd => .inl hd) (fun b o hlt hd => hd.resolve_right (fun hh => by omega)) (fun b o hd => ?_)
  rw [World.size_alloc]
  rcases hd with hd | ⟨rfl, _⟩
  · have := h.dl b o hd; omega
  · omega

theorem dnRow_rep {t : Nat} : ∀ {n : Nat} {cs : List AV} {l : List (R t)}, dnRow t n cs = some l → l.length = n ∧ ∀ (q : Nat) (d : AV), (flat t l)[q]? = some d → ∃ c, cs[q]? = some c ∧ c.cell1 = true ∧ ∀ γ h u w D v, RepC γ h u w D c v → RepD w D d v
  | 0, cs, l, hl => by
    simp only [dnRow, Option.some.injEq] at hl
    subst hl
    exact ⟨rfl, by simp [flat]⟩
  | n + 1, cs, l, hl => by
    unfold dnRow at hl
    split at hl
    · rename_i x r hx hr
      simp only [Option.some.injEq] at hl
      subst hl
      obtain ⟨h1, h2⟩ := dnRow_rep hr
      refine ⟨by simp [h1], fun q d hq => ?_⟩
      have hlen : (cs.take (szR t)).length = szR t := (dnc_rep (γ := ⟨fun _ => (0, 0), fun _ => none⟩) (h := []) (u := []) (w := default) (D := fun _ _ => False) hx).1
      rw [flat_cons] at hq
      by_cases hlt : q < szR t
      · rw [List.getElem?_append_left (by rw [cel_len]; exact hlt)] at hq
        have hqc : q < (cs.take (szR t)).length := by omega
        refine ⟨(cs.take (szR t))[q], ?_, ?_⟩
        · rw [← List.getElem?_eq_getElem hqc, List.getElem?_take, if_pos hlt]
        · exact ⟨((dnc_rep (γ := ⟨fun _ => (0, 0), fun _ => none⟩) (h := []) (u := []) (w := default) (D := fun _ _ => False) hx).2 q _ d (List.getElem?_eq_getElem hqc) hq).1, fun γ h u w D => ((dnc_rep hx).2 q _ d (List.getElem?_eq_getElem hqc) hq).2⟩
      · rw [List.getElem?_append_right (by rw [cel_len]; omega), cel_len] at hq
        obtain ⟨c', e1, e2⟩ := h2 _ _ hq
        rw [List.getElem?_drop] at e1
        rw [show szR t + (q - szR t) = q by omega] at e1
        exact ⟨c', e1, e2⟩
    · simp at hl
theorem repC_len (cs : List AV) : ∀ n, (repC cs n).length = n * cs.length
  | 0 => by simp [repC]
  | n + 1 => by rw [repC, List.length_append, repC_len cs n, Nat.add_mul]; omega
theorem repC_get (cs : List AV) : ∀ (n i : Nat) (c : AV), (repC cs n)[i]? = some c → cs[i % cs.length]? = some c
  | 0, i, c, h => by simp [repC] at h
  | n + 1, i, c, h => by
    rw [repC, List.getElem?_append] at h
    split at h
    · rename_i hlt; rw [Nat.mod_eq_of_lt hlt]; exact h
    · rename_i hlt
      have := repC_get cs n _ c h
      have hp : 0 < cs.length := by
        rcases Nat.eq_zero_or_pos cs.length with e | e
        · have : cs = [] := List.eq_nil_of_length_eq_zero e
          subst this
          have h2 : ∀ n, repC [] n = [] := by intro n; induction n with | zero => rfl | succ n ih => simp [repC, ih]
          rw [h2] at h
          simp at h
        · exact e
      rw [← this, Nat.mod_eq_sub_mod (by omega)]
theorem zeroRow {cs : List AV} {vs : Array Value} (hz : RepL γ h u w D cs vs) (n : Nat) : RepL γ h u w D (repC cs n) ((Array.range (n * cs.length)).map (vs[· % vs.size]!)) := by
  refine ⟨by simp [repC_len], fun i c v hi hj => ?_⟩
  have h1 := repC_get cs n i c hi
  have hlt : i < n * cs.length := by rw [← repC_len]; exact (List.getElem?_eq_some_iff.1 hi).1
  have h2 : i % cs.length < cs.length := (List.getElem?_eq_some_iff.1 h1).1
  have hjz : i % vs.size < vs.size := by rw [hz.1]; exact h2
  have hv' : v = vs[i % vs.size]! := by
    simp [hlt] at hj
    exact hj.symm
  rw [getElem!_pos vs _ hjz] at hv'
  subst hv'
  exact hz.2 (i % vs.size) c _ (by rw [hz.1]; exact h1) (Array.getElem?_eq_getElem hjz)

/-- A new block of finished cells, as a slice. -/
theorem newSl (h : Inv c γ D st a w) {t : Nat} {xs : List (R t)} {vs : Array Value} (E : Nat) (hn : vs.size = (flat t xs).length) (hr : ∀ (q : Nat) (d : AV) (v : Value), (flat t xs)[q]? = some d → vs[q]? = some v → RepD w D d v) :
    RepD (w.alloc (.cells vs E)) (deadNew D w.heap.size vs.size) (.sl t true xs) (.slice (some ⟨w.heap.size, 0, none⟩) xs.length xs.length) := by
  refine .sl t true xs w.heap.size 0 xs.length (fun q => vs.getD q Go.undef) (Nat.le_refl _) (fun _ => rfl) (fun q d hq => ?_) (fun q d hq => ?_)
  · have hlt : q < vs.size := by rw [hn]; exact (List.getElem?_eq_some_iff.1 hq).1
    refine ⟨.inr ⟨rfl, by omega⟩, ?_⟩
    rw [Nat.zero_add, World.cell?_alloc_new]
    simp [hlt]
  · have hlt : q < vs.size := by rw [hn]; exact (List.getElem?_eq_some_iff.1 hq).1
    have e1 : vs.getD q Go.undef = vs[q] := by simp [hlt]
    rw [e1]
    exact (hr q d vs[q] hq (Array.getElem?_eq_getElem hlt)).mono (h.pres (below_alloc w _)) (fun b o hd => .inl hd)
theorem gives_alloc {o : Oper} {v : AV} {cv : Value} {vs : Array Value} {E : Nat} (h : Inv c γ D st a w) (hv : RepD (w.alloc (.cells vs E)) (deadNew D w.heap.size vs.size) v cv) (hr : (execOp a.eval o).run P w = .ok (.value cv) (w.alloc (.cells vs E))) : Gives P c o a w (st.put o.dst v) :=
  ⟨cv, _, .inl hr, γ, _, (h.newDead vs E).put (.of hv) o.dst⟩

theorem sound_buildSlice (hT : TbOk P tb) {o : Oper} (h : Inv c γ D st a w) {t n : Nat} {ps : Array (Nat × Operand)} (ho : o.op = .buildSlice t n ps) {ti te : TI} (hti : find t tb = some ti) {e : Nat} (hk : ti.k = .sl e) (hte : find e tb = some te)
    (hsm : n * te.sz ≤ 16777216) (hsz : 0 < te.sz) (hzl : te.z.cells.length = te.sz) (hz : one1 te.z.cells = true) (hR : te.sz = szR e) {cs : List AV} (hf : fillParts tb ((List.range n).map fun i => (i * te.sz, e)) st.ev (repC te.z.cells n) ps.toList = some cs) {l : List (R e)} (hl : dnRow e n cs = some l) (hn : n ≠ 0) : Gives P c o a w (st.put o.dst (.sl e true l)) := by
  have hu := ty_sl (hT _ _ hti) hk
  obtain ⟨ie, zv, hie, hzv, hs, _, hzr⟩ := ty_zeroL (hT _ _ hte) hz
  have hzc := (hzr γ st.h st.u w D).1
  obtain ⟨us, h1, h2⟩ := fillParts_sound (tb := tb) h (place := fun i => some (i * te.sz, te.sz)) (by
    intro i off t ti hi hti'
    rw [List.getElem?_map, Option.map_eq_some_iff] at hi
    obtain ⟨m, hm, e'⟩ := hi
    simp only [Prod.mk.injEq] at e'
    obtain ⟨rfl, rfl⟩ := e'
    rw [hte] at hti'
    simp only [Option.some.injEq] at hti'
    subst hti'
    have : m = i := by
      rw [List.getElem?_range] at hm
      · simpa using hm.symm
      · have := (List.getElem?_eq_some_iff.1 hm).1
        simpa using this
    rw [this]) ps.toList _ _ cs (zeroRow hzc n) hf
  obtain ⟨hlen, hrep⟩ := dnRow_rep hl
  have hcl : ∀ (ps : List (Nat × Operand)) (c0 c1 : List AV), fillParts tb ((List.range n).map fun i => (i * te.sz, e)) st.ev c0 ps = some c1 → c1.length = c0.length := by
    intro ps
    induction ps with
    | nil => intro c0 c1 hc; simp only [fillParts, Option.some.injEq] at hc; rw [hc]
    | cons p r ih =>
      intro c0 c1 hc
      obtain ⟨i, x⟩ := p
      simp only [fillParts] at hc
      split at hc
      · simp at hc
      · split at hc
        · generalize hb : ((Nat.beq (st.ev x).cells.length _ && _) && _) = b at hc
          cases b
          · simp at hc
          · rw [ih _ _ hc, setCells_len]
        · simp at hc
  have hpos : ¬ n * ie.size = 0 := by rw [hs]; exact Nat.mul_ne_zero hn (by omega)
  have hfl : us.size = (flat e l).length := by rw [h2.1, hcl _ _ _ hf, repC_len, hzl, flat_len, hlen, hR]
  refine gives_alloc h (newSl h e hfl (fun q d v hq hv => ?_)) ?_
  · obtain ⟨c', e1, _, e2⟩ := hrep q d hq
    exact e2 _ _ _ _ _ _ (h2.2 q c' v e1 hv).1
  · rw [hlen]
    have := run_buildSlice (P := P) w t e n (ps.map fun (i, x) => (i, a.eval x)) us ie zv hu hie hzv (by rw [hs]; omega) hpos (by rw [hs, ← h1]; simp [hzl])
    simp [execOp, ho, this]

end
end
end Go.AM
namespace Go.AM
open Go.RowKit Go.Lib
section
variable [Reg]

theorem ent_ks {e : Nat} (h : byteEnt e = true) : ∃ en : Ent Reg.T e, Reg.ent e = some en ∧ en.ks = [.int .u8] := by
  unfold byteEnt at h
  split at h
  · rename_i en he
    refine ⟨en, he, ?_⟩
    split at h
    · rename_i hk; exact hk
    · simp at h
  · simp at h
theorem byte_cel {e : Nat} (h : byteEnt e = true) (x : R e) : ∃ n : Int, cel e x = [.int .u8 n] := by
  obtain ⟨en, he, hk⟩ := ent_ks h
  unfold cel
  rw [he]
  simp only
  generalize en.to x = y
  revert y
  rw [hk]
  intro y
  exact ⟨y.1, rfl⟩
theorem bytes_spec {e : Nat} (h : byteEnt e = true) : ∀ xs : List (R e), ∃ ns : List Int, flat e xs = ns.map (fun n => AV.int .u8 n) ∧ bytesT e xs = ns.map (fun n => UInt8.ofNat n.toNat) ∧ ns.length = xs.length
  | [] => ⟨[], rfl, rfl, rfl⟩
  | x :: r => by
    obtain ⟨ns, h1, h2, h3⟩ := bytes_spec h r
    obtain ⟨n, hn⟩ := byte_cel h x
    refine ⟨n :: ns, by rw [flat_cons, hn, h1]; rfl, ?_, by simp [h3]⟩
    have : bytesT e (x :: r) = toByte (cel e x) ++ bytesT e r := rfl
    rw [this, hn, h2]
    rfl
theorem byte_sz {e : Nat} (h : byteEnt e = true) : szR e = 1 := by
  obtain ⟨en, he, hk⟩ := ent_ks h
  unfold szR
  rw [he]
  simp [hk]

section
variable {P : Program} {c : Ctx} {γ : Gh} {D D' : Dead} {st : St} {a : Act} {w w' : World} {tb : Tb} {h : Heap} {u : List Nat}

theorem part_sound {t : Nat} {ti : TI} (ht : tyOf P t = some ti) {cs : List AV} {vs : Array Value} (hL : RepL γ h u w D cs vs) {off : Nat} {v : AV} (hp : partOf ti cs off = some v) :
    ∃ cv, (part t vs off).run P w = .ok cv w ∧ RepB γ h u w D v cv := by
  unfold partOf at hp
  unfold part
  simp only [Sem.run_bind, ty_agg ht, Result.andThen_ok]
  cases hagg : ti.isAgg with
  | true =>
    rw [hagg] at hp
    simp only [cond_true] at hp
    cases hle : Nat.ble (off + ti.sz) cs.length with
    | false => rw [hle] at hp; simp at hp
    | true =>
      rw [hle] at hp
      simp only [cond_true, Option.some.injEq] at hp
      subst hp
      have hle := Nat.le_of_ble_eq_true hle
      refine ⟨.agg (vs.extract off (off + ti.sz)), by simp [ty_size ht], ?_⟩
      refine ⟨_, rfl, by simp [hL.1]; omega, fun i c v hi hj => ?_⟩
      have hi1 : i < ti.sz := by
        have := (List.getElem?_eq_some_iff.1 hi).1
        simp at this
        omega
      rw [List.getElem?_take, if_pos hi1, List.getElem?_drop] at hi
      rw [Array.getElem?_extract] at hj
      split at hj
      · exact hL.2 _ c v hi hj
      · simp at hj
  | false =>
    rw [hagg] at hp
    simp only [cond_false] at hp
    have hlt : off < cs.length := (List.getElem?_eq_some_iff.1 hp).1
    have hlt' : off < vs.size := by rw [hL.1]; exact hlt
    exact ⟨vs[off], by simp [Array.getElem?_eq_getElem hlt'], (hL.2 off v vs[off] hp (Array.getElem?_eq_getElem hlt')).1.b⟩

omit [Reg] in
theorem bytes_get (s : ByteArray) (i : Nat) : s[i]? = s.data.toList[i]? := by
  rw [Array.getElem?_toList]
  by_cases h : i < s.size
  · rw [getElem?_pos s i h, Array.getElem?_eq_getElem (show i < s.data.size from h)]
    rfl
  · rw [getElem?_neg s i h, Array.getElem?_eq_none (show s.data.size ≤ i from Nat.le_of_not_lt h)]

theorem sound_index (hT : TbOk P tb) {o : Oper} (h : Inv c γ D st a w) {t : Nat} {x i : Operand} (ho : o.op = .index t x i) {v : AV} (hv : (pureQ tb st.ev (.index t x i)).val = some v) : Gives P c o a w (st.put o.dst v) := by
  unfold pureQ at hv
  simp only at hv
  split at hv
  · rename_i sz by_ z s k n hti hx hi
    obtain ⟨h0, hv⟩ := Q.val_ask hv
    obtain ⟨b, hb, hv⟩ := Q.val_get hv
    cases hv
    simp only [decide_eq_true_eq] at h0
    obtain ⟨sb, e, hs⟩ := inv_str (hx ▸ h.ev x)
    have ei := inv_int (hi ▸ h.ev i)
    refine gives_put h (cv := .int .u8 b.toNat) (.of (.int _ _)) ?_
    have hb' : sb[n.toNat]? = some b := by rw [bytes_get, hs, hb]
    simp [execOp, ho, e, ei, Instr.index, asIntOf, run_underlying' w (ty_str (hT _ _ hti) rfl), h0, hb']
  · rename_i n e sz by_ z cs k m hti hx hi
    split at hv
    · rename_i te hte
      obtain ⟨j, hj, rfl, hv2⟩ := among_val hv
      clear hv
      split at hv2
      · rename_i v' hp
        cases hv2
        obtain ⟨vs, e', hn, hh⟩ := inv_agg (hx ▸ h.ev x)
        have ei := inv_int (hi ▸ h.ev i)
        obtain ⟨cv, hr, hv⟩ := part_sound (γ := γ) (h := st.h) (u := st.u) (w := w) (D := D) (hT _ _ hte) ⟨hn, hh⟩ hp
        refine gives_put h hv.v ?_
        have h0 : (0 : Int) ≤ j := by omega
        have h1 : (j : Int) < n := by omega
        simp [execOp, ho, e', ei, Instr.index, asIntOf, run_underlying' w (ty_arr (hT _ _ hti) rfl), show j < n from hj, ty_size (hT _ _ hte), hr]
      · cases hv2
    · cases hv
  · cases hv

theorem sound_field (hT : TbOk P tb) {o : Oper} (h : Inv c γ D st a w) {s f : Nat} {x : Operand} (ho : o.op = .field s x f) {v : AV} (hv : (pureQ tb st.ev (.field s x f)).val = some v) : Gives P c o a w (st.put o.dst v) := by
  unfold pureQ at hv
  simp only at hv
  split at hv
  · rename_i fs sz by_ z cs ht hx
    split at hv
    · rename_i off ft hf
      split at hv
      · rename_i tf htf
        split at hv
        · rename_i v' hp
          cases hv
          obtain ⟨arr, hu, hfs, hsz⟩ := ty_struct (hT _ _ ht) rfl
          obtain ⟨fl, hfl, e1⟩ : ∃ fl, arr[f]? = some fl ∧ (fl.offset, fl.type) = (off, ft) := by
            rw [hfs, List.getElem?_map, Array.getElem?_toList, Option.map_eq_some_iff] at hf
            exact hf
          obtain ⟨e2, e3⟩ := Prod.mk.inj e1
          obtain ⟨vs, e, hn, hh⟩ := inv_agg (hx ▸ h.ev x)
          obtain ⟨cv, hr, hv⟩ := part_sound (γ := γ) (h := st.h) (u := st.u) (w := w) (D := D) (hT _ _ htf) ⟨hn, hh⟩ hp
          refine gives_put h hv.v ?_
          simp [execOp, ho, e, Instr.field, run_underlying' w hu, hfl, e2, e3, asAgg, Go.asAgg, hr]
        · cases hv
      · cases hv
    · cases hv
  · cases hv

theorem sound_fieldAddr (hT : TbOk P tb) {o : Oper} (h : Inv c γ D st a w) {s f : Nat} {x : Operand} (ho : o.op = .fieldAddr s x f) {v : AV} (hv : (pureQ tb st.ev (.fieldAddr s x f)).val = some v) : Gives P c o a w (st.put o.dst v) := by
  unfold pureQ at hv
  simp only at hv
  split at hv
  · rename_i fs sz by_ z ht
    obtain ⟨arr, hu, hfs, hsz⟩ := ty_struct (hT _ _ ht) rfl
    have hrun : ∀ {off ft : Nat}, fs[f]? = some (off, ft) → ∀ A, a.eval x = .pointer (some A) → (execOp a.eval o).run P w = .ok (.value (.pointer (some (A.add off)))) w := by
      intro off ft hf A hA
      obtain ⟨fl, hfl, e1⟩ : ∃ fl, arr[f]? = some fl ∧ (fl.offset, fl.type) = (off, ft) := by
        rw [hfs, List.getElem?_map, Array.getElem?_toList, Option.map_eq_some_iff] at hf
        exact hf
      have hoff : fl.offset = off := (Prod.mk.inj e1).1
      have hz : P.cellsOf fl.type ≠ 0 := hsz fl (Array.mem_of_getElem? hfl)
      have hplace : (fieldPlace A fl).run P w = .ok (A.add off) w := by
        have hi : ∃ i, P.info? fl.type = some i := by
          cases hh : P.info? fl.type with
          | none => simp [Program.cellsOf, hh] at hz
          | some i => exact ⟨i, rfl⟩
        obtain ⟨i, hi⟩ := hi
        have hsz' : i.size ≠ 0 := by simpa [Program.cellsOf, hi] using hz
        simp [fieldPlace, sizeOf, run_typeInfo' w hi, hsz', hoff]
      simp [execOp, ho, hA, Instr.fieldAt, run_underlying' w hu, hfl, Instr.sureAddr, hplace]
    have hx := h.ev x
    split at hv
    · rename_i off ft k o' hf e
      cases hv
      rw [e] at hx
      obtain ⟨q1, ⟨A, q2⟩, q3⟩ := hx
      refine gives_put h (v := .ptr k (o' + off)) ⟨q1, ⟨_, rfl⟩, fun cs hk => ?_⟩ (hrun hf A q2)
      have := q3 cs hk
      rw [q2] at this
      simp only [Value.pointer.injEq, Option.some.injEq] at this
      rw [this, addr_add]
    · rename_i off ft cs j hf e
      cases hv
      rw [e] at hx
      obtain ⟨b, o', g, hv, h1, hc, hr⟩ := inv_rp hx
      refine gives_put h (v := .rp cs (j + off)) (cv := .pointer (some ⟨b, o' + (j + off), none⟩)) (.of (.rp _ _ _ _ g h1 hc hr)) ?_
      rw [hrun hf _ hv, addr_add, Nat.add_assoc]
    · rename_i off ft k t i j hf e
      cases hv
      rw [e] at hx
      obtain ⟨q1, ⟨A, q2⟩, q3, q4⟩ := hx
      refine gives_put h (v := .ep k t i (j + off)) ⟨q1, ⟨_, rfl⟩, fun xs hk => ?_, fun xs y hk hy => ?_⟩ (hrun hf A q2)
      · have := q3 xs hk
        rw [q2] at this
        simp only [Value.pointer.injEq, Option.some.injEq] at this
        rw [this, addr_add]
        simp only [Value.pointer.injEq, Option.some.injEq, Addr.mk.injEq, true_and, and_true]
        omega
      · obtain ⟨b, o'', r1, r2⟩ := q4 xs y hk hy
        rw [q2] at r2
        simp only [Value.pointer.injEq, Option.some.injEq] at r2
        refine ⟨b, o'', r1, ?_⟩
        rw [r2, addr_add]
        simp only [Value.pointer.injEq, Option.some.injEq, Addr.mk.injEq, true_and, and_true]
        omega
    · cases hv
  · cases hv

theorem isU8_sound (hT : TbOk P tb) {e : Nat} (h : isU8 tb e = true) : P.underlying e = some (.int .u8) := by
  unfold isU8 at h
  split at h
  · rename_i te hte
    split at h
    · rename_i hk
      exact ty_int (hT _ _ hte) hk
    · simp at h
  · simp at h
theorem inv_sl {t : Nat} {full : Bool} {xs : List (R t)} {v : Value} (h1 : RepD w D (.sl t full xs) v) : ∃ A cap, v = .slice A xs.length cap ∧ xs.length ≤ cap ∧ (full = true → cap = xs.length) ∧ (xs = [] ∨ ∃ (b o : Nat) (f : Nat → Value), A = some ⟨b, o, none⟩ ∧ ∀ (q : Nat) (c : AV), (flat t xs)[q]? = some c → D b (o + q) ∧ w.cell? ⟨b, o + q, none⟩ = some (f q) ∧ RepD w D c (f q)) := by
  cases h1 with
  | slN _ _ A cap hf => exact ⟨A, cap, rfl, Nat.zero_le _, hf, .inl rfl⟩
  | sl _ _ _ b o cap f hlc hf hc hr => exact ⟨_, cap, rfl, hlc, hf, .inr ⟨b, o, f, rfl, fun q c hq => ⟨(hc q c hq).1, (hc q c hq).2, hr q c hq⟩⟩⟩
theorem inv_slOf {X : AV} {V : Value} (hx : RepV γ h u w D X V) {t : Nat} {xs : List (R t)} (he : slOf X = some ⟨t, xs⟩) : RepD w D (.sl t false xs) V := by
  unfold slOf at he
  split at he
  · simp only [Option.some.injEq, Sigma.mk.injEq] at he
    obtain ⟨rfl, he⟩ := he
    cases he
    exact RepD.unfull hx
  · simp only [Option.some.injEq, Sigma.mk.injEq] at he
    obtain ⟨rfl, he⟩ := he
    cases he
    exact hx.2.1
  · simp at he

/-- A slice of bytes, read into a string. -/
theorem run_bytes (hT : TbOk P tb) {s d e : Nat} {ts td : TI} (hts : find s tb = some ts) (htd : find d tb = some td) (hk : td.k = .str) (hks : ts.k = .sl e) (hu8 : isU8 tb e = true) (hb : byteEnt e = true) {xs : List (R e)} {A : Option Addr} {cap : Nat}
    (h3 : xs = [] ∨ ∃ (b o : Nat), A = some ⟨b, o, none⟩ ∧ ∀ (q : Nat) (c : AV), (flat e xs)[q]? = some c → ∃ v, w.cell? ⟨b, o + q, none⟩ = some v ∧ RepD w D c v) :
    ∃ str : ByteArray, str.data.toList = bytesT e xs ∧ (convert s d (.slice A xs.length cap)).run P w = .ok (.string str) w := by
  have hse := ty_sl (hT _ _ hts) hks
  obtain ⟨ns, h1, h2, h4⟩ := bytes_spec hb xs
  refine ⟨strOfNums ns, by rw [h2]; simp [strOfNums], ?_⟩
  rcases h3 with rfl | ⟨b, o', rfl, hf⟩
  · have : ns = [] := List.eq_nil_of_length_eq_zero (by rw [h4]; rfl)
    subst this
    cases A with
    | none => exact run_convert_bytes_nil w s e hse (isU8_sound hT hu8) _ _ d (ty_str (hT _ _ htd) hk)
    | some q =>
      rw [run_convert_bytes_string w s d e _ _ _ hse (isU8_sound hT hu8) (ty_str (hT _ _ htd) hk)]
      simp [Conv.bytesToString, loadCells, loadCellsFrom]
      rfl
  · rw [← h4]
    refine run_convert_bytes_arg w s e hse (isU8_sound hT hu8) b o' ns.length cap ns rfl (fun i hi => ?_) d (ty_str (hT _ _ htd) hk)
    have hxi : (flat e xs)[i]? = some (.int .u8 ns[i]) := by rw [h1]; simp [hi]
    obtain ⟨v, q2, q3⟩ := hf i _ hxi
    rw [q2]
    cases q3
    simp [hi]


theorem not_iface {t : Nat} {ti : TI} (h : tyOf P t = some ti) (hk : ti.k ≠ .iface) : ∃ d, P.underlying t = some d ∧ ∀ ms, d ≠ .interface ms := by
  obtain ⟨i, d, _, hd, hk', _⟩ := tyOf.parts h
  refine ⟨d, hd, fun ms e => ?_⟩
  subst e
  simp [kindOf] at hk'
  exact hk hk'.symm
theorem gives_iface (hT : TbOk P tb) {o : Oper} (h : Inv c γ D st a w) {t : Nat} {x : Operand} (ho : o.op = .makeInterface t x) {ti : TI} (hti : find t tb = some ti) (hk : ti.k ≠ .iface) {v : AV} (hv : RepD w D v (a.eval x)) : Gives P c o a w (st.put o.dst (.iface t v)) := by
  obtain ⟨d, hd, hne⟩ := not_iface (hT _ _ hti) hk
  refine gives_put h (cv := .iface t (a.eval x)) (.of (.iface _ _ _ hv)) ?_
  cases d <;> first | exact absurd rfl (hne _) | simp [execOp, ho, Instr.makeInterface, run_underlying' w hd]

theorem sound_convQ (hT : TbOk P tb) {o : Oper} (h : Inv c γ D st a w) {s d : Nat} {x : Operand} (ho : o.op = .convert s d x) {ts td : TI} (hts : find s tb = some ts) (htd : find d tb = some td) {v : AV} (hv : (convQ tb ts td (st.ev x)).val = some v) : Gives P c o a w (st.put o.dst v) := by
  have hx := h.ev x
  obtain ⟨is, ds, _, hus, _⟩ := tyOf.parts (hT _ _ hts)
  have hd := hT _ _ htd
  generalize st.ev x = X at hx hv
  unfold convQ at hv
  split at hv
  · rename_i k k' n hk
    cases hv
    have ex := inv_int hx
    refine gives_put h (cv := .int k (k.wrap n)) (.of (.int _ _)) ?_
    simp [execOp, ho, ex, convert, run_underlying' w hus, run_underlying' w (ty_int hd hk), Conv.intToInt]
  · rename_i l hk
    cases hv
    obtain ⟨sb, ex, hs⟩ := inv_str hx
    refine gives_put h hx ?_
    simp [execOp, ho, ex, convert, run_underlying' w hus, run_underlying' w (ty_str hd hk)]
  · rename_i hk
    split at hv
    · rename_i e hks
      split at hv
      · rename_i hu8
        cases hv
        have ex : a.eval x = .slice none 0 0 := by
          have : RepD w D .nils (a.eval x) := hx
          generalize a.eval x = V at this
          cases this
          rfl
        refine gives_put h (cv := .string (ByteArray.mk #[])) (.of (.str _ _ rfl)) ?_
        have := run_convert_bytes_nil w s e (ty_sl (hT _ _ hts) hks) (isU8_sound hT hu8) 0 0 d (ty_str hd hk)
        simp [execOp, ho, ex, this]
        rfl
      · cases hv
    · cases hv
  · rename_i hk _ _
    split at hv
    · rename_i e t xs hks he
      split at hv
      · rename_i hc
        obtain ⟨hu8, rfl, hb⟩ := hc
        cases hv
        obtain ⟨A, cap, ev, _, _, h3⟩ := inv_sl (inv_slOf hx he)
        obtain ⟨str, e1, e2⟩ := run_bytes (w := w) (D := D) hT hts htd hk hks hu8 hb (xs := xs) (A := A) (cap := cap) (h3.imp id fun ⟨b, o', f, e1, e2⟩ => ⟨b, o', e1, fun q c hq => ⟨f q, (e2 q c hq).2⟩⟩)
        exact gives_put h (cv := .string str) (.of (.str _ _ e1)) (by simp [execOp, ho, ev, e2])
      · cases hv
    · cases hv
  · cases hv

omit [Reg] in
theorem map_one {α β : Type} {f : α → β} {l : List α} {y : β} (h : l.map f = [y]) : ∃ x, l = [x] ∧ f x = y := by
  match l, h with
  | [x], h => exact ⟨x, rfl, by simpa using h⟩
omit [Reg] in
theorem map_two {α β : Type} {f : α → β} {l : List α} {y z : β} (h : l.map f = [y, z]) : ∃ x u, l = [x, u] ∧ f x = y ∧ f u = z := by
  rcases l with _ | ⟨x, _ | ⟨u, _ | ⟨v, r⟩⟩⟩
  · simp at h
  · simp at h
  · simp at h; exact ⟨x, u, rfl, h⟩
  · simp at h

/-- What looks at no memory. -/
theorem pure_sound (hT : TbOk P tb) {o : Oper} (h : Inv c γ D st a w) {v : AV} (hv : (pureQ tb st.ev o.op).val = some v) : Gives P c o a w (st.put o.dst v) := by
  cases ho : o.op with
  | move x => rw [ho] at hv; cases hv; exact sound_move h x (.inl ho)
  | assign x => rw [ho] at hv; cases hv; exact sound_move h x (.inr ho)
  | pick x y z =>
    rw [ho] at hv
    unfold pureQ at hv
    simp only at hv
    split at hv
    · rename_i t hx; cases hv; exact sound_pick h ho hx
    · cases hv
  | build t ps =>
    rw [ho] at hv
    unfold pureQ at hv
    simp only at hv
    split at hv
    · rename_i fs sz by_ z hti
      cases h1 : one1 z with
      | false => rw [h1] at hv; cases hv
      | true =>
        rw [h1] at hv
        simp only [cond_true] at hv
        split at hv
        · rename_i cs hf; cases hv; exact sound_build hT h ho hti rfl h1 (.inl ⟨_, rfl, hf⟩)
        · cases hv
    · rename_i n e sz by_ z hti
      split at hv
      · rename_i te hte
        cases h1 : one1 z with
        | false => rw [h1] at hv; cases hv
        | true =>
          rw [h1] at hv
          simp only [cond_true] at hv
          split at hv
          · rename_i cs hf; cases hv; exact sound_build hT h ho hti rfl h1 (.inr ⟨_, _, _, rfl, hte, hf⟩)
          · cases hv
      · cases hv
    · cases hv
  | buildSlice t n ps =>
    rw [ho] at hv
    unfold pureQ at hv
    simp only at hv
    split at hv
    · rename_i e sz by_ z hti
      split at hv
      · rename_i te hte
        generalize hb : ((Nat.ble (n * te.sz) 16777216 && Nat.beq te.z.cells.length te.sz) && ((!Nat.beq n 0 && Nat.blt 0 te.sz) && (Nat.beq te.sz (szR e) && one1 te.z.cells))) = b at hv
        cases b
        · cases hv
        · simp only [cond_true] at hv
          simp only [Bool.and_eq_true, Nat.beq_eq, Nat.ble_eq, blt_iff, Bool.not_eq_true'] at hb
          obtain ⟨⟨c1, c2⟩, ⟨c3, c4⟩, c5, c6⟩ := hb
          split at hv
          · rename_i cs hf
            split at hv
            · rename_i l hl
              cases hv
              exact sound_buildSlice hT h ho hti rfl hte c1 c4 c2 c6 c5 hf hl (fun e => by subst e; simp at c3)
            · cases hv
          · cases hv
      · cases hv
    · cases hv
  | nilCheck x => rw [ho] at hv; exact sound_nilCheck h ho hv
  | binOp op t x y u => rw [ho] at hv; exact sound_binOp hT h ho hv
  | unOp op t x => rw [ho] at hv; exact sound_unOp h ho hv
  | convert s d x =>
    rw [ho] at hv
    unfold pureQ at hv
    simp only at hv
    split at hv
    · rename_i ts td hts htd; exact sound_convQ hT h ho hts htd hv
    · cases hv
  | makeInterface t x =>
    rw [ho] at hv
    unfold pureQ at hv
    simp only at hv
    split at hv
    · rename_i ti hti
      have hx := h.ev x
      split at hv
      · rename_i hk hv'
        cases hv
        rw [hv'] at hx
        exact gives_iface hT h ho hti (by rw [hk]; simp) hx
      · rename_i hk hv'
        cases hv
        rw [hv'] at hx
        exact gives_iface hT h ho hti (by rw [hk]; simp) hx
      · rename_i hk hv'
        cases hv
        rw [hv'] at hx
        exact gives_iface hT h ho hti (by rw [hk]; simp) hx
      · cases hv
    · cases hv
  | makeFunc f first cap =>
    rw [ho] at hv
    cases f with
    | func f =>
      unfold pureQ at hv
      simp only at hv
      split at hv
      · rename_i h0
        cases h1 : (cap.toList.map st.ev).all AV.atom with
        | false => rw [h1] at hv; cases hv
        | true => rw [h1] at hv; cases hv; exact sound_makeFunc h ho h0 h1
      · cases hv
    | _ => cases hv
  | fieldAddr s x f => rw [ho] at hv; exact sound_fieldAddr hT h ho hv
  | field s x f => rw [ho] at hv; exact sound_field hT h ho hv
  | index t x i => rw [ho] at hv; exact sound_index hT h ho hv
  | extract x i =>
    rw [ho] at hv
    unfold pureQ at hv
    simp only at hv
    split at hv
    · rename_i vs hx
      split at hv
      · rename_i v' hi; cases hv; exact sound_extract h ho hx hi
      · cases hv
    · cases hv
  | call cl =>
    rw [ho] at hv
    obtain ⟨callee, args, ts⟩ := cl
    cases callee with
    | builtin b =>
      obtain ⟨args⟩ := args
      unfold pureQ at hv
      simp only at hv
      generalize hA : args.map st.ev = A at hv
      split at hv
      · obtain ⟨x, y, rfl, e1, e2⟩ := map_two hA
        cases hv
        have ex := inv_int (e1 ▸ h.ev x)
        have ey := inv_int (e2 ▸ h.ev y)
        exact gives_put h (.of (.int _ _)) (by simp [execOp, ho, resolve, invoke, builtin, Builtin.min_, Builtin.min2, ex, ey])
      · obtain ⟨x, y, rfl, e1, e2⟩ := map_two hA
        cases hv
        have ex := inv_int (e1 ▸ h.ev x)
        have ey := inv_int (e2 ▸ h.ev y)
        exact gives_put h (.of (.int _ _)) (by simp [execOp, ho, resolve, invoke, builtin, Builtin.max_, Builtin.max2, ex, ey])
      · cases hv
    | _ => cases hv
  | _ => rw [ho] at hv; cases hv

end
end
end Go.AM
