/- Soundness, operation by operation (6): values that are built. -/
import Derived.Test.YtnhfjkckgicidaaAmOps5
set_option linter.unusedVariables false
set_option linter.unusedSimpArgs false
namespace Go.AM

theorem fold_set (cells : List Value) : ∀ (k off : Nat) (C : Array Value), off + k + cells.length ≤ C.size →
    ((cells.zipIdx k).foldl (fun cs (x : Value × Nat) => cs.setIfInBounds (off + x.2) x.1) C).size = C.size ∧
    ∀ j, ((cells.zipIdx k).foldl (fun cs (x : Value × Nat) => cs.setIfInBounds (off + x.2) x.1) C)[j]? = if off + k ≤ j ∧ j < off + k + cells.length then cells[j - (off + k)]? else C[j]? := by
  induction cells with
  | nil =>
    intro k off C h
    refine ⟨rfl, fun j => ?_⟩
    have : ¬ (off + k ≤ j ∧ j < off + k + ([] : List Value).length) := by simp
    rw [if_neg this]
    rfl
  | cons v r ih =>
    intro k off C h
    simp only [List.length_cons] at h
    obtain ⟨h1, h2⟩ := ih (k + 1) off (C.setIfInBounds (off + k) v) (by simp; omega)
    simp only [List.zipIdx_cons, List.foldl_cons]
    refine ⟨by rw [h1]; simp, fun j => ?_⟩
    rw [h2 j]
    by_cases e : j = off + k
    · subst e
      have e1 : ¬ (off + (k + 1) ≤ off + k ∧ off + k < off + (k + 1) + r.length) := by omega
      have e2 : off + k ≤ off + k ∧ off + k < off + k + (v :: r).length := by simp
      have e3 : off + k < C.size := by omega
      rw [if_neg e1, if_pos e2]
      simp [Array.getElem?_setIfInBounds, e3]
    · by_cases e4 : off + (k + 1) ≤ j ∧ j < off + (k + 1) + r.length
      · have e5 : off + k ≤ j ∧ j < off + k + (v :: r).length := by simp; omega
        rw [if_pos e4, if_pos e5]
        have : j - (off + k) = (j - (off + (k + 1))) + 1 := by omega
        rw [this, List.getElem?_cons_succ]
      · have e5 : ¬ (off + k ≤ j ∧ j < off + k + (v :: r).length) := by simp; omega
        rw [if_neg e4, if_neg e5, Array.getElem?_setIfInBounds_ne (by omega)]

theorem array_fold_set (v : Array Value) (off : Nat) (C : Array Value) (h : off + v.size ≤ C.size) :
    (v.zipIdx.foldl (fun cs (x : Value × Nat) => cs.setIfInBounds (off + x.2) x.1) C).size = C.size ∧
    ∀ j, (v.zipIdx.foldl (fun cs (x : Value × Nat) => cs.setIfInBounds (off + x.2) x.1) C)[j]? = if off ≤ j ∧ j < off + v.size then v[j - off]? else C[j]? := by
  have e : v.zipIdx.foldl (fun cs (x : Value × Nat) => cs.setIfInBounds (off + x.2) x.1) C = (v.toList.zipIdx 0).foldl (fun cs (x : Value × Nat) => cs.setIfInBounds (off + x.2) x.1) C := by
    rw [← Array.foldl_toList, Array.toList_zipIdx]
  rw [e]
  obtain ⟨h1, h2⟩ := fold_set v.toList 0 off C (by simpa using h)
  refine ⟨h1, fun j => ?_⟩
  rw [h2 j]
  simp

theorem setCells_len : ∀ (l : List AV) (cs : List AV) (off : Nat), (setCells cs off l).length = cs.length
  | [], cs, off => rfl
  | v :: r, cs, off => by rw [setCells, setCells_len r]; simp
theorem setCells_get : ∀ (l : List AV) (cs : List AV) (off j : Nat), off + l.length ≤ cs.length → (setCells cs off l)[j]? = if off ≤ j ∧ j < off + l.length then l[j - off]? else cs[j]?
  | [], cs, off, j, h => by
    have : ¬ (off ≤ j ∧ j < off + ([] : List AV).length) := by simp
    rw [if_neg this]
    rfl
  | v :: r, cs, off, j, h => by
    simp only [List.length_cons] at h
    rw [setCells, setCells_get r _ _ _ (by simp; omega)]
    by_cases e : j = off
    · subst e
      have e1 : ¬ (j + 1 ≤ j ∧ j < j + 1 + r.length) := by omega
      have e2 : j ≤ j ∧ j < j + (v :: r).length := by simp
      rw [if_neg e1, if_pos e2]
      simp [show j < cs.length by omega]
    · by_cases e4 : off + 1 ≤ j ∧ j < off + 1 + r.length
      · have e5 : off ≤ j ∧ j < off + (v :: r).length := by simp; omega
        rw [if_pos e4, if_pos e5]
        have : j - off = (j - (off + 1)) + 1 := by omega
        rw [this, List.getElem?_cons_succ]
      · have e5 : ¬ (off ≤ j ∧ j < off + (v :: r).length) := by simp; omega
        rw [if_neg e4, if_neg e5, List.getElem?_set_ne (by omega)]

/-- Cell by cell. -/
def RepL (w : World) (D : Dead) (cs : List AV) (vs : Array Value) : Prop :=
  vs.size = cs.length ∧ (∀ c ∈ cs, c.cell1 = true) ∧ ∀ (i : Nat) (c : AV) (v : Value), cs[i]? = some c → vs[i]? = some v → RepD w D c v

section
variable {P : Program} {c : Ctx} {γ : Gh} {D : Dead} {st : St} {a : Act} {w : World} {tb : Tb}

/-- The cells of a finished value. -/
theorem RepD.cells {v : AV} {cv : Value} (h : RepD w D v cv) : RepL w D v.cells cv.cells := by
  cases h with
  | agg cs vs hn h1 hh => exact ⟨hn, h1, hh⟩
  | _ =>
    refine ⟨rfl, fun c hc => ?_, fun i c v hi hj => ?_⟩
    · simp [AV.cells] at hc
      subst hc
      rfl
    · cases i with
      | zero =>
        simp [AV.cells] at hi
        simp [Value.cells] at hj
        subst hi
        subst hj
        first | exact .int _ _ | exact .bool _ | (exact .str _ _ (by assumption)) | exact .slN _ _ _ _ (by assumption) | (exact .sl _ _ _ _ _ _ _ (by assumption) (by assumption) (by assumption) (by assumption) (by assumption)) | (exact .rp _ _ _ _ _ _ (by assumption) (by assumption) (by assumption)) | exact .nilp | exact .fn _ | exact .nilfn | (exact .iface _ _ _ (by assumption)) | exact .nili
      | succ i => simp [AV.cells] at hi

theorem RepL.set {cs : List AV} {vs : Array Value} (h : RepL w D cs vs) {l : List AV} {us : Array Value} (h' : RepL w D l us) {off : Nat} (hle : off + l.length ≤ cs.length) :
    RepL w D (setCells cs off l) (us.zipIdx.foldl (fun x (y : Value × Nat) => x.setIfInBounds (off + y.2) y.1) vs) := by
  obtain ⟨h1, h2⟩ := array_fold_set us off vs (by rw [h.1, h'.1]; exact hle)
  refine ⟨by rw [h1, setCells_len, h.1], fun c hc => ?_, fun i c v hi hj => ?_⟩
  · obtain ⟨i, hi⟩ := List.getElem?_of_mem hc
    rw [setCells_get _ _ _ _ hle] at hi
    split at hi
    · exact h'.2.1 c (List.mem_of_getElem? hi)
    · exact h.2.1 c (List.mem_of_getElem? hi)
  · rw [setCells_get _ _ _ _ hle] at hi
    rw [h2, h'.1] at hj
    split at hi
    · rename_i hc
      rw [if_pos hc] at hj
      exact h'.2.2 _ _ _ hi hj
    · rename_i hc
      rw [if_neg hc] at hj
      exact h.2.2 _ _ _ hi hj

theorem fillParts_sound (hT : TbOk P tb) (h : Inv c γ D st a w) {fs : List (Nat × Nat)} {places : List (Nat × Nat)} (hp : places = fs.map fun f => (f.1, P.cellsOf f.2)) : ∀ (ps : List (Nat × Operand)) (cs : List AV) (vs : Array Value) (r : List AV), RepL w D cs vs → TI.fillParts tb fs st cs ps = some r →
    ∃ us, Instr.fill (fun i => places[i]?) vs (ps.map fun p => (p.1, a.eval p.2)) = some us ∧ RepL w D r us
  | [], cs, vs, r, hR, hf => by
    simp only [TI.fillParts, Option.some.injEq] at hf
    subst hf
    exact ⟨vs, rfl, hR⟩
  | (i, x) :: ps, cs, vs, r, hR, hf => by
    simp only [TI.fillParts] at hf
    split at hf
    · simp at hf
    rename_i off t hi
    split at hf
    · rename_i ti v hti hv
      split at hf
      · rename_i hc
        obtain ⟨c1, c2⟩ := hc
        have hD := (h.ev x).dat hv
        have hcl := hD.cells
        obtain ⟨us, h1, h2⟩ := fillParts_sound hT h hp ps _ _ _ (hR.set hcl (off := off) (by rw [c1]; exact c2)) hf
        refine ⟨us, ?_, h2⟩
        simp only [List.map_cons, Instr.fill]
        have e : places[i]? = some (off, ti.sz) := by rw [hp, List.getElem?_map, hi]; simp [ty_cells (hT _ _ hti)]
        have e1 : ¬ ((a.eval x).cells.size ≠ ti.sz ∨ off + (a.eval x).cells.size > vs.size) := by
          rw [hcl.1, c1, hR.1]; omega
        rw [e]
        simp only [Bool.or_eq_true, decide_eq_true_eq]
        rw [if_neg e1]
        exact h1
      · simp at hf
    · simp at hf

theorem mapM_places : ∀ fs : List Field, (∀ f ∈ fs, P.cellsOf f.type ≠ 0) → fs.mapM (fun f => (P.info? f.type).map fun i => (f.offset, i.size)) = some (fs.map fun f => (f.offset, P.cellsOf f.type))
  | [], _ => rfl
  | f :: fs, h => by
    have h1 := h f (by simp)
    cases hi : P.info? f.type with
    | none => simp [Program.cellsOf, hi] at h1
    | some i =>
      have ih := mapM_places fs (fun g hg => h g (by simp [hg]))
      simp [List.mapM_cons, hi, ih, Program.cellsOf]

theorem sound_build (hT : TbOk P tb) {o : Oper} (h : Inv c γ D st a w) {t : Nat} {ps : Array (Nat × Operand)} (ho : o.op = .build t ps) {ti : TI} (hti : find t tb = some ti) {fs : List (Nat × Nat)} (hk : ti.k = .struct fs) {z z' : List AV} (hz : ti.z = .agg z) (hz' : datAll z = some z') {cs : List AV}
    (hf : TI.fillParts tb fs st z' ps.toList = some cs) : Gives P c o a w (st.put o.dst (.agg cs)) := by
  obtain ⟨arr, hu, hfs, hsz⟩ := ty_struct (hT _ _ hti) hk
  obtain ⟨it, d, hit, _, _, _, _, hz1, hz2⟩ := tyOf.parts (hT _ _ hti)
  obtain ⟨zv, hzv⟩ : ∃ zv, it.zero = some zv := by
    cases hh : it.zero with
    | none => rw [hz2 hh] at hz; simp at hz
    | some zv => exact ⟨zv, rfl⟩
  have hze := hz1 zv hzv
  have hzR : RepV γ w D st (.agg z) zv := by rw [← hz, ← hze]; exact RepV.ofVal zv
  obtain ⟨vs, rfl, hn, h1, hh⟩ := inv_agg hzR
  have hzz : RepL w D z' vs := by
    obtain ⟨d1, d2⟩ := datAll_spec hz'
    refine ⟨by rw [hn, d1], fun c hc => ?_, fun i c v hi hj => ?_⟩
    · obtain ⟨i, hi⟩ := List.getElem?_of_mem hc
      have hlt : i < z.length := by rw [← d1]; exact (List.getElem?_eq_some_iff.1 hi).1
      obtain ⟨d, e1, e2⟩ := d2 i z[i] (List.getElem?_eq_getElem hlt)
      rw [hi] at e1
      simp only [Option.some.injEq] at e1
      subst e1
      exact dat_cell1 e2 (h1 _ (List.getElem_mem hlt))
    · have hlt : i < z.length := by rw [← d1]; exact (List.getElem?_eq_some_iff.1 hi).1
      obtain ⟨d, e1, e2⟩ := d2 i z[i] (List.getElem?_eq_getElem hlt)
      rw [hi] at e1
      simp only [Option.some.injEq] at e1
      subst e1
      exact RepV.dat (γ := γ) (st := st) (.of (hh i _ v (List.getElem?_eq_getElem hlt) hj)) e2
  obtain ⟨us, hfill, hR⟩ := fillParts_sound hT h (places := arr.toList.map fun f => (f.offset, P.cellsOf f.type)) (by rw [hfs]; simp) ps.toList z' vs cs hzz hf
  refine gives_put h (cv := .agg us) (.of (.agg _ _ hR.1 hR.2.1 hR.2.2)) ?_
  have hb : P.built t (ps.map fun (i, x) => (i, a.eval x)).toList = some us := by
    unfold Program.built
    simp only [hit, hu, hzv, mapM_places arr.toList (fun f hf => hsz f (by simpa using hf))]
    rw [← hfill]
    simp [Value.cells]
  simp [execOp, ho, run_build w t _ us hb]

end
end Go.AM
