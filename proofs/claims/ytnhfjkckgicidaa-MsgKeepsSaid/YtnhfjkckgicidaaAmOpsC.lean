/- Soundness, operation by operation (12): boxes and rows that are written. -/
import Derived.Test.YtnhfjkckgicidaaAmOpsB
set_option linter.unusedVariables false
set_option linter.unusedSimpArgs false
namespace Go.AM
open Go.RowKit Go.Lib
section
variable {P : Program} {c : Ctx} {γ : Gh} {D D' : Dead} {st : St} {a : Act} {w w' : World} {tb : Tb}

theorem gen_putg' (st : St) (k n k' : Nat) (b : List (Nat × List AV)) (r : List (Nat × List AV)) : St.gen { st with b := b, r := r, g := AM.put k n st.g } k' = if k' = k then n else st.gen k' := gen_putg st k n k'

theorem Inv.newBox (h : Inv c γ D st a w) (d : Nat) (hd6 : d < 1000000) {cs : List AV} {vs : Array Value} (E : Nat) (hn : vs.size = cs.length) (hR : ∀ (i : Nat) (c : AV) (v : Value), cs[i]? = some c → vs[i]? = some v → RepV γ w D st c v ∧ (c = .undef ∨ c.cell1 = true)) :
    ∃ γ', γ'.bx d = w.heap.size ∧ Inv c γ' D { st with b := AM.put d cs st.b, g := AM.put d (st.gen d + 1) st.g } a (w.alloc (.cells vs E)) := by
  have hb := below_alloc w (.cells vs E)
  have h0 : Inv c γ D st a (w.alloc (.cells vs E)) := h.grow hb (fun _ _ hd => hd) (fun _ _ _ hd => hd) (fun b o hd => Nat.lt_of_lt_of_le (h.dlt b o hd) hb.size)
  have hp : Pres D w (w.alloc (.cells vs E)) := h.pres hb
  refine ⟨{ γ with bx := fun k => if k = d then w.heap.size else γ.bx k, own := fun b => if b = w.heap.size then some (0, d) else γ.own b }, by simp, ?_⟩
  have hV : ∀ {av : AV} {v : Value}, RepV γ (w.alloc (.cells vs E)) D st av v →
      RepV { γ with bx := fun k => if k = d then w.heap.size else γ.bx k, own := fun b => if b = w.heap.size then some (0, d) else γ.own b } (w.alloc (.cells vs E)) D { st with b := AM.put d cs st.b, g := AM.put d (st.gen d + 1) st.g } av v := by
    intro av v hv
    refine RepV.mono (st := st) (st' := { st with b := AM.put d cs st.b, g := AM.put d (st.gen d + 1) st.g }) (fun _ _ _ => rfl) (fun _ _ hd => hd) (fun k' => ?_) (fun k' hk' => ?_) hv
    · rw [gen_putg' st d _ k' _ st.r]
      split
      · rename_i e; subst e; omega
      · exact Nat.le_refl _
    · have hne : k' ≠ d := by
        intro e
        subst e
        rw [gen_putg' st k' _ k' _ st.r, if_pos rfl] at hk'
        omega
      refine ⟨by simp [hne], rfl, fun xs hx => ⟨xs, hx, rfl⟩, fun s' xs v => ?_⟩
      rintro ⟨A, cap', e, hc⟩
      refine ⟨A, cap', e, hc.imp id ?_⟩
      rintro ⟨hA, ho, q1, q2, q4⟩
      have hlt : γ.tp k' < w.heap.size := (h.own _ _ ho).1
      simp only [show ¬ γ.tp k' = w.heap.size by omega, if_false]
      exact ⟨hA, ho, q1, q2, q4⟩
  have hV0 : ∀ {av : AV} {v : Value}, RepV γ w D st av v → RepV γ (w.alloc (.cells vs E)) D st av v := fun {av v} hv =>
    RepV.mono hp (fun _ _ hd => hd) (fun _ => Nat.le_refl _) (fun k _ => ⟨rfl, rfl, fun xs hx => ⟨xs, hx, rfl⟩, fun s xs v => by
      rintro ⟨A, cap, e, hc⟩
      refine ⟨A, cap, e, hc.imp id ?_⟩
      rintro ⟨hA, ho, q1, q2, q4⟩
      have hbk := hb.block _ (h.own _ _ ho).1
      exact ⟨hA, ho, q1, fun o hlt' => ⟨by rw [World.cell?_of_block (a := ⟨γ.tp k, o, none⟩) hbk]; exact (q2 o hlt').1, by rw [World.frozen?_of_block (a := ⟨γ.tp k, o, none⟩) hbk]; exact (q2 o hlt').2⟩, q4⟩⟩) hv
  refine ⟨h0.nt, h0.dfr, fun t => hV (h0.tm t), fun k cs' hk => ?_, fun k xs hk => ?_, fun b q hq => ?_, fun b k ho o hd => ?_, h0.fr, h0.dold, h0.dlt, fun n hn => by simp only [show ¬ 1000000 + n = d by omega, if_false]; exact h.pk n hn⟩
  · simp only at hk
    by_cases e : k = d
    · subst e
      rw [find_put_same] at hk
      simp only [Option.some.injEq] at hk
      subst hk
      refine ⟨by simp, vs, E, by simpa using heap_alloc_new w (.cells vs E), hn, fun i c v hi hj => ⟨hV (hV0 (hR i c v hi hj).1), (hR i c v hi hj).2⟩⟩
    · rw [find_put_ne e] at hk
      obtain ⟨q1, vs', E', q2, q3, q4⟩ := h0.bx k cs' hk
      have hlt : γ.bx k < w.heap.size := (h.own _ _ q1).1
      refine ⟨by simp only [e, if_false, show ¬ γ.bx k = w.heap.size by omega]; exact q1, vs', E', by simp only [e, if_false]; exact q2, q3, fun i c v hi hj => ⟨hV (q4 i c v hi hj).1, (q4 i c v hi hj).2⟩⟩
  · obtain ⟨q1, q2⟩ := h0.rw k xs hk
    have hlt : γ.rw k < w.heap.size := (h.own _ _ q1).1
    exact ⟨by simp only [show ¬ γ.rw k = w.heap.size by omega, if_false]; exact q1, q2⟩
  · simp only at hq
    split at hq
    · rename_i e
      subst e
      exact ⟨by simp, .inl h.fr.size⟩
    · exact h0.own b q hq
  · simp only at ho
    split at ho
    · rename_i e
      subst e
      have := h.dlt _ _ hd
      omega
    · exact h0.live b k ho o hd

theorem RepV.one {av : AV} {v : Value} (h : RepV γ w D st av v) (hc : st.isCur av) (h1 : av.cell1 = true) : v.oneCell' = true := by
  cases av <;> first | (simp [AV.cell1] at h1; done) | skip
  case ptr k g off => rw [h.2 hc]; rfl
  case tip k g s xs => exact h.2.1.one rfl
  all_goals exact RepD.one (w := w) (D := D) h rfl

theorem one_cells {v : Value} (h : v.oneCell' = true) : v.cells = #[v] := by cases v <;> first | rfl | simp [Value.oneCell'] at h

/-- The cells of whatever may be put into a box. -/
theorem RepV.cells {av : AV} {v : Value} (h : RepV γ w D st av v) (hc : st.isCur av) (h1 : (∃ cs, av = .agg cs) ∨ av.cell1 = true) :
    v.cells.size = av.cells.length ∧ (∀ (i : Nat) (c : AV) (u : Value), av.cells[i]? = some c → v.cells[i]? = some u → RepV γ w D st c u ∧ (c = .undef ∨ c.cell1 = true)) ∧ ∀ u ∈ v.cells, u.oneCell' = true := by
  rcases h1 with ⟨cs, rfl⟩ | h1
  · obtain ⟨vs, rfl, hn, hc1, hh⟩ := inv_agg h
    refine ⟨hn, fun i c u hi hj => ⟨.of (hh i c u hi hj), .inr (hc1 c (List.mem_of_getElem? hi))⟩, fun u hu => ?_⟩
    obtain ⟨i, hi, rfl⟩ := Array.getElem_of_mem (show u ∈ vs from hu)
    have hlt : i < cs.length := by rw [← hn]; exact hi
    exact (hh i cs[i] vs[i] (List.getElem?_eq_getElem hlt) (Array.getElem?_eq_getElem hi)).one (hc1 _ (List.getElem_mem hlt))
  · have ho := h.one hc h1
    have e1 := one_cells ho
    have e2 : av.cells = [av] := by cases av <;> first | rfl | simp [AV.cell1] at h1
    rw [e1, e2]
    refine ⟨rfl, fun i c u hi hj => ?_, fun u hu => by simp at hu; subst hu; exact ho⟩
    cases i with
    | zero => simp at hi hj; subst hi; subst hj; exact ⟨h, .inr h1⟩
    | succ i => simp at hi

theorem sound_newBox {o : Oper} (h : Inv c γ D st a w) {v : AV} {cv : Value} {E : Nat} (hv : RepV γ w D st v cv) (hcur : st.isCur v) {st' : St} (hs : AM.newBox st o.dst v = some st') (hrun : (execOp a.eval o).run P w = .ok (.value (.pointer (some ⟨w.heap.size, 0, none⟩))) (w.alloc (.cells cv.cells E))) : Gives P c o a w st' := by
  unfold AM.newBox at hs
  split at hs
  · simp at hs
  rename_i d hd
  split at hs
  · rename_i h12
    simp only [Bool.and_eq_true, decide_eq_true_eq] at h12
    obtain ⟨h1, h6⟩ := h12
    simp only [Option.some.injEq] at hs
    subst hs
    obtain ⟨q1, q2, _⟩ := hv.cells hcur (by
      cases v <;> first | exact .inl ⟨_, rfl⟩ | exact .inr h1)
    obtain ⟨γ', e1, h'⟩ := h.newBox d h6 E q1 q2
    refine ⟨_, _, .inl hrun, γ', D, h'.put (v := .ptr d (st.gen d + 1) 0) ⟨by rw [gen_putg' st d _ d _ st.r, if_pos rfl]; exact Nat.le_refl _, fun _ => by rw [e1]⟩ o.dst⟩
  · simp at hs

theorem sound_alloc (hT : TbOk P tb) {o : Oper} (h : Inv c γ D st a w) {e : Nat} (ho : o.op = .alloc e) {ti : TI} (hti : find e tb = some ti) {st' : St} (hs : AM.newBox st o.dst ti.z = some st') : Gives P c o a w st' := by
  have hz : ti.z ≠ .undef := by
    intro e
    unfold AM.newBox at hs
    rw [e] at hs
    split at hs <;> simp [AV.boxable, AV.cell1] at hs
  obtain ⟨zv, hzr, hze⟩ := ty_zero (hT _ _ hti) hz w
  have hR : RepV γ w D st ti.z zv := by rw [← hze]; exact RepV.ofVal zv
  refine sound_newBox h hR (by rw [← hze]; exact ofVal_isCur st zv) hs (E := e) ?_
  simp [execOp, ho, Instr.alloc, hzr, newVar, newRow]

theorem sound_box {o : Oper} (h : Inv c γ D st a w) {e : Nat} {x : Operand} (ho : o.op = .box e x) {st' : St} (hs : AM.newBox st o.dst (st.ev x) = some st') : Gives P c o a w st' := by
  refine sound_newBox h (h.ev x) (st.ev_isCur x) hs (E := e) ?_
  simp [execOp, ho, Instr.box, newVar, newRow]

theorem Inv.setBox (h : Inv c γ D st a w) {k : Nat} {cs : List AV} (hk : find k st.b = some cs) {cs' : List AV} {vs' : Array Value} (hn : vs'.size = cs'.length) (hR : ∀ (i : Nat) (c : AV) (v : Value), cs'[i]? = some c → vs'[i]? = some v → RepV γ w D st c v ∧ (c = .undef ∨ c.cell1 = true)) :
    Inv c γ D { st with b := AM.put k cs' st.b } a (w.setRow (γ.bx k) vs') := by
  obtain ⟨ho, vs, E, hblk, _, _⟩ := h.bx k cs hk
  have hp : Pres D w (w.setRow (γ.bx k) vs') := by
    intro b o hD
    refine cell_setRow_other w _ _ _ ?_
    intro e
    simp only at e
    subst e
    exact h.live _ k (.inl ho) o hD
  have hV : ∀ {av : AV} {v : Value}, RepV γ w D st av v → RepV γ (w.setRow (γ.bx k) vs') D { st with b := AM.put k cs' st.b } av v := by
    intro av v hv
    refine RepV.mono (st := st) (st' := { st with b := AM.put k cs' st.b }) hp (fun _ _ hd => hd) (fun _ => Nat.le_refl _) (fun k' _ => ⟨rfl, rfl, fun xs hx => ⟨xs, hx, rfl⟩, fun s xs v => ?_⟩) hv
    rintro ⟨A, cap, e, hc⟩
    refine ⟨A, cap, e, hc.imp id ?_⟩
    rintro ⟨hA, ho', q1, q2, q4⟩
    have hne : γ.tp k' ≠ γ.bx k := by
      intro e
      rw [e, ho] at ho'
      simp at ho'
    have hbk := setRow_other w (γ.bx k) (γ.tp k') vs' hne
    exact ⟨hA, ho', q1, fun o hlt' => ⟨by rw [World.cell?_of_block (a := ⟨γ.tp k', o, none⟩) hbk]; exact (q2 o hlt').1, by rw [World.frozen?_of_block (a := ⟨γ.tp k', o, none⟩) hbk]; exact (q2 o hlt').2⟩, q4⟩
  refine ⟨h.nt, h.dfr, fun t => hV (h.tm t), fun k' cs'' hk' => ?_, fun k' xs hk' => ?_, fun b q hq => by rw [setRow_size]; exact h.own b q hq, h.live, ?_, h.dold, fun b o hD => by rw [setRow_size]; exact h.dlt b o hD, h.pk⟩
  · simp only at hk'
    by_cases e : k' = k
    · subst e
      rw [find_put_same] at hk'
      simp only [Option.some.injEq] at hk'
      subst hk'
      exact ⟨ho, vs', E, setRow_heap w _ vs vs' E _ hblk, hn, fun i c v hi hj => ⟨hV (hR i c v hi hj).1, (hR i c v hi hj).2⟩⟩
    · rw [find_put_ne e] at hk'
      obtain ⟨q1, vs'', E', q2, q3, q4⟩ := h.bx k' cs'' hk'
      have hne : γ.bx k' ≠ γ.bx k := by
        intro e'
        rw [e', ho] at q1
        simp at q1
        exact e q1.symm
      exact ⟨q1, vs'', E', (setRow_other w _ _ vs' hne).trans q2, q3, fun i c v hi hj => ⟨hV (q4 i c v hi hj).1, (q4 i c v hi hj).2⟩⟩
  · obtain ⟨q1, vs'', E', q2, q3, q4⟩ := h.rw k' xs hk'
    have hne : γ.rw k' ≠ γ.bx k := by
      intro e'
      rw [e', ho] at q1
      simp at q1
    exact ⟨q1, vs'', E', (setRow_other w _ _ vs' hne).trans q2, q3, fun i c v hi hj => ⟨(q4 i c v hi hj).1.mono hp (fun _ _ hd => hd), (q4 i c v hi hj).2⟩⟩
  · refine ⟨h.fr.os, h.fr.tape, h.fr.output, by rw [setRow_size]; exact h.fr.size, fun b hb hn' => ?_⟩
    refine (setRow_other w _ b vs' ?_).trans (h.fr.block b hb hn')
    intro e
    subst e
    rcases (h.own _ _ ho).2 with hh | hh
    · omega
    · exact hn' hh.1

end
end Go.AM
