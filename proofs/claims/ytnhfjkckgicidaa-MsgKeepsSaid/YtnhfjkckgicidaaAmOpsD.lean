/- Soundness, operation by operation (13): stores; made slices. -/
import Derived.Test.YtnhfjkckgicidaaAmOpsC
set_option linter.unusedVariables false
set_option linter.unusedSimpArgs false
namespace Go.AM
open Go.RowKit Go.Lib
section
variable {P : Program} {c : Ctx} {γ : Gh} {D D' : Dead} {st : St} {a : Act} {w w' : World} {tb : Tb}

theorem gives_skip {o : Oper} {st' : St} {γ' : Gh} (hd : o.dst = none) (h : Inv c γ' D' st' a w') (hr : (execOp a.eval o).run P w = .ok .skip w') : Gives P c o a w st' :=
  ⟨Go.undef, w', .inr ⟨hr, rfl⟩, γ', D', by rw [hd]; exact h⟩

theorem take_set (cur : Array Value) (o : Nat) (vs : List Value) (h : o + vs.length ≤ cur.size) (j : Nat) : ((cur.toList.take o ++ vs ++ cur.toList.drop (o + vs.length)).toArray)[j]? = if o ≤ j ∧ j < o + vs.length then vs[j - o]? else cur[j]? := by
  have hl : (cur.toList.take o).length = o := by rw [List.length_take, Array.length_toList]; omega
  simp only [List.getElem?_toArray]
  by_cases h1 : j < o
  · have h2 : ¬ (o ≤ j ∧ j < o + vs.length) := by omega
    rw [if_neg h2, List.append_assoc, List.getElem?_append_left (by omega), List.getElem?_take, if_pos h1, Array.getElem?_toList]
  · by_cases h2 : j < o + vs.length
    · have h3 : o ≤ j ∧ j < o + vs.length := by omega
      rw [if_pos h3, List.append_assoc, List.getElem?_append_right (by omega), hl, List.getElem?_append_left (by omega)]
    · have h3 : ¬ (o ≤ j ∧ j < o + vs.length) := by omega
      have hl2 : (cur.toList.take o ++ vs).length = o + vs.length := by rw [List.length_append, hl]
      rw [if_neg h3, List.getElem?_append_right (by omega), hl2, List.getElem?_drop, Array.getElem?_toList]
      congr 1
      omega

theorem Inv.setRw (h : Inv c γ D st a w) {k : Nat} {xs : List AV} (hk : find k st.r = some xs) {i : Nat} {v : AV} {cv : Value} (hi : i < xs.length) (hv : RepD w D v cv) (h1 : v.cell1 = true) :
    ∃ vs, w.heap[γ.rw k]? = some (.cells vs ((w.heap[γ.rw k]?.elim 0 fun | .cells _ E _ => E | _ => 0)) (0, 0)) ∧ i < vs.size ∧ Inv c γ D { st with r := AM.put k (xs.set i v) st.r } a (w.setRow (γ.rw k) (vs.setIfInBounds i cv)) := by
  obtain ⟨ho, vs, E, hblk, hsz, hR⟩ := h.rw k xs hk
  refine ⟨vs, by simp [hblk], by omega, ?_⟩
  have hp : Pres D w (w.setRow (γ.rw k) (vs.setIfInBounds i cv)) := by
    intro b o hD
    refine cell_setRow_other w _ _ _ ?_
    intro e
    simp only at e
    subst e
    exact h.live _ k (.inr ho) o hD
  have hV : ∀ {av : AV} {v' : Value}, RepV γ w D st av v' → RepV γ (w.setRow (γ.rw k) (vs.setIfInBounds i cv)) D { st with r := AM.put k (xs.set i v) st.r } av v' := by
    intro av v' hv'
    refine RepV.mono (st := st) (st' := { st with r := AM.put k (xs.set i v) st.r }) hp (fun _ _ hd => hd) (fun _ => Nat.le_refl _) (fun k' _ => ⟨rfl, rfl, fun zs hz => ?_, fun s zs v'' => ?_⟩) hv'
    · simp only at hz
      by_cases e : k' = k
      · subst e
        rw [find_put_same] at hz
        simp only [Option.some.injEq] at hz
        exact ⟨xs, hk, by rw [← hz]; simp⟩
      · rw [find_put_ne e] at hz
        exact ⟨zs, hz, rfl⟩
    · rintro ⟨A, cap, e, hc⟩
      refine ⟨A, cap, e, hc.imp id ?_⟩
      rintro ⟨hA, ho', q1, q2, q4⟩
      have hne : γ.tp k' ≠ γ.rw k := by
        intro e
        rw [e, ho] at ho'
        simp at ho'
      have hbk := setRow_other w (γ.rw k) (γ.tp k') (vs.setIfInBounds i cv) hne
      exact ⟨hA, ho', q1, fun o hlt' => ⟨by rw [World.cell?_of_block (a := ⟨γ.tp k', o, none⟩) hbk]; exact (q2 o hlt').1, by rw [World.frozen?_of_block (a := ⟨γ.tp k', o, none⟩) hbk]; exact (q2 o hlt').2⟩, q4⟩
  refine ⟨h.nt, h.dfr, fun t => hV (h.tm t), fun k' cs'' hk' => ?_, fun k' zs hk' => ?_, fun b q hq => by rw [setRow_size]; exact h.own b q hq, h.live, ?_, h.dold, fun b o hD => by rw [setRow_size]; exact h.dlt b o hD, h.pk⟩
  · obtain ⟨q1, vs'', E', q2, q3, q4⟩ := h.bx k' cs'' hk'
    have hne : γ.bx k' ≠ γ.rw k := by
      intro e'
      rw [e', ho] at q1
      simp at q1
    exact ⟨q1, vs'', E', (setRow_other w _ _ _ hne).trans q2, q3, fun i c v hi hj => ⟨hV (q4 i c v hi hj).1, (q4 i c v hi hj).2⟩⟩
  · simp only at hk'
    by_cases e : k' = k
    · subst e
      rw [find_put_same] at hk'
      simp only [Option.some.injEq] at hk'
      subst hk'
      refine ⟨ho, _, E, setRow_heap w _ vs _ E _ hblk, by simp [hsz], fun i' c' v' hi' hj' => ?_⟩
      rw [List.getElem?_set] at hi'
      rw [Array.getElem?_setIfInBounds] at hj'
      split at hi'
      · rename_i e1
        subst e1
        have e2 : c' = v := by simpa [hi] using hi'.symm
        have e3 : v' = cv := by simpa [show i < vs.size by omega] using hj'.symm
        subst e2
        subst e3
        exact ⟨hv.mono hp (fun _ _ hd => hd), h1⟩
      · rename_i e1
        rw [if_neg e1] at hj'
        obtain ⟨q1, q2⟩ := hR i' c' v' hi' hj'
        exact ⟨q1.mono hp (fun _ _ hd => hd), q2⟩
    · rw [find_put_ne e] at hk'
      obtain ⟨q1, vs'', E', q2, q3, q4⟩ := h.rw k' zs hk'
      have hne : γ.rw k' ≠ γ.rw k := by
        intro e'
        rw [e', ho] at q1
        simp at q1
        exact e q1.symm
      exact ⟨q1, vs'', E', (setRow_other w _ _ _ hne).trans q2, q3, fun i c v hi hj => ⟨(q4 i c v hi hj).1.mono hp (fun _ _ hd => hd), (q4 i c v hi hj).2⟩⟩
  · refine ⟨h.fr.os, h.fr.tape, h.fr.output, by rw [setRow_size]; exact h.fr.size, fun b hb hn' => ?_⟩
    refine (setRow_other w _ b _ ?_).trans (h.fr.block b hb hn')
    intro e
    subst e
    rcases (h.own _ _ ho).2 with hh | hh
    · omega
    · exact absurd hh.2 (by simp)

theorem sound_store (hT : TbOk P tb) {o : Oper} (h : Inv c γ D st a w) {t : Nat} {x y : Operand} (ho : o.op = .store t x y) (hd : o.dst = none) {st' : St} (hv : storeA tb st t (st.ev x) (st.ev y) = some st') : Gives P c o a w st' := by
  have hx := h.ev x
  have cx := st.ev_isCur x
  have hy := h.ev y
  have cy := st.ev_isCur y
  generalize st.ev x = X at hx hv cx
  generalize st.ev y = Y at hy hv cy
  unfold storeA at hv
  split at hv
  · simp at hv
  rename_i ti hti
  have ht := hT _ _ hti
  split at hv
  · rename_i k g off
    split at hv
    · rename_i cs hk
      obtain ⟨hown, vs, E, hblk, hsz, hR⟩ := h.bx k cs hk
      have core : (∃ l, Y = .agg l) ∨ Y.cell1 = true → Y.cells.length = ti.sz → off + Y.cells.length ≤ cs.length → Gives P c o a w { st with b := AM.put k (setCells cs off Y.cells) st.b } := by
        intro h1 hl hle
        obtain ⟨q1, q2, q3⟩ := hy.cells cy h1
        have hvl : (a.eval y).cells.toList.length = Y.cells.length := by rw [Array.length_toList]; exact q1
        have hrun : (storeVar t ⟨γ.bx k, off, none⟩ (a.eval y)).run P w = .ok () (w.setRow (γ.bx k) (vs.toList.take (off + 0) ++ (a.eval y).cells.toList ++ vs.toList.drop (off + 0 + (a.eval y).cells.toList.length)).toArray) := by
          unfold storeVar
          simp only [Sem.run_bind, ty_size ht, Result.andThen_ok]
          rw [if_neg (by rw [q1, hl]; simp)]
          exact run_storeCells_at (P := P) (γ.bx k) off E (a.eval y).cells.toList 0 vs w hblk (by rw [hvl]; omega) (fun v hv => q3 v (by simpa using hv))
        refine gives_skip (γ' := γ) (D' := D) hd ?_ (w' := w.setRow (γ.bx k) (vs.toList.take (off + 0) ++ (a.eval y).cells.toList ++ vs.toList.drop (off + 0 + (a.eval y).cells.toList.length)).toArray) ?_
        · refine h.setBox hk ?_ (fun i c' v' hi hj => ?_)
          · rw [setCells_len]
            simp only [List.size_toArray, List.length_append, List.length_take, List.length_drop, hvl, Array.length_toList]
            omega
          · rw [setCells_get _ _ _ _ hle] at hi
            rw [Nat.add_zero, take_set vs off _ (by rw [hvl]; omega), hvl] at hj
            split at hi
            · rename_i hc
              rw [if_pos hc, Array.getElem?_toList] at hj
              exact q2 _ _ _ hi hj
            · rename_i hc
              rw [if_neg hc] at hj
              exact hR _ _ _ hi hj
        · simp [execOp, ho, inv_ptr hx cx, Instr.storeAt, Instr.sureAddr, hrun]
      split at hv
      · rename_i l
        split at hv
        · rename_i hc
          simp only [Option.some.injEq] at hv
          subst hv
          exact core (.inl ⟨_, rfl⟩) hc.1 hc.2
        · simp at hv
      · split at hv
        · rename_i hc
          obtain ⟨c1, c2, c3⟩ := hc
          simp only [Option.some.injEq] at hv
          subst hv
          have e2 : Y.cells = [Y] := by cases Y <;> first | rfl | simp [AV.cell1] at c1
          have := core (.inr c1) (by rw [e2]; simp [c2]) (by rw [e2]; simp; omega)
          rw [e2] at this
          exact this
        · simp at hv
    · simp at hv
  · rename_i k g i
    split at hv
    · rename_i hs1
      split at hv
      · rename_i xs v hk hdat
        split at hv
        · rename_i hc
          obtain ⟨c1, c2⟩ := hc
          simp only [Option.some.injEq] at hv
          subst hv
          have hD := hy.dat hdat
          obtain ⟨vs, hblk, hlt, h'⟩ := h.setRw hk c2 hD c1
          generalize (w.heap[γ.rw k]?.elim 0 fun | .cells _ E _ => E | _ => 0) = E0 at hblk
          have hone := hD.one c1
          refine gives_skip hd h' ?_
          have hcell : w.cell? ⟨γ.rw k, i, none⟩ = some vs[i] := by rw [cell_of_block hblk, Array.getElem?_eq_getElem hlt]
          have hfro : w.frozen? ⟨γ.rw k, i, none⟩ = false := by
            unfold World.frozen?
            simp only [hblk]
            simp
          have hst : (store ((⟨γ.rw k, i, none⟩ : Addr).add 0) (a.eval y)).run P w = .ok () (w.setRow (γ.rw k) (vs.setIfInBounds i (a.eval y))) := by
            rw [addr_add, Nat.add_zero, run_store P w _ _ _ hone, hcell]
            simp [hfro, setCell_eq_setRow w (γ.rw k) i vs _ (0, 0) (a.eval y) hblk]
          have hcl : (a.eval y).cells = #[a.eval y] := one_cells hone
          simp [execOp, ho, hx.2 cx, Instr.storeAt, Instr.sureAddr, storeVar, ty_size ht, hs1, hcl, storeCells, hst]
        · simp at hv
      · simp at hv
    · simp at hv
  · simp at hv

end
end Go.AM
