/- Soundness, operation by operation (10): append. -/
import Derived.Test.YtnhfjkckgicidaaAmOps9
set_option linter.unusedVariables false
set_option linter.unusedSimpArgs false
namespace Go.AM
open Go.RowKit Go.Lib
section
variable {P : Program} {c : Ctx} {γ : Gh} {D D' : Dead} {st : St} {a : Act} {w w' : World} {tb : Tb}

theorem drew_below (w : World) : Below w.heap.size w w.drew := ⟨rfl, rfl, rfl, Nat.le_refl _, fun _ _ => rfl⟩

theorem gives_chain {o : Oper} {k : Nat} {v : AV} {cv : Value} {γ' : Gh} (h : Inv c γ' D' { st with g := AM.put k (st.gen k + 1) st.g } a w') (hv : RepV γ' w' D' { st with g := AM.put k (st.gen k + 1) st.g } v cv) (hr : (execOp a.eval o).run P w = .ok (.value cv) w') :
    Gives P c o a w (({ st with g := AM.put k (st.gen k + 1) st.g } : St).put o.dst v) :=
  ⟨cv, w', .inl hr, γ', D', h.put hv o.dst⟩

theorem sound_append_core (hT : TbOk P tb) {o : Oper} (h : Inv c γ D st a w) {t u : Nat} {x y : Operand} (ho : o.op = .call { callee := .builtin .append, args := #[x, y], argTypes := #[t, u] }) {ti te : TI} {e : Nat} (hti : find t tb = some ti) (hk : ti.k = .sl e) (hte : find e tb = some te)
    {ys : List AV} (hsrc : srcA tb st u (st.ev y) = some (te.sz, ys)) (hsz : te.sz ≠ 0) (hzl : te.z.cells.length = te.sz) {z : AV} (hz : te.z.dat = some z) {k : Nat} {xs : List AV} (hR : RepD w D (.sl te.sz false xs) (a.eval x)) (hTip : TipOk γ w D k te.sz xs (a.eval x))
    (hfit : (xs.length + ys.length) * te.bytes ≤ 140737488355328) (h63 : xs.length + ys.length ≤ 4611686018427387904) : Gives P c o a w (({ st with g := AM.put k (st.gen k + 1) st.g } : St).put o.dst (.tip k (st.gen k + 1) te.sz (xs ++ ys))) := by
  have hu := ty_sl (hT _ _ hti) hk
  obtain ⟨ie, zv, hie, hzv, hs, hby, hzr⟩ := ty_zero' (hT _ _ hte) hz
  obtain ⟨du, news, hdu, hni, hl, hY, hYd, hys, hnl, hn1, hnew⟩ := src_sound hT h (h.ev y) (st.ev_isCur y) hsrc
  obtain ⟨A, cap, ev, hcase⟩ := hTip
  have hlc : xs.length ≤ cap := by
    rcases hcase with hh | ⟨_, _, hh, _⟩ <;> omega
  have hexec : ∀ {cv : Value} {w' : World}, (Builtin.append_ #[t, u] o.type #[a.eval x, a.eval y]).run P w = .ok cv w' → (execOp a.eval o).run P w = .ok (.value cv) w' := by
    intro cv w' hh
    simp [execOp, ho, resolve, invoke, builtin, hh]
  have hlen : (xs ++ ys).length = xs.length + ys.length := by simp
  by_cases hroom : xs.length + ys.length ≤ cap
  · by_cases hy0 : ys = []
    · subst hy0
      have hn0 : news = [] := List.eq_nil_of_length_eq_zero (by rw [hnl]; simp)
      subst hn0
      have hrun := run_app_room (ty := o.type) hu hie hdu hni (A := A) (n := xs.length) (cap := cap) hl (by rw [hs]; exact hY) hroom
      rw [ev] at hR
      obtain ⟨i1, i2⟩ := h.sameTip k (s := te.sz) (zs := xs) hR ⟨A, cap, rfl, hcase⟩
      refine gives_chain (cv := .slice A (xs.length + ([] : List AV).length) cap) i1 ?_ (hexec (by rw [ev]; exact hrun))
      simp only [List.append_nil, List.length_nil, Nat.add_zero]
      exact i2
    · have hm : 0 < ys.length := List.length_pos_iff.2 hy0
      rcases hcase with hh | ⟨hA, hown, _, hc, hd⟩
      · omega
      · subst hA
        have hmul : xs.length * te.sz + ys.length * te.sz ≤ cap * te.sz := by rw [← Nat.add_mul]; exact Nat.mul_le_mul_right _ hroom
        have hrun := run_app_room' (ty := o.type) hu hie hdu hni (b := γ.tp k) (n := xs.length) (cap := cap) (news := news) hl (by rw [hs]; exact hY) hroom hn1 (fun j hj => by rw [hs]; exact (hc _ (by omega)).1) (fun j hj => by rw [hs]; exact (hc _ (by omega)).2)
        rw [hs] at hrun
        rw [ev] at hR
        obtain ⟨D', i1, i2⟩ := h.roomTip k (ys := ys) hown hR hc hd hroom hnl hys hnew (.inr hy0)
        exact gives_chain i1 i2 (hexec (by rw [ev]; exact hrun))
  · have hg : cap < xs.length + ys.length := by omega
    obtain ⟨olds, hol, holds, hX⟩ : ∃ olds : List Value, olds.length = xs.length * te.sz ∧
        (∀ (i : Nat) (e : AV) (j : Nat) (c : AV) (v : Value), xs[i]? = some e → e.cells[j]? = some c → olds[i * te.sz + j]? = some v → c.cell1 = true ∧ RepD w D c v) ∧ (Builtin.firstCells te.sz xs.length (.slice A xs.length cap)).run P w.drew = .ok olds.toArray w.drew := by
      rw [ev] at hR
      obtain ⟨A', cap', ev', _, _, h3⟩ := inv_sl hR
      simp only [Value.slice.injEq] at ev'
      obtain ⟨rfl, _, rfl⟩ := ev'
      rcases h3 with rfl | ⟨b, o', f, rfl, hE⟩
      · refine ⟨[], by simp, by simp, ?_⟩
        cases A with
        | none => simp [Builtin.firstCells]
        | some q => simp [Builtin.firstCells, loadCells, loadCellsFrom]
      · refine ⟨flatF te.sz xs.length f, flatF_len _ _ _, fun i e j c v hi hj hv => ?_, load_flat (w := w.drew) hE.1 (fun i e j c hi hj => (hE.2.1 i e j c hi hj).2.2)⟩
        have hjs : j < te.sz := by rw [← hE.1 i e hi]; exact (List.getElem?_eq_some_iff.1 hj).1
        rw [flatF_get f hjs (idx_lt hE.1 hi hj)] at hv
        simp only [Option.some.injEq] at hv
        subst hv
        exact ⟨(hE.2.1 i e j c hi hj).1, hE.2.2 i e j c hi hj⟩
    have hrun := run_app_grow (ty := o.type) hu hie hzv hdu hni (A := A) (n := xs.length) (cap := cap) (olds := olds) (news := news) hl (by rw [hs]; exact hYd) (by rw [hs]; exact hX) hg h63 (by rw [hby]; exact hfit)
    have hge := grownCap_ge w (xs.length + ys.length) cap e
    have hzc : zv.cells.size = te.sz := by
      have := (hzr γ w D st).cells.1
      rw [this, dat_cells_len hz, hzl]
    have hxs : ∀ (i : Nat) (e : AV), xs[i]? = some e → e.cells.length = te.sz := by
      intro i e' hi
      obtain ⟨A', cap', _, _, _, h3⟩ := inv_sl hR
      rcases h3 with rfl | ⟨b, o', f, _, hE⟩
      · simp at hi
      · exact hE.1 i e' hi
    have hIn : RowIn w D te.sz (xs ++ ys) (olds.toArray ++ news.toArray ++ Builtin.zeroCells zv.cells (grownCap w (xs.length + ys.length) cap e - (xs.length + ys.length))) := by
      have hmul : xs.length * te.sz + ys.length * te.sz = (xs.length + ys.length) * te.sz := (Nat.add_mul _ _ _).symm
      refine ⟨fun i e' hi => ?_, ?_, fun i e' j c' v hi hj hv => ?_⟩
      · rw [List.getElem?_append] at hi
        split at hi
        · exact hxs i e' hi
        · exact hys _ e' hi
      · simp only [Array.size_append, List.size_toArray, hol, hnl, hlen]
        omega
      · rw [List.getElem?_append] at hi
        split at hi
        · have hlt := idx_lt hxs hi hj
          have : olds[i * te.sz + j]? = some v := by
            rw [← hv, Array.getElem?_append_left (by simp [hol]; omega), Array.getElem?_append_left (by simp [hol]; omega)]
            simp
          exact holds i e' j c' v hi hj this
        · rename_i hi'
          have hjlt := idx_lt hys hi hj
          have hidx : i * te.sz + j = xs.length * te.sz + ((i - xs.length) * te.sz + j) := by
            have : i * te.sz = xs.length * te.sz + (i - xs.length) * te.sz := by rw [← Nat.add_mul]; congr 1; omega
            omega
          have : news[(i - xs.length) * te.sz + j]? = some v := by
            rw [← hv, hidx, Array.getElem?_append_left (by simp [hol, hnl]; omega), Array.getElem?_append_right (by simp [hol])]
            simp [hol]
          exact hnew _ e' j c' v hi hj this
    have hvs : (olds.toArray ++ news.toArray ++ Builtin.zeroCells zv.cells (grownCap w (xs.length + ys.length) cap e - (xs.length + ys.length))).size = grownCap w (xs.length + ys.length) cap e * te.sz := by
      simp only [Array.size_append, List.size_toArray, size_zeroCells, hol, hnl, hzc, ← Nat.add_mul]
      congr 1
      omega
    have hbl : Below w.heap.size w (w.drew.alloc (.cells (olds.toArray ++ news.toArray ++ Builtin.zeroCells zv.cells (grownCap w (xs.length + ys.length) cap e - (xs.length + ys.length))) e)) := (drew_below w).alloc (Nat.le_refl _) _
    obtain ⟨γ', D', i1, i2⟩ := h.newTip k (E := e) (fr := (0, 0)) hIn hvs (by rw [hlen]; exact hge) hbl (by simp) (heap_alloc_new w.drew _) (fun o' ho' => by
      generalize olds.toArray ++ news.toArray ++ Builtin.zeroCells zv.cells (grownCap w (xs.length + ys.length) cap e - (xs.length + ys.length)) = VS
      have hh : (w.drew.alloc (.cells VS e)).heap[w.heap.size]? = some (.cells VS e (0, 0)) := heap_alloc_new w.drew _
      unfold World.frozen?
      simp only [hh]
      simp)
    rw [hlen] at i2
    exact gives_chain i1 i2 (hexec (by rw [ev]; exact hrun))

theorem sound_append (hT : TbOk P tb) {o : Oper} (h : Inv c γ D st a w) {t u : Nat} {x y : Operand} (ho : o.op = .call { callee := .builtin .append, args := #[x, y], argTypes := #[t, u] }) {ti te : TI} {e : Nat} (hti : find t tb = some ti) (hk : ti.k = .sl e) (hte : find e tb = some te)
    {sy : Nat} {ys : List AV} (hsrc : srcA tb st u (st.ev y) = some (sy, ys)) {d : Nat} {v : AV} {g : List (Nat × Nat)} (hv : appendA st d te (st.ev x) ys sy = some (v, g)) : Gives P c o a w (({ st with g := g } : St).put o.dst v) := by
  have hx := h.ev x
  have cx := st.ev_isCur x
  generalize st.ev x = X at hx hv cx
  unfold appendA at hv
  split at hv
  · rename_i hc
    obtain ⟨rfl, hsz, hzl, hzd⟩ := hc
    obtain ⟨z, hz⟩ := Option.isSome_iff_exists.1 hzd
    split at hv
    · rename_i s xs
      split at hv
      · rename_i hc2
        obtain ⟨hs, hfit, h63⟩ := hc2
        simp only [Option.some.injEq, Prod.mk.injEq] at hv
        obtain ⟨rfl, rfl⟩ := hv
        obtain ⟨A, cap, ev, h1, h2, h3⟩ := inv_sl (show RepD w D _ _ from hx)
        have hR : RepD w D (.sl te.sz false xs) (a.eval x) := by
          rw [ev]
          refine mk_sl h1 (by simp) ?_
          rcases hs with rfl | rfl
          · exact h3
          · exact .inl rfl
        exact sound_append_core hT h ho hti hk hte hsrc hsz hzl hz hR ⟨A, cap, ev, .inl (h2 rfl)⟩ (of_decide_eq_true hfit) h63
      · simp at hv
    · rename_i k g' s xs
      split at hv
      · rename_i hc2
        obtain ⟨rfl, hfit, h63⟩ := hc2
        simp only [Option.some.injEq, Prod.mk.injEq] at hv
        obtain ⟨rfl, rfl⟩ := hv
        exact sound_append_core hT h ho hti hk hte hsrc hsz hzl hz hx.2.1 (hx.2.2 cx) (of_decide_eq_true hfit) h63
      · simp at hv
    · simp at hv
  · simp at hv

end
end Go.AM
