/- Soundness, operation by operation (5): loads, conversions, len. -/
import Derived.Test.YtnhfjkckgicidaaAmOps4
set_option linter.unusedVariables false
set_option linter.unusedSimpArgs false
namespace Go.AM
section
variable {P : Program} {c : Ctx} {γ : Gh} {D : Dead} {st : St} {a : Act} {w : World} {tb : Tb}

theorem Inv.logs (h : Inv c γ D st a w) (rd wr : List Nat) : Inv c γ D { st with rd := rd, wr := wr } a w := by
  have hg : ∀ k, St.gen { st with rd := rd, wr := wr } k = st.gen k := fun _ => rfl
  exact ⟨h.nt, h.dfr, fun t => RepV.st (st := st) hg rfl (h.tm t), fun k cs hk => by
    obtain ⟨h1, vs, E, h2, h3, h4⟩ := h.bx k cs hk
    exact ⟨h1, vs, E, h2, h3, fun i c v hi hj => ⟨RepV.st (st := st) hg rfl (h4 i c v hi hj).1, (h4 i c v hi hj).2⟩⟩, h.rw, h.own, h.live, h.fr, h.dold, h.dlt, h.pk⟩

theorem cur_cell1 {v : AV} (h : v = .undef ∨ v.cell1 = true) : st.cur v = .undef ∨ (st.cur v).cell1 = true := by
  cases v <;> first | exact h | (exfalso; simp [AV.cell1] at h; done) | (simp only [St.cur]; split <;> first | exact .inr rfl | exact .inl rfl)

theorem cell_of_block {b j : Nat} {vs : Array Value} {E : Nat} {fr : Nat × Nat} (h : w.heap[b]? = some (.cells vs E fr)) : w.cell? ⟨b, j, none⟩ = vs[j]? := by
  simp [World.cell?, h]

theorem load_core (hT : TbOk P tb) (h : Inv c γ D st a w) {t : Nat} {x : Operand} {draw : Bool} {v : AV} {rd : List Nat} (hv : loadA tb draw st t (st.ev x) = some (v, rd)) : ∃ A cv, a.eval x = .pointer (some A) ∧ (loadVar t A).run P w = .ok cv w ∧ RepV γ w D st v cv := by
  have hx := h.ev x
  have cx := st.ev_isCur x
  generalize st.ev x = X at hx hv cx
  unfold loadA at hv
  split at hv
  · simp at hv
  rename_i ti hti
  have ht := hT _ _ hti
  split at hv
  · rename_i k g off
    split at hv
    · split at hv
      · rename_i cs hcs
        split at hv
        · rename_i v' hp
          simp only [Option.some.injEq, Prod.mk.injEq] at hv
          obtain ⟨rfl, rfl⟩ := hv
          obtain ⟨_, vs, E, h2, h3, h4⟩ := h.bx k cs hcs
          obtain ⟨cv, hr, hR, _⟩ := load_view (P := P) (w := w) (D := D) (γ := γ) (st := st) ht (cs := cs.map st.cur) (f := fun j => vs.getD j Go.undef) (b := γ.bx k) (base := 0) (off := off) (av := v') (fun j c' hj => by
            rw [List.getElem?_map, Option.map_eq_some_iff] at hj
            obtain ⟨c0, hj0, rfl⟩ := hj
            have hlt : j < vs.size := by rw [h3]; exact (List.getElem?_eq_some_iff.1 hj0).1
            obtain ⟨r1, r2⟩ := h4 j c0 vs[j] hj0 (Array.getElem?_eq_getElem hlt)
            have e : vs.getD j Go.undef = vs[j] := by simp [hlt]
            simp only [e]
            exact ⟨by rw [Nat.zero_add, cell_of_block h2, Array.getElem?_eq_getElem hlt], r1.cur, cur_cell1 r2⟩) hp
          rw [Nat.zero_add] at hr
          exact ⟨_, cv, inv_ptr hx cx, hr, hR⟩
        · simp at hv
      · simp at hv
    · simp at hv
  · rename_i s e j
    obtain ⟨b, o', f, ev, hs, hc, hr⟩ := inv_rp hx
    split at hv
    · rename_i hcond
      simp only [Bool.and_eq_true, beq_iff_eq] at hcond
      obtain ⟨⟨hagg, hj0⟩, hsz⟩ := hcond
      split at hv
      · rename_i cs
        simp only [Option.some.injEq, Prod.mk.injEq] at hv
        obtain ⟨rfl, rfl⟩ := hv
        subst hj0
        have hlen : cs.length = ti.sz := by rw [hsz]; exact hs
        have hrun : (loadCells ⟨b, o' + 0, none⟩ ti.sz).run P w = .ok ((List.range ti.sz).map fun j => f j).toArray w :=
          run_loadCells w _ _ (fun j => f j) fun j hj => by
            rw [addr_add, Nat.add_zero]
            have hlt : j < cs.length := by omega
            exact (hc j cs[j] (List.getElem?_eq_getElem hlt)).2.2
        refine ⟨_, .agg ((List.range ti.sz).map fun j => f j).toArray, ev, ?_, .of (.agg _ _ (by simp [hlen]) (fun c' hc' => ?_) (fun m c' v' hm hm' => ?_))⟩
        · simp only [loadVar, Sem.run_bind, ty_agg ht, hagg, Result.andThen_ok, if_true, ty_size ht, hrun, Sem.run_pure]
        · obtain ⟨m, hm⟩ := List.getElem?_of_mem hc'
          exact (hc m c' hm).1
        · have hlt : m < ti.sz := by rw [← hlen]; exact (List.getElem?_eq_some_iff.1 hm).1
          have : v' = f m := by simp [hlt] at hm'; exact hm'.symm
          subst this
          exact hr m c' hm
      · simp at hv
    · split at hv
      · rename_i v' hp
        split at hv
        case isFalse => simp at hv
        simp only [Option.some.injEq, Prod.mk.injEq] at hv
        obtain ⟨rfl, rfl⟩ := hv
        obtain ⟨cv, hrun, hR, _⟩ := load_view (P := P) (w := w) (D := D) (γ := γ) (st := st) ht (cs := e.cells) (f := f) (b := b) (base := o') (off := j) (av := v') (fun j' c' hj' => by
          obtain ⟨q1, q2, q3⟩ := hc j' c' hj'
          exact ⟨q3, .of (hr j' c' hj'), .inr q1⟩) hp
        exact ⟨_, cv, ev, hrun, hR⟩
      · simp at hv
  · rename_i k g i
    split at hv
    · rename_i hagg
      split at hv
      · rename_i xs hxs
        split at hv
        · rename_i v' hp
          split at hv
          case isFalse => simp at hv
          simp only [Option.some.injEq, Prod.mk.injEq] at hv
          obtain ⟨rfl, rfl⟩ := hv
          obtain ⟨_, vs, E, h2, h3, h4⟩ := h.rw k xs hxs
          have hlt : i < vs.size := by rw [h3]; exact (List.getElem?_eq_some_iff.1 hp).1
          have hagg' : ti.isAgg = false := by simpa using hagg
          refine ⟨_, vs[i], hx.2 cx, ?_, .of (h4 i v' vs[i] hp (Array.getElem?_eq_getElem hlt)).1⟩
          simp [loadVar, ty_agg ht, hagg', cell_of_block h2, hlt]
        · simp at hv
      · simp at hv
    · simp at hv
  · simp at hv

/-- The elements of a slice. -/
theorem sound_load (hT : TbOk P tb) {o : Oper} (h : Inv c γ D st a w) {t : Nat} {x : Operand} (ho : o.op = .load t x) {draw : Bool} {v : AV} {rd : List Nat} (hv : loadA tb draw st t (st.ev x) = some (v, rd)) : Gives P c o a w ({ st with rd := rd }.put o.dst v) := by
  obtain ⟨A, cv, h1, h2, h3⟩ := load_core hT h hv
  exact gives_put (st := { st with rd := rd }) (h.logs rd st.wr) (RepV.st (st := st) (fun _ => rfl) rfl h3) (by simp [execOp, ho, h1, Instr.loadAt, Instr.sureAddr, h2])

theorem inv_elems (h : Inv c γ D st a w) {X : AV} {V : Value} (hx : RepV γ w D st X V) (cx : st.isCur X) {s : Nat} {xs : List AV} (he : st.elems X = some (s, xs)) :
    ∃ A cap, V = .slice A xs.length cap ∧ xs.length ≤ cap ∧ (xs = [] ∨ ∃ b o, A = some ⟨b, o, none⟩ ∧ (∀ (i : Nat) (e : AV), xs[i]? = some e → e.cells.length = s) ∧
      ∃ f : Nat → Nat → Value, ∀ (i : Nat) (e : AV) (j : Nat) (c : AV), xs[i]? = some e → e.cells[j]? = some c → c.cell1 = true ∧ w.cell? ⟨b, o + (i * s + j), none⟩ = some (f i j) ∧ RepD w D c (f i j)) := by
  unfold St.elems at he
  split at he <;> try simp only [Option.some.injEq, Prod.mk.injEq, reduceCtorEq] at he
  · obtain ⟨rfl, rfl⟩ := he
    obtain ⟨A, cap, ev, h1, _, h3⟩ := inv_sl hx
    refine ⟨A, cap, ev, h1, h3.imp id ?_⟩
    rintro ⟨b, o, f, e, hE⟩
    exact ⟨b, o, e, hE.1, f, fun i e j c hi hj => ⟨(hE.2.1 i e j c hi hj).1, (hE.2.1 i e j c hi hj).2.2, hE.2.2 i e j c hi hj⟩⟩
  · obtain ⟨rfl, rfl⟩ := he
    obtain ⟨A, cap, ev, h1, _, h3⟩ := inv_sl hx.2.1
    refine ⟨A, cap, ev, h1, h3.imp id ?_⟩
    rintro ⟨b, o, f, e, hE⟩
    exact ⟨b, o, e, hE.1, f, fun i e j c hi hj => ⟨(hE.2.1 i e j c hi hj).1, (hE.2.1 i e j c hi hj).2.2, hE.2.2 i e j c hi hj⟩⟩
  · rename_i k g
    split at he <;> simp only [Option.some.injEq, Prod.mk.injEq, reduceCtorEq] at he
    rename_i ys hr
    obtain ⟨rfl, rfl⟩ := he
    obtain ⟨_, vs, E, h2, h3, h4⟩ := h.rw k ys hr
    refine ⟨_, _, hx.2 cx ys hr, Nat.le_refl _, .inr ⟨_, 0, rfl, fun i e hi => ?_, fun i _ => vs.getD i Go.undef, fun i e j c' hi hj => ?_⟩⟩
    · have hlt : i < vs.size := by rw [h3]; exact (List.getElem?_eq_some_iff.1 hi).1
      have hc1 := (h4 i e vs[i] hi (Array.getElem?_eq_getElem hlt)).2
      cases e <;> first | rfl | simp [AV.cell1] at hc1
    · have hlt : i < vs.size := by rw [h3]; exact (List.getElem?_eq_some_iff.1 hi).1
      have hc1 := (h4 i e vs[i] hi (Array.getElem?_eq_getElem hlt)).2
      have hce : e.cells = [e] := by cases e <;> first | rfl | simp [AV.cell1] at hc1
      rw [hce] at hj
      cases j with
      | zero =>
        simp at hj
        subst hj
        refine ⟨hc1, ?_, ?_⟩
        · simp [cell_of_block h2, hlt]
        · simp only [Array.getD_eq_getD_getElem?, Array.getElem?_eq_getElem hlt, Option.getD_some]
          exact (h4 i e vs[i] hi (Array.getElem?_eq_getElem hlt)).1
      | succ j => simp at hj

theorem sound_len (hT : TbOk P tb) {o : Oper} (h : Inv c γ D st a w) {t : Nat} {x : Operand} (ho : o.op = .call { callee := .builtin .len, args := #[x], argTypes := #[t] }) {v : AV} (hv : lenA tb st t (st.ev x) = some v) : Gives P c o a w (st.put o.dst v) := by
  have hx := h.ev x
  have cx := st.ev_isCur x
  suffices hs : ∃ cv, (Builtin.len_ #[t] o.type #[a.eval x]).run P w = .ok cv w ∧ RepV γ w D st v cv by
    obtain ⟨cv, h1, h2⟩ := hs
    exact gives_put h h2 (by simp [execOp, ho, resolve, invoke, builtin, h1])
  generalize st.ev x = X at hx hv cx
  unfold lenA at hv
  split at hv
  · simp at hv
  rename_i ti hti
  have ht := hT _ _ hti
  split at hv
  · rename_i s hk
    simp only [Option.some.injEq] at hv
    subst hv
    obtain ⟨sb, ev, hs⟩ := inv_str hx
    have hsz : sb.size = s.length := by rw [← hs, Array.length_toList]; rfl
    exact ⟨_, by simp [Builtin.len_, run_underlying' w (ty_str ht hk), ev, goInt, hsz], .of (.int _ _)⟩
  · rename_i e hk
    split at hv
    · rename_i s xs he
      simp only [Option.some.injEq] at hv
      subst hv
      obtain ⟨A, cap, ev, _⟩ := inv_elems h hx cx he
      exact ⟨_, by simp [Builtin.len_, run_underlying' w (ty_sl ht hk), ev, goInt], .of (.int _ _)⟩
    · simp at hv
  · rename_i n e hk
    simp only [Option.some.injEq] at hv
    subst hv
    exact ⟨_, by simp [Builtin.len_, run_underlying' w (ty_arr ht hk), goInt], .of (.int _ _)⟩
  · simp at hv

theorem sound_min {o : Oper} (h : Inv c γ D st a w) {x y : Operand} {ts : Array Nat} (ho : o.op = .call { callee := .builtin .min, args := #[x, y], argTypes := ts }) {k k' : IntKind} {m n : Int} (hx : st.ev x = .int k m) (hy : st.ev y = .int k' n) :
    Gives P c o a w (st.put o.dst (.int k (if n < m then n else m))) := by
  have ex := inv_int (hx ▸ h.ev x)
  have ey := inv_int (hy ▸ h.ev y)
  exact gives_put h (.of (.int _ _)) (by simp [execOp, ho, resolve, invoke, builtin, Builtin.min_, Builtin.min2, ex, ey])
theorem sound_max {o : Oper} (h : Inv c γ D st a w) {x y : Operand} {ts : Array Nat} (ho : o.op = .call { callee := .builtin .max, args := #[x, y], argTypes := ts }) {k k' : IntKind} {m n : Int} (hx : st.ev x = .int k m) (hy : st.ev y = .int k' n) :
    Gives P c o a w (st.put o.dst (.int k (if n > m then n else m))) := by
  have ex := inv_int (hx ▸ h.ev x)
  have ey := inv_int (hy ▸ h.ev y)
  exact gives_put h (.of (.int _ _)) (by simp [execOp, ho, resolve, invoke, builtin, Builtin.max_, Builtin.max2, ex, ey])

end
end Go.AM
