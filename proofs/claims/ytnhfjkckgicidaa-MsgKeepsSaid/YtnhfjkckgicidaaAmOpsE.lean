/- Soundness, operation by operation (14): make. -/
import Derived.Test.YtnhfjkckgicidaaAmOpsD
set_option linter.unusedVariables false
set_option linter.unusedSimpArgs false
namespace Go.AM
open Go.RowKit Go.Lib
section
variable {P : Program} {c : Ctx} {γ : Gh} {D D' : Dead} {st : St} {a : Act} {w w' : World} {tb : Tb}

theorem run_make {t e : Nat} {i : TypeInfo} {z : Value} (hu : P.underlying t = some (.slice e)) (hi : P.info? e = some i) (hz : i.zero = some z) (n : Nat) (kl kc : IntKind) (h63 : n ≤ 9223372036854775807) (hb : n * i.bytes ≤ 140737488355328) :
    (Instr.makeSlice t (.int kl n) (.int kc n)).run P w = .ok (.slice (some ⟨w.heap.size, 0, none⟩) n n) (w.alloc (.cells ((Array.range (n * i.size)).map (z.cells[· % z.cells.size]!)) e)) := by
  have hw : IntKind.i64.wrap (n : Int) = n := IntWalk.i64_in _ (by omega)
  have hnn : ¬ ((n : Int) < 0) := by omega
  have hmul : (i.bytes : Int) * (n : Int) ≤ 140737488355328 := by
    have h1 : ((n * i.bytes : Nat) : Int) = (i.bytes : Int) * (n : Int) := by rw [Int.natCast_mul, Int.mul_comm]
    rw [← h1]
    generalize n * i.bytes = q at hb
    omega
  have hbig : ¬ (281474976710656 < (i.bytes : Int) * (n : Int)) := by omega
  have hlt : ¬ ((n : Int) > (n : Int)) := by omega
  simp [Instr.makeSlice, run_underlying' w hu, Go.asInt, asIntOf, run_typeInfo' w hi, hw, hnn, hbig, sizeOf, zeroValue, hz, newRow]
  by_cases h0 : n * i.size = 0
  · simp [h0, show Array.range 0 = (#[] : Array Nat) from rfl]
  · simp [h0]

theorem Inv.newRw (h : Inv c γ D st a w) (d : Nat) {xs : List AV} {vs : Array Value} (E : Nat) (hn : vs.size = xs.length) (hR : ∀ (i : Nat) (c : AV) (v : Value), xs[i]? = some c → vs[i]? = some v → RepD w D c v ∧ c.cell1 = true) :
    ∃ γ', γ'.rw d = w.heap.size ∧ Inv c γ' D { st with r := AM.put d xs st.r, g := AM.put d (st.gen d + 1) st.g } a (w.alloc (.cells vs E)) := by
  have hb := below_alloc w (.cells vs E)
  have h0 : Inv c γ D st a (w.alloc (.cells vs E)) := h.grow hb (fun _ _ hd => hd) (fun _ _ _ hd => hd) (fun b o hd => Nat.lt_of_lt_of_le (h.dlt b o hd) hb.size)
  have hp : Pres D w (w.alloc (.cells vs E)) := h.pres hb
  refine ⟨{ γ with rw := fun k => if k = d then w.heap.size else γ.rw k, own := fun b => if b = w.heap.size then some (1, d) else γ.own b }, by simp, ?_⟩
  have hV : ∀ {av : AV} {v : Value}, RepV γ (w.alloc (.cells vs E)) D st av v →
      RepV { γ with rw := fun k => if k = d then w.heap.size else γ.rw k, own := fun b => if b = w.heap.size then some (1, d) else γ.own b } (w.alloc (.cells vs E)) D { st with r := AM.put d xs st.r, g := AM.put d (st.gen d + 1) st.g } av v := by
    intro av v hv
    refine RepV.mono (st := st) (st' := { st with r := AM.put d xs st.r, g := AM.put d (st.gen d + 1) st.g }) (fun _ _ _ => rfl) (fun _ _ hd => hd) (fun k' => ?_) (fun k' hk' => ?_) hv
    · rw [gen_putg' st d _ k' st.b _]
      split
      · rename_i e; subst e; omega
      · exact Nat.le_refl _
    · have hne : k' ≠ d := by
        intro e
        subst e
        rw [gen_putg' st k' _ k' st.b _, if_pos rfl] at hk'
        omega
      refine ⟨rfl, by simp [hne], fun zs hz => ⟨zs, by simp only at hz; rw [find_put_ne hne] at hz; exact hz, rfl⟩, fun s' zs v => ?_⟩
      rintro ⟨A, cap', e, hc⟩
      refine ⟨A, cap', e, hc.imp id ?_⟩
      rintro ⟨hA, ho, q1, q2, q4⟩
      have hlt : γ.tp k' < w.heap.size := (h.own _ _ ho).1
      simp only [show ¬ γ.tp k' = w.heap.size by omega, if_false]
      exact ⟨hA, ho, q1, q2, q4⟩
  refine ⟨h0.nt, h0.dfr, fun t => hV (h0.tm t), fun k cs' hk => ?_, fun k zs hk => ?_, fun b q hq => ?_, fun b k ho o hd => ?_, h0.fr, h0.dold, h0.dlt, h0.pk⟩
  · obtain ⟨q1, vs', E', q2, q3, q4⟩ := h0.bx k cs' hk
    have hlt : γ.bx k < w.heap.size := (h.own _ _ q1).1
    refine ⟨by simp only [show ¬ γ.bx k = w.heap.size by omega, if_false]; exact q1, vs', E', q2, q3, fun i c v hi hj => ⟨hV (q4 i c v hi hj).1, (q4 i c v hi hj).2⟩⟩
  · simp only at hk
    by_cases e : k = d
    · subst e
      rw [find_put_same] at hk
      simp only [Option.some.injEq] at hk
      subst hk
      refine ⟨by simp, vs, E, by simpa using heap_alloc_new w (.cells vs E), hn, fun i c v hi hj => ⟨(hR i c v hi hj).1.mono hp (fun _ _ hd => hd), (hR i c v hi hj).2⟩⟩
    · rw [find_put_ne e] at hk
      obtain ⟨q1, vs', E', q2, q3, q4⟩ := h0.rw k zs hk
      have hlt : γ.rw k < w.heap.size := (h.own _ _ q1).1
      exact ⟨by simp only [e, if_false, show ¬ γ.rw k = w.heap.size by omega]; exact q1, vs', E', by simp only [e, if_false]; exact q2, q3, q4⟩
  · simp only at hq
    split at hq
    · rename_i e
      subst e
      exact ⟨by simp, .inl h.fr.size⟩
    · exact h0.own b q hq
  · simp only at ho
    split at ho
    · rename_i e
      subst e
      have := h.dlt _ _ hd
      omega
    · exact h0.live b k ho o hd

theorem sound_make_data (hT : TbOk P tb) {o : Oper} (h : Inv c γ D st a w) {t : Nat} {l m : Operand} (ho : o.op = .makeSlice t l m) {ti te : TI} {e : Nat} (hti : find t tb = some ti) (hk : ti.k = .sl e) (hte : find e tb = some te) {kl kc : IntKind} {n : Int} (hl : st.ev l = .int kl n) (hm : st.ev m = .int kc n) (h0 : 0 ≤ n) (h63 : n ≤ 9223372036854775807)
    (hb : n.toNat * te.bytes ≤ 140737488355328) (hzl : te.z.cells.length = te.sz) {z : AV} (hz : te.z.dat = some z) : Gives P c o a w (st.put o.dst (.sl te.sz true (List.replicate n.toNat z))) := by
  have hu := ty_sl (hT _ _ hti) hk
  obtain ⟨ie, zv, hie, hzv, hs, hby, hzr⟩ := ty_zero' (hT _ _ hte) hz
  have hzl' : z.cells.length = te.sz := by rw [dat_cells_len hz, hzl]
  have el := inv_int (hl ▸ h.ev l)
  have em := inv_int (hm ▸ h.ev m)
  have hn : (n.toNat : Int) = n := Int.toNat_of_nonneg h0
  have hrun := run_make (P := P) (w := w) hu hie hzv n.toNat kl kc (by omega) (by rw [hby]; exact hb)
  rw [hn, hs] at hrun
  have hrow := zeroRow (w := w) (D := D) (hzr γ w D st).cells hzl' n.toNat
  refine gives_alloc h (hrow.rep h e) ?_
  rw [List.length_replicate]
  simp [execOp, ho, el, em, hrun]

theorem sound_make_row (hT : TbOk P tb) {o : Oper} (h : Inv c γ D st a w) {t : Nat} {l m : Operand} (ho : o.op = .makeSlice t l m) {ti te : TI} {e : Nat} (hti : find t tb = some ti) (hk : ti.k = .sl e) (hte : find e tb = some te) {kl kc : IntKind} {n : Int} (hl : st.ev l = .int kl n) (hm : st.ev m = .int kc n) (h0 : 0 ≤ n) (h63 : n ≤ 9223372036854775807)
    (hb : n.toNat * te.bytes ≤ 140737488355328) {z : AV} (hz : te.z.dat = some z) (hz1 : z.cell1 = true) (hs1 : te.sz = 1) {d : Nat} :
    Gives P c o a w (({ st with r := AM.put d (List.replicate n.toNat z) st.r, g := AM.put d (st.gen d + 1) st.g } : St).put o.dst (.row d (st.gen d + 1))) := by
  have hu := ty_sl (hT _ _ hti) hk
  obtain ⟨ie, zv, hie, hzv, hs, hby, hzr⟩ := ty_zero' (hT _ _ hte) hz
  have el := inv_int (hl ▸ h.ev l)
  have em := inv_int (hm ▸ h.ev m)
  have hn : (n.toNat : Int) = n := Int.toNat_of_nonneg h0
  have hrun := run_make (P := P) (w := w) hu hie hzv n.toNat kl kc (by omega) (by rw [hby]; exact hb)
  rw [hn, hs, hs1, Nat.mul_one] at hrun
  have hc1 : z.cells = [z] := by cases z <;> first | rfl | simp [AV.cell1] at hz1
  have hrow := zeroRow (w := w) (D := D) (s := 1) (hzr γ w D st).cells (by rw [hc1]; rfl) n.toNat
  rw [Nat.mul_one] at hrow
  obtain ⟨γ', e1, h'⟩ := h.newRw d (vs := (Array.range n.toNat).map (zv.cells[· % zv.cells.size]!)) (xs := List.replicate n.toNat z) e (by simp) (fun i c' v hi hj => by
    have hcc : c' = z := by
      rw [List.getElem?_replicate] at hi
      split at hi <;> simp at hi
      exact hi.symm
    subst hcc
    have := hrow.2.2 i c' 0 c' v hi (by rw [hc1]; rfl) (by rw [Nat.mul_one, Nat.add_zero]; exact hj)
    exact ⟨this.2, this.1⟩)
  refine ⟨_, _, .inl (by simp [execOp, ho, el, em, hrun]; rfl), γ', D, h'.put (v := .row d (st.gen d + 1)) ⟨by rw [gen_putg' st d _ d st.b _, if_pos rfl]; exact Nat.le_refl _, fun _ xs hx => ?_⟩ o.dst⟩
  simp only at hx
  rw [find_put_same] at hx
  simp only [Option.some.injEq] at hx
  subst hx
  rw [e1, List.length_replicate]

end
end Go.AM
