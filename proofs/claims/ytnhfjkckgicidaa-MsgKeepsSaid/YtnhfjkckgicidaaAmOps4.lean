/- Soundness, operation by operation (4): index, addresses, loads, conversions, len. -/
import Derived.Test.YtnhfjkckgicidaaAmOps3
set_option linter.unusedVariables false
set_option linter.unusedSimpArgs false
namespace Go.AM
section
variable {P : Program} {c : Ctx} {γ : Gh} {D : Dead} {st : St} {a : Act} {w : World} {tb : Tb}

theorem bytes_get (s : ByteArray) (i : Nat) : s[i]? = s.data.toList[i]? := by
  rw [Array.getElem?_toList]
  by_cases h : i < s.size
  · rw [getElem?_pos s i h, Array.getElem?_eq_getElem (show i < s.data.size from h)]
    rfl
  · rw [getElem?_neg s i h, Array.getElem?_eq_none (show s.data.size ≤ i from Nat.le_of_not_lt h)]

theorem sound_index_str {o : Oper} (h : Inv c γ D st a w) {t : Nat} {x i : Operand} (ho : o.op = .index t x i) (hu : P.underlying t = some .string) {s : List UInt8} {k : IntKind} {n : Int} (hx : st.ev x = .str s) (hi : st.ev i = .int k n) (h0 : 0 ≤ n) {b : UInt8} (hb : s[n.toNat]? = some b) :
    Gives P c o a w (st.put o.dst (.int .u8 b.toNat)) := by
  obtain ⟨sb, e, hs⟩ := inv_str (hx ▸ h.ev x)
  have ei := inv_int (hi ▸ h.ev i)
  refine gives_put h (cv := .int .u8 b.toNat) (.of (.int _ _)) ?_
  have hb' : sb[n.toNat]? = some b := by rw [bytes_get, hs, hb]
  simp [execOp, ho, e, ei, Instr.index, asIntOf, run_underlying' w hu, h0, hb']

/-- A part of a struct value. -/
theorem part_sound {t : Nat} {ti : TI} (ht : tyOf P t = some ti) {cs : List AV} {vs : Array Value} (hn : vs.size = cs.length) (h1 : ∀ c ∈ cs, c.cell1 = true) (hh : ∀ (i : Nat) (c : AV) (v : Value), cs[i]? = some c → vs[i]? = some v → RepD w D c v) {off : Nat} {v : AV} (hp : partOf ti cs off = some v) :
    ∃ cv, (part t vs off).run P w = .ok cv w ∧ RepV γ w D st v cv := by
  unfold partOf at hp
  unfold part
  simp only [Sem.run_bind, ty_agg ht, Result.andThen_ok]
  split at hp
  · rename_i hagg
    split at hp
    · rename_i hle
      split at hp
      · rename_i l hl
        simp only [Option.some.injEq] at hp
        subst hp
        obtain ⟨hl1, hl2⟩ := datAll_spec hl
        have hlen : l.length = ti.sz := by rw [hl1, List.length_take, List.length_drop]; omega
        have hget : ∀ (i : Nat), i < ti.sz → ∃ c, cs[off + i]? = some c ∧ ∃ d, l[i]? = some d ∧ c.dat = some d := by
          intro i hi
          have hlt : off + i < cs.length := by omega
          obtain ⟨d, hd1, hd2⟩ := hl2 i cs[off + i] (by simp [List.getElem?_take, List.getElem?_drop, hi, List.getElem?_eq_getElem hlt])
          exact ⟨_, List.getElem?_eq_getElem hlt, d, hd1, hd2⟩
        refine ⟨.agg (vs.extract off (off + ti.sz)), by simp [hagg, ty_size ht], .of (.agg _ _ ?_ (fun c hc => ?_) (fun i c v hi hj => ?_))⟩
        · simp [hlen]; omega
        · obtain ⟨i, hi⟩ := List.getElem?_of_mem hc
          have hi' : i < l.length := (List.getElem?_eq_some_iff.1 hi).1
          obtain ⟨c', h2, d, h3, h4⟩ := hget i (by omega)
          rw [hi] at h3
          simp only [Option.some.injEq] at h3
          subst h3
          exact dat_cell1 h4 (h1 c' (List.mem_of_getElem? h2))
        · have hi' : i < l.length := (List.getElem?_eq_some_iff.1 hi).1
          obtain ⟨c', h2, d, h3, h4⟩ := hget i (by omega)
          rw [hi] at h3
          simp only [Option.some.injEq] at h3
          subst h3
          have hv : vs[off + i]? = some v := by
            rw [Array.getElem?_extract] at hj
            split at hj
            · exact hj
            · simp at hj
          exact RepV.dat (γ := γ) (st := st) (.of (hh _ _ _ h2 hv)) h4
      · simp at hp
    · simp at hp
  · rename_i hagg
    have hlt : off < cs.length := (List.getElem?_eq_some_iff.1 hp).1
    have hv : vs[off]? = some vs[off] := Array.getElem?_eq_getElem (by omega)
    exact ⟨vs[off], by simp [hagg, hv], .of (hh _ _ _ hp hv)⟩

theorem sound_index_arr (hT : TbOk P tb) {o : Oper} (h : Inv c γ D st a w) {t : Nat} {x i : Operand} (ho : o.op = .index t x i) {n e : Nat} (hu : P.underlying t = some (.array n e)) {te : TI} (hte : find e tb = some te) {cs : List AV} {k : IntKind} {m : Int}
    (hx : st.ev x = .agg cs) (hi : st.ev i = .int k m) (h0 : 0 ≤ m) (h1 : m < n) {v : AV} (hp : partOf te cs (m.toNat * te.sz) = some v) : Gives P c o a w (st.put o.dst v) := by
  obtain ⟨vs, e, hn, hc1, hh⟩ := inv_agg (hx ▸ h.ev x)
  have ei := inv_int (hi ▸ h.ev i)
  obtain ⟨cv, hr, hv⟩ := part_sound (γ := γ) (st := st) (hT _ _ hte) hn hc1 hh hp
  refine gives_put h hv ?_
  simp [execOp, ho, e, ei, Instr.index, asIntOf, run_underlying' w hu, h0, h1, ty_size (hT _ _ hte), hr]

theorem sound_field (hT : TbOk P tb) {o : Oper} (h : Inv c γ D st a w) {s f : Nat} {x : Operand} (ho : o.op = .field s x f) {ti : TI} (ht : find s tb = some ti) {fs : List (Nat × Nat)} (hk : ti.k = .struct fs) {off ft : Nat} (hf : fs[f]? = some (off, ft)) {cs : List AV} (hx : st.ev x = .agg cs)
    {tf : TI} (htf : find ft tb = some tf) {v : AV} (hp : partOf tf cs off = some v) : Gives P c o a w (st.put o.dst v) := by
  obtain ⟨arr, hu, hfs, hsz⟩ := ty_struct (hT _ _ ht) hk
  obtain ⟨fl, hfl, e1⟩ : ∃ fl, arr[f]? = some fl ∧ (fl.offset, fl.type) = (off, ft) := by
    rw [hfs, List.getElem?_map, Array.getElem?_toList, Option.map_eq_some_iff] at hf
    exact hf
  obtain ⟨e2, e3⟩ := Prod.mk.inj e1
  obtain ⟨vs, e, hn, hc1, hh⟩ := inv_agg (hx ▸ h.ev x)
  obtain ⟨cv, hr, hv⟩ := part_sound (γ := γ) (st := st) (hT _ _ htf) hn hc1 hh hp
  refine gives_put h hv ?_
  simp [execOp, ho, e, Instr.field, run_underlying' w hu, hfl, e2, e3, asAgg, Go.asAgg, hr]

theorem sound_indexAddr (hT : TbOk P tb) {o : Oper} (h : Inv c γ D st a w) {t : Nat} {x i : Operand} (ho : o.op = .indexAddr t x i) {k : IntKind} {n : Int} (hi : st.ev i = .int k n) {v : AV} (hv : indexAddrA tb st t (st.ev x) n = some v) : Gives P c o a w (st.put o.dst v) := by
  have ei := inv_int (hi ▸ h.ev i)
  have hx := h.ev x
  have cx := st.ev_isCur x
  generalize st.ev x = X at hx hv cx
  unfold indexAddrA at hv
  split at hv
  · rename_i e sz by_ z hti
    have hu := ty_sl (hT _ _ hti) rfl
    have hrun : ∀ (s : Nat) (full : Bool) (xs : List AV) (te : TI) (el : AV), find e tb = some te → s = te.sz ∧ 0 ≤ n → xs[n.toNat]? = some el → RepD w D (.sl s full xs) (a.eval x) → Gives P c o a w (st.put o.dst (.rp s el 0)) := by
      intro s full xs te el hte hc hel hD
      obtain ⟨hs, h0⟩ := hc
      have h1 : n < xs.length := by have := (List.getElem?_eq_some_iff.1 hel).1; omega
      obtain ⟨A, cap, ev, _, _, h3⟩ := inv_sl hD
      rcases h3 with h3 | ⟨b, o', f, rfl, hE⟩
      · subst h3; simp at h1; omega
      · refine gives_put h (cv := .pointer (some ⟨b, (o' + n.toNat * s) + 0, none⟩)) (.of (.rp s el 0 b (o' + n.toNat * s) (f n.toNat) (hE.1 _ _ hel) (fun j c hj => ?_) (fun j c hj => hE.2.2 _ _ j c hel hj))) ?_
        · have := hE.2.1 _ _ j c hel hj
          rw [Nat.add_assoc]
          exact this
        · subst hs
          simp [execOp, ho, ev, ei, Instr.indexAt, asIntOf, run_underlying' w hu, h0, h1, ty_size (hT _ _ hte), addr_add]
    split at hv
    · rename_i te s full xs hte
      split at hv
      · rename_i hc
        split at hv
        · rename_i el hel
          simp only [Option.some.injEq] at hv
          subst hv
          exact hrun s full xs te el hte hc hel hx
        · simp at hv
      · simp at hv
    · rename_i te k' g' s xs hte
      split at hv
      · rename_i hc
        split at hv
        · rename_i el hel
          simp only [Option.some.injEq] at hv
          subst hv
          exact hrun s false xs te el hte hc hel hx.2.1
        · simp at hv
      · simp at hv
    · rename_i te k' g' hte
      split at hv
      · rename_i hs
        split at hv
        · rename_i xs hr
          split at hv
          · rename_i hc
            obtain ⟨h0, h1⟩ := hc
            simp only [Option.some.injEq] at hv
            subst hv
            have ev := hx.2 cx xs hr
            refine gives_put h (v := .rowp k' g' n.toNat) (cv := .pointer (some ⟨γ.rw k', n.toNat, none⟩)) ⟨hx.1, fun _ => rfl⟩ ?_
            simp [execOp, ho, ev, ei, Instr.indexAt, asIntOf, run_underlying' w hu, h0, h1, ty_size (hT _ _ hte), addr_add, hs]
          · simp at hv
        · simp at hv
      · simp at hv
    · simp at hv
  · rename_i m e sz by_ z hti
    have hu := ty_arr (hT _ _ hti) rfl
    split at hv
    · rename_i te k' g' off hte
      split at hv
      · rename_i hc
        obtain ⟨h0, h1⟩ := hc
        simp only [Option.some.injEq] at hv
        subst hv
        have ev := inv_ptr hx cx
        refine gives_put h (v := .ptr k' g' (off + n.toNat * te.sz)) (cv := .pointer (some ⟨γ.bx k', off + n.toNat * te.sz, none⟩)) ⟨hx.1, fun _ => rfl⟩ ?_
        simp [execOp, ho, ev, ei, Instr.indexAt, asIntOf, run_underlying' w hu, h0, h1, ty_size (hT _ _ hte), addr_add, Instr.sureAddr]
      · simp at hv
    · rename_i te s el off hte
      split at hv
      · rename_i hc
        obtain ⟨h0, h1⟩ := hc
        simp only [Option.some.injEq] at hv
        subst hv
        obtain ⟨b, o', f, ev, hs, hc', hr⟩ := inv_rp hx
        refine gives_put h (v := .rp s el (off + n.toNat * te.sz)) (cv := .pointer (some ⟨b, o' + (off + n.toNat * te.sz), none⟩)) (.of (.rp _ _ _ _ _ f hs hc' hr)) ?_
        simp [execOp, ho, ev, ei, Instr.indexAt, asIntOf, run_underlying' w hu, h0, h1, ty_size (hT _ _ hte), addr_add, Instr.sureAddr, Nat.add_assoc]
      · simp at hv
    · simp at hv
  · simp at hv

end
end Go.AM
