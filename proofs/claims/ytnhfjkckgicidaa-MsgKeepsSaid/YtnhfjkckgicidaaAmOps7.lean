/- Soundness, operation by operation (7): new memory. -/
import Derived.Test.YtnhfjkckgicidaaAmOps6
import Derived.Great.BuildSlice
set_option linter.unusedVariables false
set_option linter.unusedSimpArgs false
namespace Go.AM
open Go.RowKit

/-- A row of elements, cell by cell. -/
def RowRep (w : World) (D : Dead) (s : Nat) (xs : List AV) (vs : Array Value) : Prop :=
  (∀ (i : Nat) (e : AV), xs[i]? = some e → e.cells.length = s) ∧ vs.size = xs.length * s ∧
  ∀ (i : Nat) (e : AV) (j : Nat) (c : AV) (v : Value), xs[i]? = some e → e.cells[j]? = some c → vs[i * s + j]? = some v → c.cell1 = true ∧ RepD w D c v

section
variable {P : Program} {c : Ctx} {γ : Gh} {D D' : Dead} {st : St} {a : Act} {w w' : World} {tb : Tb}

theorem Inv.pres (h : Inv c γ D st a w) (hb : Below w.heap.size w w') : Pres D w w' := fun b o hd => by
  simp [World.cell?, hb.block b (h.dlt b o hd)]

/-- The world grows: what was there is there. -/
theorem Inv.grow (h : Inv c γ D st a w) (hb : Below w.heap.size w w') (h1 : ∀ b o, D b o → D' b o) (h2 : ∀ b o, b < w.heap.size → D' b o → D b o) (h3 : ∀ b o, D' b o → b < w'.heap.size) : Inv c γ D' st a w' := by
  have hp := h.pres hb
  have hV : ∀ {av : AV} {v : Value}, RepV γ w D st av v → RepV γ w' D' st av v := fun {av v} hv =>
    RepV.mono hp h1 (fun _ => Nat.le_refl _) (fun k _ => ⟨rfl, rfl, fun xs hx => ⟨xs, hx, rfl⟩, fun s xs v => by
      rintro ⟨A, cap, e, hc⟩
      refine ⟨A, cap, e, hc.imp id ?_⟩
      rintro ⟨hA, ho, q1, q2, q4⟩
      have hlt := (h.own _ _ ho).1
      have hbk := hb.block _ hlt
      exact ⟨hA, ho, q1, fun o hlt' => ⟨by rw [World.cell?_of_block (a := ⟨γ.tp k, o, none⟩) hbk]; exact (q2 o hlt').1, by rw [World.frozen?_of_block (a := ⟨γ.tp k, o, none⟩) hbk]; exact (q2 o hlt').2⟩, fun o hd => q4 o (h2 _ _ hlt hd)⟩⟩) hv
  refine ⟨h.nt, h.dfr, fun t => hV (h.tm t), fun k cs hk => ?_, fun k xs hk => ?_, fun b q hq => ⟨Nat.lt_of_lt_of_le (h.own b q hq).1 hb.size, (h.own b q hq).2⟩, fun b k ho o hd => ?_, ?_, fun b o hlt => ?_, h3, h.pk⟩
  · obtain ⟨q1, vs, E, q2, q3, q4⟩ := h.bx k cs hk
    exact ⟨q1, vs, E, (hb.block _ (h.own _ _ q1).1).trans q2, q3, fun i c v hi hj => ⟨hV (q4 i c v hi hj).1, (q4 i c v hi hj).2⟩⟩
  · obtain ⟨q1, vs, E, q2, q3, q4⟩ := h.rw k xs hk
    exact ⟨q1, vs, E, (hb.block _ (h.own _ _ q1).1).trans q2, q3, fun i c v hi hj => ⟨(q4 i c v hi hj).1.mono hp h1, (q4 i c v hi hj).2⟩⟩
  · have hlt : b < w.heap.size := by rcases ho with ho | ho <;> exact (h.own b _ ho).1
    exact h.live b k ho o (h2 b o hlt hd)
  · exact ⟨hb.os.trans h.fr.os, hb.tape.trans h.fr.tape, hb.output.trans h.fr.output, Nat.le_trans h.fr.size hb.size, fun b hlt hn => (hb.block b (Nat.lt_of_lt_of_le hlt h.fr.size)).trans (h.fr.block b hlt hn)⟩
  · have hlt' : b < w.heap.size := Nat.lt_of_lt_of_le hlt h.fr.size
    exact ⟨fun hd => (h.dold b o hlt).1 (h2 b o hlt' hd), fun hd => h1 b o ((h.dold b o hlt).2 hd)⟩

/-- What is dead behind a new block of finished cells. -/
def deadNew (D : Dead) (b n : Nat) : Dead := fun b' o => D b' o ∨ (b' = b ∧ o < n)

theorem below_alloc (w : World) (o : Obj) : Below w.heap.size w (w.alloc o) := (Below.refl _ _).alloc (Nat.le_refl _) o

theorem Inv.newDead (h : Inv c γ D st a w) (vs : Array Value) (E : Nat) : Inv c γ (deadNew D w.heap.size vs.size) st a (w.alloc (.cells vs E)) := by
  refine h.grow (below_alloc w _) (fun b o hd => .inl hd) (fun b o hlt hd => hd.resolve_right (fun hh => by omega)) (fun b o hd => ?_)
  rw [World.size_alloc]
  rcases hd with hd | ⟨rfl, _⟩
  · have := h.dlt b o hd; omega
  · omega

theorem RowRep.rep (h : Inv c γ D st a w) {s : Nat} {xs : List AV} {vs : Array Value} (hr : RowRep w D s xs vs) (E : Nat) :
    RepD (w.alloc (.cells vs E)) (deadNew D w.heap.size vs.size) (.sl s true xs) (.slice (some ⟨w.heap.size, 0, none⟩) xs.length xs.length) := by
  have hidx : ∀ (i : Nat) (e : AV) (j : Nat) (c : AV), xs[i]? = some e → e.cells[j]? = some c → i * s + j < vs.size := by
    intro i e j c hi hj
    have h1 : i < xs.length := (List.getElem?_eq_some_iff.1 hi).1
    have h2 : j < s := by rw [← hr.1 i e hi]; exact (List.getElem?_eq_some_iff.1 hj).1
    rw [hr.2.1]
    calc i * s + j < i * s + s := by omega
      _ = (i + 1) * s := by rw [Nat.add_mul]; simp
      _ ≤ xs.length * s := Nat.mul_le_mul_right _ h1
  refine .sl s true xs w.heap.size 0 xs.length (fun i j => vs.getD (i * s + j) Go.undef) (Nat.le_refl _) (fun _ => rfl) hr.1 (fun i e j c hi hj => ?_) (fun i e j c hi hj => ?_)
  · have hlt := hidx i e j c hi hj
    refine ⟨(hr.2.2 i e j c vs[i * s + j] hi hj (Array.getElem?_eq_getElem hlt)).1, .inr ⟨rfl, by omega⟩, ?_⟩
    rw [Nat.zero_add, World.cell?_alloc_new]
    simp [hlt]
  · have hlt := hidx i e j c hi hj
    have e1 : vs.getD (i * s + j) Go.undef = vs[i * s + j] := by simp [hlt]
    simp only [e1]
    exact (hr.2.2 i e j c vs[i * s + j] hi hj (Array.getElem?_eq_getElem hlt)).2.mono (h.pres (below_alloc w _)) (fun b o hd => .inl hd)

theorem RowRep.set {s : Nat} {xs : List AV} {vs : Array Value} (h : RowRep w D s xs vs) {v : AV} {us : Array Value} (hv : RepL w D v.cells us) (hs : v.cells.length = s) {i : Nat} (hi : i < xs.length) :
    RowRep w D s (xs.set i v) (us.zipIdx.foldl (fun x (y : Value × Nat) => x.setIfInBounds (i * s + y.2) y.1) vs) := by
  have hle : i * s + us.size ≤ vs.size := by
    rw [hv.1, hs, h.2.1]
    calc i * s + s = (i + 1) * s := by rw [Nat.add_mul]; simp
      _ ≤ xs.length * s := Nat.mul_le_mul_right _ hi
  obtain ⟨h1, h2⟩ := array_fold_set us (i * s) vs hle
  refine ⟨fun m e hm => ?_, by rw [h1, List.length_set]; exact h.2.1, fun m e j c x hm hj hx => ?_⟩
  · rw [List.getElem?_set] at hm
    split at hm
    · rename_i e1
      subst e1
      have hm' : v = e := by simpa [hi] using hm
      subst hm'
      exact hs
    · exact h.1 m e hm
  · rw [h2, hv.1, hs] at hx
    rw [List.getElem?_set] at hm
    split at hm
    · rename_i e1
      subst e1
      have hm' : v = e := by simpa [hi] using hm
      subst hm'
      have hj' : j < s := by rw [← hs]; exact (List.getElem?_eq_some_iff.1 hj).1
      rw [if_pos (by omega)] at hx
      have : i * s + j - i * s = j := by omega
      rw [this] at hx
      exact ⟨hv.2.1 c (List.mem_of_getElem? hj), hv.2.2 j c x hj hx⟩
    · rename_i e1
      have hj' : j < s := by rw [← h.1 m e hm]; exact (List.getElem?_eq_some_iff.1 hj).1
      have : ¬ (i * s ≤ m * s + j ∧ m * s + j < i * s + s) := by
        rintro ⟨q1, q2⟩
        rcases Nat.lt_or_gt_of_ne e1 with hlt | hlt
        · have : (i + 1) * s ≤ m * s := Nat.mul_le_mul_right _ hlt
          rw [Nat.add_mul] at this
          omega
        · have : (m + 1) * s ≤ i * s := Nat.mul_le_mul_right _ hlt
          rw [Nat.add_mul] at this
          omega
      rw [if_neg this] at hx
      exact h.2.2 m e j c x hm hj hx

theorem fillElems_sound (h : Inv c γ D st a w) {s : Nat} {z : AV} : ∀ (ps : List (Nat × Operand)) (xs : List AV) (vs : Array Value) (r : List AV), RowRep w D s xs vs → fillElems z s st xs ps = some r →
    ∃ us, Instr.fill (fun i => some (i * s, s)) vs (ps.map fun p => (p.1, a.eval p.2)) = some us ∧ RowRep w D s r us ∧ r.length = xs.length
  | [], xs, vs, r, hR, hf => by
    simp only [fillElems, Option.some.injEq] at hf
    subst hf
    exact ⟨vs, rfl, hR, rfl⟩
  | (i, x) :: ps, xs, vs, r, hR, hf => by
    simp only [fillElems] at hf
    split at hf
    · rename_i v hv
      split at hf
      · rename_i hc
        obtain ⟨c1, c2⟩ := hc
        have hcl := ((h.ev x).dat hv).cells
        obtain ⟨us, h1, h2, h3⟩ := fillElems_sound h ps _ _ _ (hR.set hcl c1 c2) hf
        refine ⟨us, ?_, h2, by rw [h3]; simp⟩
        simp only [List.map_cons, Instr.fill]
        have hle : i * s + s ≤ vs.size := by
          rw [hR.2.1]
          calc i * s + s = (i + 1) * s := by rw [Nat.add_mul]; simp
            _ ≤ xs.length * s := Nat.mul_le_mul_right _ c2
        have e1 : ¬ ((a.eval x).cells.size ≠ s ∨ i * s + (a.eval x).cells.size > vs.size) := by
          rw [hcl.1, c1]; omega
        simp only [Bool.or_eq_true, decide_eq_true_eq]
        rw [if_neg e1]
        exact h1
      · simp at hf
    · simp at hf

/-- A row of zero values. -/
theorem zeroRow {z : AV} {zc : Array Value} {s : Nat} (hz : RepL w D z.cells zc) (hs : z.cells.length = s) (n : Nat) : RowRep w D s (List.replicate n z) ((Array.range (n * s)).map (zc[· % zc.size]!)) := by
  refine ⟨fun i e hi => ?_, by simp, fun i e j c v hi hj hv => ?_⟩
  · rw [List.getElem?_replicate] at hi
    split at hi
    · simp at hi; subst hi; exact hs
    · simp at hi
  · rw [List.getElem?_replicate] at hi
    split at hi
    · simp at hi
      subst hi
      have hj' : j < s := by rw [← hs]; exact (List.getElem?_eq_some_iff.1 hj).1
      have hzs : zc.size = s := by rw [hz.1, hs]
      have hlt : i * s + j < n * s := by
        calc i * s + j < i * s + s := by omega
          _ = (i + 1) * s := by rw [Nat.add_mul]; simp
          _ ≤ n * s := Nat.mul_le_mul_right _ (by assumption)
      have hm : (i * s + j) % s = j := by rw [Nat.mul_comm, Nat.mul_add_mod, Nat.mod_eq_of_lt hj']
      have hv' : v = zc[j]! := by
        simp [hlt, hzs, hm] at hv
        exact hv.symm
      have hjz : j < zc.size := by omega
      rw [getElem!_pos zc j hjz] at hv'
      subst hv'
      exact ⟨hz.2.1 c (List.mem_of_getElem? hj), hz.2.2 j c zc[j] hj (Array.getElem?_eq_getElem hjz)⟩
    · simp at hi

theorem ty_zero' {t : Nat} {ti : TI} (h : tyOf P t = some ti) {z : AV} (hz : ti.z.dat = some z) : ∃ i zv, P.info? t = some i ∧ i.zero = some zv ∧ i.size = ti.sz ∧ i.bytes = ti.bytes ∧ ∀ (γ : Gh) (w : World) (D : Dead) (st : St), RepD w D z zv := by
  obtain ⟨it, d, hit, _, _, hs, hb, hz1, hz2⟩ := tyOf.parts h
  obtain ⟨zv, hzv⟩ : ∃ zv, it.zero = some zv := by
    cases hh : it.zero with
    | none => rw [hz2 hh] at hz; simp [AV.dat] at hz
    | some zv => exact ⟨zv, rfl⟩
  refine ⟨it, zv, hit, hzv, hs, hb, fun γ w D st => ?_⟩
  have := hz1 zv hzv
  exact RepV.dat (γ := γ) (st := st) (by rw [← this]; exact RepV.ofVal zv) hz

theorem dat_cells_len {v d : AV} (h : v.dat = some d) : d.cells.length = v.cells.length := by
  cases v <;> simp only [AV.dat, Option.some.injEq, reduceCtorEq] at h <;> subst h <;> rfl

theorem gives_alloc {o : Oper} {v : AV} {cv : Value} {vs : Array Value} {E : Nat} (h : Inv c γ D st a w) (hv : RepD (w.alloc (.cells vs E)) (deadNew D w.heap.size vs.size) v cv) (hr : (execOp a.eval o).run P w = .ok (.value cv) (w.alloc (.cells vs E))) : Gives P c o a w (st.put o.dst v) :=
  ⟨cv, _, .inl hr, γ, _, (h.newDead vs E).put (.of hv) o.dst⟩

theorem sound_buildSlice (hT : TbOk P tb) {o : Oper} (h : Inv c γ D st a w) {t n : Nat} {ps : Array (Nat × Operand)} (ho : o.op = .buildSlice t n ps) {ti te : TI} (hti : find t tb = some ti) {e : Nat} (hk : ti.k = .sl e) (hte : find e tb = some te)
    (hsm : n * te.sz ≤ 16777216) (hsz : te.sz ≠ 0) (hzl : te.z.cells.length = te.sz) {z : AV} (hz : te.z.dat = some z) {xs : List AV} (hf : fillElems z te.sz st (List.replicate n z) ps.toList = some xs) (hn : n ≠ 0) : Gives P c o a w (st.put o.dst (.sl te.sz true xs)) := by
  have hu := ty_sl (hT _ _ hti) hk
  obtain ⟨ie, zv, hie, hzv, hs, _, hzr⟩ := ty_zero' (hT _ _ hte) hz
  have hzl' : z.cells.length = te.sz := by rw [dat_cells_len hz, hzl]
  have hzc := (hzr γ w D st).cells
  obtain ⟨us, h1, h2, h3⟩ := fillElems_sound h ps.toList _ _ xs (zeroRow hzc hzl' n) hf
  have hlen : xs.length = n := by rw [h3]; simp
  have hpos : ¬ n * ie.size = 0 := by rw [hs]; exact Nat.mul_ne_zero hn hsz
  refine gives_alloc h (h2.rep h e) ?_
  rw [hlen]
  have := run_buildSlice (P := P) w t e n (ps.map fun (i, x) => (i, a.eval x)) us ie zv hu hie hzv (by rw [hs]; omega) hpos (by rw [hs, ← h1]; simp)
  simp [execOp, ho, this]

end
end Go.AM
