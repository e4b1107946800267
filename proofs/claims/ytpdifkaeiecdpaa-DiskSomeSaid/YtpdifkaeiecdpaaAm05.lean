/- A part of the proof: machine and program. -/
import Derived.Test.YtpdifkaeiecdpaaAm04
namespace Go.AM
open Go.RowKit Go.Lib
section
variable [Reg]
section
variable {P : Program} {c : Ctx} {γ : Gh} {D D' : Dead} {st : St} {a : Act} {w w' : World} {tb : Tb} {h : Heap} {u : List Nat}

omit [Reg] in
theorem cell_of_block {b j : Nat} {vs : Array Value} {E : Nat} {fr : Nat × Nat} (h : w.heap[b]? = some (.cells vs E fr)) : w.cell? ⟨b, j, none⟩ = vs[j]? := by
  simp [World.cell?, h]
theorem rowAt_spec {k t : Nat} {xs : List (R t)} (h1 : rowAt h k = some ⟨t, xs⟩) : find k h = some (.row t xs) ∨ find k h = some (.fz t xs) := by
  unfold rowAt at h1
  split at h1
  · rename_i t' xs' e
    simp only [Option.some.injEq, Sigma.mk.injEq] at h1
    obtain ⟨rfl, h1⟩ := h1
    cases h1
    exact .inl e
  · rename_i t' xs' e
    simp only [Option.some.injEq, Sigma.mk.injEq] at h1
    obtain ⟨rfl, h1⟩ := h1
    cases h1
    exact .inr e
  · simp at h1
theorem vwN_spec {k t n : Nat} (h1 : vwN h t k = some n) : ∃ xs : List (R t), rowAt h k = some ⟨t, xs⟩ ∧ n = xs.length := by
  unfold vwN at h1
  split at h1
  · rename_i t' xs e
    split at h1
    · rename_i e2
      subst e2
      simp only [Option.some.injEq] at h1
      exact ⟨xs, e, h1.symm⟩
    · simp at h1
  · simp at h1
theorem asSv_rep {X : AV} {V : Value} (hx : RepV γ h u w D X V) : RepV γ h u w D (asSv h X) V := by
  cases X <;> try exact hx
  case sv k t lo n =>
    simp only [asSv]
    split
    · exact hx
    · trivial
  case ep k t i j =>
    simp only [asSv]
    split
    · exact hx
    · trivial
  rename_i k t
  simp only [asSv]
  split
  · rename_i n hn
    obtain ⟨xs, e, rfl⟩ := vwN_spec hn
    obtain ⟨q1, q2, q3, q4⟩ := hx
    refine ⟨q1, q2, fun ys hy => ?_, fun ys hy => ?_⟩
    · rcases rowAt_spec e with e | e
      · rw [e] at hy; cases hy; exact q3 xs e
      · rw [e] at hy; cases hy
    · rcases rowAt_spec e with e | e
      · rw [e] at hy; cases hy
      · rw [e] at hy; cases hy
        refine ⟨?_, by omega⟩
        simpa using q4 xs e
  · trivial

theorem asSv_sv {X : AV} {k t lo n : Nat} (e : asSv h X = .sv k t lo n) : ∃ xs : List (R t), rowAt h k = some ⟨t, xs⟩ := by
  cases X <;> simp only [asSv, reduceCtorEq] at e
  · split at e
    · rename_i m hm
      cases e
      obtain ⟨xs, e2, _⟩ := vwN_spec hm
      exact ⟨xs, e2⟩
    · cases e
  · split at e
    · rename_i m hm
      cases e
      obtain ⟨xs, e2, _⟩ := vwN_spec hm
      exact ⟨xs, e2⟩
    · cases e
  · split at e <;> cases e

/-- The cells of a row, in either hand. -/
theorem row_cells (hh : HOk γ h u w D) {k t : Nat} {xs : List (R t)} (e : rowAt h k = some ⟨t, xs⟩) {lo n : Nat} {V : Value} (hx : RepV γ h u w D (.sv k t lo n) V) :
    ∃ A cap, V = .slice A n cap ∧ n ≤ cap ∧ lo + n ≤ xs.length ∧ (n = 0 ∨ ∃ (b o : Nat), A = some ⟨b, o, none⟩ ∧ ∀ (q : Nat) (c : AV), (flat t ((xs.drop lo).take n))[q]? = some c → ∃ v, w.cell? ⟨b, o + q, none⟩ = some v ∧ RepD w D c v) := by
  obtain ⟨q1, q2, q3, q4⟩ := hx
  rcases rowAt_spec e with e | e
  · obtain ⟨A, cap, rfl, e2, e3, e4⟩ := q3 xs e
    refine ⟨A, cap, rfl, e2, e3, ?_⟩
    rcases e4 with ⟨f1, f2⟩ | ⟨f1, f2, f3, f4⟩
    · exact .inl (by omega)
    · rcases hh.row k t xs e with rfl | ⟨_, vs, E, g1, g2, g3⟩
      · exact .inl (by simp at e3; omega)
      · refine .inr ⟨_, _, f1, fun q c hq => ?_⟩
        have hq' : (flat t xs)[lo * szR t + q]? = some c := by
          rw [flat_take, flat_drop, List.getElem?_take] at hq
          split at hq
          · rw [List.getElem?_drop] at hq; exact hq
          · simp at hq
        have hlt : lo * szR t + q < xs.length * szR t := by rw [← flat_len]; exact (List.getElem?_eq_some_iff.1 hq').1
        have hv : (γ.g k).2 + (lo * szR t + q) < vs.size := by omega
        refine ⟨vs[(γ.g k).2 + (lo * szR t + q)], ?_, g3 _ c _ hq' (Array.getElem?_eq_getElem hv)⟩
        rw [cell_of_block g1, Nat.add_assoc, Array.getElem?_eq_getElem hv]
  · obtain ⟨e2, e3⟩ := q4 xs e
    obtain ⟨A, cap, e4, e5, _, e6⟩ := inv_sl e2
    have hl : ((xs.drop lo).take n).length = n := by simp; omega
    rw [hl] at e4 e5
    refine ⟨A, cap, e4, e5, e3, ?_⟩
    rcases e6 with e6 | ⟨b, o, f, e6, e7⟩
    · left
      have := congrArg List.length e6
      rw [hl] at this
      simpa using this
    · exact .inr ⟨b, o, e6, fun q c hq => ⟨f q, (e7 q c hq).2⟩⟩

theorem part_cells {ti : TI} {cs : List AV} {j : Nat} {v : AV} (h1 : one1 cs = true) (hp : partOf ti cs j = some v) : one1 v.cells = true := by
  unfold partOf at hp
  cases hagg : ti.isAgg with
  | true =>
    rw [hagg] at hp
    simp only [cond_true] at hp
    cases hle : Nat.ble (j + ti.sz) cs.length with
    | false => rw [hle] at hp; simp at hp
    | true =>
      rw [hle] at hp
      simp only [cond_true, Option.some.injEq] at hp
      subst hp
      exact List.all_eq_true.2 fun c hc => List.all_eq_true.1 h1 c (List.mem_of_mem_drop (List.mem_of_mem_take hc))
  | false =>
    rw [hagg] at hp
    simp only [cond_false] at hp
    have := List.all_eq_true.1 h1 v (List.mem_of_getElem? hp)
    cases v <;> first | exact (by simpa [one1, AV.cells] using this) | (simp [AV.cell1] at this)

omit [Reg] in
theorem run_load {o : Oper} {t : Nat} {x : Operand} (ho : o.op = .load t x) {A : Addr} (hA : a.eval x = .pointer (some A)) {cv : Value} (hr : (loadVar t A).run P w = .ok cv w) : (execOp a.eval o).run P w = .ok (.value cv) w := by
  simp [execOp, ho, hA, Instr.loadAt, Instr.sureAddr, hr]

/-- A load. -/
theorem load_core (hT : TbOk P tb) (h : Inv c γ D st a w) {t : Nat} {x : Operand} {e : AV × Option Nat} (hv : (lookQ tb st.ev st.h (.load t x)).val = some e) : ∃ A cv, a.eval x = .pointer (some A) ∧ (loadVar t A).run P w = .ok cv w ∧ RepB γ st.h st.u w D e.1 cv := by
  have hx := h.ev x
  unfold lookQ at hv
  simp only at hv
  generalize st.ev x = X at hx hv
  split at hv
  · cases hv
  rename_i ti hti
  have ht := hT _ _ hti
  split at hv
  · rename_i k off
    split at hv
    · rename_i cs hk
      split at hv
      · rename_i v hp
        cases hv
        obtain ⟨q1, vs, E, q2, q3, q4⟩ := h.hp.box k cs hk
        have e := hx.2.2 cs hk
        obtain ⟨cv, r1, r2⟩ := load_part (P := P) (w := w) (D := D) (γ := γ) (h := st.h) (u := st.u) ht (cs := cs) (f := fun j => vs.getD j Go.undef) (b := (γ.g k).1) (base := 0) (off := off) (fun j c' hj => by
          have hlt : j < vs.size := by rw [q3]; exact (List.getElem?_eq_some_iff.1 hj).1
          have e1 : vs.getD j Go.undef = vs[j] := by simp [hlt]
          rw [e1]
          exact ⟨by rw [cell_of_block q2, Nat.zero_add, Array.getElem?_eq_getElem hlt], q4 j c' _ hj (Array.getElem?_eq_getElem hlt)⟩) hp
        rw [Nat.zero_add] at r1
        exact ⟨_, cv, e, r1, r2⟩
      · cases hv
    · cases hv
  · rename_i cs j
    split at hv
    · rename_i v hp
      cases hv
      obtain ⟨b, o', f, ev, h1, hc, hr⟩ := inv_rp hx
      obtain ⟨cv, r1, r2⟩ := load_part (P := P) (w := w) (D := D) (γ := γ) (h := st.h) (u := st.u) ht (cs := cs) (f := f) (b := b) (base := o') (off := j) (fun q c' hq => ⟨(hc q c' hq).2, (hr q c' hq).c, .inr (List.all_eq_true.1 h1 _ (List.mem_of_getElem? hq))⟩) hp
      exact ⟨_, cv, ev, r1, r2⟩
    · cases hv
  · rename_i k t' i j
    split at hv
    · rename_i t2 xs hk
      split at hv
      · rename_i e2
        subst e2
        obtain ⟨y, hy, hv⟩ := Q.val_get hv
        split at hv
        · rename_i v hp
          cases hv
          obtain ⟨q1, q2, q3, q4⟩ := hx
          have hone : ∀ q c', (cel t2 y)[q]? = some c' → Cell c' := fun q c' hq => .inr (cel_one t2 y c' (List.mem_of_getElem? hq))
          have hfl : ∀ (q : Nat) (c' : AV), (cel t2 y)[q]? = some c' → (flat t2 xs)[i * szR t2 + q]? = some c' := fun q c' hq => by
            rw [flat_get t2 xs i q y hy (by rw [← cel_len t2 y]; exact (List.getElem?_eq_some_iff.1 hq).1)]; exact hq
          rcases rowAt_spec hk with e | e
          · have ev := q3 xs e
            rcases h.hp.row k t2 xs e with rfl | ⟨_, vs, E, g1, g2, g3⟩
            · simp at hy
            · obtain ⟨cv, r1, r2⟩ := load_part (P := P) (w := w) (D := D) (γ := γ) (h := st.h) (u := st.u) ht (cs := cel t2 y) (f := fun q => vs.getD ((γ.g k).2 + (i * szR t2 + q)) Go.undef) (b := (γ.g k).1) (base := (γ.g k).2 + i * szR t2) (off := j) (fun q c' hq => by
                have hq' := hfl q c' hq
                have hlt : (γ.g k).2 + (i * szR t2 + q) < vs.size := by
                  have : i * szR t2 + q < xs.length * szR t2 := by rw [← flat_len]; exact (List.getElem?_eq_some_iff.1 hq').1
                  omega
                have e1 : vs.getD ((γ.g k).2 + (i * szR t2 + q)) Go.undef = vs[(γ.g k).2 + (i * szR t2 + q)] := by simp [hlt]
                rw [e1]
                exact ⟨by rw [cell_of_block g1, Nat.add_assoc, Array.getElem?_eq_getElem hlt], (g3 _ c' _ hq' (Array.getElem?_eq_getElem hlt)).c, hone q c' hq⟩) hp
              rw [Nat.add_assoc] at r1
              exact ⟨_, cv, ev, r1, r2⟩
          · obtain ⟨b, o', e1, ev⟩ := q4 xs y e hy
            obtain ⟨b', o2, f, ev2, h1, hc, hr⟩ := inv_rp (γ := γ) (h := st.h) (u := st.u) (.of e1)
            simp only [Value.pointer.injEq, Option.some.injEq, Addr.mk.injEq, Nat.add_zero, and_true] at ev2
            obtain ⟨rfl, rfl⟩ := ev2
            obtain ⟨cv, r1, r2⟩ := load_part (P := P) (w := w) (D := D) (γ := γ) (h := st.h) (u := st.u) ht (cs := cel t2 y) (f := f) (b := b) (base := o') (off := j) (fun q c' hq => ⟨(hc q c' hq).2, (hr q c' hq).c, hone q c' hq⟩) hp
            exact ⟨_, cv, ev, r1, r2⟩
        · cases hv
      · cases hv
    · cases hv
  · cases hv

theorem loA_run {lo : Option Operand} (h : Inv c γ D st a w) {l : Int} (hl : loA (lo.map st.ev) = some l) : (lo = none ∧ l = 0) ∨ ∃ x k, lo = some x ∧ a.eval x = .int k l := by
  cases lo with
  | none => simp [loA] at hl; exact .inl ⟨rfl, hl.symm⟩
  | some x =>
    right
    have hx := h.ev x
    simp only [Option.map_some] at hl
    generalize st.ev x = X at hx hl
    cases X <;> simp only [loA, Option.some.injEq, reduceCtorEq] at hl
    subst hl
    exact ⟨x, _, rfl, inv_int hx⟩
theorem hiA_run {hi : Option Operand} (h : Inv c γ D st a w) {d l : Int} (hl : hiA d (hi.map st.ev) = some l) : (hi = none ∧ l = d) ∨ ∃ x k, hi = some x ∧ a.eval x = .int k l := by
  cases hi with
  | none => simp [hiA] at hl; exact .inl ⟨rfl, hl.symm⟩
  | some x =>
    right
    have hx := h.ev x
    simp only [Option.map_some] at hl
    generalize st.ev x = X at hx hl
    cases X <;> simp only [hiA, Option.some.injEq, reduceCtorEq] at hl
    subst hl
    exact ⟨x, _, rfl, inv_int hx⟩
omit [Reg] in
theorem run_sliceBound {k : IntKind} {i : Int} {y : Nat} {code : BoundsCode} (h0 : 0 ≤ i) (h1 : i ≤ y) : (Instr.sliceBound (.int k i) y code).run P w = .ok i.toNat w := by
  simp [Instr.sliceBound, asIntOf, h0, h1]
omit [Reg] in
theorem run_bounds {isS : Bool} {len cap : Nat} {lo hi : Option Operand} {l hh : Int} (hl : (lo = none ∧ l = 0) ∨ ∃ x k, lo = some x ∧ a.eval x = .int k l) (hhi : (hi = none ∧ hh = (len : Int)) ∨ ∃ x k, hi = some x ∧ a.eval x = .int k hh)
    (h0 : 0 ≤ l) (h1 : l ≤ hh) (h2 : hh ≤ cap) : (Instr.sliceBounds isS len cap (lo.map a.eval) (hi.map a.eval) none).run P w = .ok (l.toNat, hh.toNat, cap) w := by
  rcases hl with ⟨rfl, rfl⟩ | ⟨x, k, rfl, hx⟩ <;> rcases hhi with ⟨rfl, rfl⟩ | ⟨y, k', rfl, hy⟩
  · simp [Instr.sliceBounds]
  · simp [Instr.sliceBounds, hy, run_sliceBound (P := P) (w := w) (show 0 ≤ hh by omega) h2]
  · have e : (Instr.sliceBound (.int k l) len .sliceB).run P w = .ok l.toNat w := run_sliceBound h0 h1
    simp [Instr.sliceBounds, hx, e]
  · have e : (Instr.sliceBound (.int k l) hh.toNat .sliceB).run P w = .ok l.toNat w := run_sliceBound h0 (by omega)
    simp [Instr.sliceBounds, hx, hy, run_sliceBound (P := P) (w := w) (show 0 ≤ hh by omega) h2, e]
omit [Reg] in
theorem run_bounds_max {len cap : Nat} {lo : Option Operand} {hi mx : Operand} {l hh m : Int} {k' k'' : IntKind} (hl : (lo = none ∧ l = 0) ∨ ∃ x k, lo = some x ∧ a.eval x = .int k l) (hhi : a.eval hi = .int k' hh) (hm : a.eval mx = .int k'' m)
    (h0 : 0 ≤ l) (h1 : l ≤ hh) (h2 : hh ≤ m) (h3 : m ≤ cap) : (Instr.sliceBounds true len cap (lo.map a.eval) (some (a.eval hi)) (some (a.eval mx))).run P w = .ok (l.toNat, hh.toNat, m.toNat) w := by
  have e1 : ∀ code, (Instr.sliceBound (.int k'' m) cap code).run P w = .ok m.toNat w := fun code => run_sliceBound (by omega) h3
  have e2 : ∀ code, (Instr.sliceBound (.int k' hh) m.toNat code).run P w = .ok hh.toNat w := fun code => run_sliceBound (by omega) (by omega)
  rcases hl with ⟨rfl, rfl⟩ | ⟨x, k, rfl, hx⟩
  · simp [Instr.sliceBounds, hhi, hm, e1, e2]
  · have e3 : ∀ code, (Instr.sliceBound (.int k l) hh.toNat code).run P w = .ok l.toNat w := fun code => run_sliceBound h0 (by omega)
    simp [Instr.sliceBounds, hhi, hm, hx, e1, e2, e3]

theorem elOk_spec (hT : TbOk P tb) {e : Nat} (h1 : elOk tb e = true) : (sizeOf e).run P w = .ok (szR e) w := by
  unfold elOk at h1
  split at h1
  · rename_i te hte
    rw [ty_size (hT _ _ hte), Nat.eq_of_beq_eq_true h1]
  · simp at h1

/-- Some of a slice's elements. -/
theorem sub_rep {t : Nat} {full : Bool} {xs : List (R t)} {A : Option Addr} {cap : Nat} (hx : RepD w D (.sl t full xs) (.slice A xs.length cap)) {l n m : Nat} (h1 : l ≤ n) (h2 : n ≤ m) (_h3 : m ≤ cap) (h4 : n ≤ xs.length) :
    RepD w D (.sl t (decide (n = m)) ((xs.take n).drop l)) (.slice (if m = l then A else A.map (·.add (l * szR t))) (n - l) (m - l)) := by
  have hlen : ((xs.take n).drop l).length = n - l := by simp; omega
  obtain ⟨A', cap', e1, _, _, e3⟩ := inv_sl hx
  simp only [Value.slice.injEq, true_and] at e1
  obtain ⟨rfl, rfl⟩ := e1
  by_cases hz : n - l = 0
  · have : (xs.take n).drop l = [] := List.eq_nil_of_length_eq_zero (by omega)
    rw [this, hz]
    exact .slN _ _ _ _ (by simp; omega)
  · rcases e3 with rfl | ⟨b, o, f, rfl, e4⟩
    · simp at h4; omega
    · rw [if_neg (by omega), ← hlen]
      simp only [Option.map_some, addr_add]
      have key : ∀ (q : Nat) (c : AV), (flat t ((xs.take n).drop l))[q]? = some c → (flat t xs)[l * szR t + q]? = some c := by
        intro q c hq
        rw [flat_drop, flat_take, List.getElem?_drop, List.getElem?_take] at hq
        split at hq
        · exact hq
        · simp at hq
      exact .sl _ _ _ _ _ _ (fun q => f (l * szR t + q)) (by rw [hlen]; omega) (by rw [hlen]; simp; omega) (fun q c hq => by
        rw [Nat.add_assoc]
        exact ⟨(e4 _ c (key q c hq)).1, (e4 _ c (key q c hq)).2.1⟩) (fun q c hq => (e4 _ c (key q c hq)).2.2)

theorem sound_slice (hT : TbOk P tb) {o : Oper} (h : Inv c γ D st a w) {t : Nat} {x : Operand} {lo hi mx : Option Operand} (ho : o.op = .slice t x lo hi mx) {v : AV} (hv : (sliceQ tb t (asSv st.h (st.ev x)) (lo.map st.ev) (hi.map st.ev) (mx.map st.ev)).val = some v) :
    Gives P c o a w (st.put o.dst v) := by
  have hx := asSv_rep (h.ev x)
  generalize hX0 : asSv st.h (st.ev x) = X at hx hv
  unfold sliceQ at hv
  split at hv
  · cases hv
  rename_i ti hti
  have ht := hT _ _ hti
  split at hv
  · rename_i l hk el
    have hu := ty_str ht hk
    split at hv
    · rename_i s emx
      have hmx : mx = none := by cases mx <;> simp at emx ⊢
      subst hmx
      split at hv
      · rename_i hh ehi
        obtain ⟨hb, hv⟩ := Q.val_ask hv
        cases hv
        obtain ⟨b0, b1, b2⟩ := of_decide_eq_true hb
        obtain ⟨sb, e, hs⟩ := inv_str hx
        have hsz : sb.size = s.length := by rw [← hs, Array.length_toList]; rfl
        have hbd : (Instr.sliceBounds false sb.size sb.size (lo.map a.eval) (hi.map a.eval) none).run P w = .ok (l.toNat, hh.toNat, sb.size) w :=
          run_bounds (loA_run h el) (by rw [hsz]; exact hiA_run h ehi) b0 b1 (by rw [hsz]; exact b2)
        refine gives_put h (cv := .string (sb.extract l.toNat hh.toNat)) (.of (.str _ _ ?_)) ?_
        · rw [ByteArray.data_extract, Array.toList_extract, hs]
          simp [List.extract_eq_take_drop, List.drop_take]
        · simp [execOp, ho, e, Instr.sliceAt, Instr.slice, run_underlying' w hu, hbd]
      · cases hv
    · cases hv
  · rename_i e l hk el
    have hu := ty_sl ht hk
    cases hel : elOk tb e with
    | false => rw [hel] at hv; cases hv
    | true =>
    rw [hel] at hv
    simp only [cond_true] at hv
    have hsz := elOk_spec (w := w) hT hel
    split at hv
    · split at hv
      · rename_i hh ehi emx
        have hmx : mx = none := by cases mx <;> simp at emx ⊢
        subst hmx
        obtain ⟨hb, hv⟩ := Q.val_ask hv
        cases hv
        obtain ⟨b0, rfl⟩ := of_decide_eq_true hb
        have e : a.eval x = .slice none 0 0 := by
          have : RepD w D .nils (a.eval x) := hx
          generalize a.eval x = V at this
          cases this
          rfl
        have hbd : (Instr.sliceBounds true 0 0 (lo.map a.eval) (hi.map a.eval) none).run P w = .ok (l.toNat, (0 : Int).toNat, 0) w :=
          run_bounds (loA_run h el) (hiA_run h ehi) (by omega) (by omega) (by omega)
        have hl : l.toNat = 0 := by omega
        refine gives_put h (cv := .slice none 0 0) (.of .nils) ?_
        simp [execOp, ho, e, Instr.sliceAt, Instr.slice, run_underlying' w hu, hbd, hsz, hl]
      · cases hv
    · rename_i k t' lo' n
      split at hv
      · rename_i hh ehi emx
        have hmx : mx = none := by cases mx <;> simp at emx ⊢
        subst hmx
        split at hv
        · rename_i e2
          subst e2
          obtain ⟨hb, hv⟩ := Q.val_ask hv
          cases hv
          obtain ⟨b0, b1, b2⟩ := of_decide_eq_true hb
          obtain ⟨ys, hrow⟩ := asSv_sv hX0
          obtain ⟨q1, _, q3, q4⟩ := hx
          have hrun : ∀ {A : Option Addr} {cap : Nat}, a.eval x = .slice A n cap → n ≤ cap → (execOp a.eval o).run P w = .ok (.value (.slice (if cap = l.toNat then A else A.map (·.add (l.toNat * szR t'))) (hh.toNat - l.toNat) (cap - l.toNat))) w := by
            intro A cap ev hlc
            have hbd : (Instr.sliceBounds true n cap (lo.map a.eval) (hi.map a.eval) none).run P w = .ok (l.toNat, hh.toNat, cap) w :=
              run_bounds (loA_run h el) (hiA_run h ehi) b0 b1 (by omega)
            simp [execOp, ho, ev, Instr.sliceAt, Instr.slice, run_underlying' w hu, hbd, hsz]
          rcases rowAt_spec hrow with e | e
          · obtain ⟨A, cap, ev, c2, c3, c4⟩ := q3 ys e
            refine gives_put h (v := .sv k t' (lo' + l.toNat) (hh.toNat - l.toNat)) ⟨q1, ⟨_, _, _, rfl⟩, fun xs hk => ?_, fun xs hk => ?_⟩ (hrun ev c2)
            · rw [e] at hk
              cases hk
              refine ⟨_, _, rfl, by omega, by omega, ?_⟩
              rcases c4 with ⟨f1, f2⟩ | ⟨f1, f2, f3, f4⟩
              · exact .inl ⟨by omega, by omega⟩
              · by_cases hcl : cap = l.toNat
                · exact .inl ⟨by omega, by omega⟩
                · refine .inr ⟨?_, f2, by omega, ?_⟩
                  · rw [if_neg hcl, f1]
                    simp only [Option.map_some, addr_add]
                    rw [Nat.add_mul, ← Nat.add_assoc]
                  · rw [show lo' + l.toNat + (cap - l.toNat) = lo' + cap by omega]
                    exact f4
            · rw [e] at hk; cases hk
          · obtain ⟨c2, c3⟩ := q4 ys e
            obtain ⟨A, cap, ev, hlc, _, _⟩ := inv_sl c2
            have hlen : ((ys.drop lo').take n).length = n := by simp; omega
            rw [hlen] at ev hlc
            have hD := c2
            rw [ev] at hD
            have hD' : RepD w D (.sl t' false ((ys.drop lo').take n)) (.slice A ((ys.drop lo').take n).length cap) := by rw [hlen]; exact hD
            refine gives_put h (v := .sv k t' (lo' + l.toNat) (hh.toNat - l.toNat)) ⟨q1, ⟨_, _, _, rfl⟩, fun xs hk => ?_, fun xs hk => ?_⟩ (hrun ev hlc)
            · rw [e] at hk; cases hk
            · rw [e] at hk
              cases hk
              refine ⟨?_, by omega⟩
              have := (sub_rep hD' (l := l.toNat) (n := hh.toNat) (m := cap) (by omega) (by omega) (by omega) (by omega)).unfull
              rw [List.take_take, Nat.min_eq_left (by omega), List.drop_take, List.drop_drop] at this
              exact this
        · cases hv
      · cases hv
    · split at hv
      · rename_i t' xs hX
        split at hv
        · rename_i e2
          subst e2
          have hD := inv_slOf hx hX
          obtain ⟨A, cap, ev, hlc, _, _⟩ := inv_sl hD
          rw [ev] at hD
          split at hv
          · rename_i emx
            have hmx : mx = none := by cases mx <;> simp at emx ⊢
            subst hmx
            split at hv
            · rename_i hh ehi
              obtain ⟨hb, hv⟩ := Q.val_ask hv
              cases hv
              obtain ⟨b0, b1, b2⟩ := of_decide_eq_true hb
              have hbd : (Instr.sliceBounds true xs.length cap (lo.map a.eval) (hi.map a.eval) none).run P w = .ok (l.toNat, hh.toNat, cap) w :=
                run_bounds (loA_run h el) (hiA_run h ehi) b0 b1 (by omega)
              refine gives_put h (.of (sub_rep hD (l := l.toNat) (n := hh.toNat) (m := cap) (by omega) (by omega) (by omega) (by omega)).unfull) ?_
              simp [execOp, ho, ev, Instr.sliceAt, Instr.slice, run_underlying' w hu, hbd, hsz]
            · cases hv
          · rename_i km m emx
            split at hv
            · rename_i kh hh ehi
              obtain ⟨hb, hv⟩ := Q.val_ask hv
              cases hv
              obtain ⟨b0, b1, rfl, b2⟩ := of_decide_eq_true hb
              cases mx with
              | none => simp at emx
              | some y =>
              cases hi with
              | none => simp at ehi
              | some z =>
              simp only [Option.map_some, Option.some.injEq] at emx ehi
              have ey := inv_int (emx ▸ h.ev y)
              have ez := inv_int (ehi ▸ h.ev z)
              have hbd : (Instr.sliceBounds true xs.length cap (lo.map a.eval) (some (a.eval z)) (some (a.eval y))).run P w = .ok (l.toNat, hh.toNat, hh.toNat) w :=
                run_bounds_max (loA_run h el) ez ey b0 b1 (by omega) (by omega)
              have := sub_rep hD (l := l.toNat) (n := hh.toNat) (m := hh.toNat) (by omega) (by omega) (by omega) (by omega)
              rw [decide_eq_true rfl] at this
              refine gives_put h (.of this) ?_
              simp only [execOp, ho, ev, Instr.sliceAt, Instr.slice, Sem.run_bind, run_underlying' w hu, Result.andThen_ok, Option.map_some, hbd, hsz, Sem.run_pure]
            · cases hv
          · cases hv
        · cases hv
      · cases hv
  · cases hv

theorem inv_ra {t : Nat} {xs : List (R t)} {V : Value} (h1 : RepD w D (.ra t xs) V) : ∃ (b o : Nat) (f : Nat → Value), V = .pointer (some ⟨b, o, none⟩) ∧ ∀ (q : Nat) (c : AV), (flat t xs)[q]? = some c → D b (o + q) ∧ w.cell? ⟨b, o + q, none⟩ = some (f q) ∧ RepD w D c (f q) := by
  cases h1 with
  | ra _ _ b o f hc hr => exact ⟨b, o, f, rfl, fun q c hq => ⟨(hc q c hq).1, (hc q c hq).2, hr q c hq⟩⟩
theorem asSv_ep {X : AV} {k t i j : Nat} (e : asSv h X = .ep k t i j) : ∃ t' xs, find k h = some (.row t' xs) := by
  cases X <;> simp only [asSv, reduceCtorEq] at e
  · split at e <;> cases e
  · split at e <;> cases e
  · split at e
    · rename_i t' xs hk
      cases e
      exact ⟨t', xs, hk⟩
    · cases e

theorem sound_indexAddr (hT : TbOk P tb) {o : Oper} (h : Inv c γ D st a w) {t : Nat} {x i : Operand} (ho : o.op = .indexAddr t x i) {k : IntKind} {n : Int} (hi : st.ev i = .int k n) {v : AV} (hv : (indexAddrQ tb t (asSv st.h (st.ev x)) n).val = some v) : Gives P c o a w (st.put o.dst v) := by
  have ei := inv_int (hi ▸ h.ev i)
  have hx := asSv_rep (h.ev x)
  generalize hX0 : asSv st.h (st.ev x) = X at hx hv
  unfold indexAddrQ at hv
  split at hv
  · rename_i e sz by_ z hti
    have hu := ty_sl (hT _ _ hti) rfl
    cases hel : elOk tb e with
    | false => rw [hel] at hv; cases hv
    | true =>
    rw [hel] at hv
    simp only [cond_true] at hv
    have hsz := elOk_spec (w := w) hT hel
    have hrun : ∀ {A : Addr} {len cap : Nat}, a.eval x = .slice (some A) len cap → 0 ≤ n → n < len → (execOp a.eval o).run P w = .ok (.value (.pointer (some (A.add (n.toNat * szR e))))) w := by
      intro A len cap ev h0 h1
      simp [execOp, ho, ev, ei, Instr.indexAt, asIntOf, run_underlying' w hu, h0, h1, hsz]
    split at hv
    · rename_i k' t' lo n'
      split at hv
      · rename_i e2
        subst e2
        obtain ⟨hb, hv⟩ := Q.val_ask hv
        cases hv
        obtain ⟨b0, b1⟩ := of_decide_eq_true hb
        obtain ⟨ys, hrow⟩ := asSv_sv hX0
        obtain ⟨q1, _, q3, q4⟩ := hx
        rcases rowAt_spec hrow with e | e
        · obtain ⟨A, cap, ev, c2, c3, c4⟩ := q3 ys e
          rcases c4 with ⟨f1, f2⟩ | ⟨f1, f2, f3, f4⟩
          · omega
          · subst f1
            refine gives_put h (v := .ep k' t' (lo + n.toNat) 0) ⟨q1, ⟨_, rfl⟩, fun xs hk => ?_, fun xs y hk hy => ?_⟩ (hrun ev b0 (by omega))
            · rw [addr_add, Nat.add_zero, Nat.add_mul, Nat.add_assoc]
            · rw [e] at hk; cases hk
        · obtain ⟨c2, c3⟩ := q4 ys e
          obtain ⟨A, cap, ev, hlc, _, c4⟩ := inv_sl c2
          have hlen : ((ys.drop lo).take n').length = n' := by simp; omega
          rw [hlen] at ev
          rcases c4 with c4 | ⟨b, o', f, rfl, c5⟩
          · have := congrArg List.length c4
            rw [hlen] at this
            simp at this
            omega
          · refine gives_put h (v := .ep k' t' (lo + n.toNat) 0) ⟨q1, ⟨_, rfl⟩, fun xs hk => ?_, fun xs y hk hy => ?_⟩ (hrun ev b0 (by omega))
            · rw [e] at hk; cases hk
            · rw [e] at hk
              cases hk
              refine ⟨b, _, rp_el c5 (i := n.toNat) (z := y) ?_, by rw [addr_add, Nat.add_zero]⟩
              rw [List.getElem?_take, if_pos (by omega), List.getElem?_drop]
              exact hy
      · cases hv
    · split at hv
      · rename_i t' xs hX
        split at hv
        · rename_i e2
          subst e2
          obtain ⟨hb, hv⟩ := Q.val_ask hv
          obtain ⟨y, hy, hv⟩ := Q.val_get hv
          cases hv
          have h0 := of_decide_eq_true hb
          have h1 : n < xs.length := by have := (List.getElem?_eq_some_iff.1 hy).1; omega
          have hXX : asSv st.h (st.ev x) = st.ev x := by
            rw [hX0]
            generalize st.ev x = Y at hX0
            cases Y <;> first | exact hX0.symm | (simp only [asSv] at hX0; split at hX0 <;> (subst hX0; simp [slOf] at hX))
          obtain ⟨A, cap, ev, _, _, h3⟩ := inv_sl (inv_slOf hx hX)
          rcases h3 with h3 | ⟨b, o', f, rfl, hE⟩
          · subst h3; simp at h1; omega
          · exact gives_put h (cv := .pointer (some ⟨b, o' + n.toNat * szR t', none⟩)) (.of (rp_el hE hy)) (by rw [hrun ev h0 h1, addr_add])
        · cases hv
      · cases hv
  · rename_i m e sz by_ z hti
    have hu := ty_arr (hT _ _ hti) rfl
    have hrun : ∀ {te : TI}, find e tb = some te → ∀ {A : Addr} {j : Nat}, a.eval x = .pointer (some A) → n = j → j < m → (execOp a.eval o).run P w = .ok (.value (.pointer (some (A.add (j * te.sz))))) w := by
      intro te hte A j ev e1 h1
      subst e1
      simp [execOp, ho, ev, ei, Instr.indexAt, asIntOf, run_underlying' w hu, h1, ty_size (hT _ _ hte), Instr.sureAddr]
    split at hv
    · rename_i te k' off hte
      obtain ⟨j, hj, e1, hv2⟩ := among_val hv
      cases hv2
      obtain ⟨q1, ⟨A, q2⟩, q3⟩ := hx
      refine gives_put h (v := .ptr k' (off + j * te.sz)) ⟨q1, ⟨_, rfl⟩, fun cs hk => ?_⟩ (hrun hte q2 e1 hj)
      have := q3 cs hk
      rw [q2] at this
      simp only [Value.pointer.injEq, Option.some.injEq] at this
      rw [this, addr_add]
    · rename_i te cs off hte
      obtain ⟨j, hj, e1, hv2⟩ := among_val hv
      cases hv2
      obtain ⟨b, o', f, ev, h1, hc', hr⟩ := inv_rp hx
      refine gives_put h (v := .rp cs (off + j * te.sz)) (cv := .pointer (some ⟨b, o' + (off + j * te.sz), none⟩)) (.of (.rp _ _ _ _ f h1 hc' hr)) ?_
      rw [hrun hte ev e1 hj, addr_add, Nat.add_assoc]
    · rename_i te t' xs hte
      split at hv
      · rename_i hc
        obtain ⟨rfl, hsz⟩ := hc
        obtain ⟨hb, hv⟩ := Q.val_ask hv
        obtain ⟨y, hy, hv⟩ := Q.val_get hv
        cases hv
        obtain ⟨h0, h1⟩ := of_decide_eq_true hb
        obtain ⟨b, o', f, ev, hE⟩ := inv_ra hx
        refine gives_put h (cv := .pointer (some ⟨b, o' + n.toNat * szR t', none⟩)) (.of (rp_el hE hy)) ?_
        rw [hrun hte (j := n.toNat) ev (by omega) (by omega), addr_add, hsz]
      · cases hv
    · rename_i te k' t' j q hte
      split at hv
      · rename_i hc
        obtain ⟨rfl, hsz⟩ := hc
        obtain ⟨hb, hv⟩ := Q.val_ask hv
        cases hv
        obtain ⟨h0, h1⟩ := of_decide_eq_true hb
        obtain ⟨q1, ⟨A, q2⟩, q3, q4⟩ := hx
        obtain ⟨t2, ys, hrow⟩ := asSv_ep hX0
        refine gives_put h (v := .ep k' t' (j + n.toNat) 0) ⟨q1, ⟨_, rfl⟩, fun xs hk => ?_, fun xs y hk hy => ?_⟩ (hrun hte (j := n.toNat) q2 (by omega) (by omega))
        · have := q3 xs hk
          rw [q2] at this
          simp only [Value.pointer.injEq, Option.some.injEq] at this
          rw [this, addr_add, hsz, Nat.add_mul]
          simp only [Value.pointer.injEq, Option.some.injEq, Addr.mk.injEq, true_and, and_true]
          omega
        · rw [hrow] at hk; cases hk
      · cases hv
    · cases hv
  · cases hv

theorem sound_len (hT : TbOk P tb) {o : Oper} (h : Inv c γ D st a w) {x : Operand} {ts : Array Nat} {e : AV × Option Nat} {b : Builtin} (hb : b = .len ∨ b = .cap) (ho : o.op = .call { callee := .builtin b, args := #[x], argTypes := ts }) (hv : (lookQ tb st.ev st.h (.call { callee := .builtin b, args := #[x], argTypes := ts })).val = some e) : Gives P c o a w (st.put o.dst e.1) := by
  have hx0 := h.ev x
  have hx := asSv_rep hx0
  suffices hs : ∃ cv, ((b = .len ∧ (Builtin.len_ ts o.type #[a.eval x]).run P w = .ok cv w) ∨ (b = .cap ∧ (Builtin.cap_ ts o.type #[a.eval x]).run P w = .ok cv w)) ∧ RepV γ st.h st.u w D e.1 cv by
    obtain ⟨cv, h1, h2⟩ := hs
    refine gives_put h h2 ?_
    rcases h1 with ⟨rfl, h1⟩ | ⟨rfl, h1⟩ <;> simp [execOp, ho, resolve, invoke, builtin, h1]
  obtain ⟨ts⟩ := ts
  unfold lookQ at hv
  simp only [List.map_cons, List.map_nil] at hv
  rcases hb with rfl | rfl
  · rcases ts with _ | ⟨t, _ | ⟨t', r⟩⟩
    · cases hv
    · simp only at hv
      generalize hX0 : asSv st.h (st.ev x) = X at hx hv
      split at hv
      · rename_i ti hti
        have ht := hT _ _ hti
        split at hv
        · rename_i s hk
          cases hv
          obtain ⟨sb, ev, hs⟩ := inv_str hx
          have hsz : sb.size = s.length := by rw [← hs, Array.length_toList]; rfl
          exact ⟨_, .inl ⟨rfl, by simp [Builtin.len_, run_underlying' w (ty_str ht hk), ev, goInt, hsz]⟩, .of (.int _ _)⟩
        · rename_i e hk
          cases hv
          have ev : a.eval x = .slice none 0 0 := by
            have : RepD w D .nils (a.eval x) := hx
            generalize a.eval x = V at this
            cases this
            rfl
          exact ⟨_, .inl ⟨rfl, by simp [Builtin.len_, run_underlying' w (ty_sl ht hk), ev, goInt]⟩, .of (.int _ _)⟩
        · rename_i e k t' lo n hk
          cases hv
          obtain ⟨ys, hrow⟩ := asSv_sv hX0
          obtain ⟨A, cap, ev, _⟩ := row_cells h.hp hrow hx
          exact ⟨_, .inl ⟨rfl, by simp [Builtin.len_, run_underlying' w (ty_sl ht hk), ev, goInt]⟩, .of (.int _ _)⟩
        · rename_i e hk _ _
          split at hv
          · rename_i t' xs hX
            cases hv
            obtain ⟨A, cap, ev, _⟩ := inv_sl (inv_slOf hx hX)
            exact ⟨_, .inl ⟨rfl, by simp [Builtin.len_, run_underlying' w (ty_sl ht hk), ev, goInt]⟩, .of (.int _ _)⟩
          · cases hv
        · rename_i n e hk
          cases hv
          exact ⟨_, .inl ⟨rfl, by simp [Builtin.len_, run_underlying' w (ty_arr ht hk), goInt]⟩, .of (.int _ _)⟩
        · cases hv
      · cases hv
    · cases hv
  · rcases ts with _ | ⟨t, _ | ⟨t', r⟩⟩
    · cases hv
    · simp only at hv
      generalize hX0 : st.ev x = X at hx0 hv
      split at hv
      · rename_i ti hti
        have ht := hT _ _ hti
        split at hv
        · rename_i e hk
          cases hv
          have ev : a.eval x = .slice none 0 0 := by
            have : RepD w D .nils (a.eval x) := hx0
            generalize a.eval x = V at this
            cases this
            rfl
          exact ⟨_, .inr ⟨rfl, by simp [Builtin.cap_, run_underlying' w (ty_sl ht hk), ev, goInt]⟩, .of (.int _ _)⟩
        · rename_i e t' xs hk
          cases hv
          obtain ⟨A, cap, ev, _, hf, _⟩ := inv_sl (show RepD w D (.sl t' true xs) (a.eval x) from hx0)
          have := hf rfl
          subst this
          exact ⟨_, .inr ⟨rfl, by simp [Builtin.cap_, run_underlying' w (ty_sl ht hk), ev, goInt]⟩, .of (.int _ _)⟩
        · cases hv
      · cases hv
    · cases hv
end
end
end Go.AM
namespace Go.AM
open Go.RowKit Go.Lib
section
variable [Reg]
theorem castL_spec {t u : Nat} {xs : List (R t)} {ys : List (R u)} (h : castL t u xs = some ys) : ∃ e : t = u, ys = e ▸ xs := by
  unfold castL at h
  split at h
  · rename_i e
    simp only [Option.some.injEq] at h
    exact ⟨e, h.symm⟩
  · simp at h
section
variable {P : Program} {c : Ctx} {γ : Gh} {D D' : Dead} {st : St} {a : Act} {w w' : World} {tb : Tb} {h : Heap} {u : List Nat}

/-- A slice's elements, wherever they are. -/
theorem elems_cells (hh : HOk γ h u w D) {X : AV} {V : Value} (hx : RepV γ h u w D X V) {e : Nat} {l : List (R e)} (he : elemsOf h e X = some l) :
    ∃ A cap, V = .slice A l.length cap ∧ l.length ≤ cap ∧ (l = [] ∨ ∃ (b o : Nat), A = some ⟨b, o, none⟩ ∧ ∀ (q : Nat) (c : AV), (flat e l)[q]? = some c → ∃ v, w.cell? ⟨b, o + q, none⟩ = some v ∧ RepD w D c v) := by
  have fin : RepD w D (.sl e false l) V → ∃ A cap, V = .slice A l.length cap ∧ l.length ≤ cap ∧ (l = [] ∨ ∃ (b o : Nat), A = some ⟨b, o, none⟩ ∧ ∀ (q : Nat) (c : AV), (flat e l)[q]? = some c → ∃ v, w.cell? ⟨b, o + q, none⟩ = some v ∧ RepD w D c v) := by
    intro hD
    obtain ⟨A, cap, e1, e2, _, e3⟩ := inv_sl hD
    exact ⟨A, cap, e1, e2, e3.imp id fun ⟨b, o, f, q1, q2⟩ => ⟨b, o, q1, fun q c hq => ⟨f q, (q2 q c hq).2⟩⟩⟩
  unfold elemsOf at he
  split at he
  · obtain ⟨rfl, rfl⟩ := castL_spec he
    exact fin (RepD.unfull hx)
  · obtain ⟨rfl, rfl⟩ := castL_spec he
    exact fin hx.2.1
  · simp only [Option.some.injEq] at he
    subst he
    cases (show RepD w D .nils V from hx)
    exact ⟨none, 0, rfl, Nat.le_refl _, .inl rfl⟩
  · rename_i k t
    split at he
    · rename_i e1
      subst e1
      split at he
      · rename_i u' xs hr
        obtain ⟨rfl, rfl⟩ := castL_spec he
        have hv := asSv_rep hx
        have : asSv h (.vw k u') = .sv k u' 0 l.length := by simp [asSv, vwN, hr]
        rw [this] at hv
        obtain ⟨A, cap, e1, e2, _, e4⟩ := row_cells hh hr hv
        refine ⟨A, cap, e1, e2, ?_⟩
        rcases e4 with e4 | e4
        · exact .inl (List.eq_nil_of_length_eq_zero e4)
        · right
          simpa using e4
      · simp at he
    · simp at he
  · rename_i k t lo n
    split at he
    · rename_i e1
      subst e1
      split at he
      · rename_i u' xs hr
        split at he
        · rename_i l' hl
          simp only [Option.some.injEq] at he
          subst he
          obtain ⟨rfl, rfl⟩ := castL_spec hl
          obtain ⟨A, cap, e1, e2, e3, e4⟩ := row_cells hh hr hx
          have hlen : ((l'.drop lo).take n).length = n := by simp; omega
          refine ⟨A, cap, by rw [hlen]; exact e1, by rw [hlen]; exact e2, e4.imp (fun e => List.eq_nil_of_length_eq_zero (by omega)) id⟩
        · simp at he
      · simp at he
    · simp at he
  · simp at he

theorem gives_noted {o : Oper} {v : AV} {st' : St} (h : Gives P c o a w (st.put o.dst v)) (e : st' = st.put o.dst v) : Gives P c o a w st' := e ▸ h

/-- What only looks. -/
theorem look_sound (hT : TbOk P tb) {o : Oper} (h : Inv c γ D st a w) {e : AV × Option Nat} (hv : (lookQ tb st.ev st.h o.op).val = some e) : Gives P c o a w (st.put o.dst e.1) := by
  cases ho : o.op with
  | load t x =>
    rw [ho] at hv
    obtain ⟨A, cv, h1, h2, h3⟩ := load_core hT h hv
    exact gives_put h h3.v (run_load ho h1 h2)
  | convert s d x =>
    rw [ho] at hv
    unfold lookQ at hv
    simp only at hv
    split at hv
    · rename_i ts td hts htd
      split at hv
      · rename_i k hk
        split at hv
        · rename_i e' hkd hks
          split at hv
          · rename_i l hl
            split at hv
            · rename_i hc
              cases hv
              obtain ⟨A, cap, ev, _, h3⟩ := elems_cells h.hp (h.ev x) hl
              obtain ⟨str, e1, e2⟩ := run_bytes (w := w) (D := D) hT hts htd hkd hks hc.1 hc.2 (xs := l) (A := A) (cap := cap) h3
              exact gives_put h (cv := .string str) (.of (.str _ _ e1)) (by simp [execOp, ho, ev, e2])
            · cases hv
          · cases hv
        · cases hv
      · obtain ⟨v', h1, h2⟩ := Q.val_bind hv
        cases h2
        exact sound_convQ hT h ho hts htd h1
    · cases hv
  | slice t x lo hi mx =>
    rw [ho] at hv
    obtain ⟨v', h1, h2⟩ := Q.val_bind hv
    cases h2
    exact sound_slice hT h ho h1
  | indexAddr t x i =>
    rw [ho] at hv
    unfold lookQ at hv
    simp only at hv
    split at hv
    · rename_i k n hi
      obtain ⟨v', h1, h2⟩ := Q.val_bind hv
      cases h2
      exact sound_indexAddr hT h ho hi h1
    · cases hv
  | call cl =>
    rw [ho] at hv
    obtain ⟨callee, args, ts⟩ := cl
    cases callee with
    | builtin b =>
      obtain ⟨args⟩ := args
      have key : ∃ x, args = [x] ∧ (b = .len ∨ b = .cap) := by
        unfold lookQ at hv
        simp only at hv
        generalize hA : args.map st.ev = A at hv
        split at hv
        · obtain ⟨x, rfl, _⟩ := map_one hA; exact ⟨x, rfl, .inl rfl⟩
        · obtain ⟨x, rfl, _⟩ := map_one hA; exact ⟨x, rfl, .inr rfl⟩
        · cases hv
      obtain ⟨x, rfl, hb⟩ := key
      exact sound_len hT h hb ho hv
    | _ => cases hv
  | _ => rw [ho] at hv; cases hv
end
end
end Go.AM
