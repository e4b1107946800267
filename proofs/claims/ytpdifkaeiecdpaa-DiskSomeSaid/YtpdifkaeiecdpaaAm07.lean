/- A part of the proof: machine and program. -/
import Derived.Test.YtpdifkaeiecdpaaAm06
import Derived.Deep.Upon
import Derived.Deep.MidRow
import Derived.Lib.AppendStr
namespace Go.AM
open Go.RowKit Go.Lib
section
variable [Reg]
section
variable {P : Program} {c : Ctx} {γ γ' γ'' : Gh} {D D' D'' : Dead} {st : St} {a : Act} {w w' w'' : World} {tb : Tb} {H : Hints} {h h' h'' : Heap} {u u' u'' : List Nat}

omit [Reg] in
theorem nk_big (dst : Option Nat) (j : Nat) : 1000 ≤ nk dst j := by unfold nk; omega
theorem RepL.step {cs : List AV} {vs : Array Value} (s : Stp γ γ' h h' u u' w w' D D') (hR : RepL γ h u w D cs vs) : RepL γ' h' u' w' D' cs vs :=
  ⟨hR.1, fun i c v hi hj => ⟨(hR.2 i c v hi hj).1.mono s.pres s.dd s.uu s.same, (hR.2 i c v hi hj).2⟩⟩
/-- An operation that turns memory. -/
theorem gives_eff {o : Oper} (hi : Inv c γ' D' { st with h := h', u := u' } a w') {v : AV} {cv : Value} (hv : RepV γ' h' u' w' D' v cv) (hr : (execOp a.eval o).run P w = .ok (.value cv) w') : Gives P c o a w ({ st with h := h', u := u' }.put o.dst v) :=
  ⟨cv, w', .inl hr, γ', D', hi.put hv o.dst⟩
theorem gives_skip {o : Oper} (hi : Inv c γ' D' { st with h := h', u := u' } a w') (hr : (execOp a.eval o).run P w = .ok .skip w') : Gives P c o a w ({ st with h := h', u := u' }.put o.dst .undef) :=
  ⟨Go.undef, w', .inr ⟨hr, rfl⟩, γ', D', hi.put (v := .undef) trivial o.dst⟩

/-- An empty row that is nil. -/
theorem vw_nil {k t : Nat} (hu : k ∈ u) (hf : find k h = some (.row t [])) : RepC γ h u w D (.vw k t) (.slice none 0 0) :=
  ⟨hu, ⟨_, _, _, rfl⟩, fun xs e => by rw [hf] at e; cases e; exact ⟨none, 0, rfl, Nat.le_refl _, Nat.le_refl _, .inl ⟨rfl, Nat.le_refl _⟩⟩, fun xs e => by rw [hf] at e; cases e⟩

theorem boxRows_sound {dst : Option Nat} {vs : Array Value} : ∀ {l : List (Nat × Nat)} {γ : Gh} {st : St} {cs cs' : List AV}, Inv c γ D st a w → RepL γ st.h st.u w D cs vs → boxRows dst l cs st.h st.u = some (cs', h', u') →
    ∃ γ', Inv c γ' D { st with h := h', u := u' } a w ∧ RepL γ' h' u' w D cs' vs
  | [], γ, st, cs, cs', hi, hR, hb => by
    simp only [boxRows, Option.some.injEq, Prod.mk.injEq] at hb
    obtain ⟨rfl, rfl, rfl⟩ := hb
    exact ⟨γ, hi, hR⟩
  | (off, e) :: l, γ, st, cs, cs', hi, hR, hb => by
    unfold boxRows at hb
    split at hb
    · rename_i hc
      cases hk : isNew st.u (nk dst (off + 1)) with
      | false => rw [hk] at hb; simp at hb
      | true =>
        rw [hk] at hb
        simp only [cond_true] at hb
        have s := stp_bare hi hk (nk_big _ _) (o' := .row e []) (.inr ⟨e, rfl⟩)
        have hi1 := hi.step s
        have hR1 := hR.step s
        have hlt : off < vs.size := by rw [hR.1]; exact (List.getElem?_eq_some_iff.1 hc).1
        have hv : vs[off] = .slice none 0 0 := by
          have := (hR.2 off _ _ hc (Array.getElem?_eq_getElem hlt)).1
          generalize vs[off] = x at this
          cases (show RepD w D .nils x from this)
          rfl
        refine boxRows_sound (st := { st with h := AM.put (nk dst (off + 1)) (.row e []) st.h, u := nk dst (off + 1) :: st.u }) hi1 ⟨by rw [hR.1]; simp, fun i c' v' h1 h2 => ?_⟩ hb
        rw [List.getElem?_set] at h1
        split at h1
        · rename_i e1
          subst e1
          have e2 : c' = .vw (nk dst (off + 1)) e := by
            split at h1
            · simpa using h1.symm
            · simp at h1
          subst e2
          rw [Array.getElem?_eq_getElem hlt] at h2
          simp only [Option.some.injEq] at h2
          subst h2
          rw [hv]
          exact ⟨vw_nil (List.mem_cons_self ..) (find_put_same _ _ _), .inr rfl⟩
        · exact hR1.2 i c' v' h1 h2
    · exact boxRows_sound hi hR hb

theorem sound_newBox {o : Oper} (hi : Inv c γ D st a w) {e E : Nat} {v : AV} {cv : Value} (hv : RepV γ st.h st.u w D v cv) {r : Eff} (hr : (newBox H st.h st.u o.dst e v.cells).val = some r) (hrun : (execOp a.eval o).run P w = .ok (.value (.pointer (some ⟨w.heap.size, 0, none⟩))) (w.alloc (.cells cv.cells E))) :
    Gives P c o a w ({ st with h := r.2.1, u := r.2.2.1 }.put o.dst r.1) := by
  unfold newBox at hr
  cases h1 : one1 v.cells with
  | false => rw [h1] at hr; cases hr
  | true =>
    rw [h1] at hr
    simp only [cond_true] at hr
    split at hr
    · rename_i cs' h' u' hb
      cases hk : isNew u' (nk o.dst 0) with
      | false => rw [hk] at hr; cases hr
      | true =>
        rw [hk] at hr
        cases hr
        obtain ⟨γ1, hi1, hR1⟩ := boxRows_sound hi (hv.cells h1) hb
        have s := stp_new (E := E) hi1 hk (nk_big _ _) (o' := .box cs') (vs := cv.cells) (.inr rfl) (.inl rfl) (below_alloc w (.cells cv.cells E)) (World.size_alloc ..) (heap_alloc_new w _) (fun cs e => by cases e; exact hR1) (fun t xs e => by cases e)
        exact gives_eff (st := st) (hi1.step s) (v := .ptr (nk o.dst 0) 0) ⟨List.mem_cons_self .., ⟨_, rfl⟩, fun cs _ => by simp [Gh.new]⟩ hrun
    · cases hr

theorem flat_rep (t : Nat) (z : R t) (n q : Nat) (d : AV) (h : (flat t (List.replicate n z))[q]? = some d) : (cel t z)[q % szR t]? = some d := by
  have e : flat t (List.replicate n z) = repC (cel t z) n := by
    clear h
    induction n with
    | zero => rfl
    | succ n ih => rw [List.replicate_succ, flat_cons, ih]; rfl
  rw [e] at h
  have := repC_get _ _ _ _ h
  rwa [cel_len] at this

theorem sound_alloc (hT : TbOk P tb) {o : Oper} (hi : Inv c γ D st a w) {e : Nat} (ho : o.op = .alloc e) {r : Eff} (hr : (effQ tb H st.ev st.h st.u o.dst (.alloc e)).val = some r) : Gives P c o a w ({ st with h := r.2.1, u := r.2.2.1 }.put o.dst r.1) := by
  unfold effQ at hr
  simp only at hr
  split at hr
  · rename_i ti hti
    have box : (newBox H st.h st.u o.dst e ti.z.cells).val = some r → Gives P c o a w ({ st with h := r.2.1, u := r.2.2.1 }.put o.dst r.1) := by
      intro hr
      have h1 : one1 ti.z.cells = true := by
        unfold newBox at hr
        cases h1 : one1 ti.z.cells with
        | false => rw [h1] at hr; cases hr
        | true => rfl
      obtain ⟨ie, zv, hie, hzv, _, _, hz⟩ := ty_zeroL (hT _ _ hti) h1
      refine sound_newBox hi (hz γ st.h st.u w D).2 (E := e) hr ?_
      have hzr : (zeroValue e).run P w = .ok zv w := by simp [zeroValue, run_typeInfo' w hie, hzv]
      simp [execOp, ho, Instr.alloc, hzr, newVar, Go.newRow]
    split at hr
    · rename_i n e' hk
      cases hn : Nat.blt 16 n with
      | false => rw [hn] at hr; exact box hr
      | true =>
        rw [hn] at hr
        simp only [cond_true] at hr
        split at hr
        · rename_i te hte
          split at hr
          · rename_i k hk2
            split at hr
            · rename_i z hz
              generalize hb : (Nat.beq (szR e') 1 && (Nat.beq ti.z.cells.length n && allZ k ti.z.cells)) = b at hr
              cases b
              · cases hr
              · simp only [cond_true] at hr
                simp only [Bool.and_eq_true, Nat.beq_eq] at hb
                obtain ⟨hs1, hl, hall⟩ := hb
                unfold AM.newRow at hr
                cases hk1 : isNew st.u (nk o.dst 0) with
                | false => rw [hk1] at hr; cases hr
                | true =>
                  rw [hk1] at hr
                  cases hr
                  have hone : one1 ti.z.cells = true := List.all_eq_true.2 fun c' hc' => by
                    have := List.all_eq_true.1 hall c' hc'
                    cases c' <;> simp at this <;> rfl
                  obtain ⟨ie, zv, hie, hzv, _, _, hzz⟩ := ty_zeroL (hT _ _ hti) hone
                  have hL := (hzz γ st.h st.u w D).1
                  have hzr : (zeroValue e).run P w = .ok zv w := by simp [zeroValue, run_typeInfo' w hie, hzv]
                  have s := stp_new (E := e) hi hk1 (nk_big _ _) (o' := .row e' (List.replicate n z)) (vs := zv.cells) (.inr rfl) (.inl rfl) (below_alloc w (.cells zv.cells e)) (World.size_alloc ..) (heap_alloc_new w _) (fun cs e => by cases e) (fun t xs e => by
                    cases e
                    refine ⟨by rw [List.length_replicate, hs1, hL.1, hl]; omega, fun q d v hq hv => ?_⟩
                    have hq2 := flat_rep e' z n q d hq
                    have hlt : q < ti.z.cells.length := by rw [← hL.1]; exact (Array.getElem?_eq_some_iff.1 hv).1
                    have hc0 := (hL.2 q _ v (List.getElem?_eq_getElem hlt) hv).1
                    have hz0 : ti.z.cells[q] = .int k 0 := by
                      have := List.all_eq_true.1 hall _ (List.getElem_mem hlt)
                      generalize ti.z.cells[q] = y at this
                      cases y <;> simp at this
                      obtain ⟨rfl, rfl⟩ := this
                      rfl
                    rw [hz0] at hc0
                    rw [hs1, Nat.mod_one] at hq2
                    exact ((dnc_rep hz).2 0 _ d rfl hq2).2 v hc0)
                  exact gives_eff (st := st) (hi.step s) (v := .ep (nk o.dst 0) e' 0 0) (cv := .pointer (some ⟨w.heap.size, 0, none⟩)) ⟨List.mem_cons_self .., ⟨_, rfl⟩, fun xs _ => by simp [Gh.new], fun xs y e => by rw [find_put_same] at e; cases e⟩ (by simp [execOp, ho, Instr.alloc, hzr, newVar, Go.newRow])
            · cases hr
          · cases hr
        · cases hr
    · exact box hr
  · cases hr

omit [Reg] in
theorem run_make {t e : Nat} {i : TypeInfo} {z : Value} (hu : P.underlying t = some (.slice e)) (hi : P.info? e = some i) (hz : i.zero = some z) (n : Nat) (kl kc : IntKind) (h63 : n ≤ 9223372036854775807) (hb : n * i.bytes ≤ 140737488355328) :
    (Instr.makeSlice t (.int kl n) (.int kc n)).run P w = .ok (.slice (some ⟨w.heap.size, 0, none⟩) n n) (w.alloc (.cells ((Array.range (n * i.size)).map (z.cells[· % z.cells.size]!)) e)) := by
  have hw : IntKind.i64.wrap (n : Int) = n := IntWalk.i64_in _ (by omega)
  have hnn : ¬ ((n : Int) < 0) := by omega
  have hmul : (i.bytes : Int) * (n : Int) ≤ 140737488355328 := by
    have h1 : ((n * i.bytes : Nat) : Int) = (i.bytes : Int) * (n : Int) := by rw [Int.natCast_mul, Int.mul_comm]
    rw [← h1]
    generalize n * i.bytes = q at hb
    omega
  have hbig : ¬ (281474976710656 < (i.bytes : Int) * (n : Int)) := by omega
  have hlt : ¬ ((n : Int) > (n : Int)) := by omega
  simp [Instr.makeSlice, run_underlying' w hu, Go.asInt, asIntOf, run_typeInfo' w hi, hw, hnn, hbig, sizeOf, zeroValue, hz, Go.newRow]
  by_cases h0 : n * i.size = 0
  · simp [h0, show Array.range 0 = (#[] : Array Nat) from rfl]
  · simp [h0]

theorem sound_makeSlice (hT : TbOk P tb) {o : Oper} (hi : Inv c γ D st a w) {t : Nat} {l m : Operand} (ho : o.op = .makeSlice t l m) {r : Eff} (hr : (effQ tb H st.ev st.h st.u o.dst (.makeSlice t l m)).val = some r) : Gives P c o a w ({ st with h := r.2.1, u := r.2.2.1 }.put o.dst r.1) := by
  unfold effQ at hr
  simp only at hr
  split at hr
  · rename_i e sz by_ z kl n kc n' hti hl hm
    split at hr
    · rename_i te hte
      split at hr
      · rename_i z0 hz
        cases hs : Nat.beq te.sz (szR e) with
        | false => rw [hs] at hr; cases hr
        | true =>
          rw [hs] at hr
          simp only [cond_true] at hr
          obtain ⟨hb, hr2⟩ := Q.val_ask hr
          clear hr
          simp only [Bool.and_eq_true, decide_eq_true_eq, fitsB, roomB] at hb
          obtain ⟨⟨rfl, h0, h63⟩, hb⟩ := hb
          have hs := Nat.eq_of_beq_eq_true hs
          have hu := ty_sl (hT _ _ hti) rfl
          have hone : one1 te.z.cells = true := by
            refine List.all_eq_true.2 fun c' hc' => ?_
            obtain ⟨q, hq⟩ := List.getElem?_of_mem hc'
            have hlen := (dnc_rep (γ := ⟨fun _ => (0, 0), fun _ => none⟩) (h := []) (u := []) (w := default) (D := fun _ _ => False) hz)
            have hlt : q < (cel e z0).length := by rw [cel_len, ← hlen.1]; exact (List.getElem?_eq_some_iff.1 hq).1
            exact (hlen.2 q c' _ hq (List.getElem?_eq_getElem hlt)).1
          obtain ⟨ie, zv, hie, hzv, hsz, hby, hzz⟩ := ty_zeroL (hT _ _ hte) hone
          have el := inv_int (hl ▸ hi.ev l)
          have em := inv_int (hm ▸ hi.ev m)
          have hn : (n.toNat : Int) = n := Int.toNat_of_nonneg h0
          have hrun := run_make (P := P) (w := w) hu hie hzv n.toNat kl kc (by omega) (by rw [hby]; exact of_decide_eq_true hb)
          rw [hn] at hrun
          have hzl : te.z.cells.length = szR e := (dnc_rep (γ := γ) (h := st.h) (u := st.u) (w := w) (D := D) hz).1
          have hrow := zeroRow (hzz γ st.h st.u w D).1 n.toNat
          rw [hzl] at hrow
          rw [hsz, hs] at hrun
          have hcell : ∀ (q : Nat) (d : AV) (v : Value), (flat e (List.replicate n.toNat z0))[q]? = some d → ((Array.range (n.toNat * szR e)).map (zv.cells[· % zv.cells.size]!))[q]? = some v → RepD w D d v := by
            intro q d v hq hv
            have hq2 := flat_rep e z0 n.toNat q d hq
            have hlt : q < (repC te.z.cells n.toNat).length := by rw [← hrow.1]; exact (Array.getElem?_eq_some_iff.1 hv).1
            have hc := repC_get _ _ q _ (List.getElem?_eq_getElem hlt)
            rw [hzl] at hc
            exact ((dnc_rep hz).2 _ _ d hc hq2).2 v (hrow.2 q _ v (List.getElem?_eq_getElem hlt) hv).1
          cases hf : flag H o.dst 0 with
          | false =>
            rw [hf] at hr2
            cases hr2
            refine gives_alloc hi (newSl hi e (by rw [flat_len]; simp) hcell) ?_
            rw [List.length_replicate]
            simp [execOp, ho, el, em, hrun]
          | true =>
            rw [hf] at hr2
            simp only [cond_true] at hr2
            unfold AM.newRow at hr2
            cases hk1 : isNew st.u (nk o.dst 0) with
            | false => rw [hk1] at hr2; cases hr2
            | true =>
              rw [hk1] at hr2
              cases hr2
              have s := stp_new (E := e) hi hk1 (nk_big _ _) (o' := .row e (List.replicate n.toNat z0)) (vs := (Array.range (n.toNat * szR e)).map (zv.cells[· % zv.cells.size]!)) (.inr rfl) (.inl rfl) (below_alloc w _) (World.size_alloc ..) (heap_alloc_new w _) (fun cs e => by cases e) (fun t xs e => by
                cases e
                exact ⟨by simp, hcell⟩)
              refine gives_eff (st := st) (hi.step s) (v := .vw (nk o.dst 0) e) (cv := .slice (some ⟨w.heap.size, 0, none⟩) n.toNat n.toNat) ⟨List.mem_cons_self .., ⟨_, _, _, rfl⟩, fun xs hx => ?_, fun xs e => by rw [find_put_same] at e; cases e⟩ (by simp [execOp, ho, el, em, hrun])
              rw [find_put_same] at hx
              cases hx
              rw [List.length_replicate]
              refine ⟨_, _, rfl, Nat.le_refl _, by omega, .inr ⟨by simp [Gh.new], by simp [Gh.new], by omega, ?_⟩⟩
              refine ⟨_, e, by simp only [Gh.new, if_true]; exact heap_alloc_new w _, by simp [Gh.new]⟩
      · cases hr
    · cases hr
  · cases hr

omit [Reg] in
theorem one_setRow {b : Nat} {vs vs' : Array Value} {E : Nat} {fr : Nat × Nat} (hb : w.heap[b]? = some (.cells vs E fr)) (hs : vs'.size = vs.size) : OneBlk w (w.setRow b vs') b vs' E fr :=
  ⟨setRow_heap w _ vs _ E _ hb, fun b' hb' => setRow_other w _ _ _ hb', setRow_size .., rfl, rfl, rfl, fun vs2 E2 h2 => by rw [hb] at h2; cases h2; exact ⟨rfl, by omega⟩⟩
/-- A box's cells are other ones. -/
theorem stp_box (hi : Inv c γ D st a w) {k : Nat} {cs cs' : List AV} (hk : find k st.h = some (.box cs)) {vs vs' : Array Value} {E : Nat} (hb : w.heap[(γ.g k).1]? = some (.cells vs E (0, 0))) (hs : vs'.size = vs.size) (hR : RepL γ st.h st.u w D cs' vs') :
    Stp γ (γ.move k (γ.g k).1 (γ.g k).2) st.h (AM.put k (.box cs') st.h) st.u st.u w (w.setRow (γ.g k).1 vs') D D := by
  obtain ⟨hown, _⟩ := hi.hp.box k cs hk
  have hlv : ∀ o, ¬ D (γ.g k).1 o := hi.hp.lv _ k hown (by rw [hk]; simp)
  have := stp_turn hi (K := k) hown (.inl rfl) (o' := .box cs') (h' := AM.put k (.box cs') st.h) (fun j hj _ => find_put_ne hj _ _) (fun h => absurd rfl h) (find_put_same _ _ _) (.inr rfl) (one_setRow hb hs) (fun b o hD => cell_setRow_other w _ _ _ (fun e => by simp only at e; subst e; exact hlv o hD)) (fun _ _ h => h) (fun _ _ _ h => h) hi.dl (fun _ => hlv)
    (fun _ => ⟨fun cs e => ⟨_, hk⟩, fun t xs e => (by cases e), by simp, by simp⟩) (fun cs e => by cases e; exact ⟨rfl, hR⟩) (fun t xs e => by cases e)
  have e : Nat.beq k k = true := by simp
  rw [e] at this
  exact this
/-- A row's elements are other ones, as many. -/
theorem stp_row (hi : Inv c γ D st a w) {k t : Nat} {xs xs' : List (R t)} (hk : find k st.h = some (.row t xs)) (hown : γ.own (γ.g k).1 = some k) {vs vs' : Array Value} {E : Nat} (hb : w.heap[(γ.g k).1]? = some (.cells vs E (0, 0))) (hs : vs'.size = vs.size) (hl : xs.length = xs'.length) (hsz : (γ.g k).2 + xs'.length * szR t ≤ vs'.size) (hR : ∀ (q : Nat) (c : AV) (v : Value), (flat t xs')[q]? = some c → vs'[(γ.g k).2 + q]? = some v → RepD w D c v) :
    Stp γ (γ.move k (γ.g k).1 (γ.g k).2) st.h (AM.put k (.row t xs') st.h) st.u st.u w (w.setRow (γ.g k).1 vs') D D := by
  have hlv : ∀ o, ¬ D (γ.g k).1 o := hi.hp.lv _ k hown (by rw [hk]; simp)
  have := stp_turn hi (K := k) hown (.inl rfl) (o' := .row t xs') (h' := AM.put k (.row t xs') st.h) (fun j hj _ => find_put_ne hj _ _) (fun h => absurd rfl h) (find_put_same _ _ _) (.inr rfl) (one_setRow hb hs) (fun b o hD => cell_setRow_other w _ _ _ (fun e => by simp only at e; subst e; exact hlv o hD)) (fun _ _ h => h) (fun _ _ _ h => h) hi.dl (fun _ => hlv)
    (fun _ => ⟨fun cs e => (by cases e), fun t2 ys e => (by cases e; exact ⟨_, hk, hl⟩), by simp, by simp⟩) (fun cs e => by cases e) (fun t2 ys e => by cases e; exact ⟨hsz, hR⟩)
  have e : Nat.beq k k = true := by simp
  rw [e] at this
  exact this

omit [Reg] in
theorem take_set (cur : Array Value) (o : Nat) (vs : List Value) (h : o + vs.length ≤ cur.size) (j : Nat) : ((cur.toList.take o ++ vs ++ cur.toList.drop (o + vs.length)).toArray)[j]? = if o ≤ j ∧ j < o + vs.length then vs[j - o]? else cur[j]? := by
  have hl : (cur.toList.take o).length = o := by rw [List.length_take, Array.length_toList]; omega
  simp only [List.getElem?_toArray]
  by_cases h1 : j < o
  · have h2 : ¬ (o ≤ j ∧ j < o + vs.length) := by omega
    rw [if_neg h2, List.append_assoc, List.getElem?_append_left (by omega), List.getElem?_take, if_pos h1, Array.getElem?_toList]
  · by_cases h2 : j < o + vs.length
    · have h3 : o ≤ j ∧ j < o + vs.length := by omega
      rw [if_pos h3, List.append_assoc, List.getElem?_append_right (by omega), hl, List.getElem?_append_left (by omega)]
    · have h3 : ¬ (o ≤ j ∧ j < o + vs.length) := by omega
      have hl2 : (cur.toList.take o ++ vs).length = o + vs.length := by rw [List.length_append, hl]
      rw [if_neg h3, List.getElem?_append_right (by omega), hl2, List.getElem?_drop, Array.getElem?_toList]
      congr 1
      omega
omit [Reg] in
theorem take_size (cur : Array Value) (o : Nat) (vs : List Value) (h : o + vs.length ≤ cur.size) : (cur.toList.take o ++ vs ++ cur.toList.drop (o + vs.length)).toArray.size = cur.size := by
  simp only [List.size_toArray, List.length_append, List.length_take, List.length_drop, Array.length_toList]
  omega

omit [Reg] in
/-- A store into some cells of a block. -/
theorem run_store {b off t : Nat} {vs : Array Value} {E : Nat} {cv : Value} {n : Nat} (hsz : (sizeOf t).run P w = .ok n w) (hn : cv.cells.size = n) (h1 : ∀ v ∈ cv.cells, v.oneCell' = true) (hb : w.heap[b]? = some (.cells vs E (0, 0))) (hle : off + n ≤ vs.size) :
    (storeVar t ⟨b, off, none⟩ cv).run P w = .ok () (w.setRow b (vs.toList.take off ++ cv.cells.toList ++ vs.toList.drop (off + cv.cells.toList.length)).toArray) := by
  unfold storeVar
  simp only [Sem.run_bind, hsz, Result.andThen_ok]
  rw [if_neg (by rw [hn]; simp)]
  have := run_storeCells_at (P := P) b off E cv.cells.toList 0 vs w hb (by rw [Array.length_toList, hn]; omega) (fun v hv => h1 v (by simpa using hv))
  simpa using this

theorem RepL.put {cs l : List AV} {vs : Array Value} {us : List Value} (hR : RepL γ h u w D cs vs) (hl : RepL γ h u w D l us.toArray) {off : Nat} (hle : off + l.length ≤ cs.length) : RepL γ h u w D (setCells cs off l) (vs.toList.take off ++ us ++ vs.toList.drop (off + us.length)).toArray := by
  have hul : us.length = l.length := by simpa using hl.1
  have hle' : off + us.length ≤ vs.size := by rw [hR.1, hul]; exact hle
  refine ⟨by rw [take_size _ _ _ hle', setCells_len, hR.1], fun i c v hi hj => ?_⟩
  rw [setCells_get _ _ _ _ hle] at hi
  rw [take_set _ _ _ hle', hul] at hj
  split at hi
  · rename_i hc
    rw [if_pos hc] at hj
    exact hl.2 _ _ _ hi (by simpa using hj)
  · rename_i hc
    rw [if_neg hc] at hj
    exact hR.2 _ _ _ hi hj

theorem flat_at (t : Nat) (xs : List (R t)) (q : Nat) (c : AV) (hq : (flat t xs)[q]? = some c) : ∃ x, xs[q / szR t]? = some x ∧ (cel t x)[q % szR t]? = some c ∧ 0 < szR t := by
  have hlt : q < xs.length * szR t := by rw [← flat_len]; exact (List.getElem?_eq_some_iff.1 hq).1
  have hs : 0 < szR t := by
    rcases Nat.eq_zero_or_pos (szR t) with e | e
    · rw [e] at hlt; simp at hlt
    · exact e
  have hi : q / szR t < xs.length := by rw [Nat.div_lt_iff_lt_mul hs]; exact hlt
  refine ⟨xs[q / szR t], List.getElem?_eq_getElem hi, ?_, hs⟩
  rw [← flat_get t xs _ _ _ (List.getElem?_eq_getElem hi) (Nat.mod_lt _ hs), Nat.div_add_mod']
  exact hq

theorem sound_store (hT : TbOk P tb) {o : Oper} (hi : Inv c γ D st a w) {t : Nat} {x y : Operand} (ho : o.op = .store t x y) {r : Eff} (hr : (storeQ tb H st.h st.u o.dst t (st.ev x) (st.ev y)).val = some r) : Gives P c o a w ({ st with h := r.2.1, u := r.2.2.1 }.put o.dst r.1) := by
  have hx := hi.ev x
  have hy := hi.ev y
  generalize st.ev x = X at hx hr
  generalize st.ev y = Y at hy hr
  unfold storeQ at hr
  split at hr
  · cases hr
  rename_i ti hti
  have ht := hT _ _ hti
  have hrun : ∀ {b off : Nat} {w' : World}, a.eval x = .pointer (some ⟨b, off, none⟩) → (storeVar t ⟨b, off, none⟩ (a.eval y)).run P w = .ok () w' → (execOp a.eval o).run P w = .ok .skip w' := by
    intro b off w' ev h1
    simp [execOp, ho, ev, Instr.storeAt, Instr.sureAddr, h1]
  split at hr
  · rename_i k off
    split at hr
    · rename_i cs hk
      obtain ⟨hown, vs, E, hblk, hsz, hR⟩ := hi.hp.box k cs hk
      have ev := hx.2.2 cs hk
      split at hr
      · rename_i e hrs
        generalize hb : (isNew st.u (nk (some (50000 + off)) t) && (Nat.blt off cs.length && Nat.beq ti.sz 1)) = b at hr
        cases b
        · cases hr
        · cases hr
          simp only [Bool.and_eq_true, blt_iff, Nat.beq_eq] at hb
          obtain ⟨hb1, hb2, hb3⟩ := hb
          have hY : a.eval y = .slice none 0 0 := by
            unfold rsOf at hrs
            split at hrs
            · generalize a.eval y = V at hy
              cases (show RepD w D .nils V from hy)
              rfl
            · cases hrs
          generalize hK : nk (some (50000 + off)) t = K at *
          have s1 := stp_bare hi hb1 (by rw [← hK]; exact nk_big _ _) (o' := .row e []) (.inr ⟨e, rfl⟩)
          have hne : k ≠ K := fun e2 => absurd (hi.hp.u k (by rw [hk]; simp)) (by rw [e2]; simpa [isNew] using hb1)
          have hi1 := hi.step s1
          have hg : (γ.bare K).g k = γ.g k := by simp [Gh.bare, hne]
          have hk1 : find k (AM.put K (.row e []) st.h) = some (.box cs) := by rw [find_put_ne hne]; exact hk
          have hR1 : RepL (γ.bare K) (AM.put K (.row e []) st.h) (K :: st.u) w D cs vs := RepL.step s1 ⟨hsz, hR⟩
          have hle : off + 1 ≤ vs.size := by rw [hsz]; exact hb2
          have hR2 : RepL (γ.bare K) (AM.put K (.row e []) st.h) (K :: st.u) w D (cs.set off (.vw K e)) (vs.toList.take off ++ [Value.slice none 0 0] ++ vs.toList.drop (off + 1)).toArray :=
            RepL.put (l := [.vw K e]) (us := [Value.slice none 0 0]) hR1 ⟨rfl, fun i c' v' h1 h2 => by
              cases i with
              | zero =>
                simp at h1 h2
                subst h1
                subst h2
                exact ⟨vw_nil (List.mem_cons_self ..) (find_put_same _ _ _), .inr rfl⟩
              | succ i => simp at h1⟩ (by simp; omega)
          have s2 := stp_box hi1 (k := k) hk1 (cs' := cs.set off (.vw K e)) (vs := vs) (vs' := (vs.toList.take off ++ [Value.slice none 0 0] ++ vs.toList.drop (off + 1)).toArray) (E := E) (by rw [hg]; exact hblk) (take_size vs off [Value.slice none 0 0] hle) hR2
          rw [hg] at s2
          refine gives_skip (st := st) (hi1.step s2) (hrun ev ?_)
          have := run_store (cv := a.eval y) (n := ti.sz) (ty_size ht w) (by rw [hY, hb3]; rfl) (by rw [hY]; simp [Value.cells, Value.oneCell']) hblk (by rw [hb3]; exact hle)
          rw [hY] at this ⊢
          exact this
      · generalize hb : ((Nat.beq Y.cells.length ti.sz && Nat.ble (off + ti.sz) cs.length) && one1 Y.cells) = b at hr
        cases b
        · cases hr
        · cases hr
          simp only [Bool.and_eq_true, Nat.beq_eq, Nat.ble_eq] at hb
          obtain ⟨⟨c1, c2⟩, c3⟩ := hb
          have hl := hy.cells c3
          have s := stp_box hi hk (cs' := setCells cs off Y.cells) (vs' := (vs.toList.take off ++ (a.eval y).cells.toList ++ vs.toList.drop (off + (a.eval y).cells.toList.length)).toArray) hblk (take_size _ _ _ (by rw [Array.length_toList, hl.1, c1, hsz]; exact c2)) (RepL.put ⟨hsz, hR⟩ hl (by rw [c1]; exact c2))
          exact gives_skip (st := st) (hi.step s) (hrun ev (run_store (ty_size ht w) (by rw [hl.1, c1]) (hl.one c3) hblk (by rw [hsz]; exact c2)))
    · cases hr
  · rename_i k t' i j
    split at hr
    · rename_i t2 xs hk
      split at hr
      · rename_i hc
        obtain ⟨rfl, c1, c2⟩ := hc
        obtain ⟨z, hz, hr⟩ := Q.val_get hr
        split at hr
        · rename_i z' hz'
          cases hr
          have hxs : xs ≠ [] := by intro e; subst e; simp at hz
          rcases hi.hp.row k t2 xs hk with e | ⟨hown, vs, E, hblk, hsz, hR⟩
          · exact absurd e hxs
          have ev := hx.2.2.1 xs hk
          have hil : i < xs.length := (List.getElem?_eq_some_iff.1 hz).1
          have hcl : (cel t2 z).length = szR t2 := cel_len t2 z
          have hdn := dnc_rep (γ := γ) (h := st.h) (u := st.u) (w := w) (D := D) hz'
          have hle1 : j + Y.cells.length ≤ (cel t2 z).length := by omega
          have hone : one1 Y.cells = true := List.all_eq_true.2 fun c' hc' => by
            obtain ⟨p, hp⟩ := List.getElem?_of_mem hc'
            have hpl := (List.getElem?_eq_some_iff.1 hp).1
            have h3 : (setCells (cel t2 z) j Y.cells)[j + p]? = some c' := by
              rw [setCells_get _ _ _ _ hle1, if_pos ⟨by omega, by omega⟩, Nat.add_sub_cancel_left]; exact hp
            have hlt : j + p < (cel t2 z').length := by rw [cel_len]; omega
            exact (hdn.2 (j + p) c' _ h3 (List.getElem?_eq_getElem hlt)).1
          have hl := hy.cells hone
          have hus : (a.eval y).cells.toList.length = ti.sz := by rw [Array.length_toList, hl.1, c1]
          have hmul : (i + 1) * szR t2 ≤ xs.length * szR t2 := Nat.mul_le_mul_right _ hil
          rw [Nat.add_mul] at hmul
          have hle : (γ.g k).2 + (i * szR t2 + j) + (a.eval y).cells.toList.length ≤ vs.size := by rw [hus]; omega
          have s := stp_row hi hk hown (xs' := xs.set i z') (vs' := (vs.toList.take ((γ.g k).2 + (i * szR t2 + j)) ++ (a.eval y).cells.toList ++ vs.toList.drop ((γ.g k).2 + (i * szR t2 + j) + (a.eval y).cells.toList.length)).toArray) hblk (take_size _ _ _ hle) (by simp) (by rw [take_size _ _ _ hle, List.length_set]; exact hsz) (fun q d v hq hv => by
            rw [take_set _ _ _ hle, hus] at hv
            obtain ⟨x', hx', hd', hs0⟩ := flat_at _ _ _ _ hq
            have hdiv : q / szR t2 * szR t2 + q % szR t2 = q := Nat.div_add_mod' q _
            have hmod := Nat.mod_lt q hs0
            have hold : ∀ {x0 : R t2} {c0 : AV}, xs[q / szR t2]? = some x0 → (cel t2 x0)[q % szR t2]? = some c0 → vs[(γ.g k).2 + q]? = some v → RepD w D c0 v := fun {x0 c0} h1 h2 h3 => hR q c0 v (by
              have := flat_get t2 xs _ _ x0 h1 hmod
              rw [hdiv] at this
              rw [this]; exact h2) h3
            rw [List.getElem?_set] at hx'
            split at hx'
            · rename_i e1
              have hx' : z' = x' := by simpa [hil] using hx'
              subst hx'
              have hlt : q % szR t2 < (setCells (cel t2 z) j Y.cells).length := by rw [setCells_len, hcl]; exact hmod
              refine (hdn.2 _ _ d (List.getElem?_eq_getElem hlt) hd').2 v ?_
              have h4 := List.getElem?_eq_getElem hlt
              rw [setCells_get _ _ _ _ hle1] at h4
              rw [← e1] at hdiv
              split at h4
              · rename_i hc
                rw [if_pos (by omega), show (γ.g k).2 + q - ((γ.g k).2 + (i * szR t2 + j)) = q % szR t2 - j by omega] at hv
                exact (hl.2 _ _ v h4 (by simpa using hv)).1
              · rename_i hc
                rw [if_neg (by omega)] at hv
                exact (hold (by rw [← e1]; exact hz) h4 hv).c
            · rename_i e1
              have : ¬ ((γ.g k).2 + (i * szR t2 + j) ≤ (γ.g k).2 + q ∧ (γ.g k).2 + q < (γ.g k).2 + (i * szR t2 + j) + ti.sz) := by
                rintro ⟨q1, q2⟩
                have h5 : i ≤ q / szR t2 := by rw [Nat.le_div_iff_mul_le hs0]; omega
                have h6 : q / szR t2 < i + 1 := by rw [Nat.div_lt_iff_lt_mul hs0, Nat.add_mul]; omega
                omega
              rw [if_neg this] at hv
              exact hold hx' hd' hv)
          exact gives_skip (st := st) (hi.step s) (hrun ev (run_store (ty_size ht w) (by rw [hl.1, c1]) (hl.one hone) hblk (by rw [hus] at hle; exact hle)))
        · cases hr
      · cases hr
    · cases hr
  · cases hr
end
end
end Go.AM
namespace Go.AM
open Go.RowKit Go.Lib
section
variable [Reg]
omit [Reg] in
theorem mapO_spec {α β : Type} {f : α → Option β} : ∀ {l : List α} {m : List β}, mapO f l = some m → m.length = l.length ∧ ∀ (i : Nat) (b : β), m[i]? = some b → ∃ a, l[i]? = some a ∧ f a = some b
  | [], m, h => by
    simp only [mapO, Option.some.injEq] at h
    subst h
    simp
  | a :: r, m, h => by
    simp only [mapO] at h
    split at h
    · rename_i b l hb hl
      simp only [Option.some.injEq] at h
      subst h
      obtain ⟨h1, h2⟩ := mapO_spec hl
      refine ⟨by simp [h1], fun i x hx => ?_⟩
      cases i with
      | zero => simp at hx; subst hx; exact ⟨a, rfl, hb⟩
      | succ i => simpa using h2 i x (by simpa using hx)
    · simp at h
section
variable {P : Program} {c : Ctx} {γ γ' γ'' : Gh} {D D' D'' : Dead} {st : St} {a : Act} {w w' w'' : World} {tb : Tb} {H : Hints} {h h' h'' : Heap} {u u' u'' : List Nat}

theorem dat_one {c d : AV} (h : c.dat = some d) : c.cell1 = true ∧ d.cell1 = true := by
  cases c <;> simp only [AV.dat, Option.some.injEq, reduceCtorEq] at h <;> subst h <;> exact ⟨rfl, rfl⟩
theorem sound_errIface (hT : TbOk P tb) {o : Oper} (hi : Inv c γ D st a w) {t : Nat} {x : Operand} (ho : o.op = .makeInterface t x) (hp : isPtrT tb t = true) {r : Eff} (hr : (effQ tb H st.ev st.h st.u o.dst (.makeInterface t x)).val = some r) : Gives P c o a w ({ st with h := r.2.1, u := r.2.2.1 }.put o.dst r.1) := by
  obtain ⟨ti, hti, hk⟩ : ∃ ti, find t tb = some ti ∧ ti.k = .ptr := by
    unfold isPtrT at hp
    split at hp
    · rename_i ti hti
      refine ⟨ti, hti, ?_⟩
      split at hp
      · rename_i hk; exact hk
      · simp at hp
    · simp at hp
  obtain ⟨e, hu⟩ := ty_ptr (hT _ _ hti) hk
  have hrun : (execOp a.eval o).run P w = .ok (.value (.iface t (a.eval x))) w := by
    simp [execOp, ho, Instr.makeInterface, run_underlying' w hu]
  have hx := hi.ev x
  unfold effQ at hr
  simp only at hr
  split at hr
  · rename_i k off hX
    rw [hX] at hx
    split at hr
    · rename_i cs hk
      generalize hb : (Nat.beq off 0 && Nat.ble 1000 k) = b at hr
      cases b
      · cases hr
      · simp only [cond_true] at hr
        simp only [Bool.and_eq_true, Nat.beq_eq] at hb
        obtain ⟨rfl, _⟩ := hb
        split at hr
        · rename_i ds hd
          cases hr
          obtain ⟨hown, vs, E, hblk, hsz, hR⟩ := hi.hp.box k cs hk
          have ev := hx.2.2 cs hk
          obtain ⟨hl, hds⟩ := mapO_spec hd
          have s := stp_del (D' := deadNew D (γ.g k).1 vs.size) hi k ⟨fun b o hD => .inl hD, fun b o hne hD => hD.resolve_right fun ⟨e, _⟩ => hne (by rw [e]; exact hown), fun b o hD => by
            rcases hD with hD | ⟨rfl, _⟩
            · exact hi.dl b o hD
            · exact (hi.hp.own _ k hown).1⟩ (h' := del k st.h) (fun j hj => by rw [find_del, if_neg hj]) (.inl (by rw [find_del, if_pos rfl]))
          refine gives_eff (st := st) (hi.step s) (v := .iface t (.rp ds 0)) (cv := .iface t (a.eval x)) (.of (.iface _ _ _ ?_)) hrun
          rw [ev]
          refine .rp ds 0 (γ.g k).1 0 (fun q => vs.getD q Go.undef) (List.all_eq_true.2 fun d hd' => ?_) (fun q d hq => ?_) (fun q d hq => ?_)
          · obtain ⟨q, hq⟩ := List.getElem?_of_mem hd'
            obtain ⟨c', _, e2⟩ := hds q d hq
            exact (dat_one e2).2
          · have hlt : q < vs.size := by rw [hsz, ← hl]; exact (List.getElem?_eq_some_iff.1 hq).1
            rw [Nat.zero_add]
            exact ⟨.inr ⟨rfl, hlt⟩, by rw [cell_of_block hblk]; simp [hlt]⟩
          · have hlt : q < vs.size := by rw [hsz, ← hl]; exact (List.getElem?_eq_some_iff.1 hq).1
            have e1 : vs.getD q Go.undef = vs[q] := by simp [hlt]
            rw [e1]
            obtain ⟨c', h1, h2⟩ := hds q d hq
            exact ((hR q c' _ h1 (Array.getElem?_eq_getElem hlt)).1.dat h2).mono s.pres s.dd
        · cases hr
    · cases hr
  · rename_i cs j hX
    cases hr
    rw [hX] at hx
    exact gives_put hi (.of (.iface _ _ _ hx)) hrun
  · cases hr

/-- What is appended: how many, and which cells. -/
theorem src_sound (hT : TbOk P tb) (hi : Inv c γ D st a w) {t' e : Nat} {Y : AV} {V : Value} (hy : RepV γ st.h st.u w D Y V) {te : TI} (_hte : find e tb = some te) (_hsz : te.sz = szR e) {ys : List (R e)} (hsrc : srcT tb st.h t' e Y = some ys) :
    ∃ (du : TypeDesc) (news : List Value), P.underlying t' = some du ∧ (∀ k, du ≠ .int k) ∧ (Builtin.lenOf V).run P w = .ok ys.length w ∧ (Builtin.firstCells (szR e) ys.length V).run P w = .ok news.toArray w ∧ (Builtin.firstCells (szR e) ys.length V).run P w.drew = .ok news.toArray w.drew ∧
      news.length = ys.length * szR e ∧ (∀ v ∈ news, v.oneCell' = true) ∧ ∀ (q : Nat) (c : AV) (v : Value), (flat e ys)[q]? = some c → news[q]? = some v → RepD w D c v := by
  unfold srcT at hsrc
  split at hsrc
  · simp at hsrc
  rename_i tu htu
  have ht := hT _ _ htu
  split at hsrc
  · rename_i s hk
    obtain ⟨sb, rfl, hs⟩ := inv_str hy
    have hsz : sb.size = s.length := by rw [← hs, Array.length_toList]; rfl
    unfold byteT at hsrc
    cases hb : byteEnt e with
    | false => rw [hb] at hsrc; simp at hsrc
    | true =>
      rw [hb] at hsrc
      simp only [cond_true] at hsrc
      split at hsrc
      · rename_i d hd
        simp only [Option.some.injEq] at hsrc
        subst hsrc
        have hs1 := byte_sz hb
        have hlen : (s.map (byteOf e d)).length = sb.size := by simp [hsz]
        refine ⟨.string, strCells sb, ty_str ht hk, by simp, by simp [Builtin.lenOf, hlen], ?_, ?_, by rw [strCells_length, hlen, hs1]; simp, strCells_oneCell sb, fun q c' v hq hv => ?_⟩
        · rw [hlen, hs1]; exact run_firstCells_string w 1 sb
        · rw [hlen, hs1]; exact run_firstCells_string w.drew 1 sb
        · obtain ⟨x, hx, hc, _⟩ := flat_at _ _ _ _ hq
          rw [hs1, Nat.div_one] at hx
          rw [hs1, Nat.mod_one] at hc
          rw [List.getElem?_map, Option.map_eq_some_iff] at hx
          obtain ⟨b, hb2, rfl⟩ := hx
          simp only [strCells, hs, List.getElem?_map, hb2, Option.map_some, Option.some.injEq] at hv
          subst hv
          have hbo : dnc e [.int .u8 b.toNat] = some (byteOf e d b) := by
            unfold byteOf
            split
            · rename_i x hx; exact hx
            · rename_i hx
              exfalso
              obtain ⟨en, he, hks⟩ := ent_ks hb
              unfold dnc at hx
              rw [he] at hx
              simp only at hx
              have : ∃ y, dns en.ks [AV.int .u8 b.toNat] = some y := by rw [hks]; exact ⟨_, rfl⟩
              obtain ⟨y, hy⟩ := this
              rw [hy] at hx
              simp at hx
          exact ((dnc_rep (γ := γ) (h := st.h) (u := st.u) (w := w) (D := D) hbo).2 0 _ _ rfl hc).2 _ (RepD.int _ _).c
      · simp at hsrc
  · rename_i e' hk
    obtain ⟨A, cap, rfl, hlc, h3⟩ := elems_cells hi.hp hy hsrc
    refine ⟨.slice e', ?_⟩
    rcases h3 with rfl | ⟨b, o, rfl, hf⟩
    · refine ⟨[], ty_sl ht hk, by simp, by simp [Builtin.lenOf], ?_, ?_, by simp, by simp, by simp [flat]⟩
      · cases A with
        | none => simp [Builtin.firstCells]
        | some x => simp [Builtin.firstCells, loadCells, loadCellsFrom]
      · cases A with
        | none => simp [Builtin.firstCells]
        | some x => simp [Builtin.firstCells, loadCells, loadCellsFrom]
    · have hq : ∀ q, q < ys.length * szR e → ∃ v, w.cell? ⟨b, o + q, none⟩ = some v ∧ ∀ c', (flat e ys)[q]? = some c' → RepD w D c' v := by
        intro q hq
        have hlt : q < (flat e ys).length := by rw [flat_len]; exact hq
        obtain ⟨v, h1, h2⟩ := hf q _ (List.getElem?_eq_getElem hlt)
        exact ⟨v, h1, fun c' hc => by rw [List.getElem?_eq_getElem hlt] at hc; cases hc; exact h2⟩
      have hget : ∀ q, q < ys.length * szR e → w.cell? ⟨b, o + q, none⟩ = some ((w.cell? ⟨b, o + q, none⟩).getD Go.undef) := fun q hlt => by
        obtain ⟨v, h1, _⟩ := hq q hlt
        rw [h1]; rfl
      refine ⟨(List.range (ys.length * szR e)).map fun q => (w.cell? ⟨b, o + q, none⟩).getD Go.undef, ty_sl ht hk, by simp, by simp [Builtin.lenOf], ?_, ?_, by simp, fun v hv => ?_, fun q c' v h1 h2 => ?_⟩
      · exact run_loadCells w _ _ (fun q => (w.cell? ⟨b, o + q, none⟩).getD Go.undef) fun q hlt => by rw [addr_add]; exact hget q hlt
      · exact run_loadCells w.drew _ _ (fun q => (w.cell? ⟨b, o + q, none⟩).getD Go.undef) fun q hlt => by rw [addr_add]; exact hget q hlt
      · obtain ⟨q, hlt, rfl⟩ := List.mem_map.1 hv
        have hlt : q < ys.length * szR e := by simpa using hlt
        obtain ⟨v, h1, h2⟩ := hq q hlt
        have hl2 : q < (flat e ys).length := by rw [flat_len]; exact hlt
        rw [h1]
        exact (h2 _ (List.getElem?_eq_getElem hl2)).one.1
      · have hlt : q < ys.length * szR e := by rw [← flat_len]; exact (List.getElem?_eq_some_iff.1 h1).1
        obtain ⟨v', h3, h4⟩ := hq q hlt
        simp [hlt] at h2
        rw [h3] at h2
        simp at h2
        subst h2
        exact h4 c' h1
  · simp at hsrc

end
end
end Go.AM
