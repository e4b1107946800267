/- Soundness, operation by operation (3): what looks at no memory, all of it. -/
import Derived.Test.YtpdifkaeiecdpaaAmMG
import Derived.Lib.ConvBytes
import Derived.Laws.BytesArg
namespace Go.AM
open Go.RowKit Go.Lib
section
variable [Reg]

theorem ent_ks {e : Nat} (h : byteEnt e = true) : ∃ en : Ent Reg.T e, Reg.ent e = some en ∧ en.ks = [.int .u8] := by
  unfold byteEnt at h
  split at h
  · rename_i en he
    refine ⟨en, he, ?_⟩
    split at h
    · rename_i hk; exact hk
    · simp at h
  · simp at h
theorem byte_cel {e : Nat} (h : byteEnt e = true) (x : R e) : ∃ n : Int, cel e x = [.int .u8 n] := by
  obtain ⟨en, he, hk⟩ := ent_ks h
  unfold cel
  rw [he]
  simp only
  generalize en.to x = y
  revert y
  rw [hk]
  intro y
  exact ⟨y.1, rfl⟩
theorem bytes_spec {e : Nat} (h : byteEnt e = true) : ∀ xs : List (R e), ∃ ns : List Int, flat e xs = ns.map (fun n => AV.int .u8 n) ∧ bytesT e xs = ns.map (fun n => UInt8.ofNat n.toNat) ∧ ns.length = xs.length
  | [] => ⟨[], rfl, rfl, rfl⟩
  | x :: r => by
    obtain ⟨ns, h1, h2, h3⟩ := bytes_spec h r
    obtain ⟨n, hn⟩ := byte_cel h x
    refine ⟨n :: ns, by rw [flat_cons, hn, h1]; rfl, ?_, by simp [h3]⟩
    have : bytesT e (x :: r) = toByte (cel e x) ++ bytesT e r := rfl
    rw [this, hn, h2]
    rfl
theorem byte_sz {e : Nat} (h : byteEnt e = true) : szR e = 1 := by
  obtain ⟨en, he, hk⟩ := ent_ks h
  unfold szR
  rw [he]
  simp [hk]

section
variable {P : Program} {c : Ctx} {γ : Gh} {D D' : Dead} {st : St} {a : Act} {w w' : World} {tb : Tb} {h : Heap} {u : List Nat}

theorem part_sound {t : Nat} {ti : TI} (ht : tyOf P t = some ti) {cs : List AV} {vs : Array Value} (hL : RepL γ h u w D cs vs) {off : Nat} {v : AV} (hp : partOf ti cs off = some v) :
    ∃ cv, (part t vs off).run P w = .ok cv w ∧ RepB γ h u w D v cv := by
  unfold partOf at hp
  unfold part
  simp only [Sem.run_bind, ty_agg ht, Result.andThen_ok]
  cases hagg : ti.isAgg with
  | true =>
    rw [hagg] at hp
    simp only [cond_true] at hp
    cases hle : Nat.ble (off + ti.sz) cs.length with
    | false => rw [hle] at hp; simp at hp
    | true =>
      rw [hle] at hp
      simp only [cond_true, Option.some.injEq] at hp
      subst hp
      have hle := Nat.le_of_ble_eq_true hle
      refine ⟨.agg (vs.extract off (off + ti.sz)), by simp [ty_size ht], ?_⟩
      refine ⟨_, rfl, by simp [hL.1]; omega, fun i c v hi hj => ?_⟩
      have hi1 : i < ti.sz := by
        have := (List.getElem?_eq_some_iff.1 hi).1
        simp at this
        omega
      rw [List.getElem?_take, if_pos hi1, List.getElem?_drop] at hi
      rw [Array.getElem?_extract] at hj
      split at hj
      · exact hL.2 _ c v hi hj
      · simp at hj
  | false =>
    rw [hagg] at hp
    simp only [cond_false] at hp
    have hlt : off < cs.length := (List.getElem?_eq_some_iff.1 hp).1
    have hlt' : off < vs.size := by rw [hL.1]; exact hlt
    exact ⟨vs[off], by simp [Array.getElem?_eq_getElem hlt'], (hL.2 off v vs[off] hp (Array.getElem?_eq_getElem hlt')).1.b⟩

omit [Reg] in
theorem bytes_get (s : ByteArray) (i : Nat) : s[i]? = s.data.toList[i]? := by
  rw [Array.getElem?_toList]
  by_cases h : i < s.size
  · rw [getElem?_pos s i h, Array.getElem?_eq_getElem (show i < s.data.size from h)]
    rfl
  · rw [getElem?_neg s i h, Array.getElem?_eq_none (show s.data.size ≤ i from Nat.le_of_not_lt h)]

theorem sound_index (hT : TbOk P tb) {o : Oper} (h : Inv c γ D st a w) {t : Nat} {x i : Operand} (ho : o.op = .index t x i) {v : AV} (hv : (pureQ tb st.ev (.index t x i)).val = some v) : Gives P c o a w (st.put o.dst v) := by
  unfold pureQ at hv
  simp only at hv
  split at hv
  · rename_i sz by_ z s k n hti hx hi
    obtain ⟨h0, hv⟩ := Q.val_ask hv
    obtain ⟨b, hb, hv⟩ := Q.val_get hv
    cases hv
    simp only [decide_eq_true_eq] at h0
    obtain ⟨sb, e, hs⟩ := inv_str (hx ▸ h.ev x)
    have ei := inv_int (hi ▸ h.ev i)
    refine gives_put h (cv := .int .u8 b.toNat) (.of (.int _ _)) ?_
    have hb' : sb[n.toNat]? = some b := by rw [bytes_get, hs, hb]
    simp [execOp, ho, e, ei, Instr.index, asIntOf, run_underlying' w (ty_str (hT _ _ hti) rfl), h0, hb']
  · rename_i n e sz by_ z cs k m hti hx hi
    split at hv
    · rename_i te hte
      obtain ⟨j, hj, rfl, hv2⟩ := among_val hv
      clear hv
      split at hv2
      · rename_i v' hp
        cases hv2
        obtain ⟨vs, e', hn, hh⟩ := inv_agg (hx ▸ h.ev x)
        have ei := inv_int (hi ▸ h.ev i)
        obtain ⟨cv, hr, hv⟩ := part_sound (γ := γ) (h := st.h) (u := st.u) (w := w) (D := D) (hT _ _ hte) ⟨hn, hh⟩ hp
        refine gives_put h hv.v ?_
        have h0 : (0 : Int) ≤ j := by omega
        have h1 : (j : Int) < n := by omega
        simp [execOp, ho, e', ei, Instr.index, asIntOf, run_underlying' w (ty_arr (hT _ _ hti) rfl), show j < n from hj, ty_size (hT _ _ hte), hr]
      · cases hv2
    · cases hv
  · cases hv

theorem sound_field (hT : TbOk P tb) {o : Oper} (h : Inv c γ D st a w) {s f : Nat} {x : Operand} (ho : o.op = .field s x f) {v : AV} (hv : (pureQ tb st.ev (.field s x f)).val = some v) : Gives P c o a w (st.put o.dst v) := by
  unfold pureQ at hv
  simp only at hv
  split at hv
  · rename_i fs sz by_ z cs ht hx
    split at hv
    · rename_i off ft hf
      split at hv
      · rename_i tf htf
        split at hv
        · rename_i v' hp
          cases hv
          obtain ⟨arr, hu, hfs, hsz⟩ := ty_struct (hT _ _ ht) rfl
          obtain ⟨fl, hfl, e1⟩ : ∃ fl, arr[f]? = some fl ∧ (fl.offset, fl.type) = (off, ft) := by
            rw [hfs, List.getElem?_map, Array.getElem?_toList, Option.map_eq_some_iff] at hf
            exact hf
          obtain ⟨e2, e3⟩ := Prod.mk.inj e1
          obtain ⟨vs, e, hn, hh⟩ := inv_agg (hx ▸ h.ev x)
          obtain ⟨cv, hr, hv⟩ := part_sound (γ := γ) (h := st.h) (u := st.u) (w := w) (D := D) (hT _ _ htf) ⟨hn, hh⟩ hp
          refine gives_put h hv.v ?_
          simp [execOp, ho, e, Instr.field, run_underlying' w hu, hfl, e2, e3, asAgg, Go.asAgg, hr]
        · cases hv
      · cases hv
    · cases hv
  · cases hv

theorem sound_fieldAddr (hT : TbOk P tb) {o : Oper} (h : Inv c γ D st a w) {s f : Nat} {x : Operand} (ho : o.op = .fieldAddr s x f) {v : AV} (hv : (pureQ tb st.ev (.fieldAddr s x f)).val = some v) : Gives P c o a w (st.put o.dst v) := by
  unfold pureQ at hv
  simp only at hv
  split at hv
  · rename_i fs sz by_ z ht
    obtain ⟨arr, hu, hfs, hsz⟩ := ty_struct (hT _ _ ht) rfl
    have hrun : ∀ {off ft : Nat}, fs[f]? = some (off, ft) → ∀ A, a.eval x = .pointer (some A) → (execOp a.eval o).run P w = .ok (.value (.pointer (some (A.add off)))) w := by
      intro off ft hf A hA
      obtain ⟨fl, hfl, e1⟩ : ∃ fl, arr[f]? = some fl ∧ (fl.offset, fl.type) = (off, ft) := by
        rw [hfs, List.getElem?_map, Array.getElem?_toList, Option.map_eq_some_iff] at hf
        exact hf
      have hoff : fl.offset = off := (Prod.mk.inj e1).1
      have hz : P.cellsOf fl.type ≠ 0 := hsz fl (Array.mem_of_getElem? hfl)
      have hplace : (fieldPlace A fl).run P w = .ok (A.add off) w := by
        have hi : ∃ i, P.info? fl.type = some i := by
          cases hh : P.info? fl.type with
          | none => simp [Program.cellsOf, hh] at hz
          | some i => exact ⟨i, rfl⟩
        obtain ⟨i, hi⟩ := hi
        have hsz' : i.size ≠ 0 := by simpa [Program.cellsOf, hi] using hz
        simp [fieldPlace, sizeOf, run_typeInfo' w hi, hsz', hoff]
      simp [execOp, ho, hA, Instr.fieldAt, run_underlying' w hu, hfl, Instr.sureAddr, hplace]
    have hx := h.ev x
    split at hv
    · rename_i off ft k o' hf e
      cases hv
      rw [e] at hx
      obtain ⟨q1, ⟨A, q2⟩, q3⟩ := hx
      refine gives_put h (v := .ptr k (o' + off)) ⟨q1, ⟨_, rfl⟩, fun cs hk => ?_⟩ (hrun hf A q2)
      have := q3 cs hk
      rw [q2] at this
      simp only [Value.pointer.injEq, Option.some.injEq] at this
      rw [this, addr_add]
    · rename_i off ft cs j hf e
      cases hv
      rw [e] at hx
      obtain ⟨b, o', g, hv, h1, hc, hr⟩ := inv_rp hx
      refine gives_put h (v := .rp cs (j + off)) (cv := .pointer (some ⟨b, o' + (j + off), none⟩)) (.of (.rp _ _ _ _ g h1 hc hr)) ?_
      rw [hrun hf _ hv, addr_add, Nat.add_assoc]
    · rename_i off ft k t i j hf e
      cases hv
      rw [e] at hx
      obtain ⟨q1, ⟨A, q2⟩, q3, q4⟩ := hx
      refine gives_put h (v := .ep k t i (j + off)) ⟨q1, ⟨_, rfl⟩, fun xs hk => ?_, fun xs y hk hy => ?_⟩ (hrun hf A q2)
      · have := q3 xs hk
        rw [q2] at this
        simp only [Value.pointer.injEq, Option.some.injEq] at this
        rw [this, addr_add]
        simp only [Value.pointer.injEq, Option.some.injEq, Addr.mk.injEq, true_and, and_true]
        omega
      · obtain ⟨b, o'', r1, r2⟩ := q4 xs y hk hy
        rw [q2] at r2
        simp only [Value.pointer.injEq, Option.some.injEq] at r2
        refine ⟨b, o'', r1, ?_⟩
        rw [r2, addr_add]
        simp only [Value.pointer.injEq, Option.some.injEq, Addr.mk.injEq, true_and, and_true]
        omega
    · cases hv
  · cases hv

theorem isU8_sound (hT : TbOk P tb) {e : Nat} (h : isU8 tb e = true) : P.underlying e = some (.int .u8) := by
  unfold isU8 at h
  split at h
  · rename_i te hte
    split at h
    · rename_i hk
      exact ty_int (hT _ _ hte) hk
    · simp at h
  · simp at h
theorem inv_sl {t : Nat} {full : Bool} {xs : List (R t)} {v : Value} (h1 : RepD w D (.sl t full xs) v) : ∃ A cap, v = .slice A xs.length cap ∧ xs.length ≤ cap ∧ (full = true → cap = xs.length) ∧ (xs = [] ∨ ∃ (b o : Nat) (f : Nat → Value), A = some ⟨b, o, none⟩ ∧ ∀ (q : Nat) (c : AV), (flat t xs)[q]? = some c → D b (o + q) ∧ w.cell? ⟨b, o + q, none⟩ = some (f q) ∧ RepD w D c (f q)) := by
  cases h1 with
  | slN _ _ A cap hf => exact ⟨A, cap, rfl, Nat.zero_le _, hf, .inl rfl⟩
  | sl _ _ _ b o cap f hlc hf hc hr => exact ⟨_, cap, rfl, hlc, hf, .inr ⟨b, o, f, rfl, fun q c hq => ⟨(hc q c hq).1, (hc q c hq).2, hr q c hq⟩⟩⟩
theorem inv_slOf {X : AV} {V : Value} (hx : RepV γ h u w D X V) {t : Nat} {xs : List (R t)} (he : slOf X = some ⟨t, xs⟩) : RepD w D (.sl t false xs) V := by
  unfold slOf at he
  split at he
  · simp only [Option.some.injEq, Sigma.mk.injEq] at he
    obtain ⟨rfl, he⟩ := he
    cases he
    exact RepD.unfull hx
  · simp only [Option.some.injEq, Sigma.mk.injEq] at he
    obtain ⟨rfl, he⟩ := he
    cases he
    exact hx.2.1
  · simp at he

/-- A slice of bytes, read into a string. -/
theorem run_bytes (hT : TbOk P tb) {s d e : Nat} {ts td : TI} (hts : find s tb = some ts) (htd : find d tb = some td) (hk : td.k = .str) (hks : ts.k = .sl e) (hu8 : isU8 tb e = true) (hb : byteEnt e = true) {xs : List (R e)} {A : Option Addr} {cap : Nat}
    (h3 : xs = [] ∨ ∃ (b o : Nat), A = some ⟨b, o, none⟩ ∧ ∀ (q : Nat) (c : AV), (flat e xs)[q]? = some c → ∃ v, w.cell? ⟨b, o + q, none⟩ = some v ∧ RepD w D c v) :
    ∃ str : ByteArray, str.data.toList = bytesT e xs ∧ (convert s d (.slice A xs.length cap)).run P w = .ok (.string str) w := by
  have hse := ty_sl (hT _ _ hts) hks
  obtain ⟨ns, h1, h2, h4⟩ := bytes_spec hb xs
  refine ⟨strOfNums ns, by rw [h2]; simp [strOfNums], ?_⟩
  rcases h3 with rfl | ⟨b, o', rfl, hf⟩
  · have : ns = [] := List.eq_nil_of_length_eq_zero (by rw [h4]; rfl)
    subst this
    cases A with
    | none => exact run_convert_bytes_nil w s e hse (isU8_sound hT hu8) _ _ d (ty_str (hT _ _ htd) hk)
    | some q =>
      rw [run_convert_bytes_string w s d e _ _ _ hse (isU8_sound hT hu8) (ty_str (hT _ _ htd) hk)]
      simp [Conv.bytesToString, loadCells, loadCellsFrom]
      rfl
  · rw [← h4]
    refine run_convert_bytes_arg w s e hse (isU8_sound hT hu8) b o' ns.length cap ns rfl (fun i hi => ?_) d (ty_str (hT _ _ htd) hk)
    have hxi : (flat e xs)[i]? = some (.int .u8 ns[i]) := by rw [h1]; simp [hi]
    obtain ⟨v, q2, q3⟩ := hf i _ hxi
    rw [q2]
    cases q3
    simp [hi]


theorem not_iface {t : Nat} {ti : TI} (h : tyOf P t = some ti) (hk : ti.k ≠ .iface) : ∃ d, P.underlying t = some d ∧ ∀ ms, d ≠ .interface ms := by
  obtain ⟨i, d, _, hd, hk', _⟩ := tyOf.parts h
  refine ⟨d, hd, fun ms e => ?_⟩
  subst e
  simp [kindOf] at hk'
  exact hk hk'.symm
theorem gives_iface (hT : TbOk P tb) {o : Oper} (h : Inv c γ D st a w) {t : Nat} {x : Operand} (ho : o.op = .makeInterface t x) {ti : TI} (hti : find t tb = some ti) (hk : ti.k ≠ .iface) {v : AV} (hv : RepD w D v (a.eval x)) : Gives P c o a w (st.put o.dst (.iface t v)) := by
  obtain ⟨d, hd, hne⟩ := not_iface (hT _ _ hti) hk
  refine gives_put h (cv := .iface t (a.eval x)) (.of (.iface _ _ _ hv)) ?_
  cases d <;> first | exact absurd rfl (hne _) | simp [execOp, ho, Instr.makeInterface, run_underlying' w hd]

theorem sound_convQ (hT : TbOk P tb) {o : Oper} (h : Inv c γ D st a w) {s d : Nat} {x : Operand} (ho : o.op = .convert s d x) {ts td : TI} (hts : find s tb = some ts) (htd : find d tb = some td) {v : AV} (hv : (convQ tb ts td (st.ev x)).val = some v) : Gives P c o a w (st.put o.dst v) := by
  have hx := h.ev x
  obtain ⟨is, ds, _, hus, _⟩ := tyOf.parts (hT _ _ hts)
  have hd := hT _ _ htd
  generalize st.ev x = X at hx hv
  unfold convQ at hv
  split at hv
  · rename_i k k' n hk
    cases hv
    have ex := inv_int hx
    refine gives_put h (cv := .int k (k.wrap n)) (.of (.int _ _)) ?_
    simp [execOp, ho, ex, convert, run_underlying' w hus, run_underlying' w (ty_int hd hk), Conv.intToInt]
  · rename_i l hk
    cases hv
    obtain ⟨sb, ex, hs⟩ := inv_str hx
    refine gives_put h hx ?_
    simp [execOp, ho, ex, convert, run_underlying' w hus, run_underlying' w (ty_str hd hk)]
  · rename_i hk
    split at hv
    · rename_i e hks
      split at hv
      · rename_i hu8
        cases hv
        have ex : a.eval x = .slice none 0 0 := by
          have : RepD w D .nils (a.eval x) := hx
          generalize a.eval x = V at this
          cases this
          rfl
        refine gives_put h (cv := .string (ByteArray.mk #[])) (.of (.str _ _ rfl)) ?_
        have := run_convert_bytes_nil w s e (ty_sl (hT _ _ hts) hks) (isU8_sound hT hu8) 0 0 d (ty_str hd hk)
        simp [execOp, ho, ex, this]
        rfl
      · cases hv
    · cases hv
  · rename_i hk _ _
    split at hv
    · rename_i e t xs hks he
      split at hv
      · rename_i hc
        obtain ⟨hu8, rfl, hb⟩ := hc
        cases hv
        obtain ⟨A, cap, ev, _, _, h3⟩ := inv_sl (inv_slOf hx he)
        obtain ⟨str, e1, e2⟩ := run_bytes (w := w) (D := D) hT hts htd hk hks hu8 hb (xs := xs) (A := A) (cap := cap) (h3.imp id fun ⟨b, o', f, e1, e2⟩ => ⟨b, o', e1, fun q c hq => ⟨f q, (e2 q c hq).2⟩⟩)
        exact gives_put h (cv := .string str) (.of (.str _ _ e1)) (by simp [execOp, ho, ev, e2])
      · cases hv
    · cases hv
  · cases hv

omit [Reg] in
theorem map_one {α β : Type} {f : α → β} {l : List α} {y : β} (h : l.map f = [y]) : ∃ x, l = [x] ∧ f x = y := by
  match l, h with
  | [x], h => exact ⟨x, rfl, by simpa using h⟩
omit [Reg] in
theorem map_two {α β : Type} {f : α → β} {l : List α} {y z : β} (h : l.map f = [y, z]) : ∃ x u, l = [x, u] ∧ f x = y ∧ f u = z := by
  rcases l with _ | ⟨x, _ | ⟨u, _ | ⟨v, r⟩⟩⟩
  · simp at h
  · simp at h
  · simp at h; exact ⟨x, u, rfl, h⟩
  · simp at h

/-- What looks at no memory. -/
theorem pure_sound (hT : TbOk P tb) {o : Oper} (h : Inv c γ D st a w) {v : AV} (hv : (pureQ tb st.ev o.op).val = some v) : Gives P c o a w (st.put o.dst v) := by
  cases ho : o.op with
  | move x => rw [ho] at hv; cases hv; exact sound_move h x (.inl ho)
  | assign x => rw [ho] at hv; cases hv; exact sound_move h x (.inr ho)
  | pick x y z =>
    rw [ho] at hv
    unfold pureQ at hv
    simp only at hv
    split at hv
    · rename_i t hx; cases hv; exact sound_pick h ho hx
    · cases hv
  | build t ps =>
    rw [ho] at hv
    unfold pureQ at hv
    simp only at hv
    split at hv
    · rename_i fs sz by_ z hti
      cases h1 : one1 z with
      | false => rw [h1] at hv; cases hv
      | true =>
        rw [h1] at hv
        simp only [cond_true] at hv
        split at hv
        · rename_i cs hf; cases hv; exact sound_build hT h ho hti rfl h1 (.inl ⟨_, rfl, hf⟩)
        · cases hv
    · rename_i n e sz by_ z hti
      split at hv
      · rename_i te hte
        cases h1 : one1 z with
        | false => rw [h1] at hv; cases hv
        | true =>
          rw [h1] at hv
          simp only [cond_true] at hv
          split at hv
          · rename_i cs hf; cases hv; exact sound_build hT h ho hti rfl h1 (.inr ⟨_, _, _, rfl, hte, hf⟩)
          · cases hv
      · cases hv
    · cases hv
  | buildSlice t n ps =>
    rw [ho] at hv
    unfold pureQ at hv
    simp only at hv
    split at hv
    · rename_i e sz by_ z hti
      split at hv
      · rename_i te hte
        generalize hb : ((Nat.ble (n * te.sz) 16777216 && Nat.beq te.z.cells.length te.sz) && ((!Nat.beq n 0 && Nat.blt 0 te.sz) && (Nat.beq te.sz (szR e) && one1 te.z.cells))) = b at hv
        cases b
        · cases hv
        · simp only [cond_true] at hv
          simp only [Bool.and_eq_true, Nat.beq_eq, Nat.ble_eq, blt_iff, Bool.not_eq_true'] at hb
          obtain ⟨⟨c1, c2⟩, ⟨c3, c4⟩, c5, c6⟩ := hb
          split at hv
          · rename_i cs hf
            split at hv
            · rename_i l hl
              cases hv
              exact sound_buildSlice hT h ho hti rfl hte c1 c4 c2 c6 c5 hf hl (fun e => by subst e; simp at c3)
            · cases hv
          · cases hv
      · cases hv
    · cases hv
  | nilCheck x => rw [ho] at hv; exact sound_nilCheck h ho hv
  | binOp op t x y u => rw [ho] at hv; exact sound_binOp hT h ho hv
  | unOp op t x => rw [ho] at hv; exact sound_unOp h ho hv
  | convert s d x =>
    rw [ho] at hv
    unfold pureQ at hv
    simp only at hv
    split at hv
    · rename_i ts td hts htd; exact sound_convQ hT h ho hts htd hv
    · cases hv
  | makeInterface t x =>
    rw [ho] at hv
    unfold pureQ at hv
    simp only at hv
    split at hv
    · rename_i ti hti
      have hx := h.ev x
      split at hv
      · rename_i hk hv'
        cases hv
        rw [hv'] at hx
        exact gives_iface hT h ho hti (by rw [hk]; simp) hx
      · rename_i hk hv'
        cases hv
        rw [hv'] at hx
        exact gives_iface hT h ho hti (by rw [hk]; simp) hx
      · rename_i hk hv'
        cases hv
        rw [hv'] at hx
        exact gives_iface hT h ho hti (by rw [hk]; simp) hx
      · cases hv
    · cases hv
  | makeFunc f first cap =>
    rw [ho] at hv
    cases f with
    | func f =>
      unfold pureQ at hv
      simp only at hv
      split at hv
      · rename_i h0
        cases h1 : (cap.toList.map st.ev).all AV.atom with
        | false => rw [h1] at hv; cases hv
        | true => rw [h1] at hv; cases hv; exact sound_makeFunc h ho h0 h1
      · cases hv
    | _ => cases hv
  | fieldAddr s x f => rw [ho] at hv; exact sound_fieldAddr hT h ho hv
  | field s x f => rw [ho] at hv; exact sound_field hT h ho hv
  | index t x i => rw [ho] at hv; exact sound_index hT h ho hv
  | extract x i =>
    rw [ho] at hv
    unfold pureQ at hv
    simp only at hv
    split at hv
    · rename_i vs hx
      split at hv
      · rename_i v' hi; cases hv; exact sound_extract h ho hx hi
      · cases hv
    · cases hv
  | call cl =>
    rw [ho] at hv
    obtain ⟨callee, args, ts⟩ := cl
    cases callee with
    | builtin b =>
      obtain ⟨args⟩ := args
      unfold pureQ at hv
      simp only at hv
      generalize hA : args.map st.ev = A at hv
      split at hv
      · obtain ⟨x, y, rfl, e1, e2⟩ := map_two hA
        cases hv
        have ex := inv_int (e1 ▸ h.ev x)
        have ey := inv_int (e2 ▸ h.ev y)
        exact gives_put h (.of (.int _ _)) (by simp [execOp, ho, resolve, invoke, builtin, Builtin.min_, Builtin.min2, ex, ey])
      · obtain ⟨x, y, rfl, e1, e2⟩ := map_two hA
        cases hv
        have ex := inv_int (e1 ▸ h.ev x)
        have ey := inv_int (e2 ▸ h.ev y)
        exact gives_put h (.of (.int _ _)) (by simp [execOp, ho, resolve, invoke, builtin, Builtin.max_, Builtin.max2, ex, ey])
      · cases hv
    | _ => cases hv
  | _ => rw [ho] at hv; cases hv

end
end
end Go.AM
