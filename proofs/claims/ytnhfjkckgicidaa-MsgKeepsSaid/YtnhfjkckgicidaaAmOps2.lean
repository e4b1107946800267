/- Soundness, operation by operation (2). -/
import Derived.Test.YtnhfjkckgicidaaAmOps1
import Derived.Laws.StructEq
import Derived.ChangeKeysEq
set_option linter.unusedVariables false
set_option linter.unusedSimpArgs false
namespace Go.AM
section
variable {P : Program} {c : Ctx} {γ : Gh} {D : Dead} {st : St} {a : Act} {w : World} {tb : Tb}

theorem ty_bool {t : Nat} {ti : TI} (h : tyOf P t = some ti) (hk : ti.k = .bool) : P.underlying t = some .bool := by
  obtain ⟨i, d, _, hd, hk', _⟩ := tyOf.parts h
  rw [hd]
  rw [hk] at hk'
  cases d <;> simp only [kindOf] at hk' <;> first | rfl | (simp at hk'; done) | (split at hk' <;> simp at hk'; done)
theorem ty_ptr {t : Nat} {ti : TI} (h : tyOf P t = some ti) (hk : ti.k = .ptr) : ∃ e, P.underlying t = some (.pointer e) := by
  obtain ⟨i, d, _, hd, hk', _⟩ := tyOf.parts h
  rw [hk] at hk'
  cases d <;> simp only [kindOf] at hk' <;> first | exact ⟨_, hd⟩ | (simp at hk'; done) | (split at hk' <;> simp at hk'; done)

theorem equal_bool {t : Nat} (hu : P.underlying t = some .bool) (x y : Bool) : (Op.equal t (.bool x) (.bool y)).run P w = .ok (x == y) w := by
  unfold Op.equal Op.maxDepth Op.equalIn
  simp only [Sem.run_bind, run_underlying' w hu, Result.andThen_ok]
  rfl
theorem equal_nil {t e : Nat} (hu : P.underlying t = some (.pointer e)) (y : Option Addr) : (Op.equal t (.pointer none) (.pointer y)).run P w = .ok y.isNone w := by
  unfold Op.equal Op.maxDepth Op.equalIn
  simp only [Sem.run_bind, run_underlying' w hu, Result.andThen_ok]
  rfl
theorem equal_to_nil {t e : Nat} (hu : P.underlying t = some (.pointer e)) (x : Addr) : (Op.equal t (.pointer (some x)) (.pointer none)).run P w = .ok false w := by
  unfold Op.equal Op.maxDepth Op.equalIn
  simp only [Sem.run_bind, run_underlying' w hu, Result.andThen_ok]
  rfl

theorem ty_plain {t : Nat} {ti : TI} (h : tyOf P t = some ti) {x y : AV} {r : Bool} (he : eqCell ti.k x y = some r) : P.plainKey t = true := by
  obtain ⟨i, d, _, hd, hk', _⟩ := tyOf.parts h
  unfold Program.plainKey
  rw [hd]
  unfold eqCell at he
  split at he <;> rename_i hk <;> first | (simp at he; done) | (rw [hk] at hk'; cases d <;> simp only [kindOf] at hk' <;> first | rfl | (simp at hk'; done) | (split at hk' <;> simp at hk'; done))

theorem eqCell_sound {t : Nat} {ti : TI} (h : tyOf P t = some ti) {x y : AV} {vx vy : Value} (hx : RepD w D x vx) (hy : RepD w D y vy) {r : Bool} (he : eqCell ti.k x y = some r) (d : Nat) : (Op.equalIn (d + 1) t vx vy).run P w = .ok r w := by
  obtain ⟨i, ds, _, hd, hk', _⟩ := tyOf.parts h
  unfold eqCell at he
  split at he
  · rename_i q k a k' b hk
    split at he
    · rename_i e
      subst e
      cases hx
      cases hy
      simp only [Option.some.injEq] at he
      subst he
      rw [hk] at hk'
      have hu : P.underlying t = some (.int q) := by
        rw [hd]
        cases ds <;> simp only [kindOf] at hk' <;> first | (simp at hk'; subst hk'; rfl) | (simp at hk'; done) | (split at hk' <;> simp at hk'; done)
      exact run_equalIn_int w d t _ q a b hu
    · simp at he
  · rename_i a b hk
    cases hx
    cases hy
    simp only [Option.some.injEq] at he
    subst he
    exact run_equalIn_bool w d t a b (ty_bool h hk)
  · rename_i a b hk
    cases hx
    cases hy
    simp only [Option.some.injEq] at he
    subst he
    rw [hk] at hk'
    have hu : P.underlying t = some .string := by
      rw [hd]
      cases ds <;> simp only [kindOf] at hk' <;> first | rfl | (simp at hk'; done) | (split at hk' <;> simp at hk'; done)
    rw [run_equalIn_string w d t _ _ hu, ByteArray.toList_eq, ByteArray.toList_eq]
    subst_vars
    rfl
  · simp at he

theorem eqFs_sound (hT : TbOk P tb) (d : Nat) {vs us : Array Value} : ∀ (F : List Field) (i : Nat) (xs ys : List AV) (r : Bool), eqFs tb i (F.map fun f => (f.offset, f.type)) xs ys = some r →
    (∀ (j : Nat) (c : AV), xs[j]? = some c → ∃ v, vs[i + j]? = some v ∧ RepD w D c v) → (∀ (j : Nat) (c : AV), ys[j]? = some c → ∃ v, us[i + j]? = some v ∧ RepD w D c v) →
    (∀ f ∈ F, P.plainKey f.type = true) ∧ ((∀ f ∈ F, f.name ≠ "_") → (Op.eqFields (d + 1) vs us F).run P w = .ok r w)
  | [], i, xs, ys, r, he, hx, hy => by
    cases xs <;> cases ys <;> simp [eqFs] at he
    subst he
    exact ⟨by simp, fun _ => by simp [Op.eqFields]⟩
  | f :: F, i, [], ys, r, he, hx, hy => by simp [eqFs] at he
  | f :: F, i, x :: xs, [], r, he, hx, hy => by simp [eqFs] at he
  | f :: F, i, x :: xs, y :: ys, r, he, hx, hy => by
    simp only [List.map_cons, eqFs] at he
    split at he
    · rename_i ho
      split at he
      · rename_i ti hti
        split at he
        · rename_i a b ha hb
          simp only [Option.some.injEq] at he
          subst he
          obtain ⟨h1, h2⟩ := eqFs_sound hT d F (i + 1) xs ys b hb (fun j c hj => by rw [Nat.add_assoc, Nat.add_comm 1 j]; exact hx (j + 1) c (by simpa using hj)) (fun j c hj => by rw [Nat.add_assoc, Nat.add_comm 1 j]; exact hy (j + 1) c (by simpa using hj))
          obtain ⟨v, hv, rv⟩ := hx 0 x rfl
          obtain ⟨u, hu, ru⟩ := hy 0 y rfl
          have ht := hT _ _ hti
          have hp := ty_plain ht ha
          refine ⟨fun g hg => ?_, fun hn => ?_⟩
          · rcases List.mem_cons.1 hg with rfl | hg
            · exact hp
            · exact h1 g hg
          · rw [Nat.add_zero, ← ho] at hv hu
            simp only [Op.eqFields, hn f (by simp), ne_eq, not_false_eq_true, if_true, Sem.run_bind, run_part_plain w hp hv, run_part_plain w hp hu, Result.andThen_ok, eqCell_sound ht rv ru ha d]
            cases a
            · simp
            · simpa using h2 fun g hg => hn g (by simp [hg])
        · simp at he
      · simp at he
    · simp at he

theorem rep_cells {cs : List AV} {v : Value} (h : RepV γ w D st (.agg cs) v) : ∃ vs : Array Value, v = .agg vs ∧ ∀ (j : Nat) (c : AV), cs[j]? = some c → ∃ v, vs[0 + j]? = some v ∧ RepD w D c v := by
  obtain ⟨vs, rfl, hs, _, hc⟩ := inv_agg h
  refine ⟨vs, rfl, fun j c hj => ?_⟩
  have hl : j < cs.length := (List.getElem?_eq_some_iff.1 hj).1
  rw [Nat.zero_add]
  have hv : vs[j]? = some vs[j] := Array.getElem?_eq_getElem (by omega)
  exact ⟨_, hv, hc j c _ hj hv⟩

theorem eqA_sound (hT : TbOk P tb) {t : Nat} {ti : TI} (ht : tyOf P t = some ti) {x y : AV} {vx vy : Value} (hx : RepV γ w D st x vx) (hy : RepV γ w D st y vy) (cx : st.isCur x) (cy : st.isCur y) {r : Bool} (he : eqA tb ti.k x y = some r) :
    (∀ op xo yo, (eqGuard op t xo yo vx vy).run P w = .ok () w) ∧ (binOp .eql t vx vy).run P w = .ok (.bool r) w ∧ (binOp .neq t vx vy).run P w = .ok (.bool (!r)) w := by
  unfold eqA at he
  split at he <;> try simp only [Option.some.injEq, reduceCtorEq] at he
  · rename_i fs a b hk
    obtain ⟨F, hu, rfl, _⟩ := ty_struct ht hk
    obtain ⟨vs, rfl, h1⟩ := rep_cells hx
    obtain ⟨us, rfl, h2⟩ := rep_cells hy
    obtain ⟨p1, p2⟩ := eqFs_sound (w := w) (D := D) hT 9998 F.toList 0 a b r he h1 h2
    have hq := tyOf.structEq ht hu
    have hall : (F.toList.all fun f => P.plainKey f.type) = true := List.all_eq_true.2 p1
    simp only [structEqB, hall, Bool.not_true, Bool.false_or, Bool.and_eq_true, Bool.not_eq_true'] at hq
    have hn : ∀ f ∈ F.toList, f.name ≠ "_" := fun f hf => by simpa using List.all_eq_true.1 hq.2 f hf
    have hfo : P.fieldsOf t = F := by simp [Program.fieldsOf, hu]
    have hr : (Op.equalIn 10000 t (.agg vs) (.agg us)).run P w = .ok r w := by
      have := run_equalIn_struct w 9999 t vs us (by rw [hfo]; exact hu) hq.1.1 (P := P)
      rw [this, hfo]
      exact p2 hn
    exact ⟨fun op xo yo => run_eqGuard_agg w op t xo yo vs us hq.1.2, by rw [run_eql_struct, hr]; rfl, by rw [run_neq_struct, hr]; rfl⟩
  · rename_i hk
    obtain rfl := inv_bool hx
    obtain rfl := inv_bool hy
    subst he
    exact ⟨fun op xo yo => by unfold eqGuard; split <;> simp, by simp [binOp, equal_bool (ty_bool ht hk)], by simp [binOp, equal_bool (ty_bool ht hk)]⟩
  all_goals
    rename_i hk
    subst he
    obtain ⟨e, hu⟩ := ty_ptr ht hk
  · cases (show RepD w D .nilp vx from hx)
    cases (show RepD w D .nilp vy from hy)
    exact ⟨fun op xo yo => by unfold eqGuard; split <;> simp, by simp [binOp, equal_nil hu], by simp [binOp, equal_nil hu]⟩
  · obtain rfl := inv_ptr hx cx
    cases (show RepD w D .nilp vy from hy)
    exact ⟨fun op xo yo => by unfold eqGuard; split <;> simp, by simp [binOp, equal_to_nil hu], by simp [binOp, equal_to_nil hu]⟩
  · obtain rfl := inv_ptr hy cy
    cases (show RepD w D .nilp vx from hx)
    exact ⟨fun op xo yo => by unfold eqGuard; split <;> simp, by simp [binOp, equal_nil hu], by simp [binOp, equal_nil hu]⟩
  · obtain ⟨b, o, f, rfl, _⟩ := inv_rp hx
    cases (show RepD w D .nilp vy from hy)
    exact ⟨fun op xo yo => by unfold eqGuard; split <;> simp, by simp [binOp, equal_to_nil hu], by simp [binOp, equal_to_nil hu]⟩
  · obtain ⟨b, o, f, rfl, _⟩ := inv_rp hy
    cases (show RepD w D .nilp vx from hx)
    exact ⟨fun op xo yo => by unfold eqGuard; split <;> simp, by simp [binOp, equal_nil hu], by simp [binOp, equal_nil hu]⟩

theorem sound_binOp (hT : TbOk P tb) {o : Oper} (h : Inv c γ D st a w) {op : BinOp} {t u : Nat} {x y : Operand} (ho : o.op = .binOp op t x y u) {v : AV} (hv : binA tb op t (st.ev x) (st.ev y) = some v) :
    Gives P c o a w (st.put o.dst v) := by
  have hx := h.ev x
  have hy := h.ev y
  have cx := st.ev_isCur x
  have cy := st.ev_isCur y
  suffices hs : ∃ cv, (eqGuard op t x y (a.eval x) (a.eval y)).run P w = .ok () w ∧ (binOp op t (a.eval x) (a.eval y)).run P w = .ok cv w ∧ RepV γ w D st v cv by
    obtain ⟨cv, h1, h2, h3⟩ := hs
    exact gives_put h h3 (by simp [execOp, ho, h1, h2])
  generalize st.ev x = X at hx hv cx
  generalize st.ev y = Y at hy hv cy
  unfold binA at hv
  split at hv
  · rename_i k m k' n
    rw [inv_int hx, inv_int hy]
    split at hv
    · obtain ⟨cv, h1, h2⟩ := shiftA_sound (P := P) (γ := γ) (w := w) (D := D) (st := st) (k' := k') (.inl rfl) hv t
      exact ⟨cv, run_eqGuard_int _ _ _ _ _ _ _ _, h1, h2⟩
    · obtain ⟨cv, h1, h2⟩ := shiftA_sound (P := P) (γ := γ) (w := w) (D := D) (st := st) (k' := k') (.inr rfl) hv t
      exact ⟨cv, run_eqGuard_int _ _ _ _ _ _ _ _, h1, h2⟩
    · split at hv
      · rename_i e
        subst e
        obtain ⟨cv, h1, h2⟩ := intA_sound (P := P) (γ := γ) (w := w) (D := D) (st := st) hv t
        exact ⟨cv, run_eqGuard_int _ _ _ _ _ _ _ _, h1, h2⟩
      · simp at hv
  · rename_i l l'
    obtain ⟨s, e, hs⟩ := inv_str hx
    obtain ⟨s', e', hs'⟩ := inv_str hy
    rw [e, e']
    subst hs
    subst hs'
    obtain ⟨cv, h1, h2⟩ := strA_sound (P := P) (γ := γ) (w := w) (D := D) (st := st) hv t
    exact ⟨cv, run_eqGuard_str _ _ _ _ _ _, h1, h2⟩
  · split at hv
    · rename_i ti hti
      have ht := hT _ _ hti
      split at hv
      · split at hv
        · rename_i r he
          simp only [Option.some.injEq] at hv
          subst hv
          obtain ⟨h2, h3, _⟩ := eqA_sound hT ht hx hy cx cy he
          exact ⟨_, h2 _ _ _, h3, .of (.bool _)⟩
        · simp at hv
      · split at hv
        · rename_i r he
          simp only [Option.some.injEq] at hv
          subst hv
          obtain ⟨h2, _, h3⟩ := eqA_sound hT ht hx hy cx cy he
          exact ⟨_, h2 _ _ _, h3, .of (.bool _)⟩
        · simp at hv
      · simp at hv
    · simp at hv

theorem sound_unOp {o : Oper} (h : Inv c γ D st a w) {op : UnOp} {t : Nat} {x : Operand} (ho : o.op = .unOp op t x) {v : AV} (hv : unA op (st.ev x) = some v) : Gives P c o a w (st.put o.dst v) := by
  have hx := h.ev x
  suffices hs : ∃ cv, (Op.unary op (a.eval x)).run P w = .ok cv w ∧ RepV γ w D st v cv by
    obtain ⟨cv, h1, h2⟩ := hs
    exact gives_put h h2 (by simp [execOp, ho, h1])
  generalize st.ev x = X at hx hv
  unfold unA at hv
  split at hv <;> try (simp only [Option.some.injEq, reduceCtorEq] at hv)
  · subst hv
    rw [inv_bool hx]
    exact ⟨_, by simp [Op.unary], .of (.bool _)⟩
  · subst hv
    rw [inv_int hx]
    exact ⟨_, by simp [Op.unary, Op.intArith], .of (.int _ _)⟩
  · rw [inv_int hx]
    unfold intA at hv
    simp only [Option.some.injEq] at hv
    subst hv
    exact ⟨_, by simp [Op.unary, Op.intBits], .of (.int _ _)⟩

theorem sound_extract {o : Oper} (h : Inv c γ D st a w) {x : Operand} {i : Nat} (ho : o.op = .extract x i) {vs : List AV} (hx : st.ev x = .tup vs) {v : AV} (hv : vs[i]? = some v) : Gives P c o a w (st.put o.dst v) := by
  have hx' := h.ev x
  rw [hx] at hx'
  obtain ⟨arr, e, hn, hh⟩ := hx'
  have hi : i < arr.size := by rw [hn]; exact (List.getElem?_eq_some_iff.1 hv).1
  refine gives_put h (.of (hh i v arr[i] hv (Array.getElem?_eq_getElem hi))) ?_
  simp [execOp, ho, e, Instr.extract, Array.getElem?_eq_getElem hi]

theorem sound_makeInterface {o : Oper} (h : Inv c γ D st a w) {t : Nat} {x : Operand} (ho : o.op = .makeInterface t x) {v : AV} (hv : (st.ev x).dat = some v) (hu : ∃ d, P.underlying t = some d ∧ ∀ ms, d ≠ .interface ms) :
    Gives P c o a w (st.put o.dst (.iface t v)) := by
  obtain ⟨d, hd, hne⟩ := hu
  refine gives_put h (cv := .iface t (a.eval x)) (.of (.iface _ _ _ ((h.ev x).dat hv))) ?_
  cases d <;> first | exact absurd rfl (hne _) | simp [execOp, ho, Instr.makeInterface, run_underlying' w hd]

theorem sound_fieldAddr (hT : TbOk P tb) {o : Oper} (h : Inv c γ D st a w) {s f : Nat} {x : Operand} (ho : o.op = .fieldAddr s x f) {ti : TI} (ht : find s tb = some ti) {fs : List (Nat × Nat)} (hk : ti.k = .struct fs) {off ft : Nat} (hf : fs[f]? = some (off, ft)) :
    (∀ k g o', st.ev x = .ptr k g o' → Gives P c o a w (st.put o.dst (.ptr k g (o' + off)))) ∧ (∀ s' el j, st.ev x = .rp s' el j → Gives P c o a w (st.put o.dst (.rp s' el (j + off)))) := by
  obtain ⟨arr, hu, hfs, hsz⟩ := ty_struct (hT _ _ ht) hk
  have hx := h.ev x
  have cx := st.ev_isCur x
  obtain ⟨fl, hfl, e1⟩ : ∃ fl, arr[f]? = some fl ∧ (fl.offset, fl.type) = (off, ft) := by
    rw [hfs, List.getElem?_map, Array.getElem?_toList, Option.map_eq_some_iff] at hf
    exact hf
  have hoff : fl.offset = off := (Prod.mk.inj e1).1
  have hz : P.cellsOf fl.type ≠ 0 := hsz fl (Array.mem_of_getElem? hfl)
  have hplace : ∀ A : Addr, (fieldPlace A fl).run P w = .ok (A.add off) w := by
    intro A
    have hi : ∃ i, P.info? fl.type = some i := by
      cases hh : P.info? fl.type with
      | none => simp [Program.cellsOf, hh] at hz
      | some i => exact ⟨i, rfl⟩
    obtain ⟨i, hi⟩ := hi
    have hsz' : i.size ≠ 0 := by simpa [Program.cellsOf, hi] using hz
    simp [fieldPlace, sizeOf, run_typeInfo' w hi, hsz', hoff]
  constructor
  · intro k g o' e
    rw [e] at hx cx
    have hv := inv_ptr hx cx
    refine gives_put h (v := .ptr k g (o' + off)) (cv := .pointer (some ⟨γ.bx k, o' + off, none⟩)) ⟨Nat.le_of_eq cx, fun _ => rfl⟩ ?_
    simp [execOp, ho, hv, Instr.fieldAt, run_underlying' w hu, hfl, Instr.sureAddr, hplace, addr_add]
  · intro s' el j e
    rw [e] at hx
    obtain ⟨b, o', g, hv, hs, hc, hr⟩ := inv_rp hx
    refine gives_put h (v := .rp s' el (j + off)) (cv := .pointer (some ⟨b, o' + (j + off), none⟩)) (.of (.rp _ _ _ _ _ g hs hc hr)) ?_
    simp [execOp, ho, hv, Instr.fieldAt, run_underlying' w hu, hfl, Instr.sureAddr, hplace, addr_add, Nat.add_assoc]

end
end Go.AM
