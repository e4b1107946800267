/- Soundness, operation by operation (1): those that turn no memory. -/
import Derived.Test.YtnhfjkckgicidaaAmTy
import Derived.Laws.StructEq
import Derived.ChangeKeysEq
import Derived.Great.BuildSlice
set_option linter.unusedVariables false
set_option linter.unusedSimpArgs false
namespace Go.AM

def Gives (P : Program) (c : Ctx) (o : Oper) (a : Act) (w : World) (st' : St) : Prop :=
  ∃ cv w', ((execOp a.eval o).run P w = .ok (.value cv) w' ∨ ((execOp a.eval o).run P w = .ok .skip w' ∧ cv = Go.undef)) ∧ ∃ γ' D', Inv c γ' D' st' (a.put o.dst cv) w'

section
variable {P : Program} {c : Ctx} {γ : Gh} {D : Dead} {st : St} {a : Act} {w : World} {tb : Tb}

theorem gives_put {o : Oper} (h : Inv c γ D st a w) {v : AV} {cv : Value} (hv : RepV γ w D st v cv) (hr : (execOp a.eval o).run P w = .ok (.value cv) w) : Gives P c o a w (st.put o.dst v) :=
  ⟨cv, w, .inl hr, γ, D, h.put hv o.dst⟩

theorem inv_int {k : IntKind} {n : Int} {v : Value} (h : RepV γ w D st (.int k n) v) : v = .int k n := by cases (show RepD w D _ v from h); rfl
theorem inv_bool {b : Bool} {v : Value} (h : RepV γ w D st (.bool b) v) : v = .bool b := by cases (show RepD w D _ v from h); rfl
theorem inv_str {l : List UInt8} {v : Value} (h : RepV γ w D st (.str l) v) : ∃ s, v = .string s ∧ s.data.toList = l := by
  cases (show RepD w D _ v from h) with
  | str _ s hs => exact ⟨s, rfl, hs⟩
theorem inv_agg {cs : List AV} {v : Value} (h : RepV γ w D st (.agg cs) v) : ∃ vs : Array Value, v = .agg vs ∧ vs.size = cs.length ∧ (∀ c ∈ cs, c.cell1 = true) ∧ ∀ (i : Nat) (c : AV) (v : Value), cs[i]? = some c → vs[i]? = some v → RepD w D c v := by
  cases (show RepD w D _ v from h) with
  | agg _ vs hn h1 hh => exact ⟨vs, rfl, hn, h1, hh⟩
theorem inv_fn {f : Nat} {v : Value} (h : RepV γ w D st (.fn f) v) : v = .func (.func f) #[] #[] := by cases (show RepD w D _ v from h); rfl
theorem inv_ptr {k g off : Nat} {v : Value} (h : RepV γ w D st (.ptr k g off) v) (hc : st.isCur (.ptr k g off)) : v = .pointer (some ⟨γ.bx k, off, none⟩) := h.2 hc
theorem inv_rp {s : Nat} {e : AV} {j : Nat} {v : Value} (h : RepV γ w D st (.rp s e j) v) : ∃ (b o : Nat) (f : Nat → Value), v = .pointer (some ⟨b, o + j, none⟩) ∧ e.cells.length = s ∧
    (∀ (j : Nat) (c : AV), e.cells[j]? = some c → c.cell1 = true ∧ D b (o + j) ∧ w.cell? ⟨b, o + j, none⟩ = some (f j)) ∧
    (∀ (j : Nat) (c : AV), e.cells[j]? = some c → RepD w D c (f j)) := by
  cases (show RepD w D _ v from h) with
  | rp _ _ _ b o f hs hc hr => exact ⟨b, o, f, rfl, hs, hc, hr⟩

theorem sound_move {o : Oper} (h : Inv c γ D st a w) (x : Operand) (ho : o.op = .move x ∨ o.op = .assign x) : Gives P c o a w (st.put o.dst (st.ev x)) := by
  refine gives_put h (h.ev x) ?_
  rcases ho with ho | ho <;> simp [execOp, ho]

theorem sound_pick {o : Oper} (h : Inv c γ D st a w) {x y z : Operand} (ho : o.op = .pick x y z) {t : Bool} (hx : st.ev x = .bool t) : Gives P c o a w (st.put o.dst (bif t then st.ev y else st.ev z)) := by
  have e := inv_bool (hx ▸ h.ev x)
  cases t
  · exact gives_put h (h.ev z) (by simp [execOp, ho, e, Go.asBool])
  · exact gives_put h (h.ev y) (by simp [execOp, ho, e, Go.asBool])

theorem sound_nilCheck {o : Oper} (h : Inv c γ D st a w) {x : Operand} (ho : o.op = .nilCheck x) {st' : St}
    (hs : (match st.ev x with | .ptr k g off => some (st.put o.dst (.ptr k g off)) | .rp s e j => some (st.put o.dst (.rp s e j)) | .fn f => some (st.put o.dst (.fn f)) | _ => none) = some st') : Gives P c o a w st' := by
  have hx := h.ev x
  have hc := st.ev_isCur x
  split at hs <;> simp only [Option.some.injEq, reduceCtorEq] at hs <;> subst hs
  · rename_i k g off e
    rw [e] at hx hc
    exact gives_put h hx (by simp [execOp, ho, inv_ptr hx hc])
  · rename_i s el j e
    rw [e] at hx
    obtain ⟨b, o', f, hv, _⟩ := inv_rp hx
    exact gives_put h hx (by simp [execOp, ho, hv])
  · rename_i f e
    rw [e] at hx
    exact gives_put h hx (by simp [execOp, ho, inv_fn hx])

theorem run_eqGuard_int (op : BinOp) (t : Nat) (x y : Operand) (k k' : IntKind) (m n : Int) : (eqGuard op t x y (.int k m) (.int k' n)).run P w = .ok () w := by
  unfold eqGuard
  split <;> simp
theorem run_eqGuard_str (op : BinOp) (t : Nat) (x y : Operand) (s s' : ByteArray) : (eqGuard op t x y (.string s) (.string s')).run P w = .ok () w := by
  unfold eqGuard
  split <;> simp

theorem intA_sound {op : BinOp} {k : IntKind} {m n : Int} {v : AV} (hv : intA op k m n = some v) (t : Nat) : ∃ cv, (binOp op t (.int k m) (.int k n)).run P w = .ok cv w ∧ RepV γ w D st v cv := by
  unfold intA at hv
  split at hv <;> try (simp only [Option.some.injEq, reduceCtorEq] at hv)
  all_goals first
    | (subst hv; exact ⟨_, by simp [binOp, Op.intArith, Op.intBits, Op.intCmp], .of (.int _ _)⟩)
    | (subst hv; exact ⟨_, by simp [binOp, Op.intArith, Op.intBits, Op.intCmp], .of (.bool _)⟩)
    | (split at hv
       · simp at hv
       · rename_i hne
         simp only [Option.some.injEq] at hv
         subst hv
         exact ⟨_, by simp [binOp, Op.intDiv, hne], .of (.int _ _)⟩)

theorem shiftA_sound {op : BinOp} {k k' : IntKind} {m n : Int} {v : AV} (hop : op = .shl ∨ op = .shr) (hv : shiftA op k m n = some v) (t : Nat) : ∃ cv, (binOp op t (.int k m) (.int k' n)).run P w = .ok cv w ∧ RepV γ w D st v cv := by
  unfold shiftA at hv
  split at hv
  · simp at hv
  · rename_i hn
    rcases hop with rfl | rfl <;> simp only [Option.some.injEq] at hv <;> subst hv
    · exact ⟨_, by simp [binOp, Op.shift, hn], .of (.int _ _)⟩
    · exact ⟨_, by simp [binOp, Op.shift, hn], .of (.int _ _)⟩

theorem strA_sound {op : BinOp} {s s' : ByteArray} {v : AV} (hv : strA op s.data.toList s'.data.toList = some v) (t : Nat) : ∃ cv, (binOp op t (.string s) (.string s')).run P w = .ok cv w ∧ RepV γ w D st v cv := by
  have htl : ∀ x : ByteArray, x.toList = x.data.toList := fun x => by
    exact ByteArray.toList_eq x
  unfold strA at hv
  split at hv <;> try (simp only [Option.some.injEq, reduceCtorEq] at hv)
  · split at hv
    · rename_i hle
      simp only [Option.some.injEq] at hv
      subst hv
      have hs : s.size = s.data.toList.length := by rw [Array.length_toList]; rfl
      have hs' : s'.size = s'.data.toList.length := by rw [Array.length_toList]; rfl
      have hmax : IntKind.i64.max = 9223372036854775807 := by decide
      refine ⟨.string (s ++ s'), ?_, .of (.str _ _ (by simp))⟩
      have : ¬ ((s.size + s'.size : Nat) : Int) > IntKind.i64.max := by rw [hmax, hs, hs']; omega
      simp only [binOp, Op.stringOp]
      rw [if_neg this]
      rfl
    · simp at hv
  · subst hv
    exact ⟨_, by simp [binOp, Op.stringOp, htl], .of (.bool _)⟩
  · subst hv
    exact ⟨_, by simp [binOp, Op.stringOp, htl], .of (.bool _)⟩

end
end Go.AM

set_option linter.unusedVariables false
set_option linter.unusedSimpArgs false
namespace Go.AM
section
variable {P : Program} {c : Ctx} {γ : Gh} {D : Dead} {st : St} {a : Act} {w : World} {tb : Tb}

theorem ty_bool {t : Nat} {ti : TI} (h : tyOf P t = some ti) (hk : ti.k = .bool) : P.underlying t = some .bool := by
  obtain ⟨i, d, _, hd, hk', _⟩ := tyOf.parts h
  rw [hd]
  rw [hk] at hk'
  cases d <;> simp only [kindOf] at hk' <;> first | rfl | (simp at hk'; done) | (split at hk' <;> simp at hk'; done)
theorem ty_ptr {t : Nat} {ti : TI} (h : tyOf P t = some ti) (hk : ti.k = .ptr) : ∃ e, P.underlying t = some (.pointer e) := by
  obtain ⟨i, d, _, hd, hk', _⟩ := tyOf.parts h
  rw [hk] at hk'
  cases d <;> simp only [kindOf] at hk' <;> first | exact ⟨_, hd⟩ | (simp at hk'; done) | (split at hk' <;> simp at hk'; done)

theorem equal_bool {t : Nat} (hu : P.underlying t = some .bool) (x y : Bool) : (Op.equal t (.bool x) (.bool y)).run P w = .ok (x == y) w := by
  unfold Op.equal Op.maxDepth Op.equalIn
  simp only [Sem.run_bind, run_underlying' w hu, Result.andThen_ok]
  rfl
theorem equal_nil {t e : Nat} (hu : P.underlying t = some (.pointer e)) (y : Option Addr) : (Op.equal t (.pointer none) (.pointer y)).run P w = .ok y.isNone w := by
  unfold Op.equal Op.maxDepth Op.equalIn
  simp only [Sem.run_bind, run_underlying' w hu, Result.andThen_ok]
  rfl
theorem equal_to_nil {t e : Nat} (hu : P.underlying t = some (.pointer e)) (x : Addr) : (Op.equal t (.pointer (some x)) (.pointer none)).run P w = .ok false w := by
  unfold Op.equal Op.maxDepth Op.equalIn
  simp only [Sem.run_bind, run_underlying' w hu, Result.andThen_ok]
  rfl

theorem ty_plain {t : Nat} {ti : TI} (h : tyOf P t = some ti) {x y : AV} {r : Bool} (he : eqCell ti.k x y = some r) : P.plainKey t = true := by
  obtain ⟨i, d, _, hd, hk', _⟩ := tyOf.parts h
  unfold Program.plainKey
  rw [hd]
  unfold eqCell at he
  split at he <;> rename_i hk <;> first | (simp at he; done) | (rw [hk] at hk'; cases d <;> simp only [kindOf] at hk' <;> first | rfl | (simp at hk'; done) | (split at hk' <;> simp at hk'; done))

theorem eqCell_sound {t : Nat} {ti : TI} (h : tyOf P t = some ti) {x y : AV} {vx vy : Value} (hx : RepD w D x vx) (hy : RepD w D y vy) {r : Bool} (he : eqCell ti.k x y = some r) (d : Nat) : (Op.equalIn (d + 1) t vx vy).run P w = .ok r w := by
  obtain ⟨i, ds, _, hd, hk', _⟩ := tyOf.parts h
  unfold eqCell at he
  split at he
  · rename_i q k a k' b hk
    split at he
    · rename_i e
      subst e
      cases hx
      cases hy
      simp only [Option.some.injEq] at he
      subst he
      rw [hk] at hk'
      have hu : P.underlying t = some (.int q) := by
        rw [hd]
        cases ds <;> simp only [kindOf] at hk' <;> first | (simp at hk'; subst hk'; rfl) | (simp at hk'; done) | (split at hk' <;> simp at hk'; done)
      exact run_equalIn_int w d t _ q a b hu
    · simp at he
  · rename_i a b hk
    cases hx
    cases hy
    simp only [Option.some.injEq] at he
    subst he
    exact run_equalIn_bool w d t a b (ty_bool h hk)
  · rename_i a b hk
    cases hx
    cases hy
    simp only [Option.some.injEq] at he
    subst he
    rw [hk] at hk'
    have hu : P.underlying t = some .string := by
      rw [hd]
      cases ds <;> simp only [kindOf] at hk' <;> first | rfl | (simp at hk'; done) | (split at hk' <;> simp at hk'; done)
    rw [run_equalIn_string w d t _ _ hu, ByteArray.toList_eq, ByteArray.toList_eq]
    subst_vars
    rfl
  · simp at he

theorem eqFs_sound (hT : TbOk P tb) (d : Nat) {vs us : Array Value} : ∀ (F : List Field) (i : Nat) (xs ys : List AV) (r : Bool), eqFs tb i (F.map fun f => (f.offset, f.type)) xs ys = some r →
    (∀ (j : Nat) (c : AV), xs[j]? = some c → ∃ v, vs[i + j]? = some v ∧ RepD w D c v) → (∀ (j : Nat) (c : AV), ys[j]? = some c → ∃ v, us[i + j]? = some v ∧ RepD w D c v) →
    (∀ f ∈ F, P.plainKey f.type = true) ∧ ((∀ f ∈ F, f.name ≠ "_") → (Op.eqFields (d + 1) vs us F).run P w = .ok r w)
  | [], i, xs, ys, r, he, hx, hy => by
    cases xs <;> cases ys <;> simp [eqFs] at he
    subst he
    exact ⟨by simp, fun _ => by simp [Op.eqFields]⟩
  | f :: F, i, [], ys, r, he, hx, hy => by simp [eqFs] at he
  | f :: F, i, x :: xs, [], r, he, hx, hy => by simp [eqFs] at he
  | f :: F, i, x :: xs, y :: ys, r, he, hx, hy => by
    simp only [List.map_cons, eqFs] at he
    split at he
    · rename_i ho
      split at he
      · rename_i ti hti
        split at he
        · rename_i a b ha hb
          simp only [Option.some.injEq] at he
          subst he
          obtain ⟨h1, h2⟩ := eqFs_sound hT d F (i + 1) xs ys b hb (fun j c hj => by rw [Nat.add_assoc, Nat.add_comm 1 j]; exact hx (j + 1) c (by simpa using hj)) (fun j c hj => by rw [Nat.add_assoc, Nat.add_comm 1 j]; exact hy (j + 1) c (by simpa using hj))
          obtain ⟨v, hv, rv⟩ := hx 0 x rfl
          obtain ⟨u, hu, ru⟩ := hy 0 y rfl
          have ht := hT _ _ hti
          have hp := ty_plain ht ha
          refine ⟨fun g hg => ?_, fun hn => ?_⟩
          · rcases List.mem_cons.1 hg with rfl | hg
            · exact hp
            · exact h1 g hg
          · rw [Nat.add_zero, ← ho] at hv hu
            simp only [Op.eqFields, hn f (by simp), ne_eq, not_false_eq_true, if_true, Sem.run_bind, run_part_plain w hp hv, run_part_plain w hp hu, Result.andThen_ok, eqCell_sound ht rv ru ha d]
            cases a
            · simp
            · simpa using h2 fun g hg => hn g (by simp [hg])
        · simp at he
      · simp at he
    · simp at he

theorem rep_cells {cs : List AV} {v : Value} (h : RepV γ w D st (.agg cs) v) : ∃ vs : Array Value, v = .agg vs ∧ ∀ (j : Nat) (c : AV), cs[j]? = some c → ∃ v, vs[0 + j]? = some v ∧ RepD w D c v := by
  obtain ⟨vs, rfl, hs, _, hc⟩ := inv_agg h
  refine ⟨vs, rfl, fun j c hj => ?_⟩
  have hl : j < cs.length := (List.getElem?_eq_some_iff.1 hj).1
  rw [Nat.zero_add]
  have hv : vs[j]? = some vs[j] := Array.getElem?_eq_getElem (by omega)
  exact ⟨_, hv, hc j c _ hj hv⟩

theorem eqA_sound (hT : TbOk P tb) {t : Nat} {ti : TI} (ht : tyOf P t = some ti) {x y : AV} {vx vy : Value} (hx : RepV γ w D st x vx) (hy : RepV γ w D st y vy) (cx : st.isCur x) (cy : st.isCur y) {r : Bool} (he : eqA tb ti.k x y = some r) :
    (∀ op xo yo, (eqGuard op t xo yo vx vy).run P w = .ok () w) ∧ (binOp .eql t vx vy).run P w = .ok (.bool r) w ∧ (binOp .neq t vx vy).run P w = .ok (.bool (!r)) w := by
  unfold eqA at he
  split at he <;> try simp only [Option.some.injEq, reduceCtorEq] at he
  · rename_i fs a b hk
    obtain ⟨F, hu, rfl, _⟩ := ty_struct ht hk
    obtain ⟨vs, rfl, h1⟩ := rep_cells hx
    obtain ⟨us, rfl, h2⟩ := rep_cells hy
    obtain ⟨p1, p2⟩ := eqFs_sound (w := w) (D := D) hT 9998 F.toList 0 a b r he h1 h2
    have hq := tyOf.structEq ht hu
    have hall : (F.toList.all fun f => P.plainKey f.type) = true := List.all_eq_true.2 p1
    simp only [structEqB, hall, Bool.not_true, Bool.false_or, Bool.and_eq_true, Bool.not_eq_true'] at hq
    have hn : ∀ f ∈ F.toList, f.name ≠ "_" := fun f hf => by simpa using List.all_eq_true.1 hq.2 f hf
    have hfo : P.fieldsOf t = F := by simp [Program.fieldsOf, hu]
    have hr : (Op.equalIn 10000 t (.agg vs) (.agg us)).run P w = .ok r w := by
      have := run_equalIn_struct w 9999 t vs us (by rw [hfo]; exact hu) hq.1.1 (P := P)
      rw [this, hfo]
      exact p2 hn
    exact ⟨fun op xo yo => run_eqGuard_agg w op t xo yo vs us hq.1.2, by rw [run_eql_struct, hr]; rfl, by rw [run_neq_struct, hr]; rfl⟩
  · rename_i hk
    obtain rfl := inv_bool hx
    obtain rfl := inv_bool hy
    subst he
    exact ⟨fun op xo yo => by unfold eqGuard; split <;> simp, by simp [binOp, equal_bool (ty_bool ht hk)], by simp [binOp, equal_bool (ty_bool ht hk)]⟩
  all_goals
    rename_i hk
    subst he
    obtain ⟨e, hu⟩ := ty_ptr ht hk
  · cases (show RepD w D .nilp vx from hx)
    cases (show RepD w D .nilp vy from hy)
    exact ⟨fun op xo yo => by unfold eqGuard; split <;> simp, by simp [binOp, equal_nil hu], by simp [binOp, equal_nil hu]⟩
  · obtain rfl := inv_ptr hx cx
    cases (show RepD w D .nilp vy from hy)
    exact ⟨fun op xo yo => by unfold eqGuard; split <;> simp, by simp [binOp, equal_to_nil hu], by simp [binOp, equal_to_nil hu]⟩
  · obtain rfl := inv_ptr hy cy
    cases (show RepD w D .nilp vx from hx)
    exact ⟨fun op xo yo => by unfold eqGuard; split <;> simp, by simp [binOp, equal_nil hu], by simp [binOp, equal_nil hu]⟩
  · obtain ⟨b, o, f, rfl, _⟩ := inv_rp hx
    cases (show RepD w D .nilp vy from hy)
    exact ⟨fun op xo yo => by unfold eqGuard; split <;> simp, by simp [binOp, equal_to_nil hu], by simp [binOp, equal_to_nil hu]⟩
  · obtain ⟨b, o, f, rfl, _⟩ := inv_rp hy
    cases (show RepD w D .nilp vx from hx)
    exact ⟨fun op xo yo => by unfold eqGuard; split <;> simp, by simp [binOp, equal_nil hu], by simp [binOp, equal_nil hu]⟩

theorem sound_binOp (hT : TbOk P tb) {o : Oper} (h : Inv c γ D st a w) {op : BinOp} {t u : Nat} {x y : Operand} (ho : o.op = .binOp op t x y u) {v : AV} (hv : binA tb op t (st.ev x) (st.ev y) = some v) :
    Gives P c o a w (st.put o.dst v) := by
  have hx := h.ev x
  have hy := h.ev y
  have cx := st.ev_isCur x
  have cy := st.ev_isCur y
  suffices hs : ∃ cv, (eqGuard op t x y (a.eval x) (a.eval y)).run P w = .ok () w ∧ (binOp op t (a.eval x) (a.eval y)).run P w = .ok cv w ∧ RepV γ w D st v cv by
    obtain ⟨cv, h1, h2, h3⟩ := hs
    exact gives_put h h3 (by simp [execOp, ho, h1, h2])
  generalize st.ev x = X at hx hv cx
  generalize st.ev y = Y at hy hv cy
  unfold binA at hv
  split at hv
  · rename_i k m k' n
    rw [inv_int hx, inv_int hy]
    split at hv
    · obtain ⟨cv, h1, h2⟩ := shiftA_sound (P := P) (γ := γ) (w := w) (D := D) (st := st) (k' := k') (.inl rfl) hv t
      exact ⟨cv, run_eqGuard_int _ _ _ _ _ _ _ _, h1, h2⟩
    · obtain ⟨cv, h1, h2⟩ := shiftA_sound (P := P) (γ := γ) (w := w) (D := D) (st := st) (k' := k') (.inr rfl) hv t
      exact ⟨cv, run_eqGuard_int _ _ _ _ _ _ _ _, h1, h2⟩
    · split at hv
      · rename_i e
        subst e
        obtain ⟨cv, h1, h2⟩ := intA_sound (P := P) (γ := γ) (w := w) (D := D) (st := st) hv t
        exact ⟨cv, run_eqGuard_int _ _ _ _ _ _ _ _, h1, h2⟩
      · simp at hv
  · rename_i l l'
    obtain ⟨s, e, hs⟩ := inv_str hx
    obtain ⟨s', e', hs'⟩ := inv_str hy
    rw [e, e']
    subst hs
    subst hs'
    obtain ⟨cv, h1, h2⟩ := strA_sound (P := P) (γ := γ) (w := w) (D := D) (st := st) hv t
    exact ⟨cv, run_eqGuard_str _ _ _ _ _ _, h1, h2⟩
  · split at hv
    · rename_i ti hti
      have ht := hT _ _ hti
      split at hv
      · split at hv
        · rename_i r he
          simp only [Option.some.injEq] at hv
          subst hv
          obtain ⟨h2, h3, _⟩ := eqA_sound hT ht hx hy cx cy he
          exact ⟨_, h2 _ _ _, h3, .of (.bool _)⟩
        · simp at hv
      · split at hv
        · rename_i r he
          simp only [Option.some.injEq] at hv
          subst hv
          obtain ⟨h2, _, h3⟩ := eqA_sound hT ht hx hy cx cy he
          exact ⟨_, h2 _ _ _, h3, .of (.bool _)⟩
        · simp at hv
      · simp at hv
    · simp at hv

theorem sound_unOp {o : Oper} (h : Inv c γ D st a w) {op : UnOp} {t : Nat} {x : Operand} (ho : o.op = .unOp op t x) {v : AV} (hv : unA op (st.ev x) = some v) : Gives P c o a w (st.put o.dst v) := by
  have hx := h.ev x
  suffices hs : ∃ cv, (Op.unary op (a.eval x)).run P w = .ok cv w ∧ RepV γ w D st v cv by
    obtain ⟨cv, h1, h2⟩ := hs
    exact gives_put h h2 (by simp [execOp, ho, h1])
  generalize st.ev x = X at hx hv
  unfold unA at hv
  split at hv <;> try (simp only [Option.some.injEq, reduceCtorEq] at hv)
  · subst hv
    rw [inv_bool hx]
    exact ⟨_, by simp [Op.unary], .of (.bool _)⟩
  · subst hv
    rw [inv_int hx]
    exact ⟨_, by simp [Op.unary, Op.intArith], .of (.int _ _)⟩
  · rw [inv_int hx]
    unfold intA at hv
    simp only [Option.some.injEq] at hv
    subst hv
    exact ⟨_, by simp [Op.unary, Op.intBits], .of (.int _ _)⟩

theorem sound_extract {o : Oper} (h : Inv c γ D st a w) {x : Operand} {i : Nat} (ho : o.op = .extract x i) {vs : List AV} (hx : st.ev x = .tup vs) {v : AV} (hv : vs[i]? = some v) : Gives P c o a w (st.put o.dst v) := by
  have hx' := h.ev x
  rw [hx] at hx'
  obtain ⟨arr, e, hn, hh⟩ := hx'
  have hi : i < arr.size := by rw [hn]; exact (List.getElem?_eq_some_iff.1 hv).1
  refine gives_put h (.of (hh i v arr[i] hv (Array.getElem?_eq_getElem hi))) ?_
  simp [execOp, ho, e, Instr.extract, Array.getElem?_eq_getElem hi]

theorem sound_makeInterface {o : Oper} (h : Inv c γ D st a w) {t : Nat} {x : Operand} (ho : o.op = .makeInterface t x) {v : AV} (hv : (st.ev x).dat = some v) (hu : ∃ d, P.underlying t = some d ∧ ∀ ms, d ≠ .interface ms) :
    Gives P c o a w (st.put o.dst (.iface t v)) := by
  obtain ⟨d, hd, hne⟩ := hu
  refine gives_put h (cv := .iface t (a.eval x)) (.of (.iface _ _ _ ((h.ev x).dat hv))) ?_
  cases d <;> first | exact absurd rfl (hne _) | simp [execOp, ho, Instr.makeInterface, run_underlying' w hd]

theorem sound_fieldAddr (hT : TbOk P tb) {o : Oper} (h : Inv c γ D st a w) {s f : Nat} {x : Operand} (ho : o.op = .fieldAddr s x f) {ti : TI} (ht : find s tb = some ti) {fs : List (Nat × Nat)} (hk : ti.k = .struct fs) {off ft : Nat} (hf : fs[f]? = some (off, ft)) :
    (∀ k g o', st.ev x = .ptr k g o' → Gives P c o a w (st.put o.dst (.ptr k g (o' + off)))) ∧ (∀ s' el j, st.ev x = .rp s' el j → Gives P c o a w (st.put o.dst (.rp s' el (j + off)))) := by
  obtain ⟨arr, hu, hfs, hsz⟩ := ty_struct (hT _ _ ht) hk
  have hx := h.ev x
  have cx := st.ev_isCur x
  obtain ⟨fl, hfl, e1⟩ : ∃ fl, arr[f]? = some fl ∧ (fl.offset, fl.type) = (off, ft) := by
    rw [hfs, List.getElem?_map, Array.getElem?_toList, Option.map_eq_some_iff] at hf
    exact hf
  have hoff : fl.offset = off := (Prod.mk.inj e1).1
  have hz : P.cellsOf fl.type ≠ 0 := hsz fl (Array.mem_of_getElem? hfl)
  have hplace : ∀ A : Addr, (fieldPlace A fl).run P w = .ok (A.add off) w := by
    intro A
    have hi : ∃ i, P.info? fl.type = some i := by
      cases hh : P.info? fl.type with
      | none => simp [Program.cellsOf, hh] at hz
      | some i => exact ⟨i, rfl⟩
    obtain ⟨i, hi⟩ := hi
    have hsz' : i.size ≠ 0 := by simpa [Program.cellsOf, hi] using hz
    simp [fieldPlace, sizeOf, run_typeInfo' w hi, hsz', hoff]
  constructor
  · intro k g o' e
    rw [e] at hx cx
    have hv := inv_ptr hx cx
    refine gives_put h (v := .ptr k g (o' + off)) (cv := .pointer (some ⟨γ.bx k, o' + off, none⟩)) ⟨Nat.le_of_eq cx, fun _ => rfl⟩ ?_
    simp [execOp, ho, hv, Instr.fieldAt, run_underlying' w hu, hfl, Instr.sureAddr, hplace, addr_add]
  · intro s' el j e
    rw [e] at hx
    obtain ⟨b, o', g, hv, hs, hc, hr⟩ := inv_rp hx
    refine gives_put h (v := .rp s' el (j + off)) (cv := .pointer (some ⟨b, o' + (j + off), none⟩)) (.of (.rp _ _ _ _ _ g hs hc hr)) ?_
    simp [execOp, ho, hv, Instr.fieldAt, run_underlying' w hu, hfl, Instr.sureAddr, hplace, addr_add, Nat.add_assoc]

end
end Go.AM

set_option linter.unusedVariables false
set_option linter.unusedSimpArgs false
namespace Go.AM

/-- The elements of a row, from an address on. -/
def Els (w : World) (D : Dead) (s : Nat) (xs : List AV) (b o : Nat) (f : Nat → Nat → Value) : Prop :=
  (∀ (i : Nat) (e : AV), xs[i]? = some e → e.cells.length = s) ∧
  (∀ (i : Nat) (e : AV) (j : Nat) (c : AV), xs[i]? = some e → e.cells[j]? = some c → c.cell1 = true ∧ D b (o + (i * s + j)) ∧ w.cell? ⟨b, o + (i * s + j), none⟩ = some (f i j)) ∧
  (∀ (i : Nat) (e : AV) (j : Nat) (c : AV), xs[i]? = some e → e.cells[j]? = some c → RepD w D c (f i j))

section
variable {P : Program} {c : Ctx} {γ : Gh} {D : Dead} {st : St} {a : Act} {w : World} {tb : Tb}

theorem inv_sl {s : Nat} {full : Bool} {xs : List AV} {v : Value} (h : RepD w D (.sl s full xs) v) : ∃ A cap, v = .slice A xs.length cap ∧ xs.length ≤ cap ∧ (full = true → cap = xs.length) ∧ (xs = [] ∨ ∃ b o f, A = some ⟨b, o, none⟩ ∧ Els w D s xs b o f) := by
  cases h with
  | slN _ _ A cap hf => exact ⟨A, cap, rfl, Nat.zero_le _, hf, .inl rfl⟩
  | sl _ _ _ b o cap f hlc hf hs hc hr => exact ⟨_, cap, rfl, hlc, hf, .inr ⟨b, o, f, rfl, hs, hc, hr⟩⟩

theorem mk_sl {s : Nat} {full : Bool} {xs : List AV} {A : Option Addr} {cap : Nat} (h1 : xs.length ≤ cap) (h2 : full = true → cap = xs.length) (h3 : xs = [] ∨ ∃ b o f, A = some ⟨b, o, none⟩ ∧ Els w D s xs b o f) :
    RepD w D (.sl s full xs) (.slice A xs.length cap) := by
  rcases h3 with rfl | ⟨b, o, f, rfl, hs, hc, hr⟩
  · exact .slN s full A cap h2
  · exact .sl s full xs b o cap f h1 h2 hs hc hr

theorem Els.sub {s : Nat} {xs : List AV} {b o : Nat} {f : Nat → Nat → Value} (h : Els w D s xs b o f) (l h' : Nat) : Els w D s ((xs.take h').drop l) b (o + l * s) (fun i j => f (l + i) j) := by
  have key : ∀ (i : Nat) (e : AV), ((xs.take h').drop l)[i]? = some e → xs[l + i]? = some e := by
    intro i e hi
    rw [List.getElem?_drop, List.getElem?_take] at hi
    split at hi
    · exact hi
    · simp at hi
  have ad : ∀ i j, o + l * s + (i * s + j) = o + ((l + i) * s + j) := fun i j => by rw [Nat.add_mul]; omega
  refine ⟨fun i e hi => h.1 _ _ (key i e hi), fun i e j c hi hj => ?_, fun i e j c hi hj => h.2.2 _ _ _ _ (key i e hi) hj⟩
  rw [ad]
  exact h.2.1 _ _ _ _ (key i e hi) hj

theorem sub_sound {s : Nat} {full : Bool} {xs : List AV} {v : Value} (hx : RepD w D (.sl s full xs) v) {e : Nat} {sz : Nat} (hsz : (sizeOf e).run P w = .ok sz w) (hs : s = sz ∨ xs = []) {l h m : Int} {hasMax : Bool} {r : AV}
    (hr : subA s xs l h m hasMax = some r) : ∃ A cap, v = .slice A xs.length cap ∧ 0 ≤ l ∧ l ≤ h ∧ h ≤ m ∧ h ≤ xs.length ∧ xs.length ≤ cap ∧ (hasMax = true → m ≤ xs.length) ∧
      ∀ M : Nat, (M : Int) = (if hasMax then m else cap) → RepV γ w D st r (.slice (if M = l.toNat then A else A.map (·.add (l.toNat * sz))) (h.toNat - l.toNat) (M - l.toNat)) := by
  obtain ⟨A, cap, rfl, h1, h2, h3⟩ := inv_sl hx
  unfold subA at hr
  split at hr
  · rename_i hc
    obtain ⟨c1, c2, c3, c4, c5⟩ := hc
    simp only [Option.some.injEq] at hr
    subst hr
    refine ⟨A, cap, rfl, c1, c2, c3, c4, h1, c5, fun M hM => ?_⟩
    have hlen : ((xs.take h.toNat).drop l.toNat).length = h.toNat - l.toNat := by
      rw [List.length_drop, List.length_take]; omega
    rw [← hlen]
    refine .of (mk_sl ?_ ?_ ?_)
    · rw [hlen]
      cases hasMax <;> simp at hM ⊢ <;> omega
    · intro hf
      simp only [Bool.and_eq_true, decide_eq_true_eq] at hf
      obtain ⟨hm, hh⟩ := hf
      subst hm
      simp at hM
      rw [hlen]
      omega
    · by_cases hn : (xs.take h.toNat).drop l.toNat = []
      · exact .inl hn
      · right
        have hx0 : xs ≠ [] := fun e => hn (by simp [e])
        rcases h3 with h3 | ⟨b, o, f, rfl, hE⟩
        · exact absurd h3 hx0
        have hs' : s = sz := hs.resolve_right hx0
        subst hs'
        have hpos : 0 < h.toNat - l.toNat := by rw [← hlen]; exact List.length_pos_iff.2 hn
        have hM' : ¬ M = l.toNat := by
          cases hasMax <;> simp at hM <;> omega
        refine ⟨b, o + l.toNat * s, _, ?_, hE.sub _ _⟩
        rw [if_neg hM']
        simp [addr_add]
  · simp at hr

theorem loA_run {lo : Option Operand} (h : Inv c γ D st a w) {l : Int} (hl : loA (lo.map st.ev) = some l) : (lo = none ∧ l = 0) ∨ ∃ x k, lo = some x ∧ a.eval x = .int k l := by
  cases lo with
  | none => simp [loA] at hl; exact .inl ⟨rfl, hl.symm⟩
  | some x =>
    right
    have hx := h.ev x
    simp only [Option.map_some] at hl
    generalize st.ev x = X at hx hl
    cases X <;> simp only [loA, Option.some.injEq, reduceCtorEq] at hl
    subst hl
    exact ⟨x, _, rfl, inv_int hx⟩
theorem hiA_run {hi : Option Operand} (h : Inv c γ D st a w) {d l : Int} (hl : hiA d (hi.map st.ev) = some l) : (hi = none ∧ l = d) ∨ ∃ x k, hi = some x ∧ a.eval x = .int k l := by
  cases hi with
  | none => simp [hiA] at hl; exact .inl ⟨rfl, hl.symm⟩
  | some x =>
    right
    have hx := h.ev x
    simp only [Option.map_some] at hl
    generalize st.ev x = X at hx hl
    cases X <;> simp only [hiA, Option.some.injEq, reduceCtorEq] at hl
    subst hl
    exact ⟨x, _, rfl, inv_int hx⟩

theorem run_sliceBound {k : IntKind} {i : Int} {y : Nat} {code : BoundsCode} (h0 : 0 ≤ i) (h1 : i ≤ y) : (Instr.sliceBound (.int k i) y code).run P w = .ok i.toNat w := by
  simp [Instr.sliceBound, asIntOf, h0, h1]

/-- The bounds of a slice expression. -/
theorem run_bounds {isS : Bool} {len cap : Nat} (h : Inv c γ D st a w) {lo hi : Option Operand} {l hh : Int} (hl : (lo = none ∧ l = 0) ∨ ∃ x k, lo = some x ∧ a.eval x = .int k l) (hhi : (hi = none ∧ hh = (len : Int)) ∨ ∃ x k, hi = some x ∧ a.eval x = .int k hh)
    (h0 : 0 ≤ l) (h1 : l ≤ hh) (h2 : hh ≤ cap) : (Instr.sliceBounds isS len cap (lo.map a.eval) (hi.map a.eval) none).run P w = .ok (l.toNat, hh.toNat, cap) w := by
  rcases hl with ⟨rfl, rfl⟩ | ⟨x, k, rfl, hx⟩ <;> rcases hhi with ⟨rfl, rfl⟩ | ⟨y, k', rfl, hy⟩
  · simp [Instr.sliceBounds]
  · simp [Instr.sliceBounds, hy, run_sliceBound (P := P) (w := w) (show 0 ≤ hh by omega) h2]
  · have e : (Instr.sliceBound (.int k l) len .sliceB).run P w = .ok l.toNat w := run_sliceBound h0 h1
    simp [Instr.sliceBounds, hx, e]
  · have e : (Instr.sliceBound (.int k l) hh.toNat .sliceB).run P w = .ok l.toNat w := run_sliceBound h0 (by omega)
    simp [Instr.sliceBounds, hx, hy, run_sliceBound (P := P) (w := w) (show 0 ≤ hh by omega) h2, e]

theorem run_bounds_max {len cap : Nat} (h : Inv c γ D st a w) {lo : Option Operand} {hi mx : Operand} {l hh m : Int} {k' k'' : IntKind} (hl : (lo = none ∧ l = 0) ∨ ∃ x k, lo = some x ∧ a.eval x = .int k l) (hhi : a.eval hi = .int k' hh) (hm : a.eval mx = .int k'' m)
    (h0 : 0 ≤ l) (h1 : l ≤ hh) (h2 : hh ≤ m) (h3 : m ≤ cap) : (Instr.sliceBounds true len cap (lo.map a.eval) (some (a.eval hi)) (some (a.eval mx))).run P w = .ok (l.toNat, hh.toNat, m.toNat) w := by
  have e1 : ∀ code, (Instr.sliceBound (.int k'' m) cap code).run P w = .ok m.toNat w := fun code => run_sliceBound (by omega) h3
  have e2 : ∀ code, (Instr.sliceBound (.int k' hh) m.toNat code).run P w = .ok hh.toNat w := fun code => run_sliceBound (by omega) (by omega)
  rcases hl with ⟨rfl, rfl⟩ | ⟨x, k, rfl, hx⟩
  · simp [Instr.sliceBounds, hhi, hm, e1, e2]
  · have e3 : ∀ code, (Instr.sliceBound (.int k l) hh.toNat code).run P w = .ok l.toNat w := fun code => run_sliceBound h0 (by omega)
    simp [Instr.sliceBounds, hhi, hm, hx, e1, e2, e3]

theorem sound_slice (hT : TbOk P tb) {o : Oper} (h : Inv c γ D st a w) {t : Nat} {x : Operand} {lo hi mx : Option Operand} (ho : o.op = .slice t x lo hi mx) {v : AV} (hv : sliceA tb t (st.ev x) (lo.map st.ev) (hi.map st.ev) (mx.map st.ev) = some v) :
    Gives P c o a w (st.put o.dst v) := by
  have hx := h.ev x
  unfold sliceA at hv
  split at hv
  · simp at hv
  rename_i ti hti
  have ht := hT _ _ hti
  split at hv
  · rename_i s l hk ex el
    have hu := ty_str ht hk
    split at hv
    · rename_i hh ehi emx
      have hmx : mx = none := by cases mx <;> simp at emx ⊢
      subst hmx
      split at hv
      · rename_i hb
        obtain ⟨b0, b1, b2⟩ := hb
        simp only [Option.some.injEq] at hv
        subst hv
        rw [ex] at hx
        obtain ⟨sb, e, hs⟩ := inv_str hx
        have hsz : sb.size = s.length := by rw [← hs, Array.length_toList]; rfl
        have hbd : (Instr.sliceBounds false sb.size sb.size (lo.map a.eval) (hi.map a.eval) none).run P w = .ok (l.toNat, hh.toNat, sb.size) w :=
          run_bounds h (loA_run h el) (by rw [hsz]; exact hiA_run h ehi) b0 b1 (by rw [hsz]; exact b2)
        refine gives_put h (cv := .string (sb.extract l.toNat hh.toNat)) (.of (.str _ _ ?_)) ?_
        · rw [ByteArray.data_extract, Array.toList_extract, hs]
          simp [List.extract_eq_take_drop, List.drop_take]
        · simp [execOp, ho, e, Instr.sliceAt, Instr.slice, run_underlying' w hu, hbd]
      · simp at hv
    · simp at hv
  · rename_i e l hk el
    have hu := ty_sl ht hk
    split at hv
    · rename_i s xs te exs ete
      have hte := hT _ _ ete
      split at hv
      · rename_i hs
        have hx' : ∃ full, RepD w D (.sl s full xs) (a.eval x) := by
          generalize st.ev x = X at hx exs
          cases X <;> simp only [Option.some.injEq, Prod.mk.injEq, reduceCtorEq] at exs
          · obtain ⟨rfl, rfl⟩ := exs; exact ⟨_, hx⟩
          · obtain ⟨rfl, rfl⟩ := exs; exact ⟨_, hx.2.1⟩
        obtain ⟨full, hx'⟩ := hx'
        split at hv
        · rename_i emx
          have hmx : mx = none := by cases mx <;> simp at emx ⊢
          subst hmx
          split at hv
          · rename_i hh ehi
            obtain ⟨A, cap, ev, c1, c2, c3, c4, c5, _, c6⟩ := sub_sound (P := P) (γ := γ) (st := st) hx' (ty_size hte w) hs hv
            have hbd : (Instr.sliceBounds true xs.length cap (lo.map a.eval) (hi.map a.eval) none).run P w = .ok (l.toNat, hh.toNat, cap) w :=
              run_bounds h (loA_run h el) (hiA_run h ehi) c1 c2 (by omega)
            refine gives_put h (c6 cap (by simp)) ?_
            simp [execOp, ho, ev, Instr.sliceAt, Instr.slice, run_underlying' w hu, hbd, ty_size hte]
          · simp at hv
        · rename_i km m emx
          split at hv
          · rename_i kh hh ehi
            cases mx with
            | none => simp at emx
            | some y =>
            cases hi with
            | none => simp at ehi
            | some z =>
            simp only [Option.map_some, Option.some.injEq] at emx ehi
            have ey := inv_int (emx ▸ h.ev y)
            have ez := inv_int (ehi ▸ h.ev z)
            obtain ⟨A, cap, ev, c1, c2, c3, c4, c5, c7, c6⟩ := sub_sound (P := P) (γ := γ) (st := st) hx' (ty_size hte w) hs hv
            have hm := c7 rfl
            have hbd : (Instr.sliceBounds true xs.length cap (lo.map a.eval) (some (a.eval z)) (some (a.eval y))).run P w = .ok (l.toNat, hh.toNat, m.toNat) w :=
              run_bounds_max h (loA_run h el) ez ey c1 c2 c3 (by omega)
            refine gives_put h (c6 m.toNat (by simp; omega)) ?_
            simp only [execOp, ho, ev, Instr.sliceAt, Instr.slice, Sem.run_bind, run_underlying' w hu, Result.andThen_ok, Option.map_some, hbd, ty_size hte, Sem.run_pure]
          · simp at hv
        · simp at hv
      · simp at hv
    · simp at hv
  · simp at hv

end
end Go.AM

set_option linter.unusedVariables false
set_option linter.unusedSimpArgs false
namespace Go.AM
section
variable {P : Program} {c : Ctx} {γ : Gh} {D : Dead} {st : St} {a : Act} {w : World} {tb : Tb}

theorem bytes_get (s : ByteArray) (i : Nat) : s[i]? = s.data.toList[i]? := by
  rw [Array.getElem?_toList]
  by_cases h : i < s.size
  · rw [getElem?_pos s i h, Array.getElem?_eq_getElem (show i < s.data.size from h)]
    rfl
  · rw [getElem?_neg s i h, Array.getElem?_eq_none (show s.data.size ≤ i from Nat.le_of_not_lt h)]

theorem sound_index_str {o : Oper} (h : Inv c γ D st a w) {t : Nat} {x i : Operand} (ho : o.op = .index t x i) (hu : P.underlying t = some .string) {s : List UInt8} {k : IntKind} {n : Int} (hx : st.ev x = .str s) (hi : st.ev i = .int k n) (h0 : 0 ≤ n) {b : UInt8} (hb : s[n.toNat]? = some b) :
    Gives P c o a w (st.put o.dst (.int .u8 b.toNat)) := by
  obtain ⟨sb, e, hs⟩ := inv_str (hx ▸ h.ev x)
  have ei := inv_int (hi ▸ h.ev i)
  refine gives_put h (cv := .int .u8 b.toNat) (.of (.int _ _)) ?_
  have hb' : sb[n.toNat]? = some b := by rw [bytes_get, hs, hb]
  simp [execOp, ho, e, ei, Instr.index, asIntOf, run_underlying' w hu, h0, hb']

/-- A part of a struct value. -/
theorem part_sound {t : Nat} {ti : TI} (ht : tyOf P t = some ti) {cs : List AV} {vs : Array Value} (hn : vs.size = cs.length) (h1 : ∀ c ∈ cs, c.cell1 = true) (hh : ∀ (i : Nat) (c : AV) (v : Value), cs[i]? = some c → vs[i]? = some v → RepD w D c v) {off : Nat} {v : AV} (hp : partOf ti cs off = some v) :
    ∃ cv, (part t vs off).run P w = .ok cv w ∧ RepV γ w D st v cv := by
  unfold partOf at hp
  unfold part
  simp only [Sem.run_bind, ty_agg ht, Result.andThen_ok]
  split at hp
  · rename_i hagg
    split at hp
    · rename_i hle
      split at hp
      · rename_i l hl
        simp only [Option.some.injEq] at hp
        subst hp
        obtain ⟨hl1, hl2⟩ := datAll_spec hl
        have hlen : l.length = ti.sz := by rw [hl1, List.length_take, List.length_drop]; omega
        have hget : ∀ (i : Nat), i < ti.sz → ∃ c, cs[off + i]? = some c ∧ ∃ d, l[i]? = some d ∧ c.dat = some d := by
          intro i hi
          have hlt : off + i < cs.length := by omega
          obtain ⟨d, hd1, hd2⟩ := hl2 i cs[off + i] (by simp [List.getElem?_take, List.getElem?_drop, hi, List.getElem?_eq_getElem hlt])
          exact ⟨_, List.getElem?_eq_getElem hlt, d, hd1, hd2⟩
        refine ⟨.agg (vs.extract off (off + ti.sz)), by simp [hagg, ty_size ht], .of (.agg _ _ ?_ (fun c hc => ?_) (fun i c v hi hj => ?_))⟩
        · simp [hlen]; omega
        · obtain ⟨i, hi⟩ := List.getElem?_of_mem hc
          have hi' : i < l.length := (List.getElem?_eq_some_iff.1 hi).1
          obtain ⟨c', h2, d, h3, h4⟩ := hget i (by omega)
          rw [hi] at h3
          simp only [Option.some.injEq] at h3
          subst h3
          exact dat_cell1 h4 (h1 c' (List.mem_of_getElem? h2))
        · have hi' : i < l.length := (List.getElem?_eq_some_iff.1 hi).1
          obtain ⟨c', h2, d, h3, h4⟩ := hget i (by omega)
          rw [hi] at h3
          simp only [Option.some.injEq] at h3
          subst h3
          have hv : vs[off + i]? = some v := by
            rw [Array.getElem?_extract] at hj
            split at hj
            · exact hj
            · simp at hj
          exact RepV.dat (γ := γ) (st := st) (.of (hh _ _ _ h2 hv)) h4
      · simp at hp
    · simp at hp
  · rename_i hagg
    have hlt : off < cs.length := (List.getElem?_eq_some_iff.1 hp).1
    have hv : vs[off]? = some vs[off] := Array.getElem?_eq_getElem (by omega)
    exact ⟨vs[off], by simp [hagg, hv], .of (hh _ _ _ hp hv)⟩

theorem sound_index_arr (hT : TbOk P tb) {o : Oper} (h : Inv c γ D st a w) {t : Nat} {x i : Operand} (ho : o.op = .index t x i) {n e : Nat} (hu : P.underlying t = some (.array n e)) {te : TI} (hte : find e tb = some te) {cs : List AV} {k : IntKind} {m : Int}
    (hx : st.ev x = .agg cs) (hi : st.ev i = .int k m) (h0 : 0 ≤ m) (h1 : m < n) {v : AV} (hp : partOf te cs (m.toNat * te.sz) = some v) : Gives P c o a w (st.put o.dst v) := by
  obtain ⟨vs, e, hn, hc1, hh⟩ := inv_agg (hx ▸ h.ev x)
  have ei := inv_int (hi ▸ h.ev i)
  obtain ⟨cv, hr, hv⟩ := part_sound (γ := γ) (st := st) (hT _ _ hte) hn hc1 hh hp
  refine gives_put h hv ?_
  simp [execOp, ho, e, ei, Instr.index, asIntOf, run_underlying' w hu, h0, h1, ty_size (hT _ _ hte), hr]

theorem sound_field (hT : TbOk P tb) {o : Oper} (h : Inv c γ D st a w) {s f : Nat} {x : Operand} (ho : o.op = .field s x f) {ti : TI} (ht : find s tb = some ti) {fs : List (Nat × Nat)} (hk : ti.k = .struct fs) {off ft : Nat} (hf : fs[f]? = some (off, ft)) {cs : List AV} (hx : st.ev x = .agg cs)
    {tf : TI} (htf : find ft tb = some tf) {v : AV} (hp : partOf tf cs off = some v) : Gives P c o a w (st.put o.dst v) := by
  obtain ⟨arr, hu, hfs, hsz⟩ := ty_struct (hT _ _ ht) hk
  obtain ⟨fl, hfl, e1⟩ : ∃ fl, arr[f]? = some fl ∧ (fl.offset, fl.type) = (off, ft) := by
    rw [hfs, List.getElem?_map, Array.getElem?_toList, Option.map_eq_some_iff] at hf
    exact hf
  obtain ⟨e2, e3⟩ := Prod.mk.inj e1
  obtain ⟨vs, e, hn, hc1, hh⟩ := inv_agg (hx ▸ h.ev x)
  obtain ⟨cv, hr, hv⟩ := part_sound (γ := γ) (st := st) (hT _ _ htf) hn hc1 hh hp
  refine gives_put h hv ?_
  simp [execOp, ho, e, Instr.field, run_underlying' w hu, hfl, e2, e3, asAgg, Go.asAgg, hr]

theorem sound_indexAddr (hT : TbOk P tb) {o : Oper} (h : Inv c γ D st a w) {t : Nat} {x i : Operand} (ho : o.op = .indexAddr t x i) {k : IntKind} {n : Int} (hi : st.ev i = .int k n) {v : AV} (hv : indexAddrA tb st t (st.ev x) n = some v) : Gives P c o a w (st.put o.dst v) := by
  have ei := inv_int (hi ▸ h.ev i)
  have hx := h.ev x
  have cx := st.ev_isCur x
  generalize st.ev x = X at hx hv cx
  unfold indexAddrA at hv
  split at hv
  · rename_i e sz by_ z hti
    have hu := ty_sl (hT _ _ hti) rfl
    have hrun : ∀ (s : Nat) (full : Bool) (xs : List AV) (te : TI) (el : AV), find e tb = some te → s = te.sz ∧ 0 ≤ n → xs[n.toNat]? = some el → RepD w D (.sl s full xs) (a.eval x) → Gives P c o a w (st.put o.dst (.rp s el 0)) := by
      intro s full xs te el hte hc hel hD
      obtain ⟨hs, h0⟩ := hc
      have h1 : n < xs.length := by have := (List.getElem?_eq_some_iff.1 hel).1; omega
      obtain ⟨A, cap, ev, _, _, h3⟩ := inv_sl hD
      rcases h3 with h3 | ⟨b, o', f, rfl, hE⟩
      · subst h3; simp at h1; omega
      · refine gives_put h (cv := .pointer (some ⟨b, (o' + n.toNat * s) + 0, none⟩)) (.of (.rp s el 0 b (o' + n.toNat * s) (f n.toNat) (hE.1 _ _ hel) (fun j c hj => ?_) (fun j c hj => hE.2.2 _ _ j c hel hj))) ?_
        · have := hE.2.1 _ _ j c hel hj
          rw [Nat.add_assoc]
          exact this
        · subst hs
          simp [execOp, ho, ev, ei, Instr.indexAt, asIntOf, run_underlying' w hu, h0, h1, ty_size (hT _ _ hte), addr_add]
    split at hv
    · rename_i te s full xs hte
      split at hv
      · rename_i hc
        split at hv
        · rename_i el hel
          simp only [Option.some.injEq] at hv
          subst hv
          exact hrun s full xs te el hte hc hel hx
        · simp at hv
      · simp at hv
    · rename_i te k' g' s xs hte
      split at hv
      · rename_i hc
        split at hv
        · rename_i el hel
          simp only [Option.some.injEq] at hv
          subst hv
          exact hrun s false xs te el hte hc hel hx.2.1
        · simp at hv
      · simp at hv
    · rename_i te k' g' hte
      split at hv
      · rename_i hs
        split at hv
        · rename_i xs hr
          split at hv
          · rename_i hc
            obtain ⟨h0, h1⟩ := hc
            simp only [Option.some.injEq] at hv
            subst hv
            have ev := hx.2 cx xs hr
            refine gives_put h (v := .rowp k' g' n.toNat) (cv := .pointer (some ⟨γ.rw k', n.toNat, none⟩)) ⟨hx.1, fun _ => rfl⟩ ?_
            simp [execOp, ho, ev, ei, Instr.indexAt, asIntOf, run_underlying' w hu, h0, h1, ty_size (hT _ _ hte), addr_add, hs]
          · simp at hv
        · simp at hv
      · simp at hv
    · simp at hv
  · rename_i m e sz by_ z hti
    have hu := ty_arr (hT _ _ hti) rfl
    split at hv
    · rename_i te k' g' off hte
      split at hv
      · rename_i hc
        obtain ⟨h0, h1⟩ := hc
        simp only [Option.some.injEq] at hv
        subst hv
        have ev := inv_ptr hx cx
        refine gives_put h (v := .ptr k' g' (off + n.toNat * te.sz)) (cv := .pointer (some ⟨γ.bx k', off + n.toNat * te.sz, none⟩)) ⟨hx.1, fun _ => rfl⟩ ?_
        simp [execOp, ho, ev, ei, Instr.indexAt, asIntOf, run_underlying' w hu, h0, h1, ty_size (hT _ _ hte), addr_add, Instr.sureAddr]
      · simp at hv
    · rename_i te s el off hte
      split at hv
      · rename_i hc
        obtain ⟨h0, h1⟩ := hc
        simp only [Option.some.injEq] at hv
        subst hv
        obtain ⟨b, o', f, ev, hs, hc', hr⟩ := inv_rp hx
        refine gives_put h (v := .rp s el (off + n.toNat * te.sz)) (cv := .pointer (some ⟨b, o' + (off + n.toNat * te.sz), none⟩)) (.of (.rp _ _ _ _ _ f hs hc' hr)) ?_
        simp [execOp, ho, ev, ei, Instr.indexAt, asIntOf, run_underlying' w hu, h0, h1, ty_size (hT _ _ hte), addr_add, Instr.sureAddr, Nat.add_assoc]
      · simp at hv
    · simp at hv
  · simp at hv

end
end Go.AM

set_option linter.unusedVariables false
set_option linter.unusedSimpArgs false
namespace Go.AM
section
variable {P : Program} {c : Ctx} {γ : Gh} {D : Dead} {st : St} {a : Act} {w : World} {tb : Tb}

theorem Inv.logs (h : Inv c γ D st a w) (rd wr : List Nat) : Inv c γ D { st with rd := rd, wr := wr } a w := by
  have hg : ∀ k, St.gen { st with rd := rd, wr := wr } k = st.gen k := fun _ => rfl
  exact ⟨h.nt, h.dfr, fun t => RepV.st (st := st) hg rfl (h.tm t), fun k cs hk => by
    obtain ⟨h1, vs, E, h2, h3, h4⟩ := h.bx k cs hk
    exact ⟨h1, vs, E, h2, h3, fun i c v hi hj => ⟨RepV.st (st := st) hg rfl (h4 i c v hi hj).1, (h4 i c v hi hj).2⟩⟩, h.rw, h.own, h.live, h.fr, h.dold, h.dlt, h.pk⟩

theorem cur_cell1 {v : AV} (h : v = .undef ∨ v.cell1 = true) : st.cur v = .undef ∨ (st.cur v).cell1 = true := by
  cases v <;> first | exact h | (exfalso; simp [AV.cell1] at h; done) | (simp only [St.cur]; split <;> first | exact .inr rfl | exact .inl rfl)

theorem cell_of_block {b j : Nat} {vs : Array Value} {E : Nat} {fr : Nat × Nat} (h : w.heap[b]? = some (.cells vs E fr)) : w.cell? ⟨b, j, none⟩ = vs[j]? := by
  simp [World.cell?, h]

theorem load_core (hT : TbOk P tb) (h : Inv c γ D st a w) {t : Nat} {x : Operand} {draw : Bool} {v : AV} {rd : List Nat} (hv : loadA tb draw st t (st.ev x) = some (v, rd)) : ∃ A cv, a.eval x = .pointer (some A) ∧ (loadVar t A).run P w = .ok cv w ∧ RepV γ w D st v cv := by
  have hx := h.ev x
  have cx := st.ev_isCur x
  generalize st.ev x = X at hx hv cx
  unfold loadA at hv
  split at hv
  · simp at hv
  rename_i ti hti
  have ht := hT _ _ hti
  split at hv
  · rename_i k g off
    split at hv
    · split at hv
      · rename_i cs hcs
        split at hv
        · rename_i v' hp
          simp only [Option.some.injEq, Prod.mk.injEq] at hv
          obtain ⟨rfl, rfl⟩ := hv
          obtain ⟨_, vs, E, h2, h3, h4⟩ := h.bx k cs hcs
          obtain ⟨cv, hr, hR, _⟩ := load_view (P := P) (w := w) (D := D) (γ := γ) (st := st) ht (cs := cs.map st.cur) (f := fun j => vs.getD j Go.undef) (b := γ.bx k) (base := 0) (off := off) (av := v') (fun j c' hj => by
            rw [List.getElem?_map, Option.map_eq_some_iff] at hj
            obtain ⟨c0, hj0, rfl⟩ := hj
            have hlt : j < vs.size := by rw [h3]; exact (List.getElem?_eq_some_iff.1 hj0).1
            obtain ⟨r1, r2⟩ := h4 j c0 vs[j] hj0 (Array.getElem?_eq_getElem hlt)
            have e : vs.getD j Go.undef = vs[j] := by simp [hlt]
            simp only [e]
            exact ⟨by rw [Nat.zero_add, cell_of_block h2, Array.getElem?_eq_getElem hlt], r1.cur, cur_cell1 r2⟩) hp
          rw [Nat.zero_add] at hr
          exact ⟨_, cv, inv_ptr hx cx, hr, hR⟩
        · simp at hv
      · simp at hv
    · simp at hv
  · rename_i s e j
    obtain ⟨b, o', f, ev, hs, hc, hr⟩ := inv_rp hx
    split at hv
    · rename_i hcond
      simp only [Bool.and_eq_true, beq_iff_eq] at hcond
      obtain ⟨⟨hagg, hj0⟩, hsz⟩ := hcond
      split at hv
      · rename_i cs
        simp only [Option.some.injEq, Prod.mk.injEq] at hv
        obtain ⟨rfl, rfl⟩ := hv
        subst hj0
        have hlen : cs.length = ti.sz := by rw [hsz]; exact hs
        have hrun : (loadCells ⟨b, o' + 0, none⟩ ti.sz).run P w = .ok ((List.range ti.sz).map fun j => f j).toArray w :=
          run_loadCells w _ _ (fun j => f j) fun j hj => by
            rw [addr_add, Nat.add_zero]
            have hlt : j < cs.length := by omega
            exact (hc j cs[j] (List.getElem?_eq_getElem hlt)).2.2
        refine ⟨_, .agg ((List.range ti.sz).map fun j => f j).toArray, ev, ?_, .of (.agg _ _ (by simp [hlen]) (fun c' hc' => ?_) (fun m c' v' hm hm' => ?_))⟩
        · simp only [loadVar, Sem.run_bind, ty_agg ht, hagg, Result.andThen_ok, if_true, ty_size ht, hrun, Sem.run_pure]
        · obtain ⟨m, hm⟩ := List.getElem?_of_mem hc'
          exact (hc m c' hm).1
        · have hlt : m < ti.sz := by rw [← hlen]; exact (List.getElem?_eq_some_iff.1 hm).1
          have : v' = f m := by simp [hlt] at hm'; exact hm'.symm
          subst this
          exact hr m c' hm
      · simp at hv
    · split at hv
      · rename_i v' hp
        split at hv
        case isFalse => simp at hv
        simp only [Option.some.injEq, Prod.mk.injEq] at hv
        obtain ⟨rfl, rfl⟩ := hv
        obtain ⟨cv, hrun, hR, _⟩ := load_view (P := P) (w := w) (D := D) (γ := γ) (st := st) ht (cs := e.cells) (f := f) (b := b) (base := o') (off := j) (av := v') (fun j' c' hj' => by
          obtain ⟨q1, q2, q3⟩ := hc j' c' hj'
          exact ⟨q3, .of (hr j' c' hj'), .inr q1⟩) hp
        exact ⟨_, cv, ev, hrun, hR⟩
      · simp at hv
  · rename_i k g i
    split at hv
    · rename_i hagg
      split at hv
      · rename_i xs hxs
        split at hv
        · rename_i v' hp
          split at hv
          case isFalse => simp at hv
          simp only [Option.some.injEq, Prod.mk.injEq] at hv
          obtain ⟨rfl, rfl⟩ := hv
          obtain ⟨_, vs, E, h2, h3, h4⟩ := h.rw k xs hxs
          have hlt : i < vs.size := by rw [h3]; exact (List.getElem?_eq_some_iff.1 hp).1
          have hagg' : ti.isAgg = false := by simpa using hagg
          refine ⟨_, vs[i], hx.2 cx, ?_, .of (h4 i v' vs[i] hp (Array.getElem?_eq_getElem hlt)).1⟩
          simp [loadVar, ty_agg ht, hagg', cell_of_block h2, hlt]
        · simp at hv
      · simp at hv
    · simp at hv
  · simp at hv

/-- The elements of a slice. -/
theorem sound_load (hT : TbOk P tb) {o : Oper} (h : Inv c γ D st a w) {t : Nat} {x : Operand} (ho : o.op = .load t x) {draw : Bool} {v : AV} {rd : List Nat} (hv : loadA tb draw st t (st.ev x) = some (v, rd)) : Gives P c o a w ({ st with rd := rd }.put o.dst v) := by
  obtain ⟨A, cv, h1, h2, h3⟩ := load_core hT h hv
  exact gives_put (st := { st with rd := rd }) (h.logs rd st.wr) (RepV.st (st := st) (fun _ => rfl) rfl h3) (by simp [execOp, ho, h1, Instr.loadAt, Instr.sureAddr, h2])

theorem inv_elems (h : Inv c γ D st a w) {X : AV} {V : Value} (hx : RepV γ w D st X V) (cx : st.isCur X) {s : Nat} {xs : List AV} (he : st.elems X = some (s, xs)) :
    ∃ A cap, V = .slice A xs.length cap ∧ xs.length ≤ cap ∧ (xs = [] ∨ ∃ b o, A = some ⟨b, o, none⟩ ∧ (∀ (i : Nat) (e : AV), xs[i]? = some e → e.cells.length = s) ∧
      ∃ f : Nat → Nat → Value, ∀ (i : Nat) (e : AV) (j : Nat) (c : AV), xs[i]? = some e → e.cells[j]? = some c → c.cell1 = true ∧ w.cell? ⟨b, o + (i * s + j), none⟩ = some (f i j) ∧ RepD w D c (f i j)) := by
  unfold St.elems at he
  split at he <;> try simp only [Option.some.injEq, Prod.mk.injEq, reduceCtorEq] at he
  · obtain ⟨rfl, rfl⟩ := he
    obtain ⟨A, cap, ev, h1, _, h3⟩ := inv_sl hx
    refine ⟨A, cap, ev, h1, h3.imp id ?_⟩
    rintro ⟨b, o, f, e, hE⟩
    exact ⟨b, o, e, hE.1, f, fun i e j c hi hj => ⟨(hE.2.1 i e j c hi hj).1, (hE.2.1 i e j c hi hj).2.2, hE.2.2 i e j c hi hj⟩⟩
  · obtain ⟨rfl, rfl⟩ := he
    obtain ⟨A, cap, ev, h1, _, h3⟩ := inv_sl hx.2.1
    refine ⟨A, cap, ev, h1, h3.imp id ?_⟩
    rintro ⟨b, o, f, e, hE⟩
    exact ⟨b, o, e, hE.1, f, fun i e j c hi hj => ⟨(hE.2.1 i e j c hi hj).1, (hE.2.1 i e j c hi hj).2.2, hE.2.2 i e j c hi hj⟩⟩
  · rename_i k g
    split at he <;> simp only [Option.some.injEq, Prod.mk.injEq, reduceCtorEq] at he
    rename_i ys hr
    obtain ⟨rfl, rfl⟩ := he
    obtain ⟨_, vs, E, h2, h3, h4⟩ := h.rw k ys hr
    refine ⟨_, _, hx.2 cx ys hr, Nat.le_refl _, .inr ⟨_, 0, rfl, fun i e hi => ?_, fun i _ => vs.getD i Go.undef, fun i e j c' hi hj => ?_⟩⟩
    · have hlt : i < vs.size := by rw [h3]; exact (List.getElem?_eq_some_iff.1 hi).1
      have hc1 := (h4 i e vs[i] hi (Array.getElem?_eq_getElem hlt)).2
      cases e <;> first | rfl | simp [AV.cell1] at hc1
    · have hlt : i < vs.size := by rw [h3]; exact (List.getElem?_eq_some_iff.1 hi).1
      have hc1 := (h4 i e vs[i] hi (Array.getElem?_eq_getElem hlt)).2
      have hce : e.cells = [e] := by cases e <;> first | rfl | simp [AV.cell1] at hc1
      rw [hce] at hj
      cases j with
      | zero =>
        simp at hj
        subst hj
        refine ⟨hc1, ?_, ?_⟩
        · simp [cell_of_block h2, hlt]
        · simp only [Array.getD_eq_getD_getElem?, Array.getElem?_eq_getElem hlt, Option.getD_some]
          exact (h4 i e vs[i] hi (Array.getElem?_eq_getElem hlt)).1
      | succ j => simp at hj

theorem sound_len (hT : TbOk P tb) {o : Oper} (h : Inv c γ D st a w) {t : Nat} {x : Operand} (ho : o.op = .call { callee := .builtin .len, args := #[x], argTypes := #[t] }) {v : AV} (hv : lenA tb st t (st.ev x) = some v) : Gives P c o a w (st.put o.dst v) := by
  have hx := h.ev x
  have cx := st.ev_isCur x
  suffices hs : ∃ cv, (Builtin.len_ #[t] o.type #[a.eval x]).run P w = .ok cv w ∧ RepV γ w D st v cv by
    obtain ⟨cv, h1, h2⟩ := hs
    exact gives_put h h2 (by simp [execOp, ho, resolve, invoke, builtin, h1])
  generalize st.ev x = X at hx hv cx
  unfold lenA at hv
  split at hv
  · simp at hv
  rename_i ti hti
  have ht := hT _ _ hti
  split at hv
  · rename_i s hk
    simp only [Option.some.injEq] at hv
    subst hv
    obtain ⟨sb, ev, hs⟩ := inv_str hx
    have hsz : sb.size = s.length := by rw [← hs, Array.length_toList]; rfl
    exact ⟨_, by simp [Builtin.len_, run_underlying' w (ty_str ht hk), ev, goInt, hsz], .of (.int _ _)⟩
  · rename_i e hk
    split at hv
    · rename_i s xs he
      simp only [Option.some.injEq] at hv
      subst hv
      obtain ⟨A, cap, ev, _⟩ := inv_elems h hx cx he
      exact ⟨_, by simp [Builtin.len_, run_underlying' w (ty_sl ht hk), ev, goInt], .of (.int _ _)⟩
    · simp at hv
  · rename_i n e hk
    simp only [Option.some.injEq] at hv
    subst hv
    exact ⟨_, by simp [Builtin.len_, run_underlying' w (ty_arr ht hk), goInt], .of (.int _ _)⟩
  · simp at hv

theorem sound_min {o : Oper} (h : Inv c γ D st a w) {x y : Operand} {ts : Array Nat} (ho : o.op = .call { callee := .builtin .min, args := #[x, y], argTypes := ts }) {k k' : IntKind} {m n : Int} (hx : st.ev x = .int k m) (hy : st.ev y = .int k' n) :
    Gives P c o a w (st.put o.dst (.int k (if n < m then n else m))) := by
  have ex := inv_int (hx ▸ h.ev x)
  have ey := inv_int (hy ▸ h.ev y)
  exact gives_put h (.of (.int _ _)) (by simp [execOp, ho, resolve, invoke, builtin, Builtin.min_, Builtin.min2, ex, ey])
theorem sound_max {o : Oper} (h : Inv c γ D st a w) {x y : Operand} {ts : Array Nat} (ho : o.op = .call { callee := .builtin .max, args := #[x, y], argTypes := ts }) {k k' : IntKind} {m n : Int} (hx : st.ev x = .int k m) (hy : st.ev y = .int k' n) :
    Gives P c o a w (st.put o.dst (.int k (if n > m then n else m))) := by
  have ex := inv_int (hx ▸ h.ev x)
  have ey := inv_int (hy ▸ h.ev y)
  exact gives_put h (.of (.int _ _)) (by simp [execOp, ho, resolve, invoke, builtin, Builtin.max_, Builtin.max2, ex, ey])

end
end Go.AM

set_option linter.unusedVariables false
set_option linter.unusedSimpArgs false
namespace Go.AM

theorem fold_set (cells : List Value) : ∀ (k off : Nat) (C : Array Value), off + k + cells.length ≤ C.size →
    ((cells.zipIdx k).foldl (fun cs (x : Value × Nat) => cs.setIfInBounds (off + x.2) x.1) C).size = C.size ∧
    ∀ j, ((cells.zipIdx k).foldl (fun cs (x : Value × Nat) => cs.setIfInBounds (off + x.2) x.1) C)[j]? = if off + k ≤ j ∧ j < off + k + cells.length then cells[j - (off + k)]? else C[j]? := by
  induction cells with
  | nil =>
    intro k off C h
    refine ⟨rfl, fun j => ?_⟩
    have : ¬ (off + k ≤ j ∧ j < off + k + ([] : List Value).length) := by simp
    rw [if_neg this]
    rfl
  | cons v r ih =>
    intro k off C h
    simp only [List.length_cons] at h
    obtain ⟨h1, h2⟩ := ih (k + 1) off (C.setIfInBounds (off + k) v) (by simp; omega)
    simp only [List.zipIdx_cons, List.foldl_cons]
    refine ⟨by rw [h1]; simp, fun j => ?_⟩
    rw [h2 j]
    by_cases e : j = off + k
    · subst e
      have e1 : ¬ (off + (k + 1) ≤ off + k ∧ off + k < off + (k + 1) + r.length) := by omega
      have e2 : off + k ≤ off + k ∧ off + k < off + k + (v :: r).length := by simp
      have e3 : off + k < C.size := by omega
      rw [if_neg e1, if_pos e2]
      simp [Array.getElem?_setIfInBounds, e3]
    · by_cases e4 : off + (k + 1) ≤ j ∧ j < off + (k + 1) + r.length
      · have e5 : off + k ≤ j ∧ j < off + k + (v :: r).length := by simp; omega
        rw [if_pos e4, if_pos e5]
        have : j - (off + k) = (j - (off + (k + 1))) + 1 := by omega
        rw [this, List.getElem?_cons_succ]
      · have e5 : ¬ (off + k ≤ j ∧ j < off + k + (v :: r).length) := by simp; omega
        rw [if_neg e4, if_neg e5, Array.getElem?_setIfInBounds_ne (by omega)]

theorem array_fold_set (v : Array Value) (off : Nat) (C : Array Value) (h : off + v.size ≤ C.size) :
    (v.zipIdx.foldl (fun cs (x : Value × Nat) => cs.setIfInBounds (off + x.2) x.1) C).size = C.size ∧
    ∀ j, (v.zipIdx.foldl (fun cs (x : Value × Nat) => cs.setIfInBounds (off + x.2) x.1) C)[j]? = if off ≤ j ∧ j < off + v.size then v[j - off]? else C[j]? := by
  have e : v.zipIdx.foldl (fun cs (x : Value × Nat) => cs.setIfInBounds (off + x.2) x.1) C = (v.toList.zipIdx 0).foldl (fun cs (x : Value × Nat) => cs.setIfInBounds (off + x.2) x.1) C := by
    rw [← Array.foldl_toList, Array.toList_zipIdx]
  rw [e]
  obtain ⟨h1, h2⟩ := fold_set v.toList 0 off C (by simpa using h)
  refine ⟨h1, fun j => ?_⟩
  rw [h2 j]
  simp

theorem setCells_len : ∀ (l : List AV) (cs : List AV) (off : Nat), (setCells cs off l).length = cs.length
  | [], cs, off => rfl
  | v :: r, cs, off => by rw [setCells, setCells_len r]; simp
theorem setCells_get : ∀ (l : List AV) (cs : List AV) (off j : Nat), off + l.length ≤ cs.length → (setCells cs off l)[j]? = if off ≤ j ∧ j < off + l.length then l[j - off]? else cs[j]?
  | [], cs, off, j, h => by
    have : ¬ (off ≤ j ∧ j < off + ([] : List AV).length) := by simp
    rw [if_neg this]
    rfl
  | v :: r, cs, off, j, h => by
    simp only [List.length_cons] at h
    rw [setCells, setCells_get r _ _ _ (by simp; omega)]
    by_cases e : j = off
    · subst e
      have e1 : ¬ (j + 1 ≤ j ∧ j < j + 1 + r.length) := by omega
      have e2 : j ≤ j ∧ j < j + (v :: r).length := by simp
      rw [if_neg e1, if_pos e2]
      simp [show j < cs.length by omega]
    · by_cases e4 : off + 1 ≤ j ∧ j < off + 1 + r.length
      · have e5 : off ≤ j ∧ j < off + (v :: r).length := by simp; omega
        rw [if_pos e4, if_pos e5]
        have : j - off = (j - (off + 1)) + 1 := by omega
        rw [this, List.getElem?_cons_succ]
      · have e5 : ¬ (off ≤ j ∧ j < off + (v :: r).length) := by simp; omega
        rw [if_neg e4, if_neg e5, List.getElem?_set_ne (by omega)]

/-- Cell by cell. -/
def RepL (w : World) (D : Dead) (cs : List AV) (vs : Array Value) : Prop :=
  vs.size = cs.length ∧ (∀ c ∈ cs, c.cell1 = true) ∧ ∀ (i : Nat) (c : AV) (v : Value), cs[i]? = some c → vs[i]? = some v → RepD w D c v

section
variable {P : Program} {c : Ctx} {γ : Gh} {D : Dead} {st : St} {a : Act} {w : World} {tb : Tb}

/-- The cells of a finished value. -/
theorem RepD.cells {v : AV} {cv : Value} (h : RepD w D v cv) : RepL w D v.cells cv.cells := by
  cases h with
  | agg cs vs hn h1 hh => exact ⟨hn, h1, hh⟩
  | _ =>
    refine ⟨rfl, fun c hc => ?_, fun i c v hi hj => ?_⟩
    · simp [AV.cells] at hc
      subst hc
      rfl
    · cases i with
      | zero =>
        simp [AV.cells] at hi
        simp [Value.cells] at hj
        subst hi
        subst hj
        first | exact .int _ _ | exact .bool _ | (exact .str _ _ (by assumption)) | exact .slN _ _ _ _ (by assumption) | (exact .sl _ _ _ _ _ _ _ (by assumption) (by assumption) (by assumption) (by assumption) (by assumption)) | (exact .rp _ _ _ _ _ _ (by assumption) (by assumption) (by assumption)) | exact .nilp | exact .fn _ | exact .nilfn | (exact .iface _ _ _ (by assumption)) | exact .nili
      | succ i => simp [AV.cells] at hi

theorem RepL.set {cs : List AV} {vs : Array Value} (h : RepL w D cs vs) {l : List AV} {us : Array Value} (h' : RepL w D l us) {off : Nat} (hle : off + l.length ≤ cs.length) :
    RepL w D (setCells cs off l) (us.zipIdx.foldl (fun x (y : Value × Nat) => x.setIfInBounds (off + y.2) y.1) vs) := by
  obtain ⟨h1, h2⟩ := array_fold_set us off vs (by rw [h.1, h'.1]; exact hle)
  refine ⟨by rw [h1, setCells_len, h.1], fun c hc => ?_, fun i c v hi hj => ?_⟩
  · obtain ⟨i, hi⟩ := List.getElem?_of_mem hc
    rw [setCells_get _ _ _ _ hle] at hi
    split at hi
    · exact h'.2.1 c (List.mem_of_getElem? hi)
    · exact h.2.1 c (List.mem_of_getElem? hi)
  · rw [setCells_get _ _ _ _ hle] at hi
    rw [h2, h'.1] at hj
    split at hi
    · rename_i hc
      rw [if_pos hc] at hj
      exact h'.2.2 _ _ _ hi hj
    · rename_i hc
      rw [if_neg hc] at hj
      exact h.2.2 _ _ _ hi hj

theorem fillParts_sound (hT : TbOk P tb) (h : Inv c γ D st a w) {fs : List (Nat × Nat)} {places : List (Nat × Nat)} (hp : places = fs.map fun f => (f.1, P.cellsOf f.2)) : ∀ (ps : List (Nat × Operand)) (cs : List AV) (vs : Array Value) (r : List AV), RepL w D cs vs → TI.fillParts tb fs st cs ps = some r →
    ∃ us, Instr.fill (fun i => places[i]?) vs (ps.map fun p => (p.1, a.eval p.2)) = some us ∧ RepL w D r us
  | [], cs, vs, r, hR, hf => by
    simp only [TI.fillParts, Option.some.injEq] at hf
    subst hf
    exact ⟨vs, rfl, hR⟩
  | (i, x) :: ps, cs, vs, r, hR, hf => by
    simp only [TI.fillParts] at hf
    split at hf
    · simp at hf
    rename_i off t hi
    split at hf
    · rename_i ti v hti hv
      split at hf
      · rename_i hc
        obtain ⟨c1, c2⟩ := hc
        have hD := (h.ev x).dat hv
        have hcl := hD.cells
        obtain ⟨us, h1, h2⟩ := fillParts_sound hT h hp ps _ _ _ (hR.set hcl (off := off) (by rw [c1]; exact c2)) hf
        refine ⟨us, ?_, h2⟩
        simp only [List.map_cons, Instr.fill]
        have e : places[i]? = some (off, ti.sz) := by rw [hp, List.getElem?_map, hi]; simp [ty_cells (hT _ _ hti)]
        have e1 : ¬ ((a.eval x).cells.size ≠ ti.sz ∨ off + (a.eval x).cells.size > vs.size) := by
          rw [hcl.1, c1, hR.1]; omega
        rw [e]
        simp only [Bool.or_eq_true, decide_eq_true_eq]
        rw [if_neg e1]
        exact h1
      · simp at hf
    · simp at hf

theorem mapM_places : ∀ fs : List Field, (∀ f ∈ fs, P.cellsOf f.type ≠ 0) → fs.mapM (fun f => (P.info? f.type).map fun i => (f.offset, i.size)) = some (fs.map fun f => (f.offset, P.cellsOf f.type))
  | [], _ => rfl
  | f :: fs, h => by
    have h1 := h f (by simp)
    cases hi : P.info? f.type with
    | none => simp [Program.cellsOf, hi] at h1
    | some i =>
      have ih := mapM_places fs (fun g hg => h g (by simp [hg]))
      simp [List.mapM_cons, hi, ih, Program.cellsOf]

theorem sound_build (hT : TbOk P tb) {o : Oper} (h : Inv c γ D st a w) {t : Nat} {ps : Array (Nat × Operand)} (ho : o.op = .build t ps) {ti : TI} (hti : find t tb = some ti) {fs : List (Nat × Nat)} (hk : ti.k = .struct fs) {z z' : List AV} (hz : ti.z = .agg z) (hz' : datAll z = some z') {cs : List AV}
    (hf : TI.fillParts tb fs st z' ps.toList = some cs) : Gives P c o a w (st.put o.dst (.agg cs)) := by
  obtain ⟨arr, hu, hfs, hsz⟩ := ty_struct (hT _ _ hti) hk
  obtain ⟨it, d, hit, _, _, _, _, hz1, hz2⟩ := tyOf.parts (hT _ _ hti)
  obtain ⟨zv, hzv⟩ : ∃ zv, it.zero = some zv := by
    cases hh : it.zero with
    | none => rw [hz2 hh] at hz; simp at hz
    | some zv => exact ⟨zv, rfl⟩
  have hze := hz1 zv hzv
  have hzR : RepV γ w D st (.agg z) zv := by rw [← hz, ← hze]; exact RepV.ofVal zv
  obtain ⟨vs, rfl, hn, h1, hh⟩ := inv_agg hzR
  have hzz : RepL w D z' vs := by
    obtain ⟨d1, d2⟩ := datAll_spec hz'
    refine ⟨by rw [hn, d1], fun c hc => ?_, fun i c v hi hj => ?_⟩
    · obtain ⟨i, hi⟩ := List.getElem?_of_mem hc
      have hlt : i < z.length := by rw [← d1]; exact (List.getElem?_eq_some_iff.1 hi).1
      obtain ⟨d, e1, e2⟩ := d2 i z[i] (List.getElem?_eq_getElem hlt)
      rw [hi] at e1
      simp only [Option.some.injEq] at e1
      subst e1
      exact dat_cell1 e2 (h1 _ (List.getElem_mem hlt))
    · have hlt : i < z.length := by rw [← d1]; exact (List.getElem?_eq_some_iff.1 hi).1
      obtain ⟨d, e1, e2⟩ := d2 i z[i] (List.getElem?_eq_getElem hlt)
      rw [hi] at e1
      simp only [Option.some.injEq] at e1
      subst e1
      exact RepV.dat (γ := γ) (st := st) (.of (hh i _ v (List.getElem?_eq_getElem hlt) hj)) e2
  obtain ⟨us, hfill, hR⟩ := fillParts_sound hT h (places := arr.toList.map fun f => (f.offset, P.cellsOf f.type)) (by rw [hfs]; simp) ps.toList z' vs cs hzz hf
  refine gives_put h (cv := .agg us) (.of (.agg _ _ hR.1 hR.2.1 hR.2.2)) ?_
  have hb : P.built t (ps.map fun (i, x) => (i, a.eval x)).toList = some us := by
    unfold Program.built
    simp only [hit, hu, hzv, mapM_places arr.toList (fun f hf => hsz f (by simpa using hf))]
    rw [← hfill]
    simp [Value.cells]
  simp [execOp, ho, run_build w t _ us hb]

end
end Go.AM

set_option linter.unusedVariables false
set_option linter.unusedSimpArgs false
namespace Go.AM
open Go.RowKit

/-- A row of elements, cell by cell. -/
def RowRep (w : World) (D : Dead) (s : Nat) (xs : List AV) (vs : Array Value) : Prop :=
  (∀ (i : Nat) (e : AV), xs[i]? = some e → e.cells.length = s) ∧ vs.size = xs.length * s ∧
  ∀ (i : Nat) (e : AV) (j : Nat) (c : AV) (v : Value), xs[i]? = some e → e.cells[j]? = some c → vs[i * s + j]? = some v → c.cell1 = true ∧ RepD w D c v

section
variable {P : Program} {c : Ctx} {γ : Gh} {D D' : Dead} {st : St} {a : Act} {w w' : World} {tb : Tb}

theorem Inv.pres (h : Inv c γ D st a w) (hb : Below w.heap.size w w') : Pres D w w' := fun b o hd => by
  simp [World.cell?, hb.block b (h.dlt b o hd)]

/-- The world grows: what was there is there. -/
theorem Inv.grow (h : Inv c γ D st a w) (hb : Below w.heap.size w w') (h1 : ∀ b o, D b o → D' b o) (h2 : ∀ b o, b < w.heap.size → D' b o → D b o) (h3 : ∀ b o, D' b o → b < w'.heap.size) : Inv c γ D' st a w' := by
  have hp := h.pres hb
  have hV : ∀ {av : AV} {v : Value}, RepV γ w D st av v → RepV γ w' D' st av v := fun {av v} hv =>
    RepV.mono hp h1 (fun _ => Nat.le_refl _) (fun k _ => ⟨rfl, rfl, fun xs hx => ⟨xs, hx, rfl⟩, fun s xs v => by
      rintro ⟨A, cap, e, hc⟩
      refine ⟨A, cap, e, hc.imp id ?_⟩
      rintro ⟨hA, ho, q1, q2, q4⟩
      have hlt := (h.own _ _ ho).1
      have hbk := hb.block _ hlt
      exact ⟨hA, ho, q1, fun o hlt' => ⟨by rw [World.cell?_of_block (a := ⟨γ.tp k, o, none⟩) hbk]; exact (q2 o hlt').1, by rw [World.frozen?_of_block (a := ⟨γ.tp k, o, none⟩) hbk]; exact (q2 o hlt').2⟩, fun o hd => q4 o (h2 _ _ hlt hd)⟩⟩) hv
  refine ⟨h.nt, h.dfr, fun t => hV (h.tm t), fun k cs hk => ?_, fun k xs hk => ?_, fun b q hq => ⟨Nat.lt_of_lt_of_le (h.own b q hq).1 hb.size, (h.own b q hq).2⟩, fun b k ho o hd => ?_, ?_, fun b o hlt => ?_, h3, h.pk⟩
  · obtain ⟨q1, vs, E, q2, q3, q4⟩ := h.bx k cs hk
    exact ⟨q1, vs, E, (hb.block _ (h.own _ _ q1).1).trans q2, q3, fun i c v hi hj => ⟨hV (q4 i c v hi hj).1, (q4 i c v hi hj).2⟩⟩
  · obtain ⟨q1, vs, E, q2, q3, q4⟩ := h.rw k xs hk
    exact ⟨q1, vs, E, (hb.block _ (h.own _ _ q1).1).trans q2, q3, fun i c v hi hj => ⟨(q4 i c v hi hj).1.mono hp h1, (q4 i c v hi hj).2⟩⟩
  · have hlt : b < w.heap.size := by rcases ho with ho | ho <;> exact (h.own b _ ho).1
    exact h.live b k ho o (h2 b o hlt hd)
  · exact ⟨hb.os.trans h.fr.os, hb.tape.trans h.fr.tape, hb.output.trans h.fr.output, Nat.le_trans h.fr.size hb.size, fun b hlt hn => (hb.block b (Nat.lt_of_lt_of_le hlt h.fr.size)).trans (h.fr.block b hlt hn)⟩
  · have hlt' : b < w.heap.size := Nat.lt_of_lt_of_le hlt h.fr.size
    exact ⟨fun hd => (h.dold b o hlt).1 (h2 b o hlt' hd), fun hd => h1 b o ((h.dold b o hlt).2 hd)⟩

/-- What is dead behind a new block of finished cells. -/
def deadNew (D : Dead) (b n : Nat) : Dead := fun b' o => D b' o ∨ (b' = b ∧ o < n)

theorem below_alloc (w : World) (o : Obj) : Below w.heap.size w (w.alloc o) := (Below.refl _ _).alloc (Nat.le_refl _) o

theorem Inv.newDead (h : Inv c γ D st a w) (vs : Array Value) (E : Nat) : Inv c γ (deadNew D w.heap.size vs.size) st a (w.alloc (.cells vs E)) := by
  refine h.grow (below_alloc w _) (fun b o hd => .inl hd) (fun b o hlt hd => hd.resolve_right (fun hh => by omega)) (fun b o hd => ?_)
  rw [World.size_alloc]
  rcases hd with hd | ⟨rfl, _⟩
  · have := h.dlt b o hd; omega
  · omega

theorem RowRep.rep (h : Inv c γ D st a w) {s : Nat} {xs : List AV} {vs : Array Value} (hr : RowRep w D s xs vs) (E : Nat) :
    RepD (w.alloc (.cells vs E)) (deadNew D w.heap.size vs.size) (.sl s true xs) (.slice (some ⟨w.heap.size, 0, none⟩) xs.length xs.length) := by
  have hidx : ∀ (i : Nat) (e : AV) (j : Nat) (c : AV), xs[i]? = some e → e.cells[j]? = some c → i * s + j < vs.size := by
    intro i e j c hi hj
    have h1 : i < xs.length := (List.getElem?_eq_some_iff.1 hi).1
    have h2 : j < s := by rw [← hr.1 i e hi]; exact (List.getElem?_eq_some_iff.1 hj).1
    rw [hr.2.1]
    calc i * s + j < i * s + s := by omega
      _ = (i + 1) * s := by rw [Nat.add_mul]; simp
      _ ≤ xs.length * s := Nat.mul_le_mul_right _ h1
  refine .sl s true xs w.heap.size 0 xs.length (fun i j => vs.getD (i * s + j) Go.undef) (Nat.le_refl _) (fun _ => rfl) hr.1 (fun i e j c hi hj => ?_) (fun i e j c hi hj => ?_)
  · have hlt := hidx i e j c hi hj
    refine ⟨(hr.2.2 i e j c vs[i * s + j] hi hj (Array.getElem?_eq_getElem hlt)).1, .inr ⟨rfl, by omega⟩, ?_⟩
    rw [Nat.zero_add, World.cell?_alloc_new]
    simp [hlt]
  · have hlt := hidx i e j c hi hj
    have e1 : vs.getD (i * s + j) Go.undef = vs[i * s + j] := by simp [hlt]
    simp only [e1]
    exact (hr.2.2 i e j c vs[i * s + j] hi hj (Array.getElem?_eq_getElem hlt)).2.mono (h.pres (below_alloc w _)) (fun b o hd => .inl hd)

theorem RowRep.set {s : Nat} {xs : List AV} {vs : Array Value} (h : RowRep w D s xs vs) {v : AV} {us : Array Value} (hv : RepL w D v.cells us) (hs : v.cells.length = s) {i : Nat} (hi : i < xs.length) :
    RowRep w D s (xs.set i v) (us.zipIdx.foldl (fun x (y : Value × Nat) => x.setIfInBounds (i * s + y.2) y.1) vs) := by
  have hle : i * s + us.size ≤ vs.size := by
    rw [hv.1, hs, h.2.1]
    calc i * s + s = (i + 1) * s := by rw [Nat.add_mul]; simp
      _ ≤ xs.length * s := Nat.mul_le_mul_right _ hi
  obtain ⟨h1, h2⟩ := array_fold_set us (i * s) vs hle
  refine ⟨fun m e hm => ?_, by rw [h1, List.length_set]; exact h.2.1, fun m e j c x hm hj hx => ?_⟩
  · rw [List.getElem?_set] at hm
    split at hm
    · rename_i e1
      subst e1
      have hm' : v = e := by simpa [hi] using hm
      subst hm'
      exact hs
    · exact h.1 m e hm
  · rw [h2, hv.1, hs] at hx
    rw [List.getElem?_set] at hm
    split at hm
    · rename_i e1
      subst e1
      have hm' : v = e := by simpa [hi] using hm
      subst hm'
      have hj' : j < s := by rw [← hs]; exact (List.getElem?_eq_some_iff.1 hj).1
      rw [if_pos (by omega)] at hx
      have : i * s + j - i * s = j := by omega
      rw [this] at hx
      exact ⟨hv.2.1 c (List.mem_of_getElem? hj), hv.2.2 j c x hj hx⟩
    · rename_i e1
      have hj' : j < s := by rw [← h.1 m e hm]; exact (List.getElem?_eq_some_iff.1 hj).1
      have : ¬ (i * s ≤ m * s + j ∧ m * s + j < i * s + s) := by
        rintro ⟨q1, q2⟩
        rcases Nat.lt_or_gt_of_ne e1 with hlt | hlt
        · have : (i + 1) * s ≤ m * s := Nat.mul_le_mul_right _ hlt
          rw [Nat.add_mul] at this
          omega
        · have : (m + 1) * s ≤ i * s := Nat.mul_le_mul_right _ hlt
          rw [Nat.add_mul] at this
          omega
      rw [if_neg this] at hx
      exact h.2.2 m e j c x hm hj hx

theorem fillElems_sound (h : Inv c γ D st a w) {s : Nat} {z : AV} : ∀ (ps : List (Nat × Operand)) (xs : List AV) (vs : Array Value) (r : List AV), RowRep w D s xs vs → fillElems z s st xs ps = some r →
    ∃ us, Instr.fill (fun i => some (i * s, s)) vs (ps.map fun p => (p.1, a.eval p.2)) = some us ∧ RowRep w D s r us ∧ r.length = xs.length
  | [], xs, vs, r, hR, hf => by
    simp only [fillElems, Option.some.injEq] at hf
    subst hf
    exact ⟨vs, rfl, hR, rfl⟩
  | (i, x) :: ps, xs, vs, r, hR, hf => by
    simp only [fillElems] at hf
    split at hf
    · rename_i v hv
      split at hf
      · rename_i hc
        obtain ⟨c1, c2⟩ := hc
        have hcl := ((h.ev x).dat hv).cells
        obtain ⟨us, h1, h2, h3⟩ := fillElems_sound h ps _ _ _ (hR.set hcl c1 c2) hf
        refine ⟨us, ?_, h2, by rw [h3]; simp⟩
        simp only [List.map_cons, Instr.fill]
        have hle : i * s + s ≤ vs.size := by
          rw [hR.2.1]
          calc i * s + s = (i + 1) * s := by rw [Nat.add_mul]; simp
            _ ≤ xs.length * s := Nat.mul_le_mul_right _ c2
        have e1 : ¬ ((a.eval x).cells.size ≠ s ∨ i * s + (a.eval x).cells.size > vs.size) := by
          rw [hcl.1, c1]; omega
        simp only [Bool.or_eq_true, decide_eq_true_eq]
        rw [if_neg e1]
        exact h1
      · simp at hf
    · simp at hf

/-- A row of zero values. -/
theorem zeroRow {z : AV} {zc : Array Value} {s : Nat} (hz : RepL w D z.cells zc) (hs : z.cells.length = s) (n : Nat) : RowRep w D s (List.replicate n z) ((Array.range (n * s)).map (zc[· % zc.size]!)) := by
  refine ⟨fun i e hi => ?_, by simp, fun i e j c v hi hj hv => ?_⟩
  · rw [List.getElem?_replicate] at hi
    split at hi
    · simp at hi; subst hi; exact hs
    · simp at hi
  · rw [List.getElem?_replicate] at hi
    split at hi
    · simp at hi
      subst hi
      have hj' : j < s := by rw [← hs]; exact (List.getElem?_eq_some_iff.1 hj).1
      have hzs : zc.size = s := by rw [hz.1, hs]
      have hlt : i * s + j < n * s := by
        calc i * s + j < i * s + s := by omega
          _ = (i + 1) * s := by rw [Nat.add_mul]; simp
          _ ≤ n * s := Nat.mul_le_mul_right _ (by assumption)
      have hm : (i * s + j) % s = j := by rw [Nat.mul_comm, Nat.mul_add_mod, Nat.mod_eq_of_lt hj']
      have hv' : v = zc[j]! := by
        simp [hlt, hzs, hm] at hv
        exact hv.symm
      have hjz : j < zc.size := by omega
      rw [getElem!_pos zc j hjz] at hv'
      subst hv'
      exact ⟨hz.2.1 c (List.mem_of_getElem? hj), hz.2.2 j c zc[j] hj (Array.getElem?_eq_getElem hjz)⟩
    · simp at hi

theorem ty_zero' {t : Nat} {ti : TI} (h : tyOf P t = some ti) {z : AV} (hz : ti.z.dat = some z) : ∃ i zv, P.info? t = some i ∧ i.zero = some zv ∧ i.size = ti.sz ∧ i.bytes = ti.bytes ∧ ∀ (γ : Gh) (w : World) (D : Dead) (st : St), RepD w D z zv := by
  obtain ⟨it, d, hit, _, _, hs, hb, hz1, hz2⟩ := tyOf.parts h
  obtain ⟨zv, hzv⟩ : ∃ zv, it.zero = some zv := by
    cases hh : it.zero with
    | none => rw [hz2 hh] at hz; simp [AV.dat] at hz
    | some zv => exact ⟨zv, rfl⟩
  refine ⟨it, zv, hit, hzv, hs, hb, fun γ w D st => ?_⟩
  have := hz1 zv hzv
  exact RepV.dat (γ := γ) (st := st) (by rw [← this]; exact RepV.ofVal zv) hz

theorem dat_cells_len {v d : AV} (h : v.dat = some d) : d.cells.length = v.cells.length := by
  cases v <;> simp only [AV.dat, Option.some.injEq, reduceCtorEq] at h <;> subst h <;> rfl

theorem gives_alloc {o : Oper} {v : AV} {cv : Value} {vs : Array Value} {E : Nat} (h : Inv c γ D st a w) (hv : RepD (w.alloc (.cells vs E)) (deadNew D w.heap.size vs.size) v cv) (hr : (execOp a.eval o).run P w = .ok (.value cv) (w.alloc (.cells vs E))) : Gives P c o a w (st.put o.dst v) :=
  ⟨cv, _, .inl hr, γ, _, (h.newDead vs E).put (.of hv) o.dst⟩

theorem sound_buildSlice (hT : TbOk P tb) {o : Oper} (h : Inv c γ D st a w) {t n : Nat} {ps : Array (Nat × Operand)} (ho : o.op = .buildSlice t n ps) {ti te : TI} (hti : find t tb = some ti) {e : Nat} (hk : ti.k = .sl e) (hte : find e tb = some te)
    (hsm : n * te.sz ≤ 16777216) (hsz : te.sz ≠ 0) (hzl : te.z.cells.length = te.sz) {z : AV} (hz : te.z.dat = some z) {xs : List AV} (hf : fillElems z te.sz st (List.replicate n z) ps.toList = some xs) (hn : n ≠ 0) : Gives P c o a w (st.put o.dst (.sl te.sz true xs)) := by
  have hu := ty_sl (hT _ _ hti) hk
  obtain ⟨ie, zv, hie, hzv, hs, _, hzr⟩ := ty_zero' (hT _ _ hte) hz
  have hzl' : z.cells.length = te.sz := by rw [dat_cells_len hz, hzl]
  have hzc := (hzr γ w D st).cells
  obtain ⟨us, h1, h2, h3⟩ := fillElems_sound h ps.toList _ _ xs (zeroRow hzc hzl' n) hf
  have hlen : xs.length = n := by rw [h3]; simp
  have hpos : ¬ n * ie.size = 0 := by rw [hs]; exact Nat.mul_ne_zero hn hsz
  refine gives_alloc h (h2.rep h e) ?_
  rw [hlen]
  have := run_buildSlice (P := P) w t e n (ps.map fun (i, x) => (i, a.eval x)) us ie zv hu hie hzv (by rw [hs]; omega) hpos (by rw [hs, ← h1]; simp)
  simp [execOp, ho, this]

end
end Go.AM
