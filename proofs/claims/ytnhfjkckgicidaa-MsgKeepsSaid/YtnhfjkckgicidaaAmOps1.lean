/- Soundness, operation by operation (1): those that turn no memory. -/
import Derived.Test.YtnhfjkckgicidaaAmTy
set_option linter.unusedVariables false
set_option linter.unusedSimpArgs false
namespace Go.AM

def Gives (P : Program) (c : Ctx) (o : Oper) (a : Act) (w : World) (st' : St) : Prop :=
  ∃ cv w', ((execOp a.eval o).run P w = .ok (.value cv) w' ∨ ((execOp a.eval o).run P w = .ok .skip w' ∧ cv = Go.undef)) ∧ ∃ γ' D', Inv c γ' D' st' (a.put o.dst cv) w'

section
variable {P : Program} {c : Ctx} {γ : Gh} {D : Dead} {st : St} {a : Act} {w : World} {tb : Tb}

theorem gives_put {o : Oper} (h : Inv c γ D st a w) {v : AV} {cv : Value} (hv : RepV γ w D st v cv) (hr : (execOp a.eval o).run P w = .ok (.value cv) w) : Gives P c o a w (st.put o.dst v) :=
  ⟨cv, w, .inl hr, γ, D, h.put hv o.dst⟩

theorem inv_int {k : IntKind} {n : Int} {v : Value} (h : RepV γ w D st (.int k n) v) : v = .int k n := by cases (show RepD w D _ v from h); rfl
theorem inv_bool {b : Bool} {v : Value} (h : RepV γ w D st (.bool b) v) : v = .bool b := by cases (show RepD w D _ v from h); rfl
theorem inv_str {l : List UInt8} {v : Value} (h : RepV γ w D st (.str l) v) : ∃ s, v = .string s ∧ s.data.toList = l := by
  cases (show RepD w D _ v from h) with
  | str _ s hs => exact ⟨s, rfl, hs⟩
theorem inv_agg {cs : List AV} {v : Value} (h : RepV γ w D st (.agg cs) v) : ∃ vs : Array Value, v = .agg vs ∧ vs.size = cs.length ∧ (∀ c ∈ cs, c.cell1 = true) ∧ ∀ (i : Nat) (c : AV) (v : Value), cs[i]? = some c → vs[i]? = some v → RepD w D c v := by
  cases (show RepD w D _ v from h) with
  | agg _ vs hn h1 hh => exact ⟨vs, rfl, hn, h1, hh⟩
theorem inv_fn {f : Nat} {v : Value} (h : RepV γ w D st (.fn f) v) : v = .func (.func f) #[] #[] := by cases (show RepD w D _ v from h); rfl
theorem inv_ptr {k g off : Nat} {v : Value} (h : RepV γ w D st (.ptr k g off) v) (hc : st.isCur (.ptr k g off)) : v = .pointer (some ⟨γ.bx k, off, none⟩) := h.2 hc
theorem inv_rp {s : Nat} {e : AV} {j : Nat} {v : Value} (h : RepV γ w D st (.rp s e j) v) : ∃ (b o : Nat) (f : Nat → Value), v = .pointer (some ⟨b, o + j, none⟩) ∧ e.cells.length = s ∧
    (∀ (j : Nat) (c : AV), e.cells[j]? = some c → c.cell1 = true ∧ D b (o + j) ∧ w.cell? ⟨b, o + j, none⟩ = some (f j)) ∧
    (∀ (j : Nat) (c : AV), e.cells[j]? = some c → RepD w D c (f j)) := by
  cases (show RepD w D _ v from h) with
  | rp _ _ _ b o f hs hc hr => exact ⟨b, o, f, rfl, hs, hc, hr⟩

theorem sound_move {o : Oper} (h : Inv c γ D st a w) (x : Operand) (ho : o.op = .move x ∨ o.op = .assign x) : Gives P c o a w (st.put o.dst (st.ev x)) := by
  refine gives_put h (h.ev x) ?_
  rcases ho with ho | ho <;> simp [execOp, ho]

theorem sound_pick {o : Oper} (h : Inv c γ D st a w) {x y z : Operand} (ho : o.op = .pick x y z) {t : Bool} (hx : st.ev x = .bool t) : Gives P c o a w (st.put o.dst (bif t then st.ev y else st.ev z)) := by
  have e := inv_bool (hx ▸ h.ev x)
  cases t
  · exact gives_put h (h.ev z) (by simp [execOp, ho, e, Go.asBool])
  · exact gives_put h (h.ev y) (by simp [execOp, ho, e, Go.asBool])

theorem sound_nilCheck {o : Oper} (h : Inv c γ D st a w) {x : Operand} (ho : o.op = .nilCheck x) {st' : St}
    (hs : (match st.ev x with | .ptr k g off => some (st.put o.dst (.ptr k g off)) | .rp s e j => some (st.put o.dst (.rp s e j)) | .fn f => some (st.put o.dst (.fn f)) | _ => none) = some st') : Gives P c o a w st' := by
  have hx := h.ev x
  have hc := st.ev_isCur x
  split at hs <;> simp only [Option.some.injEq, reduceCtorEq] at hs <;> subst hs
  · rename_i k g off e
    rw [e] at hx hc
    exact gives_put h hx (by simp [execOp, ho, inv_ptr hx hc])
  · rename_i s el j e
    rw [e] at hx
    obtain ⟨b, o', f, hv, _⟩ := inv_rp hx
    exact gives_put h hx (by simp [execOp, ho, hv])
  · rename_i f e
    rw [e] at hx
    exact gives_put h hx (by simp [execOp, ho, inv_fn hx])

theorem run_eqGuard_int (op : BinOp) (t : Nat) (x y : Operand) (k k' : IntKind) (m n : Int) : (eqGuard op t x y (.int k m) (.int k' n)).run P w = .ok () w := by
  unfold eqGuard
  split <;> simp
theorem run_eqGuard_str (op : BinOp) (t : Nat) (x y : Operand) (s s' : ByteArray) : (eqGuard op t x y (.string s) (.string s')).run P w = .ok () w := by
  unfold eqGuard
  split <;> simp

theorem intA_sound {op : BinOp} {k : IntKind} {m n : Int} {v : AV} (hv : intA op k m n = some v) (t : Nat) : ∃ cv, (binOp op t (.int k m) (.int k n)).run P w = .ok cv w ∧ RepV γ w D st v cv := by
  unfold intA at hv
  split at hv <;> try (simp only [Option.some.injEq, reduceCtorEq] at hv)
  all_goals first
    | (subst hv; exact ⟨_, by simp [binOp, Op.intArith, Op.intBits, Op.intCmp], .of (.int _ _)⟩)
    | (subst hv; exact ⟨_, by simp [binOp, Op.intArith, Op.intBits, Op.intCmp], .of (.bool _)⟩)
    | (split at hv
       · simp at hv
       · rename_i hne
         simp only [Option.some.injEq] at hv
         subst hv
         exact ⟨_, by simp [binOp, Op.intDiv, hne], .of (.int _ _)⟩)

theorem shiftA_sound {op : BinOp} {k k' : IntKind} {m n : Int} {v : AV} (hop : op = .shl ∨ op = .shr) (hv : shiftA op k m n = some v) (t : Nat) : ∃ cv, (binOp op t (.int k m) (.int k' n)).run P w = .ok cv w ∧ RepV γ w D st v cv := by
  unfold shiftA at hv
  split at hv
  · simp at hv
  · rename_i hn
    rcases hop with rfl | rfl <;> simp only [Option.some.injEq] at hv <;> subst hv
    · exact ⟨_, by simp [binOp, Op.shift, hn], .of (.int _ _)⟩
    · exact ⟨_, by simp [binOp, Op.shift, hn], .of (.int _ _)⟩

theorem strA_sound {op : BinOp} {s s' : ByteArray} {v : AV} (hv : strA op s.data.toList s'.data.toList = some v) (t : Nat) : ∃ cv, (binOp op t (.string s) (.string s')).run P w = .ok cv w ∧ RepV γ w D st v cv := by
  have htl : ∀ x : ByteArray, x.toList = x.data.toList := fun x => by
    exact ByteArray.toList_eq x
  unfold strA at hv
  split at hv <;> try (simp only [Option.some.injEq, reduceCtorEq] at hv)
  · split at hv
    · rename_i hle
      simp only [Option.some.injEq] at hv
      subst hv
      have hs : s.size = s.data.toList.length := by rw [Array.length_toList]; rfl
      have hs' : s'.size = s'.data.toList.length := by rw [Array.length_toList]; rfl
      have hmax : IntKind.i64.max = 9223372036854775807 := by decide
      refine ⟨.string (s ++ s'), ?_, .of (.str _ _ (by simp))⟩
      have : ¬ ((s.size + s'.size : Nat) : Int) > IntKind.i64.max := by rw [hmax, hs, hs']; omega
      simp only [binOp, Op.stringOp]
      rw [if_neg this]
      rfl
    · simp at hv
  · subst hv
    exact ⟨_, by simp [binOp, Op.stringOp, htl], .of (.bool _)⟩
  · subst hv
    exact ⟨_, by simp [binOp, Op.stringOp, htl], .of (.bool _)⟩

end
end Go.AM
