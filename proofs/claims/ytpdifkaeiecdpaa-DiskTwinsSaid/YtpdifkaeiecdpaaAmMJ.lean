/- Soundness, operation by operation (5): what only looks, all of it; sources. -/
import Derived.Test.YtpdifkaeiecdpaaAmMI
namespace Go.AM
open Go.RowKit Go.Lib
section
variable [Reg]
theorem castL_spec {t u : Nat} {xs : List (R t)} {ys : List (R u)} (h : castL t u xs = some ys) : ∃ e : t = u, ys = e ▸ xs := by
  unfold castL at h
  split at h
  · rename_i e
    simp only [Option.some.injEq] at h
    exact ⟨e, h.symm⟩
  · simp at h
section
variable {P : Program} {c : Ctx} {γ : Gh} {D D' : Dead} {st : St} {a : Act} {w w' : World} {tb : Tb} {h : Heap} {u : List Nat}

/-- A slice's elements, wherever they are. -/
theorem elems_cells (hh : HOk γ h u w D) {X : AV} {V : Value} (hx : RepV γ h u w D X V) {e : Nat} {l : List (R e)} (he : elemsOf h e X = some l) :
    ∃ A cap, V = .slice A l.length cap ∧ l.length ≤ cap ∧ (l = [] ∨ ∃ (b o : Nat), A = some ⟨b, o, none⟩ ∧ ∀ (q : Nat) (c : AV), (flat e l)[q]? = some c → ∃ v, w.cell? ⟨b, o + q, none⟩ = some v ∧ RepD w D c v) := by
  have fin : RepD w D (.sl e false l) V → ∃ A cap, V = .slice A l.length cap ∧ l.length ≤ cap ∧ (l = [] ∨ ∃ (b o : Nat), A = some ⟨b, o, none⟩ ∧ ∀ (q : Nat) (c : AV), (flat e l)[q]? = some c → ∃ v, w.cell? ⟨b, o + q, none⟩ = some v ∧ RepD w D c v) := by
    intro hD
    obtain ⟨A, cap, e1, e2, _, e3⟩ := inv_sl hD
    exact ⟨A, cap, e1, e2, e3.imp id fun ⟨b, o, f, q1, q2⟩ => ⟨b, o, q1, fun q c hq => ⟨f q, (q2 q c hq).2⟩⟩⟩
  unfold elemsOf at he
  split at he
  · obtain ⟨rfl, rfl⟩ := castL_spec he
    exact fin (RepD.unfull hx)
  · obtain ⟨rfl, rfl⟩ := castL_spec he
    exact fin hx.2.1
  · simp only [Option.some.injEq] at he
    subst he
    cases (show RepD w D .nils V from hx)
    exact ⟨none, 0, rfl, Nat.le_refl _, .inl rfl⟩
  · rename_i k t
    split at he
    · rename_i e1
      subst e1
      split at he
      · rename_i u' xs hr
        obtain ⟨rfl, rfl⟩ := castL_spec he
        have hv := asSv_rep hx
        have : asSv h (.vw k u') = .sv k u' 0 l.length := by simp [asSv, vwN, hr]
        rw [this] at hv
        obtain ⟨A, cap, e1, e2, _, e4⟩ := row_cells hh hr hv
        refine ⟨A, cap, e1, e2, ?_⟩
        rcases e4 with e4 | e4
        · exact .inl (List.eq_nil_of_length_eq_zero e4)
        · right
          simpa using e4
      · simp at he
    · simp at he
  · rename_i k t lo n
    split at he
    · rename_i e1
      subst e1
      split at he
      · rename_i u' xs hr
        split at he
        · rename_i l' hl
          simp only [Option.some.injEq] at he
          subst he
          obtain ⟨rfl, rfl⟩ := castL_spec hl
          obtain ⟨A, cap, e1, e2, e3, e4⟩ := row_cells hh hr hx
          have hlen : ((l'.drop lo).take n).length = n := by simp; omega
          refine ⟨A, cap, by rw [hlen]; exact e1, by rw [hlen]; exact e2, e4.imp (fun e => List.eq_nil_of_length_eq_zero (by omega)) id⟩
        · simp at he
      · simp at he
    · simp at he
  · simp at he

theorem gives_noted {o : Oper} {v : AV} {st' : St} (h : Gives P c o a w (st.put o.dst v)) (e : st' = st.put o.dst v) : Gives P c o a w st' := e ▸ h

/-- What only looks. -/
theorem look_sound (hT : TbOk P tb) {o : Oper} (h : Inv c γ D st a w) {e : AV × Option Nat} (hv : (lookQ tb st.ev st.h o.op).val = some e) : Gives P c o a w (st.put o.dst e.1) := by
  cases ho : o.op with
  | load t x =>
    rw [ho] at hv
    obtain ⟨A, cv, h1, h2, h3⟩ := load_core hT h hv
    exact gives_put h h3.v (run_load ho h1 h2)
  | convert s d x =>
    rw [ho] at hv
    unfold lookQ at hv
    simp only at hv
    split at hv
    · rename_i ts td hts htd
      split at hv
      · rename_i k hk
        split at hv
        · rename_i e' hkd hks
          split at hv
          · rename_i l hl
            split at hv
            · rename_i hc
              cases hv
              obtain ⟨A, cap, ev, _, h3⟩ := elems_cells h.hp (h.ev x) hl
              obtain ⟨str, e1, e2⟩ := run_bytes (w := w) (D := D) hT hts htd hkd hks hc.1 hc.2 (xs := l) (A := A) (cap := cap) h3
              exact gives_put h (cv := .string str) (.of (.str _ _ e1)) (by simp [execOp, ho, ev, e2])
            · cases hv
          · cases hv
        · cases hv
      · obtain ⟨v', h1, h2⟩ := Q.val_bind hv
        cases h2
        exact sound_convQ hT h ho hts htd h1
    · cases hv
  | slice t x lo hi mx =>
    rw [ho] at hv
    obtain ⟨v', h1, h2⟩ := Q.val_bind hv
    cases h2
    exact sound_slice hT h ho h1
  | indexAddr t x i =>
    rw [ho] at hv
    unfold lookQ at hv
    simp only at hv
    split at hv
    · rename_i k n hi
      obtain ⟨v', h1, h2⟩ := Q.val_bind hv
      cases h2
      exact sound_indexAddr hT h ho hi h1
    · cases hv
  | call cl =>
    rw [ho] at hv
    obtain ⟨callee, args, ts⟩ := cl
    cases callee with
    | builtin b =>
      obtain ⟨args⟩ := args
      have key : ∃ x, args = [x] ∧ (b = .len ∨ b = .cap) := by
        unfold lookQ at hv
        simp only at hv
        generalize hA : args.map st.ev = A at hv
        split at hv
        · obtain ⟨x, rfl, _⟩ := map_one hA; exact ⟨x, rfl, .inl rfl⟩
        · obtain ⟨x, rfl, _⟩ := map_one hA; exact ⟨x, rfl, .inr rfl⟩
        · cases hv
      obtain ⟨x, rfl, hb⟩ := key
      exact sound_len hT h hb ho hv
    | _ => cases hv
  | _ => rw [ho] at hv; cases hv
end
end
end Go.AM
