/- Soundness: one operation that calls no Go function. -/
import Derived.Test.YtnhfjkckgicidaaAmOpsb
set_option linter.unusedVariables false
set_option linter.unusedSimpArgs false
namespace Go.AM
open Go.RowKit Go.Lib
section
variable {P : Program} {c : Ctx} {γ : Gh} {D D' : Dead} {st : St} {a : Act} {w w' : World} {tb : Tb}

theorem not_iface {t : Nat} {ti : TI} (h : tyOf P t = some ti) (hk : ti.k ≠ .other) : ∃ d, P.underlying t = some d ∧ ∀ ms, d ≠ .interface ms := by
  obtain ⟨i, d, _, hd, hk', _⟩ := tyOf.parts h
  refine ⟨d, hd, fun ms e => ?_⟩
  subst e
  simp [kindOf] at hk'
  exact hk hk'.symm

theorem map_one {α β : Type} {f : α → β} {l : List α} {y : β} (h : l.map f = [y]) : ∃ x, l = [x] ∧ f x = y := by
  match l, h with
  | [x], h => exact ⟨x, rfl, by simpa using h⟩
theorem map_two {α β : Type} {f : α → β} {l : List α} {y z : β} (h : l.map f = [y, z]) : ∃ x u, l = [x, u] ∧ f x = y ∧ f u = z := by
  rcases l with _ | ⟨x, _ | ⟨u, _ | ⟨v, r⟩⟩⟩
  · simp at h
  · simp at h
  · simp at h; exact ⟨x, u, rfl, h⟩
  · simp at h

theorem builtinA_sound (hT : TbOk P tb) {o : Oper} (h : Inv c γ D st a w) {b : Builtin} {args : Array Operand} {ts : Array Nat} (ho : o.op = .call { callee := .builtin b, args := args, argTypes := ts }) {st' : St}
    (hs : builtinA tb st o.dst b ts.toList (args.toList.map st.ev) = some st') : Gives P c o a w st' := by
  obtain ⟨args⟩ := args
  obtain ⟨ts⟩ := ts
  simp only at hs
  generalize hA : args.map st.ev = A at hs
  unfold builtinA at hs
  split at hs
  · obtain ⟨x, rfl, rfl⟩ := map_one hA
    split at hs
    · rename_i v hv
      simp only [Option.some.injEq] at hs
      subst hs
      exact sound_len hT h ho hv
    · simp at hs
  · obtain ⟨x, y, rfl, e1, e2⟩ := map_two hA
    simp only [Option.some.injEq] at hs
    subst hs
    exact sound_min h ho e1 e2
  · obtain ⟨x, y, rfl, e1, e2⟩ := map_two hA
    simp only [Option.some.injEq] at hs
    subst hs
    exact sound_max h ho e1 e2
  · obtain ⟨x, y, rfl, rfl, rfl⟩ := map_two hA
    split at hs
    · rename_i d e sz by_ z sy ys hd hti hsrc
      split at hs
      · rename_i te hte
        split at hs
        · rename_i v g hv
          simp only [Option.some.injEq] at hs
          subst hs
          exact sound_append hT h ho hti rfl hte hsrc hv
        · simp at hs
      · simp at hs
    · simp at hs
  · simp at hs

theorem stepA_sound (hT : TbOk P tb) {draw : Bool} {o : Oper} (h : Inv c γ D st a w) {st' : St} (hs : stepA tb draw st o = some st') : Gives P c o a w st' := by
  unfold stepA at hs
  split at hs
  · rename_i x ho
    simp only [Option.some.injEq] at hs
    subst hs
    exact sound_move h x (.inl ho)
  · rename_i x ho
    simp only [Option.some.injEq] at hs
    subst hs
    exact sound_move h x (.inr ho)
  · rename_i x y z ho
    split at hs
    · rename_i t hx
      simp only [Option.some.injEq] at hs
      subst hs
      exact sound_pick h ho hx
    · simp at hs
  · rename_i e ho
    split at hs
    · simp at hs
    · split at hs
      · rename_i ti hti
        exact sound_alloc hT h ho hti hs
      · simp at hs
  · rename_i e x ho
    split at hs
    · simp at hs
    · exact sound_box h ho hs
  · rename_i t ps ho
    split at hs
    · rename_i fs sz by_ z hti
      split at hs
      · rename_i z' hz
        split at hs
        · rename_i cs hf
          simp only [Option.some.injEq] at hs
          subst hs
          exact sound_build hT h ho hti rfl rfl hz hf
        · simp at hs
      · simp at hs
    · simp at hs
  · rename_i t n ps ho
    split at hs
    · rename_i e sz by_ z hti
      split at hs
      · rename_i te hte
        split at hs
        · rename_i hc
          obtain ⟨c1, c2, c3, c4⟩ := hc
          split at hs
          · rename_i zz hz
            split at hs
            · rename_i xs hf
              simp only [Option.some.injEq] at hs
              subst hs
              exact sound_buildSlice hT h ho hti rfl hte c1 c2 c3 hz hf c4
            · simp at hs
          · simp at hs
        · simp at hs
      · simp at hs
    · simp at hs
  · rename_i t x ho
    split at hs
    · rename_i v rd hv
      simp only [Option.some.injEq] at hs
      subst hs
      exact sound_load hT h ho hv
    · simp at hs
  · rename_i t x y ho
    split at hs
    · rename_i hd
      exact sound_store hT h ho hd hs
    · simp at hs
  · rename_i x ho
    exact sound_nilCheck h ho hs
  · rename_i op t x y u ho
    split at hs
    · rename_i v hv
      simp only [Option.some.injEq] at hs
      subst hs
      exact sound_binOp hT h ho hv
    · simp at hs
  · rename_i op t x ho
    split at hs
    · rename_i v hv
      simp only [Option.some.injEq] at hs
      subst hs
      exact sound_unOp h ho hv
    · simp at hs
  · rename_i s d x ho
    split at hs
    · rename_i ts td hts htd
      exact sound_convert hT h ho hts htd hs
    · simp at hs
  · rename_i t x ho
    split at hs
    · rename_i ti v hti hv
      split at hs
      · simp at hs
      · rename_i hk
        simp only [Option.some.injEq] at hs
        subst hs
        exact sound_makeInterface h ho hv (not_iface (hT _ _ hti) hk)
    · simp at hs
  · rename_i t l m ho
    split at hs
    · rename_i e sz by_ z kl n kc n' hti hl hm
      split at hs
      · rename_i te hte
        split at hs
        · rename_i hc
          obtain ⟨rfl, c1, c2, c3⟩ := hc
          split at hs
          · rename_i zz hz
            split at hs
            · split at hs
              · rename_i hzl
                simp only [Option.some.injEq] at hs
                subst hs
                exact sound_make_data hT h ho hti rfl hte hl hm c1 c2 (of_decide_eq_true c3) hzl hz
              · simp at hs
            · split at hs
              · rename_i d hd
                split at hs
                · rename_i hc2
                  simp only [Option.some.injEq] at hs
                  subst hs
                  rw [← hd]
                  exact sound_make_row hT h ho hti rfl hte hl hm c1 c2 (of_decide_eq_true c3) hz hc2.2 hc2.1
                · simp at hs
              · simp at hs
          · simp at hs
        · simp at hs
      · simp at hs
    · simp at hs
  · rename_i t x lo hi mx ho
    split at hs
    · rename_i v hv
      simp only [Option.some.injEq] at hs
      subst hs
      exact sound_slice hT h ho hv
    · simp at hs
  · rename_i s x f ho
    split at hs
    · rename_i fs sz by_ z hti
      split at hs
      · rename_i off ft k g o' hf hx
        simp only [Option.some.injEq] at hs
        subst hs
        exact (sound_fieldAddr hT h ho hti rfl hf).1 _ _ _ hx
      · rename_i off ft s' el j hf hx
        simp only [Option.some.injEq] at hs
        subst hs
        exact (sound_fieldAddr hT h ho hti rfl hf).2 _ _ _ hx
      · simp at hs
    · simp at hs
  · rename_i s x f ho
    split at hs
    · rename_i fs sz by_ z cs hti hx
      split at hs
      · rename_i off t hf
        split at hs
        · rename_i tf htf
          split at hs
          · rename_i v hp
            simp only [Option.some.injEq] at hs
            subst hs
            exact sound_field hT h ho hti rfl hf hx htf hp
          · simp at hs
        · simp at hs
      · simp at hs
    · simp at hs
  · rename_i t x i ho
    split at hs
    · rename_i k n hi
      split at hs
      · rename_i v hv
        simp only [Option.some.injEq] at hs
        subst hs
        exact sound_indexAddr hT h ho hi hv
      · simp at hs
    · simp at hs
  · rename_i t x i ho
    split at hs
    · rename_i sz by_ z s k n hti hx hi
      split at hs
      · rename_i h0
        split at hs
        · rename_i b hb
          simp only [Option.some.injEq] at hs
          subst hs
          exact sound_index_str h ho (ty_str (hT _ _ hti) rfl) hx hi h0 hb
        · simp at hs
      · simp at hs
    · rename_i n e sz by_ z cs k m hti hx hi
      split at hs
      · rename_i hc
        split at hs
        · rename_i te hte
          split at hs
          · rename_i v hp
            simp only [Option.some.injEq] at hs
            subst hs
            exact sound_index_arr hT h ho (ty_arr (hT _ _ hti) rfl) hte hx hi hc.1 hc.2 hp
          · simp at hs
        · simp at hs
      · simp at hs
    · simp at hs
  · rename_i x i ho
    split at hs
    · rename_i vs hx
      split at hs
      · rename_i v hv
        simp only [Option.some.injEq] at hs
        subst hs
        exact sound_extract h ho hx hv
      · simp at hs
    · simp at hs
  · rename_i cl ho
    split at hs
    · rename_i b hb
      obtain ⟨callee, args, ts⟩ := cl
      simp only at hb hs
      subst hb
      exact builtinA_sound hT h ho hs
    · simp at hs
  · simp at hs

end
end Go.AM
