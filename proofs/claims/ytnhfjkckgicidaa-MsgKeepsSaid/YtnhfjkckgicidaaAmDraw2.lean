/- Regions that draw their order (2): what an operation reads, and what it writes. -/
import Derived.Test.YtnhfjkckgicidaaAmDraw1
set_option linter.unusedVariables false
set_option linter.unusedSimpArgs false
namespace Go.AM
open Go.RowKit Go.Lib

section
variable {tb : Tb} {st st2 : St} {o : Oper}

theorem elems_congr (hr : st2.r = st.r) (x : AV) : st2.elems x = st.elems x := by cases x <;> simp only [St.elems, hr]
theorem fillParts_congr {fs : List (Nat × Nat)} : ∀ {ps : List (Nat × Operand)} {cs : List AV}, (∀ p ∈ ps, st2.ev p.2 = st.ev p.2) → TI.fillParts tb fs st2 cs ps = TI.fillParts tb fs st cs ps
  | [], cs, h => rfl
  | (i, x) :: r, cs, h => by
    have hx : st2.ev x = st.ev x := h (i, x) (by simp)
    have ih : ∀ cs, TI.fillParts tb fs st2 cs r = TI.fillParts tb fs st cs r := fun cs => fillParts_congr fun p hp => h p (List.mem_cons_of_mem _ hp)
    simp only [TI.fillParts, hx, ih]
theorem fillElems_congr {z : AV} {sz : Nat} : ∀ {ps : List (Nat × Operand)} {cs : List AV}, (∀ p ∈ ps, st2.ev p.2 = st.ev p.2) → fillElems z sz st2 cs ps = fillElems z sz st cs ps
  | [], cs, h => rfl
  | (i, x) :: r, cs, h => by
    have hx : st2.ev x = st.ev x := h (i, x) (by simp)
    have ih : ∀ cs, fillElems z sz st2 cs r = fillElems z sz st cs r := fun cs => fillElems_congr fun p hp => h p (List.mem_cons_of_mem _ hp)
    simp only [fillElems, hx, ih]
theorem optmap_congr {lo : Option Operand} (h : ∀ x, lo = some x → st2.ev x = st.ev x) : lo.map st2.ev = lo.map st.ev := by
  cases lo with
  | none => rfl
  | some x => simp [h x rfl]

theorem lenA_congr (hr : st2.r = st.r) (t : Nat) (x : AV) : lenA tb st2 t x = lenA tb st t x := by simp only [lenA, elems_congr hr]
theorem indexAddrA_congr (hr : st2.r = st.r) (t : Nat) (x : AV) (i : Int) : indexAddrA tb st2 t x i = indexAddrA tb st t x i := by simp only [indexAddrA, hr]

theorem valA_congr (h : ∀ x ∈ o.op.operands.toList, st2.ev x = st.ev x) (hr : st2.r = st.r) : valA tb st2 o = valA tb st o := by
  cases ho : o.op with
  | build t ps =>
    have h' : ∀ p ∈ ps.toList, st2.ev p.2 = st.ev p.2 := fun p hp => h p.2 (by rw [ho]; simp only [Op.operands, List.toList_toArray]; exact List.mem_map_of_mem hp)
    simp only [valA, ho, fillParts_congr h']
  | buildSlice t n ps =>
    have h' : ∀ p ∈ ps.toList, st2.ev p.2 = st.ev p.2 := fun p hp => h p.2 (by rw [ho]; simp only [Op.operands, List.toList_toArray]; exact List.mem_map_of_mem hp)
    simp only [valA, ho, fillElems_congr h']
  | slice t x lo hi mx =>
    have hx : st2.ev x = st.ev x := h x (by rw [ho]; simp [Op.operands])
    have h1 := optmap_congr (st := st) (st2 := st2) (lo := lo) fun y hy => h y (by rw [ho]; subst hy; simp [Op.operands])
    have h2 := optmap_congr (st := st) (st2 := st2) (lo := hi) fun y hy => h y (by rw [ho]; subst hy; simp [Op.operands])
    have h3 := optmap_congr (st := st) (st2 := st2) (lo := mx) fun y hy => h y (by rw [ho]; subst hy; simp [Op.operands])
    simp only [valA, ho, hx, h1, h2, h3]
  | call c =>
    obtain ⟨callee, args, ts⟩ := c
    have h' : args.toList.map st2.ev = args.toList.map st.ev := List.map_congr_left fun x hx => h x (by rw [ho]; simp only [Op.operands, Call.operands]; cases callee <;> simp [Array.mem_toList_iff.1 hx])
    clear h
    cases callee with
    | builtin b => cases b <;> simp only [valA, ho, h', lenA_congr hr]
    | value f => simp only [valA, ho]
    | invoke f n => simp only [valA, ho]
  | _ =>
    rw [ho] at h
    simp [Op.operands] at h
    simp only [valA, ho, h, elems_congr hr, indexAddrA_congr hr]

theorem loadA_congr {t : Nat} {x : AV} {v : AV} {rd : List Nat} (h : loadA tb true st t x = some (v, rd)) :
    (∃ k, rd = insN k st.rd ∧ k ∉ st.wr ∧ ∀ st2 : St, (∀ j, st2.gen j = st.gen j) → find k st2.b = find k st.b → k ∉ st2.wr → st2.r = st.r → loadA tb true st2 t x = some (v, insN k st2.rd)) ∨
    (rd = st.rd ∧ ∀ st2 : St, st2.r = st.r → loadA tb true st2 t x = some (v, st2.rd)) := by
  unfold loadA at h
  split at h
  · simp at h
  rename_i ti hti
  split at h
  · rename_i k g off
    split at h
    · rename_i hw
      split at h
      · rename_i cs hcs
        split at h
        · rename_i v' hp
          simp only [Option.some.injEq, Prod.mk.injEq] at h
          obtain ⟨rfl, rfl⟩ := h
          refine .inl ⟨k, rfl, by simpa using hw, fun st2 hg hb hw2 hr => ?_⟩
          have hcur : st2.cur = st.cur := by
            funext u
            cases u <;> simp only [St.cur, hg]
          unfold loadA
          simp only [hti, hb, hcs, hcur, hp]
          simp [hw2]
        · simp at h
      · simp at h
    · simp at h
  · rename_i s e j
    refine .inr ?_
    split at h
    · rename_i hc
      split at h
      · rename_i cs
        simp only [Option.some.injEq, Prod.mk.injEq] at h
        obtain ⟨rfl, rfl⟩ := h
        refine ⟨rfl, fun st2 hr => ?_⟩
        unfold loadA
        simp only [hti, hc, if_true]
      · simp at h
    · rename_i hc
      split at h
      · rename_i v' hp
        split at h
        · rename_i hf
          simp only [Option.some.injEq, Prod.mk.injEq] at h
          obtain ⟨rfl, rfl⟩ := h
          refine ⟨rfl, fun st2 hr => ?_⟩
          unfold loadA
          simp only [hti, hc, if_false, hp, hf, if_true, Bool.false_eq_true]
        · simp at h
      · simp at h
  · rename_i k g i
    refine .inr ?_
    split at h
    · rename_i ha
      split at h
      · rename_i xs hxs
        split at h
        · rename_i v' hp
          split at h
          · rename_i hf
            simp only [Option.some.injEq, Prod.mk.injEq] at h
            obtain ⟨rfl, rfl⟩ := h
            refine ⟨rfl, fun st2 hr => ?_⟩
            unfold loadA
            simp only [hti, ha, hr, hxs, hp, hf, if_true]
          · simp at h
        · simp at h
      · simp at h
    · simp at h
  · simp at h

end
end Go.AM
