/- Regions that draw their order: what an operation looks at, what it turns. -/
import Derived.Test.YtpdifkaeiecdpaaAmM3
namespace Go.AM
open Go.RowKit Go.Lib
section
variable [Reg]
section
variable {tb : Tb} {H : Hints} {h h' : Heap} {u : List Nat} {ev ev2 : Operand → AV} {op : Op}

theorem fillParts_congr {fs : List (Nat × Nat)} : ∀ {ps : List (Nat × Operand)} {cs : List AV}, (∀ p ∈ ps, ev2 p.2 = ev p.2) → fillParts tb fs ev2 cs ps = fillParts tb fs ev cs ps
  | [], cs, _ => rfl
  | (i, x) :: r, cs, h => by
    have h1 := h (i, x) (by simp)
    have ih := fun cs => fillParts_congr (fs := fs) (ps := r) (cs := cs) fun p hp => h p (by simp [hp])
    simp only [fillParts, ih]
    simp only at h1
    rw [h1]
theorem optmap_congr {lo : Option Operand} (h : ∀ x, lo = some x → ev2 x = ev x) : lo.map ev2 = lo.map ev := by
  cases lo with
  | none => rfl
  | some x => simp [h x rfl]
theorem args_congr {args : Array Operand} (h : ∀ x ∈ args.toList, ev2 x = ev x) : args.toList.map ev2 = args.toList.map ev := List.map_congr_left h

theorem pure_congr (h : ∀ x ∈ op.operands.toList, ev2 x = ev x) : pureQ tb ev2 op = pureQ tb ev op := by
  cases op with
  | build t ps =>
    have h' : ∀ p ∈ ps.toList, ev2 p.2 = ev p.2 := fun p hp => h p.2 (by simp only [Op.operands, List.toList_toArray]; exact List.mem_map_of_mem hp)
    simp only [pureQ, fillParts_congr h']
  | buildSlice t n ps =>
    have h' : ∀ p ∈ ps.toList, ev2 p.2 = ev p.2 := fun p hp => h p.2 (by simp only [Op.operands, List.toList_toArray]; exact List.mem_map_of_mem hp)
    simp only [pureQ, fillParts_congr h']
  | call c =>
    obtain ⟨callee, args, ts⟩ := c
    have h' : args.toList.map ev2 = args.toList.map ev := List.map_congr_left fun x hx => h x (by simp only [Op.operands, Call.operands]; cases callee <;> simp [Array.mem_toList_iff.1 hx])
    cases callee with
    | builtin b => simp only [pureQ, h']
    | value f => rfl
    | invoke f n => rfl
  | makeFunc f first cap =>
    have h' : cap.toList.map ev2 = cap.toList.map ev := List.map_congr_left fun x hx => h x (by simp only [Op.operands]; simp [Array.mem_toList_iff.1 hx])
    cases f <;> simp only [pureQ, h']
  | _ =>
    simp [Op.operands] at h
    simp only [pureQ, h]
theorem look_congr (h : ∀ x ∈ op.operands.toList, ev2 x = ev x) {hp : Heap} : lookQ tb ev2 hp op = lookQ tb ev hp op := by
  cases op with
  | slice t x lo hi mx =>
    have hx : ev2 x = ev x := h x (by simp [Op.operands])
    have h1 := optmap_congr (ev := ev) (ev2 := ev2) (lo := lo) fun y hy => h y (by subst hy; simp [Op.operands])
    have h2 := optmap_congr (ev := ev) (ev2 := ev2) (lo := hi) fun y hy => h y (by subst hy; simp [Op.operands])
    have h3 := optmap_congr (ev := ev) (ev2 := ev2) (lo := mx) fun y hy => h y (by subst hy; simp [Op.operands])
    simp only [lookQ, hx, h1, h2, h3]
  | call c =>
    obtain ⟨callee, args, ts⟩ := c
    have h' : args.toList.map ev2 = args.toList.map ev := List.map_congr_left fun x hx => h x (by simp only [Op.operands, Call.operands]; cases callee <;> simp [Array.mem_toList_iff.1 hx])
    cases callee with
    | builtin b => simp only [lookQ, h']
    | value f => rfl
    | invoke f n => rfl
  | load t x => simp [Op.operands] at h; simp only [lookQ, h]
  | convert s d x => simp [Op.operands] at h; simp only [lookQ, h]
  | indexAddr t x i => simp [Op.operands] at h; simp only [lookQ, h]
  | _ => rfl
theorem eff_congr (h : ∀ x ∈ op.operands.toList, ev2 x = ev x) {hp : Heap} {dst : Option Nat} : effQ tb H ev2 hp u dst op = effQ tb H ev hp u dst op := by
  cases op with
  | call c =>
    obtain ⟨callee, args, ts⟩ := c
    have h' : args.toList.map ev2 = args.toList.map ev := List.map_congr_left fun x hx => h x (by simp only [Op.operands, Call.operands]; cases callee <;> simp [Array.mem_toList_iff.1 hx])
    cases callee with
    | builtin b => simp only [effQ, h']
    | value f => rfl
    | invoke f n => rfl
  | box e x => simp [Op.operands] at h; simp only [effQ, h]
  | store t x v => simp [Op.operands] at h; simp only [effQ, h]
  | makeInterface t x => simp [Op.operands] at h; simp only [effQ, h]
  | convert s d x => simp [Op.operands] at h; simp only [effQ, h]
  | makeSlice t l m => simp [Op.operands] at h; simp only [effQ, h]
  | _ => rfl

theorem asSv_congr {v : AV} (hk : ∀ k, keyOf v = some k → find k h' = find k h) : asSv h' v = asSv h v := by
  cases v <;> first | rfl | skip
  all_goals (simp only [keyOf, Option.some.injEq, forall_eq'] at hk; simp only [asSv, vwN, rowAt, hk])
theorem look_frame {e : AV × Option Nat} (hv : (lookQ tb ev h op).val = some e) (hk : ∀ k, e.2 = some k → find k h' = find k h) : (lookQ tb ev h' op).val = some e := by
  cases op with
  | load t x =>
    unfold lookQ at hv ⊢
    simp only at hv ⊢
    split at hv
    · cases hv
    · split at hv
      · split at hv
        · split at hv
          · cases hv
            rename_i hx _ _ hf _ _ hp
            have := hk _ rfl
            simp only [this, hf, hp]
            rfl
          · cases hv
        · cases hv
      · exact hv
      · split at hv
        · split at hv
          · rename_i hr hu
            obtain ⟨y, h1, h2⟩ := Q.val_get hv
            split at h2
            · rename_i hp
              cases h2
              have := hk _ rfl
              have e2 : ∀ k, find k h' = find k h → rowAt h' k = rowAt h k := fun k e => by unfold rowAt; rw [e]
              simp only [e2 _ this, hr, if_pos hu]
              subst hu
              simp only [Q.val, Q.run, getO, h1, hp]
            · cases h2
          · cases hv
        · cases hv
      · cases hv
  | convert s d x =>
    unfold lookQ at hv ⊢
    simp only at hv ⊢
    split at hv
    · split at hv
      · rename_i k hkk
        split at hv
        · split at hv
          · rename_i l hl
            split at hv
            · rename_i hc
              cases hv
              have := hk _ rfl
              have e2 : elemsOf h' _ (ev x) = some l := by
                rw [← hl]
                generalize ev x = X at hkk
                cases X <;> simp only [keyOf, reduceCtorEq, Option.some.injEq] at hkk <;> (subst hkk; simp only [elemsOf, rowAt, this])
              simp only [e2, if_pos hc]
              rfl
            · cases hv
          · cases hv
        · cases hv
      · exact hv
    · cases hv
  | slice t x lo hi mx =>
    unfold lookQ at hv ⊢
    simp only at hv ⊢
    obtain ⟨v, h1, h2⟩ := Q.val_bind hv
    cases h2
    rw [asSv_congr (h' := h') (h := h) hk]
    exact hv
  | indexAddr t x i =>
    unfold lookQ at hv ⊢
    simp only at hv ⊢
    split at hv
    · obtain ⟨v, h1, h2⟩ := Q.val_bind hv
      cases h2
      rw [asSv_congr (h' := h') (h := h) hk]
      exact hv
    · cases hv
  | call c =>
    obtain ⟨callee, args, ts⟩ := c
    cases callee with
    | builtin b =>
      unfold lookQ at hv ⊢
      simp only at hv ⊢
      split at hv
      · rename_i t x hts hargs
        have key : e.2 = keyOf x := by
          split at hv
          · split at hv
            · cases hv; rfl
            · cases hv; rfl
            · cases hv; rfl
            · split at hv
              · cases hv; rfl
              · cases hv
            · cases hv; rfl
            · cases hv
          · cases hv
        rw [key] at hk
        rw [asSv_congr (h' := h') (h := h) hk]
        exact hv
      · exact hv
      · cases hv
    | _ => cases hv
  | _ => cases hv
end
end
end Go.AM
