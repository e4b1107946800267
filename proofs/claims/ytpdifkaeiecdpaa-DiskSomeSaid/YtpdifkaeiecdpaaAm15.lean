/- A part of the proof: machine and program. -/
import Derived.Test.YtpdifkaeiecdpaaAm14
set_option linter.unusedSimpArgs false
namespace Go.AM
open Go.RowKit Go.Lib
section
variable [Reg]
section
variable {tb : Tb} {H : Hints} {h h' : Heap} {u : List Nat} {ev ev2 : Operand → AV} {op : Op} {dst : Option Nat}

omit [Reg] in
theorem bif_val {α : Type} {b : Bool} {q : Q α} {e : α} (h : (bif b then q else .fail).val = some e) : q.val = some e := by
  cases b
  · cases h
  · exact h
/-- All but what is noted is as it was. -/
abbrev Kept (h : Heap) (e : Eff) : Prop := ∀ k, k ∉ e.2.2.2 → find k e.2.1 = find k h
theorem boxRows_kept : ∀ {l : List (Nat × Nat)} {cs : List AV} {h : Heap} {u : List Nat} {r : List AV × Heap × List Nat}, boxRows dst l cs h u = some r → ∀ k, k ∉ l.map (fun p => nk dst (p.1 + 1)) → find k r.2.1 = find k h
  | [], cs, h, u, r, e => by
    simp only [boxRows, Option.some.injEq] at e
    subst e
    exact fun _ _ => rfl
  | (off, t) :: l, cs, h, u, r, e => by
    intro k hk
    simp only [List.map_cons, List.mem_cons, not_or] at hk
    unfold boxRows at e
    split at e
    · generalize isNew u (nk dst (off + 1)) = b at e
      cases b
      · simp at e
      · simp only [cond_true] at e
        rw [boxRows_kept e k hk.2, find_put, if_neg hk.1]
    · exact boxRows_kept e k hk.2
theorem newBox_kept {e : Nat} {cs : List AV} {r : Eff} (hr : (newBox H h u dst e cs).val = some r) : Kept h r := by
  unfold newBox at hr
  have hr := bif_val hr
  split at hr
  · rename_i cs' h' u' hb
    have hr := bif_val hr
    cases hr
    intro k hk
    have key : (match find e H.rb with | some l => l.map fun p : Nat × Nat => nk dst (p.1 + 1) | none => []) = (match find e H.rb with | some l => l | none => []).map fun p : Nat × Nat => nk dst (p.1 + 1) := by cases find e H.rb <;> rfl
    simp only [List.mem_cons, not_or] at hk
    rw [find_put, if_neg hk.1]
    refine boxRows_kept hb k fun hm => hk.2 (Eq.mpr (congrArg (k ∈ ·) key) hm)
  · cases hr
theorem newRow_kept {t : Nat} {xs : List (R t)} {v : AV} {r : Eff} (hr : (newRow h u dst t xs v).val = some r) : Kept h r := by
  unfold newRow at hr
  have hr := bif_val hr
  cases hr
  intro k hk
  simp only [List.mem_cons, not_or] at hk
  rw [find_put, if_neg hk.1]
theorem over_kept {t : Nat} {x : AV} {ys : Nat → List (R t)} {val : Nat → AV} {wr : List Nat} {r : Eff} (hr : (overQ h u t x ys val wr).val = some r) : Kept h r := by
  unfold overQ at hr
  split at hr
  · cases hr; exact fun k _ => rfl
  · cases hr; exact fun k _ => rfl
  · split at hr
    · split at hr
      · split at hr
        · cases hr
          intro k hk
          simp only [List.mem_cons, not_or] at hk
          exact find_put_ne hk.1 _ _
        · cases hr
      · cases hr
    · cases hr
  · cases hr
theorem append_kept {e : Nat} {ti : TI} {x : AV} {ys : List (R e)} {wr : List Nat} {r : Eff} (hr : (appendQ tb H h u dst e ti x ys wr).val = some r) : Kept h r := by
  unfold appendQ at hr
  have hr := bif_val hr
  split at hr
  · generalize flag H dst 0 = b at hr
    cases b
    · obtain ⟨_, hr⟩ := Q.val_ask (bif_val hr)
      cases hr
      (intro k hk; simp only [List.mem_cons, List.not_mem_nil, or_false, not_or] at hk; simp only [find_put, find_del, hk, if_false])
    · exact newRow_kept (Q.val_ask hr).2
  · generalize flag H dst 0 = b at hr
    cases b
    · simp only [cond_false] at hr
      split at hr
      · obtain ⟨_, hr⟩ := Q.val_ask (bif_val hr)
        cases hr
        (intro k hk; simp only [List.mem_cons, List.not_mem_nil, or_false, not_or] at hk; simp only [find_put, find_del, hk, if_false])
      · cases hr
    · simp only [cond_true] at hr
      split at hr
      · exact newRow_kept (Q.val_ask hr).2
      · cases hr
  · split at hr
    · obtain ⟨_, hr⟩ := Q.val_ask (bif_val hr)
      cases hr
      (intro k hk; simp only [List.mem_cons, List.not_mem_nil, or_false, not_or] at hk; simp only [find_put, find_del, hk, if_false])
    · cases hr
  · split at hr
    · split at hr
      · split at hr
        · obtain ⟨_, hr⟩ := Q.val_ask (bif_val hr)
          cases hr
          (intro k hk; simp only [List.mem_cons, List.not_mem_nil, or_false, not_or] at hk; simp only [find_put, find_del, hk, if_false])
        · cases hr
      · cases hr
    · cases hr
  · split at hr
    · split at hr
      · split at hr
        · obtain ⟨_, hr⟩ := Q.val_ask hr
          cases hr
          (intro k hk; simp only [List.mem_cons, List.not_mem_nil, or_false, not_or] at hk; simp only [find_put, find_del, hk, if_false])
        · cases hr
      · cases hr
    · cases hr
  · cases hr
theorem store_kept {t : Nat} {x v : AV} {r : Eff} (hr : (storeQ tb H h u dst t x v).val = some r) : Kept h r := by
  unfold storeQ at hr
  split at hr
  · cases hr
  · split at hr
    · split at hr
      · split at hr
        · have hr := bif_val hr
          cases hr
          (intro k hk; simp only [List.mem_cons, List.not_mem_nil, or_false, not_or] at hk; simp only [find_put, find_del, hk, if_false])
        · have hr := bif_val hr
          cases hr
          (intro k hk; simp only [List.mem_cons, List.not_mem_nil, or_false, not_or] at hk; simp only [find_put, find_del, hk, if_false])
      · cases hr
    · split at hr
      · split at hr
        · obtain ⟨y, _, hr⟩ := Q.val_get hr
          split at hr
          · cases hr
            (intro k hk; simp only [List.mem_cons, List.not_mem_nil, or_false, not_or] at hk; simp only [find_put, find_del, hk, if_false])
          · cases hr
        · cases hr
      · cases hr
    · cases hr
theorem eff_kept {r : Eff} (hr : (effQ tb H ev h u dst op).val = some r) : Kept h r := by
  cases op with
  | alloc e =>
    unfold effQ at hr
    simp only at hr
    split at hr
    · split at hr
      · rename_i n e' _
        generalize Nat.blt 16 n = b at hr
        cases b
        · exact newBox_kept hr
        · simp only [cond_true] at hr
          split at hr
          · split at hr
            · split at hr
              · exact newRow_kept (bif_val hr)
              · cases hr
            · cases hr
          · cases hr
      · exact newBox_kept hr
    · cases hr
  | box e x => exact newBox_kept hr
  | store t x v => exact store_kept (dst := dst) hr
  | makeInterface t x =>
    unfold effQ at hr
    simp only at hr
    split at hr
    · split at hr
      · have hr := bif_val hr
        split at hr
        · cases hr; (intro k hk; simp only [List.mem_cons, List.not_mem_nil, or_false, not_or] at hk; simp only [find_put, find_del, hk, if_false])
        · cases hr
      · cases hr
    · cases hr; (intro k hk; simp only [List.mem_cons, List.not_mem_nil, or_false, not_or] at hk; simp only [find_put, find_del, hk, if_false])
    · cases hr
  | convert s d x =>
    unfold effQ at hr
    simp only at hr
    split at hr
    · split at hr
      · split at hr
        · obtain ⟨_, hr⟩ := Q.val_ask (bif_val hr)
          cases hr; (intro k hk; simp only [List.mem_cons, List.not_mem_nil, or_false, not_or] at hk; simp only [find_put, find_del, hk, if_false])
        · cases hr
      · cases hr
    · cases hr
  | makeSlice t l m =>
    unfold effQ at hr
    simp only at hr
    split at hr
    · split at hr
      · split at hr
        · obtain ⟨_, hr⟩ := Q.val_ask (bif_val hr)
          generalize flag H dst 0 = b at hr
          cases b
          · cases hr; (intro k hk; simp only [List.mem_cons, List.not_mem_nil, or_false, not_or] at hk; simp only [find_put, find_del, hk, if_false])
          · exact newRow_kept hr
        · cases hr
      · cases hr
    · cases hr
  | call c =>
    obtain ⟨callee, args, ts⟩ := c
    cases callee with
    | builtin b =>
      unfold effQ at hr
      simp only at hr
      split at hr
      · split at hr
        · split at hr
          · exact append_kept hr
          · cases hr
        · cases hr
      · split at hr
        · split at hr
          · split at hr
            · exact over_kept (bif_val hr)
            · cases hr
          · cases hr
        · cases hr
      · split at hr
        · split at hr
          · exact over_kept (bif_val hr)
          · cases hr
        · cases hr
      · cases hr
    | _ => cases hr
  | _ => cases hr

theorem frC_kept {k : Nat} {c : AV} (hk : k ∉ c.refs1) : find k (frC h c).2 = find k h := by
  unfold frC
  split
  · simp only [AV.refs1, List.mem_singleton] at hk
    split
    · split
      · rw [find_put, if_neg hk]
      · rfl
    · split <;> rfl
    · rfl
  · simp only [AV.refs1, List.mem_singleton] at hk
    split
    · split
      · rw [find_put, if_neg hk]
      · rfl
    · split <;> rfl
    · rfl
  · simp only [AV.refs1, List.mem_singleton] at hk
    split
    · split
      · rw [find_put, if_neg hk]
      · rfl
    · rfl
  · rfl
theorem frCs_kept {k : Nat} : ∀ {cs : List AV} {h : Heap}, k ∉ cs.flatMap AV.refs1 → find k (frCs h cs).2 = find k h
  | [], h, _ => rfl
  | c :: r, h, hk => by
    simp only [List.flatMap_cons, List.mem_append, not_or] at hk
    show find k (frCs (frC h c).2 r).2 = _
    rw [frCs_kept hk.2, frC_kept hk.1]
theorem frV_kept {k : Nat} {v : AV} (hk : k ∉ v.refs) : find k (frV h v).2 = find k h := by
  by_cases hv : ∃ cs, v = .agg cs
  · obtain ⟨cs, rfl⟩ := hv
    exact frCs_kept (cs := cs) hk
  · have h1 : v.refs = v.refs1 ∨ v.refs = [] ∨ True := .inr (.inr trivial)
    have hc : v.cells = [v] := by cases v <;> first | rfl | exact absurd ⟨_, rfl⟩ hv
    have hf : (frV h v).2 = (frC h v).2 := by cases v <;> first | rfl | exact absurd ⟨_, rfl⟩ hv
    rw [hf]
    refine frC_kept ?_
    unfold AV.refs at hk
    rw [hc] at hk
    simpa using hk
theorem frVs_kept {k : Nat} : ∀ {vs : List AV} {h : Heap}, k ∉ vs.flatMap AV.refs → find k (frVs h vs).2 = find k h
  | [], h, _ => rfl
  | v :: r, h, hk => by
    simp only [List.flatMap_cons, List.mem_append, not_or] at hk
    show find k (frVs (frV h v).2 r).2 = _
    rw [frVs_kept hk.2, frV_kept hk.1]
theorem go_kept {F : Fns} {n : Nat} {as : List AV} {ks : List Nat} {e : Eff} (hs : (goQ F H u dst n h as ks).val = some e) : Kept h e := by
  unfold goQ at hs
  split at hs
  · obtain ⟨⟨r, os'⟩, _, hs⟩ := Q.val_bind (bif_val hs)
    unfold backQ at hs
    generalize hb : ((objsOk os' && resOk r) && (nodupB ((backL dst ks r os').map (·.1)) && ((newsOf ks (backL dst ks r os')).all (isNew u) && ks.all (far dst)))) = b at hs
    cases b
    · cases hs
    · simp only [cond_true] at hs
      simp only [Bool.and_eq_true] at hb
      cases hs
      intro k hk
      simp only [List.mem_append, not_or] at hk
      obtain ⟨k1, k2, k3⟩ := hk
      rw [find_addAll (nodupB_iff hb.2.1), find_delAll, if_neg (by simp [k2, k3])]
      cases hf : find k (backL dst ks r os') with
      | none => rfl
      | some o =>
        have : k ∈ keys (backL dst ks r os') := find_keys.1 (by rw [hf]; simp)
        exact absurd (List.mem_filter.2 ⟨this, by simp [k2]⟩) k1
  · cases hs
theorem call_kept {F : Fns} {f : AV} {args : List AV} {e : Eff} (hs : (callQ F H h u dst f args).val = some e) : Kept h e := by
  unfold callQ at hs
  split at hs
  · have hs := bif_val hs
    generalize flag H dst 2 = b at hs
    cases b
    · obtain ⟨e', hs', h0⟩ := Q.val_bind hs
      cases h0
      intro k hk
      simp only [cond_false, List.mem_append, not_or] at hk
      rw [go_kept hs' k hk.2, frVs_kept hk.1]
    · obtain ⟨e', hs', h0⟩ := Q.val_bind hs
      cases h0
      intro k hk
      exact go_kept hs' k hk
  · cases hs
end
end
end Go.AM
