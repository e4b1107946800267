/- A part of the proof: machine and program. -/
import Derived.Test.YtpdifkaeiecdpaaAm15
set_option linter.unusedSimpArgs false
set_option linter.unusedVariables false
namespace Go.AM
open Go.RowKit Go.Lib
section
variable [Reg]
section
variable {tb : Tb} {H : Hints} {h h2 : Heap} {u u2 : List Nat} {ev : Operand → AV} {op : Op} {dst : Option Nat} {K : Nat → Prop} {e : Eff}

/-- Heaps that are alike but for some numbers. -/
structure Off (K : Nat → Prop) (h h2 : Heap) (u u2 : List Nat) : Prop where
  h : ∀ k, ¬ K k → find k h2 = find k h
  u : ∀ k, ¬ K k → (k ∈ u2 ↔ k ∈ u)
/-- .. and what is answered there. -/
def Fra (K : Nat → Prop) (e : Eff) (q : Q Eff) : Prop := ∃ e2, q.val = some e2 ∧ e2.1 = e.1 ∧ e2.2.2.2 = e.2.2.2 ∧ Off K e.2.1 e2.2.1 e.2.2.1 e2.2.2.1
theorem Off.put (hO : Off K h h2 u u2) (k : Nat) (o : Ob) : Off K (AM.put k o h) (AM.put k o h2) u u2 := ⟨fun j hj => by rw [find_put, find_put, hO.h j hj], hO.u⟩
theorem Off.del (hO : Off K h h2 u u2) (k : Nat) : Off K (AM.del k h) (AM.del k h2) u u2 := ⟨fun j hj => by rw [find_del, find_del, hO.h j hj], hO.u⟩
theorem Off.cons (hO : Off K h h2 u u2) (k : Nat) : Off K h h2 (k :: u) (k :: u2) := ⟨hO.h, fun j hj => by simp only [List.mem_cons, hO.u j hj]⟩
theorem Off.isNew (hO : Off K h h2 u u2) {k : Nat} (hk : ¬ K k) : isNew u2 k = isNew u k := by
  have := hO.u k hk
  unfold AM.isNew
  by_cases hm : k ∈ u
  · simp [hm, this.2 hm]
  · have : k ∉ u2 := fun h => hm (this.1 h)
    simp [hm, this]
theorem fr_ret {v : AV} {h' h2' : Heap} {u' u2' l : List Nat} (hO : Off K h' h2' u' u2') : Fra K (v, h', u', l) (.ret (v, h2', u2', l)) := ⟨_, rfl, rfl, rfl, hO⟩
theorem fr_ask {c : Bool} {q q2 : Q Eff} (hr : (Q.ask c q).val = some e) (h : q.val = some e → Fra K e q2) : Fra K e (.ask c q2) := by
  obtain ⟨hc, hr⟩ := Q.val_ask hr
  rw [hc]
  obtain ⟨e2, h1, h2⟩ := h hr
  exact ⟨e2, h1, h2⟩
theorem fr_bif {b b2 : Bool} {q q2 : Q Eff} (hr : (bif b then q else .fail).val = some e) (hb : q.val = some e → b = true → b2 = true) (h : q.val = some e → Fra K e q2) : Fra K e (bif b2 then q2 else .fail) := by
  cases b
  · cases hr
  · rw [hb hr rfl]
    exact h hr
theorem boxRows_frame : ∀ {l : List (Nat × Nat)} {cs : List AV} {h h2 : Heap} {u u2 : List Nat} {r : List AV × Heap × List Nat}, Off K h h2 u u2 → (∀ p ∈ l, ¬ K (nk dst (p.1 + 1))) → boxRows dst l cs h u = some r → ∃ r2, boxRows dst l cs h2 u2 = some r2 ∧ r2.1 = r.1 ∧ Off K r.2.1 r2.2.1 r.2.2 r2.2.2
  | [], cs, h, h2, u, u2, r, hO, _, e => by
    simp only [boxRows, Option.some.injEq] at e
    subst e
    exact ⟨_, rfl, rfl, hO⟩
  | (off, t) :: l, cs, h, h2, u, u2, r, hO, hl, e => by
    have h1 := hl (off, t) (List.mem_cons_self ..)
    have h3 := fun p hp => hl p (List.mem_cons_of_mem _ hp)
    unfold boxRows at e ⊢
    split at e
    · rename_i hc
      simp only [hc, hO.isNew h1]
      generalize isNew u (nk dst (off + 1)) = b at e
      cases b
      · simp at e
      · simp only [cond_true] at e ⊢
        exact boxRows_frame ((hO.put _ _).cons _) h3 e
    · exact boxRows_frame hO h3 e
theorem newBox_core {L : List (Nat × Nat)} {cs : List AV} (hO : Off K h h2 u u2) (hr : (match boxRows dst L cs h u with | some (cs', h', u') => bif isNew u' (nk dst 0) then .ret (.ptr (nk dst 0) 0, AM.put (nk dst 0) (.box cs') h', nk dst 0 :: u', nk dst 0 :: (L.map fun p => nk dst (p.1 + 1))) else .fail | none => .fail : Q Eff).val = some e) (hn : ∀ k ∈ e.2.2.2, ¬ K k) :
    Fra K e (match boxRows dst L cs h2 u2 with | some (cs', h', u') => bif isNew u' (nk dst 0) then .ret (.ptr (nk dst 0) 0, AM.put (nk dst 0) (.box cs') h', nk dst 0 :: u', nk dst 0 :: (L.map fun p => nk dst (p.1 + 1))) else .fail | none => .fail : Q Eff) := by
  split at hr
  · rename_i cs' h' u' hb
    have hr' := bif_val hr
    cases hr'
    obtain ⟨⟨cs2, h2', u2'⟩, g1, g2, g3⟩ := boxRows_frame hO (fun p hp => hn _ (List.mem_cons_of_mem _ (List.mem_map.2 ⟨p, hp, rfl⟩))) hb
    have g2 : cs2 = cs' := g2
    have g3 : Off K h' h2' u' u2' := g3
    subst g2
    rw [g1]
    refine fr_bif hr (fun _ hb => by rw [g3.isNew (hn _ (List.mem_cons_self ..))]; exact hb) fun _ => ?_
    exact fr_ret ((g3.put _ _).cons _)
  · cases hr
theorem newBox_frame {t : Nat} {cs : List AV} (hO : Off K h h2 u u2) (hr : (newBox H h u dst t cs).val = some e) (hn : ∀ k ∈ e.2.2.2, ¬ K k) : Fra K e (newBox H h2 u2 dst t cs) := by
  unfold newBox at hr ⊢
  refine fr_bif hr (fun _ hb => hb) fun hr => ?_
  generalize find t H.rb = F at hr ⊢
  cases F with
  | none => exact newBox_core (L := []) hO hr hn
  | some l => exact newBox_core (L := l) hO hr hn
theorem newRow_frame {t : Nat} {xs : List (R t)} {v : AV} (hO : Off K h h2 u u2) (hr : (newRow h u dst t xs v).val = some e) (hn : ∀ k ∈ e.2.2.2, ¬ K k) : Fra K e (newRow h2 u2 dst t xs v) := by
  unfold newRow at hr ⊢
  have hr' := bif_val hr
  cases hr'
  refine fr_bif hr (fun _ hb => by rw [hO.isNew (hn _ (List.mem_cons_self ..))]; exact hb) fun _ => ?_
  exact fr_ret ((hO.put _ _).cons _)
theorem append_frame {t : Nat} {ti : TI} {x : AV} {ys : List (R t)} {wr : List Nat} (hO : Off K h h2 u u2) (hr : (appendQ tb H h u dst t ti x ys wr).val = some e) (hn : ∀ k ∈ e.2.2.2, ¬ K k) : Fra K e (appendQ tb H h2 u2 dst t ti x ys wr) := by
  unfold appendQ at hr ⊢
  refine fr_bif hr (fun _ hb => hb) fun hr => ?_
  split at hr
  · generalize flag H dst 0 = b at hr ⊢
    cases b
    · simp only [cond_false] at hr ⊢
      refine fr_bif hr (fun hr hb => ?_) fun hr => fr_ask hr fun hr => ?_
      · obtain ⟨_, hr⟩ := Q.val_ask hr
        cases hr
        rw [hO.isNew (hn _ (List.mem_cons_self ..))]
        exact hb
      · cases hr
        exact fr_ret ((hO.put _ _).cons _)
    · exact fr_ask hr fun hr => newRow_frame hO hr hn
  · generalize flag H dst 0 = b at hr ⊢
    cases b
    · simp only [cond_false] at hr ⊢
      split at hr
      · refine fr_bif hr (fun hr hb => ?_) fun hr => fr_ask hr fun hr => ?_
        · obtain ⟨_, hr⟩ := Q.val_ask hr
          cases hr
          rw [hO.isNew (hn _ (List.mem_cons_self ..))]
          exact hb
        · cases hr
          exact fr_ret ((hO.put _ _).cons _)
      · cases hr
    · simp only [cond_true] at hr ⊢
      split at hr
      · exact fr_ask hr fun hr => newRow_frame hO hr hn
      · cases hr
  · rename_i k t' xs _
    split at hr
    · rename_i xs' hc hf
      have hr' := bif_val hr
      obtain ⟨_, hr'⟩ := Q.val_ask hr'
      cases hr'
      have hk : find k h2 = some .tok := by rw [hO.h k (hn k (by simp))]; exact hf
      rw [hc, hk]
      refine fr_bif hr (fun _ hb => ?_) fun hr => fr_ask hr fun hr => ?_
      · rw [hO.isNew (hn _ (List.mem_cons_self ..))]
        exact hb
      · exact fr_ret (((hO.del _).put _ _).cons _)
    · cases hr
  · rename_i k t' _
    split at hr
    · rename_i t2 xs hf
      split at hr
      · rename_i ht
        split at hr
        · rename_i xs' hc
          have hr' := bif_val hr
          obtain ⟨_, hr'⟩ := Q.val_ask hr'
          cases hr'
          have hk : find k h2 = some (.row t2 xs) := by rw [hO.h k (hn k (by simp))]; exact hf
          rw [hk]
          dsimp only
          rw [if_pos ht, hc]
          refine fr_bif hr (fun _ hb => ?_) fun hr => fr_ask hr fun hr => ?_
          · rw [hO.isNew (hn _ (List.mem_cons_self ..))]
            exact hb
          · exact fr_ret (((hO.del _).put _ _).cons _)
        · cases hr
      · cases hr
    · cases hr
  · rename_i k t' lo n _
    split at hr
    · rename_i t2 xs hf
      split at hr
      · rename_i ht
        split at hr
        · rename_i xs' hc
          have hr' := (Q.val_ask hr).2
          cases hr'
          have hk : find k h2 = some (.row t2 xs) := by rw [hO.h k (hn k (by simp))]; exact hf
          rw [hk]
          dsimp only
          rw [if_pos ht, hc]
          exact fr_ask hr fun _ => fr_ret (hO.put _ _)
        · cases hr
      · cases hr
    · cases hr
  · cases hr
theorem store_frame {t : Nat} {x v : AV} (hO : Off K h h2 u u2) (hr : (storeQ tb H h u dst t x v).val = some e) (hn : ∀ k ∈ e.2.2.2, ¬ K k) : Fra K e (storeQ tb H h2 u2 dst t x v) := by
  unfold storeQ at hr ⊢
  split at hr
  · cases hr
  · split at hr
    · rename_i k off
      split at hr
      · rename_i cs hf
        split at hr
        · rename_i t' ht
          have hr' := bif_val hr
          cases hr'
          have hk : find k h2 = some (.box cs) := by rw [hO.h k (hn k (by simp))]; exact hf
          rw [hk]
          dsimp only
          refine fr_bif hr (fun _ hb => ?_) fun hr => ?_
          · rw [hO.isNew (hn _ (by simp))]
            exact hb
          · exact fr_ret (((hO.put _ _).put _ _).cons _)
        · rename_i ht
          have hr' := bif_val hr
          cases hr'
          have hk : find k h2 = some (.box cs) := by rw [hO.h k (hn k (by simp))]; exact hf
          rw [hk]
          dsimp only
          exact fr_bif hr (fun _ hb => hb) fun _ => fr_ret (hO.put _ _)
      · cases hr
    · rename_i k t' i j
      split at hr
      · rename_i t2 xs hf
        split at hr
        · rename_i ht
          obtain ⟨y, hy, hr'⟩ := Q.val_get hr
          split at hr'
          · rename_i y' hy'
            cases hr'
            have hk : find k h2 = some (.row t2 xs) := by rw [hO.h k (hn k (by simp))]; exact hf
            rw [hk]
            dsimp only
            rw [if_pos ht]
            refine ⟨(.undef, AM.put k (.row t2 (xs.set i y')) h2, u2, [k]), ?_, rfl, rfl, hO.put _ _⟩
            unfold Q.val Q.run
            rw [hy]
            dsimp only [getO]
            rw [hy']
            rfl
          · cases hr'
        · cases hr
      · cases hr
    · cases hr
theorem elems_frame (hO : Off K h h2 u u2) {t : Nat} {y : AV} (hk : ∀ k, keyOf y = some k → ¬ K k) : elemsOf h2 t y = elemsOf h t y := by
  cases y <;> first | rfl | skip
  all_goals (simp only [keyOf, Option.some.injEq, forall_eq'] at hk; simp only [elemsOf, rowAt, hO.h _ hk])
theorem src_frame (hO : Off K h h2 u u2) {t t' : Nat} {y : AV} (hk : ∀ k, keyOf y = some k → ¬ K k) : srcT tb h2 t t' y = srcT tb h t t' y := by
  unfold srcT
  split
  · rfl
  · split
    · rfl
    · exact elems_frame hO hk
    · rfl
theorem over_frame (hO : Off K h h2 u u2) (hN : ∀ k, ¬ K k) {t : Nat} {x : AV} {ys : Nat → List (R t)} {val : Nat → AV} {wr : List Nat} (hr : (overQ h u t x ys val wr).val = some e) : Fra K e (overQ h2 u2 t x ys val wr) := by
  unfold overQ at hr ⊢
  split at hr
  · cases hr
    exact fr_ret hO
  · cases hr
    exact fr_ret hO
  · rename_i k t2 lo n
    split at hr
    · rename_i t3 xs hf
      split at hr
      · rename_i ht
        split at hr
        · rename_i xs' hc
          cases hr
          have hk : find k h2 = some (.row t3 xs) := by rw [hO.h k (hN k)]; exact hf
          rw [hk]
          dsimp only
          rw [if_pos ht, hc]
          exact fr_ret (hO.put _ _)
        · cases hr
      · cases hr
    · cases hr
  · cases hr
/-- Operations that may change places with others that turn memory. -/
def frOk (op : Op) : Bool := match op with
  | .alloc _ | .box .. | .store .. | .makeSlice .. => true
  | .call { callee := .value _, .. } => true
  | _ => false
theorem eff_frame (hO : Off K h h2 u u2) (hr : (effQ tb H ev h u dst op).val = some e) (hn : ∀ k ∈ e.2.2.2, ¬ K k) (hK : frOk op = true ∨ ∀ k, ¬ K k) : Fra K e (effQ tb H ev h2 u2 dst op) := by
  cases op with
  | alloc t =>
    unfold effQ at hr ⊢
    simp only at hr ⊢
    split at hr
    · split at hr
      · rename_i n e' _
        generalize Nat.blt 16 n = b at hr ⊢
        cases b
        · exact newBox_frame hO hr hn
        · simp only [cond_true] at hr ⊢
          split at hr
          · split at hr
            · split at hr
              · exact fr_bif hr (fun _ hb => hb) fun hr => newRow_frame hO hr hn
              · cases hr
            · cases hr
          · cases hr
      · exact newBox_frame hO hr hn
    · cases hr
  | box t x => exact newBox_frame hO hr hn
  | store t x v => exact store_frame (dst := dst) hO hr hn
  | makeInterface t x =>
    unfold effQ at hr ⊢
    simp only at hr ⊢
    split at hr
    · rename_i k off hx
      split at hr
      · rename_i cs hf
        have hr' := bif_val hr
        split at hr'
        · rename_i ds hd
          cases hr'
          have hk : find k h2 = some (.box cs) := by rw [hO.h k (hn k (by simp))]; exact hf
          rw [hk]
          dsimp only
          rw [hd] at hr ⊢
          exact fr_bif hr (fun _ hb => hb) fun _ => fr_ret (hO.del _)
        · cases hr'
      · cases hr
    · cases hr
      exact fr_ret hO
    · cases hr
  | convert s d x =>
    unfold effQ at hr ⊢
    simp only at hr ⊢
    split at hr
    · split at hr
      · split at hr
        · refine fr_bif hr (fun hr hb => ?_) fun hr => fr_ask hr fun hr => ?_
          · obtain ⟨_, hr⟩ := Q.val_ask hr
            cases hr
            rw [hO.isNew (hn _ (List.mem_cons_self ..))]
            exact hb
          · cases hr
            exact fr_ret ((hO.put _ _).cons _)
        · cases hr
      · cases hr
    · cases hr
  | makeSlice t l m =>
    unfold effQ at hr ⊢
    simp only at hr ⊢
    split at hr
    · split at hr
      · split at hr
        · refine fr_bif hr (fun _ hb => hb) fun hr => fr_ask hr fun hr => ?_
          generalize flag H dst 0 = b at hr ⊢
          cases b
          · cases hr
            exact fr_ret hO
          · exact newRow_frame hO hr hn
        · cases hr
      · cases hr
    · cases hr
  | call c =>
    obtain ⟨callee, args, ts⟩ := c
    cases callee with
    | builtin b =>
      have hN : ∀ k, ¬ K k := hK.resolve_left (by simp [frOk])
      unfold effQ at hr ⊢
      simp only at hr ⊢
      split at hr
      · split at hr
        · rw [src_frame hO fun k _ => hN k]
          split at hr
          · rename_i te ys hte hys
            have hx : ∀ v, asSv h2 v = asSv h v := fun v => by
              have hf := fun k => hO.h k (hN k)
              cases v <;> first | rfl | simp only [asSv, vwN, rowAt, hf]
            rw [hx]
            exact append_frame hO hr hn
          · cases hr
        · cases hr
      · split at hr
        · split at hr
          · split at hr
            · have hx : ∀ v, asSv h2 v = asSv h v := fun v => by
                have hf := fun k => hO.h k (hN k)
                cases v <;> first | rfl | simp only [asSv, vwN, rowAt, hf]
              rw [hx]
              exact fr_bif hr (fun _ hb => hb) fun hr => over_frame hO hN hr
            · cases hr
          · cases hr
        · cases hr
      · split at hr
        · rw [elems_frame hO fun k _ => hN k]
          split at hr
          · have hx : ∀ v, asSv h2 v = asSv h v := fun v => by
              have hf := fun k => hO.h k (hN k)
              cases v <;> first | rfl | simp only [asSv, vwN, rowAt, hf]
            rw [hx]
            exact fr_bif hr (fun _ hb => hb) fun hr => over_frame hO hN hr
          · cases hr
        · cases hr
      · cases hr
    | _ => cases hr
  | _ => cases hr

/-! calls -/
theorem frC_frame (hO : Off K h h2 u u2) {c : AV} (hk : ∀ k ∈ c.refs1, ¬ K k) : (frC h2 c).1 = (frC h c).1 ∧ Off K (frC h c).2 (frC h2 c).2 u u2 := by
  cases c <;> first | exact ⟨rfl, hO⟩ | skip
  all_goals
    have hk' := hk _ (List.mem_cons_self ..)
    unfold frC
    simp only
    rw [hO.h _ hk']
    repeat' split
  all_goals first | exact ⟨rfl, hO⟩ | exact ⟨rfl, hO.put _ _⟩
theorem frCs_frame : ∀ {cs : List AV} {h h2 : Heap}, Off K h h2 u u2 → (∀ k ∈ cs.flatMap AV.refs1, ¬ K k) → (frCs h2 cs).1 = (frCs h cs).1 ∧ Off K (frCs h cs).2 (frCs h2 cs).2 u u2
  | [], h, h2, hO, _ => ⟨rfl, hO⟩
  | c :: r, h, h2, hO, hk => by
    obtain ⟨g1, g2⟩ := frC_frame hO (c := c) fun k hm => hk k (by simp only [List.flatMap_cons, List.mem_append]; exact .inl hm)
    obtain ⟨g3, g4⟩ := frCs_frame (cs := r) g2 fun k hm => hk k (by simp only [List.flatMap_cons, List.mem_append]; exact .inr hm)
    show (frC h2 c).1 :: (frCs (frC h2 c).2 r).1 = (frC h c).1 :: (frCs (frC h c).2 r).1 ∧ Off K (frCs (frC h c).2 r).2 (frCs (frC h2 c).2 r).2 u u2
    rw [g1, g3]
    exact ⟨rfl, g4⟩
theorem frV_frame (hO : Off K h h2 u u2) {v : AV} (hk : ∀ k ∈ v.refs, ¬ K k) : (frV h2 v).1 = (frV h v).1 ∧ Off K (frV h v).2 (frV h2 v).2 u u2 := by
  by_cases hv : ∃ cs, v = .agg cs
  · obtain ⟨cs, rfl⟩ := hv
    obtain ⟨g1, g2⟩ := frCs_frame (cs := cs) hO hk
    show AV.agg (frCs h2 cs).1 = AV.agg (frCs h cs).1 ∧ Off K (frCs h cs).2 (frCs h2 cs).2 u u2
    rw [g1]
    exact ⟨rfl, g2⟩
  · have hc : v.cells = [v] := by cases v <;> first | rfl | exact absurd ⟨_, rfl⟩ hv
    have hf : ∀ h : Heap, frV h v = frC h v := fun h => by cases v <;> first | rfl | exact absurd ⟨_, rfl⟩ hv
    rw [hf, hf]
    refine frC_frame hO fun k hm => hk k ?_
    unfold AV.refs
    rw [hc]
    simpa using hm
theorem frVs_frame : ∀ {vs : List AV} {h h2 : Heap}, Off K h h2 u u2 → (∀ k ∈ vs.flatMap AV.refs, ¬ K k) → (frVs h2 vs).1 = (frVs h vs).1 ∧ Off K (frVs h vs).2 (frVs h2 vs).2 u u2
  | [], h, h2, hO, _ => ⟨rfl, hO⟩
  | c :: r, h, h2, hO, hk => by
    obtain ⟨g1, g2⟩ := frV_frame hO (v := c) fun k hm => hk k (by simp only [List.flatMap_cons, List.mem_append]; exact .inl hm)
    obtain ⟨g3, g4⟩ := frVs_frame (vs := r) g2 fun k hm => hk k (by simp only [List.flatMap_cons, List.mem_append]; exact .inr hm)
    show (frV h2 c).1 :: (frVs (frV h2 c).2 r).1 = (frV h c).1 :: (frVs (frV h c).2 r).1 ∧ Off K (frVs (frV h c).2 r).2 (frVs (frV h2 c).2 r).2 u u2
    rw [g1, g3]
    exact ⟨rfl, g4⟩
omit [Reg] in
theorem reach_sub {f : Nat → List Nat} : ∀ {n : Nat} {d l : List Nat}, ∀ k ∈ d, k ∈ reach f n d l
  | 0, d, l, k, hk => hk
  | n + 1, d, [], k, hk => hk
  | n + 1, d, j :: r, k, hk => by
    unfold reach
    cases d.contains j
    · exact reach_sub k (List.mem_append_left _ hk)
    · exact reach_sub k hk
omit [Reg] in
theorem reach_frame {f g : Nat → List Nat} : ∀ {n : Nat} {d l : List Nat}, (∀ k ∈ reach f n d l, g k = f k) → reach g n d l = reach f n d l
  | 0, d, l, _ => rfl
  | n + 1, d, [], _ => rfl
  | n + 1, d, j :: r, h => by
    unfold reach at h ⊢
    cases hc : d.contains j
    · rw [hc] at h
      simp only [cond_false] at h ⊢
      rw [h j (reach_sub j (by simp))]
      exact reach_frame h
    · rw [hc] at h
      simp only [cond_true] at h ⊢
      exact reach_frame h
omit [Reg] in
theorem mapO_congr {α β : Type} {f g : α → Option β} : ∀ {l : List α}, (∀ a ∈ l, g a = f a) → mapO g l = mapO f l
  | [], _ => rfl
  | a :: r, h => by
    unfold mapO
    rw [h a (List.mem_cons_self ..), mapO_congr fun b hb => h b (List.mem_cons_of_mem _ hb)]
theorem inls_frame (hO : Off K h h2 u u2) {ks : List Nat} (hk : ∀ k ∈ ks, ¬ K k) : inls h2 ks = inls h ks := by
  unfold inls
  induction ks with
  | nil => rfl
  | cons k r ih =>
    rw [List.flatMap_cons, List.flatMap_cons, ih fun j hj => hk j (List.mem_cons_of_mem _ hj), hO.h k (hk k (List.mem_cons_self ..))]
theorem packO_frame (hO : Off K h h2 u u2) {ks : List Nat} {k : Nat} (hk : ¬ K k) (hi : ∀ cs, find k h = some (.box cs) → ∀ j ∈ rowRefs cs, ¬ K j) : packO h2 ks k = packO h ks k := by
  unfold packO
  rw [hO.h k hk]
  split
  · rename_i cs hf
    have : mapO (outB h2 ks) cs = mapO (outB h ks) cs := mapO_congr fun c hc => by
      cases c <;> first | rfl | skip
      rename_i m t
      have := hi cs hf m (by unfold rowRefs; exact List.mem_flatMap.2 ⟨_, hc, List.mem_cons_self ..⟩)
      unfold outB
      simp only
      rw [hO.h m this]
    rw [this]
  all_goals rfl
theorem go_frame {F : Fns} {n : Nat} {as : List AV} {ks : List Nat} (hO : Off K h h2 u u2) (hr : (goQ F H u dst n h as ks).val = some e) (hn : ∀ k ∈ e.2.2.2, ¬ K k) (hks : ∀ k ∈ ks ++ inls h ks, ¬ K k) : Fra K e (goQ F H u2 dst n h2 as ks) := by
  have hin := inls_frame hO (ks := ks) fun k hk => hks k (List.mem_append_left _ hk)
  have hpk : mapO (packO h2 ks) ks = mapO (packO h ks) ks := mapO_congr fun k hk => packO_frame hO (hks k (List.mem_append_left _ hk)) fun cs hf j hj => hks j (List.mem_append_right _ (by
    unfold inls
    exact List.mem_flatMap.2 ⟨k, hk, by rw [hf]; exact hj⟩))
  unfold goQ at hr ⊢
  rw [hpk, hin]
  split at hr
  · rename_i vs os hvs hos
    refine fr_bif hr (fun _ hb => hb) fun hr => ?_
    obtain ⟨⟨r, os'⟩, hf, hr⟩ := Q.val_bind hr
    have key : Fra K e (backQ h2 u2 dst ks r os' (backL dst ks r os')) := by
      unfold backQ at hr ⊢
      have hr' := bif_val hr
      cases hr'
      refine fr_bif hr (fun _ hb => ?_) fun _ => ?_
      · simp only [Bool.and_eq_true] at hb ⊢
        refine ⟨hb.1, hb.2.1, ?_, hb.2.2.2⟩
        rw [List.all_eq_true] at *
        intro k hk
        rw [hO.isNew (hn k (List.mem_append_left _ hk))]
        exact hb.2.2.1 k hk
      · rw [hin]
        refine fr_ret ⟨fun k hk => ?_, fun k hk => ?_⟩
        · have hnd : (keys (backL dst ks r os')).Nodup := by
            cases hb : nodupB ((backL dst ks r os').map (·.1)) with
            | true => exact nodupB_iff hb
            | false => rw [hb] at hr; simp at hr; cases hr
          rw [find_addAll hnd, find_addAll hnd, find_delAll, find_delAll, hO.h k hk]
        · simp only [List.mem_append, hO.u k hk]
    obtain ⟨e2, g1, g2⟩ := key
    refine ⟨e2, ?_, g2⟩
    have bindv : ∀ {q : Q Ret} {k : Ret → Q Eff} {a : Ret}, q.val = some a → (q.bind k).val = (k a).val := by
      intro q k a
      induction q with
      | ret b => intro h; cases h; rfl
      | fail => intro h; cases h
      | ask c q ih => intro h; obtain ⟨rfl, h⟩ := Q.val_ask h; exact ih h
      | br c p q ihp ihq =>
        intro h
        rcases Q.val_br h with ⟨rfl, h⟩ | ⟨rfl, h⟩
        · exact ihp h
        · exact ihq h
      | get o f ih => intro h; obtain ⟨x, rfl, h⟩ := Q.val_get h; exact ih x h
    rw [bindv hf]
    exact g1
  · cases hr
/-- .. so are the numbers that were used. -/
abbrev KeptU (u : List Nat) (e : Eff) : Prop := ∀ k, k ∉ e.2.2.2 → (k ∈ e.2.2.1 ↔ k ∈ u)
theorem boxRowsU_kept : ∀ {l : List (Nat × Nat)} {cs : List AV} {h : Heap} {u : List Nat} {r : List AV × Heap × List Nat}, boxRows dst l cs h u = some r → ∀ k, k ∉ l.map (fun p => nk dst (p.1 + 1)) → (k ∈ r.2.2 ↔ k ∈ u)
  | [], cs, h, u, r, e => by
    simp only [boxRows, Option.some.injEq] at e
    subst e
    exact fun _ _ => Iff.rfl
  | (off, t) :: l, cs, h, u, r, e => by
    intro k hk
    simp only [List.map_cons, List.mem_cons, not_or] at hk
    unfold boxRows at e
    split at e
    · generalize isNew u (nk dst (off + 1)) = b at e
      cases b
      · simp at e
      · simp only [cond_true] at e
        rw [boxRowsU_kept e k hk.2, List.mem_cons]; exact ⟨fun h => h.resolve_left hk.1, .inr⟩
    · exact boxRowsU_kept e k hk.2
theorem newBoxU_kept {e : Nat} {cs : List AV} {r : Eff} (hr : (newBox H h u dst e cs).val = some r) : KeptU u r := by
  unfold newBox at hr
  have hr := bif_val hr
  split at hr
  · rename_i cs' h' u' hb
    have hr := bif_val hr
    cases hr
    intro k hk
    have key : (match find e H.rb with | some l => l.map fun p : Nat × Nat => nk dst (p.1 + 1) | none => []) = (match find e H.rb with | some l => l | none => []).map fun p : Nat × Nat => nk dst (p.1 + 1) := by cases find e H.rb <;> rfl
    simp only [List.mem_cons, not_or] at hk
    show k ∈ nk dst 0 :: u' ↔ _
    rw [List.mem_cons]
    refine Iff.trans ⟨fun h => h.resolve_left hk.1, .inr⟩ ?_
    refine boxRowsU_kept hb k fun hm => hk.2 (Eq.mpr (congrArg (k ∈ ·) key) hm)
  · cases hr
theorem newRowU_kept {t : Nat} {xs : List (R t)} {v : AV} {r : Eff} (hr : (newRow h u dst t xs v).val = some r) : KeptU u r := by
  unfold newRow at hr
  have hr := bif_val hr
  cases hr
  intro k hk
  simp only [List.mem_cons, not_or] at hk
  exact List.mem_cons.trans ⟨fun h => h.resolve_left hk.1, .inr⟩
theorem appendU_kept {e : Nat} {ti : TI} {x : AV} {ys : List (R e)} {wr : List Nat} {r : Eff} (hr : (appendQ tb H h u dst e ti x ys wr).val = some r) : KeptU u r := by
  unfold appendQ at hr
  have hr := bif_val hr
  split at hr
  · generalize flag H dst 0 = b at hr
    cases b
    · obtain ⟨_, hr⟩ := Q.val_ask (bif_val hr)
      cases hr
      (intro k hk; simp only [List.mem_cons, List.not_mem_nil, or_false, not_or] at hk; simp only [List.mem_cons, hk, false_or])
    · exact newRowU_kept (Q.val_ask hr).2
  · generalize flag H dst 0 = b at hr
    cases b
    · simp only [cond_false] at hr
      split at hr
      · obtain ⟨_, hr⟩ := Q.val_ask (bif_val hr)
        cases hr
        (intro k hk; simp only [List.mem_cons, List.not_mem_nil, or_false, not_or] at hk; simp only [List.mem_cons, hk, false_or])
      · cases hr
    · simp only [cond_true] at hr
      split at hr
      · exact newRowU_kept (Q.val_ask hr).2
      · cases hr
  · split at hr
    · obtain ⟨_, hr⟩ := Q.val_ask (bif_val hr)
      cases hr
      (intro k hk; simp only [List.mem_cons, List.not_mem_nil, or_false, not_or] at hk; simp only [List.mem_cons, hk, false_or])
    · cases hr
  · split at hr
    · split at hr
      · split at hr
        · obtain ⟨_, hr⟩ := Q.val_ask (bif_val hr)
          cases hr
          (intro k hk; simp only [List.mem_cons, List.not_mem_nil, or_false, not_or] at hk; simp only [List.mem_cons, hk, false_or])
        · cases hr
      · cases hr
    · cases hr
  · split at hr
    · split at hr
      · split at hr
        · obtain ⟨_, hr⟩ := Q.val_ask hr
          cases hr
          (intro k hk; simp only [List.mem_cons, List.not_mem_nil, or_false, not_or] at hk; simp only [List.mem_cons, hk, false_or])
        · cases hr
      · cases hr
    · cases hr
  · cases hr
theorem storeU_kept {t : Nat} {x v : AV} {r : Eff} (hr : (storeQ tb H h u dst t x v).val = some r) : KeptU u r := by
  unfold storeQ at hr
  split at hr
  · cases hr
  · split at hr
    · split at hr
      · split at hr
        · have hr := bif_val hr
          cases hr
          (intro k hk; simp only [List.mem_cons, List.not_mem_nil, or_false, not_or] at hk; simp only [List.mem_cons, hk, false_or])
        · have hr := bif_val hr
          cases hr
          (intro k hk; simp only [List.mem_cons, List.not_mem_nil, or_false, not_or] at hk; simp only [List.mem_cons, hk, false_or])
      · cases hr
    · split at hr
      · split at hr
        · obtain ⟨y, _, hr⟩ := Q.val_get hr
          split at hr
          · cases hr
            (intro k hk; simp only [List.mem_cons, List.not_mem_nil, or_false, not_or] at hk; simp only [List.mem_cons, hk, false_or])
          · cases hr
        · cases hr
      · cases hr
    · cases hr
theorem overU_kept {t : Nat} {x : AV} {ys : Nat → List (R t)} {val : Nat → AV} {wr : List Nat} {r : Eff} (hr : (overQ h u t x ys val wr).val = some r) : KeptU u r := by
  unfold overQ at hr
  split at hr
  · cases hr; exact fun k _ => Iff.rfl
  · cases hr; exact fun k _ => Iff.rfl
  · split at hr
    · split at hr
      · split at hr
        · cases hr; exact fun k _ => Iff.rfl
        · cases hr
      · cases hr
    · cases hr
  · cases hr
theorem effU_kept {r : Eff} (hr : (effQ tb H ev h u dst op).val = some r) : KeptU u r := by
  cases op with
  | alloc e =>
    unfold effQ at hr
    simp only at hr
    split at hr
    · split at hr
      · rename_i n e' _
        generalize Nat.blt 16 n = b at hr
        cases b
        · exact newBoxU_kept hr
        · simp only [cond_true] at hr
          split at hr
          · split at hr
            · split at hr
              · exact newRowU_kept (bif_val hr)
              · cases hr
            · cases hr
          · cases hr
      · exact newBoxU_kept hr
    · cases hr
  | box e x => exact newBoxU_kept hr
  | store t x v => exact storeU_kept (dst := dst) hr
  | makeInterface t x =>
    unfold effQ at hr
    simp only at hr
    split at hr
    · split at hr
      · have hr := bif_val hr
        split at hr
        · cases hr; (intro k hk; simp only [List.mem_cons, List.not_mem_nil, or_false, not_or] at hk; simp only [List.mem_cons, hk, false_or])
        · cases hr
      · cases hr
    · cases hr; (intro k hk; simp only [List.mem_cons, List.not_mem_nil, or_false, not_or] at hk; simp only [List.mem_cons, hk, false_or])
    · cases hr
  | convert s d x =>
    unfold effQ at hr
    simp only at hr
    split at hr
    · split at hr
      · split at hr
        · obtain ⟨_, hr⟩ := Q.val_ask (bif_val hr)
          cases hr; (intro k hk; simp only [List.mem_cons, List.not_mem_nil, or_false, not_or] at hk; simp only [List.mem_cons, hk, false_or])
        · cases hr
      · cases hr
    · cases hr
  | makeSlice t l m =>
    unfold effQ at hr
    simp only at hr
    split at hr
    · split at hr
      · split at hr
        · obtain ⟨_, hr⟩ := Q.val_ask (bif_val hr)
          generalize flag H dst 0 = b at hr
          cases b
          · cases hr; (intro k hk; simp only [List.mem_cons, List.not_mem_nil, or_false, not_or] at hk; simp only [List.mem_cons, hk, false_or])
          · exact newRowU_kept hr
        · cases hr
      · cases hr
    · cases hr
  | call c =>
    obtain ⟨callee, args, ts⟩ := c
    cases callee with
    | builtin b =>
      unfold effQ at hr
      simp only at hr
      split at hr
      · split at hr
        · split at hr
          · exact appendU_kept hr
          · cases hr
        · cases hr
      · split at hr
        · split at hr
          · split at hr
            · exact overU_kept (bif_val hr)
            · cases hr
          · cases hr
        · cases hr
      · split at hr
        · split at hr
          · exact overU_kept (bif_val hr)
          · cases hr
        · cases hr
      · cases hr
    | _ => cases hr
  | _ => cases hr

theorem callU_kept {F : Fns} {f : AV} {args : List AV} (hs : (callQ F H h u dst f args).val = some e) : KeptU u e := by
  have go : ∀ {n : Nat} {h : Heap} {as : List AV} {ks : List Nat} {e : Eff}, (goQ F H u dst n h as ks).val = some e → KeptU u e := fun {n h as ks e} hs => by
    unfold goQ at hs
    split at hs
    · obtain ⟨⟨r, os'⟩, _, hs⟩ := Q.val_bind (bif_val hs)
      unfold backQ at hs
      have hs := bif_val hs
      cases hs
      intro k hk
      simp only [List.mem_append, not_or] at hk
      exact List.mem_append.trans ⟨fun h => h.resolve_left hk.1, .inr⟩
    · cases hs
  unfold callQ at hs
  split at hs
  · have hs := bif_val hs
    generalize flag H dst 2 = b at hs
    cases b
    · obtain ⟨e', hs', h0⟩ := Q.val_bind hs
      cases h0
      intro k hk
      simp only [List.mem_append, not_or] at hk
      exact go hs' k hk.2
    · obtain ⟨e', hs', h0⟩ := Q.val_bind hs
      cases h0
      intro k hk
      exact go hs' k hk
  · cases hs

omit [Reg] in
theorem Q.bind_val {α β : Type} {q : Q α} {k : α → Q β} {a : α} (h : q.val = some a) : (q.bind k).val = (k a).val := by
  induction q with
  | ret b => cases h; rfl
  | fail => cases h
  | ask c q ih => obtain ⟨rfl, h⟩ := Q.val_ask h; exact ih h
  | br c p q ihp ihq =>
    rcases Q.val_br h with ⟨rfl, h⟩ | ⟨rfl, h⟩
    · exact ihp h
    · exact ihq h
  | get o f ih => obtain ⟨x, rfl, h⟩ := Q.val_get h; exact ih x h
theorem go_notes {F : Fns} {n : Nat} {as : List AV} {ks : List Nat} (hr : (goQ F H u dst n h as ks).val = some e) : ∀ k ∈ ks ++ inls h ks, k ∈ e.2.2.2 := by
  unfold goQ at hr
  split at hr
  · obtain ⟨⟨r, os'⟩, _, hr⟩ := Q.val_bind (bif_val hr)
    unfold backQ at hr
    have hr := bif_val hr
    cases hr
    exact fun k hk => List.mem_append_right _ hk
  · cases hr
theorem fr_bind {q : Q Eff} {l : List Nat} (h : Fra K e q) : Fra K (e.1, e.2.1, e.2.2.1, l ++ e.2.2.2) (q.bind fun e => .ret (e.1, e.2.1, e.2.2.1, l ++ e.2.2.2)) := by
  obtain ⟨e2, g1, g2, g3, g4⟩ := h
  refine ⟨_, (Q.bind_val g1).trans rfl, g2, ?_, g4⟩
  show l ++ e2.2.2.2 = l ++ e.2.2.2
  rw [g3]
theorem boxRefs_frame (hO : Off K h h2 u u2) {k : Nat} (hk : ¬ K k) : boxRefs h2 k = boxRefs h k := by
  unfold boxRefs
  rw [hO.h k hk]
theorem call_frame {F : Fns} {f : AV} {args : List AV} (hO : Off K h h2 u u2) (hr : (callQ F H h u dst f args).val = some e) (hn : ∀ k ∈ e.2.2.2, ¬ K k) : Fra K e (callQ F H h2 u2 dst f args) := by
  unfold callQ at hr ⊢
  split at hr
  · refine fr_bif hr (fun _ hb => hb) fun hr => ?_
    generalize flag H dst 2 = b at hr ⊢
    cases b
    · obtain ⟨e', hr', h0⟩ := Q.val_bind hr
      cases h0
      obtain ⟨g1, g2⟩ := frVs_frame hO (vs := args) fun k hk => hn k (List.mem_append_left _ hk)
      have hn' : ∀ k ∈ e'.2.2.2, ¬ K k := fun k hk => hn k (List.mem_append_right _ hk)
      have hks := fun k hk => hn' k (go_notes hr' k hk)
      simp only [cond_false]
      rw [g1]
      rw [reach_frame fun k hk => boxRefs_frame g2 (hks k (List.mem_append_left _ hk))]
      exact fr_bind (go_frame g2 hr' hn' hks)
    · obtain ⟨e', hr', h0⟩ := Q.val_bind hr
      cases h0
      have hn' : ∀ k ∈ e'.2.2.2, ¬ K k := fun k hk => hn k (List.mem_append_right _ hk)
      have hks := fun k hk => hn' k (go_notes hr' k hk)
      simp only [cond_true]
      rw [reach_frame fun k hk => boxRefs_frame hO (hks k (List.mem_append_left _ hk))]
      exact fr_bind (go_frame hO hr' hn' hks)
  · cases hr
end
end
end Go.AM
