/- Regions that draw their order (6): every order ends where the text's order ends. -/
import Derived.Test.YtnhfjkckgicidaaAmDraw5
set_option linter.unusedVariables false
set_option linter.unusedSimpArgs false
namespace Go.AM
open Go.RowKit Go.Lib

def okc (tb : Tb) (o : Oper) : Bool := pureOp tb o || loadOp o || callOp o
def compat (tb : Tb) (ops : Array Oper) (x y : Oper) : Bool := sep ops x y && okc tb x && okc tb y && (!callOp x || !callOp y)

def maskOf (M : List Nat) : List Edge → Nat
  | [] => 0
  | e :: r => bif Region.binds .any e then 2 ^ e.on ||| (M.getD e.on 0 ||| maskOf M r) else maskOf M r
def masks : List Oper → List Nat → List Nat
  | [], M => M
  | o :: r, M => masks r (M ++ [maskOf M o.after.toList])
def edgesDown (i : Nat) (o : Oper) : Bool := o.after.toList.all fun e => !Region.binds .any e || decide (e.on < i)
/-- The static look at a region that draws its order. -/
def drawOk (tb : Tb) (ops : Array Oper) : Bool :=
  (List.range ops.size).all fun i => match ops[i]? with
    | some y => edgesDown i y && (List.range i).all fun j => ((masks ops.toList []).getD i 0).testBit j || (match ops[j]? with | some x => compat tb ops x y | none => false)
    | none => false

inductive Reach (ops : Array Oper) : Nat → Nat → Prop
  | direct {i : Nat} {o : Oper} {e : Edge} (ho : ops[i]? = some o) (he : e ∈ o.after) (hb : Region.binds .any e = true) : Reach ops e.on i
  | trans {i j : Nat} {o : Oper} {e : Edge} (ho : ops[i]? = some o) (he : e ∈ o.after) (hb : Region.binds .any e = true) (h : Reach ops j e.on) : Reach ops j i

section
variable {E : Ev} {ops : Array Oper} {tb : Tb}

theorem maskOf_reach {M : List Nat} (hM : ∀ i j, (M.getD i 0).testBit j = true → Reach ops j i) {i : Nat} {o : Oper} (ho : ops[i]? = some o) : ∀ {es : List Edge}, (∀ e ∈ es, e ∈ o.after) → ∀ j, (maskOf M es).testBit j = true → Reach ops j i
  | [], _, j, h => by simp [maskOf] at h
  | e :: r, he, j, h => by
    have ih := maskOf_reach hM ho (es := r) (fun e' h' => he e' (List.mem_cons_of_mem _ h')) j
    unfold maskOf at h
    cases hb : Region.binds .any e
    · rw [hb] at h; exact ih h
    · rw [hb] at h
      simp only [cond_true, Nat.testBit_or, Bool.or_eq_true] at h
      have hm : e ∈ o.after := he e (List.mem_cons_self ..)
      rcases h with h | h | h
      · rw [Nat.testBit_two_pow] at h
        have : e.on = j := by simpa using h
        subst this
        exact .direct ho hm hb
      · exact .trans ho hm hb (hM _ _ h)
      · exact ih h
theorem masks_reach : ∀ (l : List Oper) (M : List Nat), (∀ i, l[i]? = ops[M.length + i]?) → (∀ i j, (M.getD i 0).testBit j = true → Reach ops j i) → ∀ i j, ((masks l M).getD i 0).testBit j = true → Reach ops j i
  | [], M, _, hM => hM
  | o :: r, M, hl, hM => by
    have ho : ops[M.length]? = some o := by simpa using (hl 0).symm
    refine masks_reach r _ (fun i => ?_) (fun i j h => ?_)
    · have := hl (i + 1)
      simp only [List.getElem?_cons_succ] at this
      rw [this, List.length_append, List.length_singleton]
      congr 1
      omega
    · by_cases hlt : i < M.length
      · have e : (M ++ [maskOf M o.after.toList]).getD i 0 = M.getD i 0 := by simp [List.getD, List.getElem?_append_left hlt]
        rw [e] at h
        exact hM i j h
      · by_cases he : i = M.length
        · subst he
          have e : (M ++ [maskOf M o.after.toList]).getD M.length 0 = maskOf M o.after.toList := by simp [List.getD]
          rw [e] at h
          exact maskOf_reach hM ho (fun e he => Array.mem_toList_iff.1 he) j h
        · have e : (M ++ [maskOf M o.after.toList]).getD i 0 = 0 := by
            have : (M ++ [maskOf M o.after.toList])[i]? = none := List.getElem?_eq_none_iff.2 (by simp; omega)
            simp [List.getD, this]
          rw [e] at h
          simp at h

theorem okc_spec {o : Oper} (h : okc tb o = true) : pureOp tb o = true ∨ loadOp o = true ∨ callOp o = true := by
  simp only [okc, Bool.or_eq_true] at h
  rcases h with (h | h) | h
  · exact .inl h
  · exact .inr (.inl h)
  · exact .inr (.inr h)

theorem front (hE : E.tb = tb) {i : Nat} {y : Oper} (hy : ops[i]? = some y) : ∀ (l1 l2 : List Nat) (st st' : St), (∀ j ∈ l1, ∃ x, ops[j]? = some x ∧ compat tb ops x y = true) →
    runD E true ops ((l1 ++ i :: l2).filterMap (ops[·]?)) st = some st' → runD E true ops ((i :: (l1 ++ l2)).filterMap (ops[·]?)) st = some st'
  | [], l2, st, st', _, h => h
  | j :: l1, l2, st, st', hc, h => by
    obtain ⟨x, hx, hcx⟩ := hc j (List.mem_cons_self ..)
    simp only [List.cons_append] at h ⊢
    rw [List.filterMap_cons_some hx] at h
    simp only [runD] at h
    split at h
    · rename_i st1 h1
      have ih := front hE hy l1 l2 st1 st' (fun j hj => hc j (List.mem_cons_of_mem _ hj)) h
      rw [List.filterMap_cons_some hy] at ih ⊢
      rw [List.filterMap_cons_some hx]
      simp only [runD] at ih ⊢
      split at ih
      · rename_i st2 h2
        simp only [compat, Bool.and_eq_true] at hcx
        obtain ⟨⟨⟨c1, c2⟩, c3⟩, c4⟩ := hcx
        obtain ⟨st1', q1, q2⟩ := swap c1 (hE ▸ okc_spec c2) (hE ▸ okc_spec c3) (by simpa using c4) h1 h2
        rw [q1]
        dsimp only
        rw [q2]
        exact ih
      · simp at ih
    · simp at h

theorem getD_true {l : Array Bool} {k : Nat} (h : l.getD k false = true) : k < l.size ∧ l.getD k true = true := by
  by_cases hk : k < l.size
  · simp [hk] at h ⊢; exact h
  · simp [hk] at h
theorem getD_false {l : Array Bool} {k : Nat} (hk : k < l.size) (h : l.getD k true = true) : l.getD k false = true := by
  simp [hk] at h ⊢; exact h

theorem reach_listed {listed : Array Bool} (hcl : ∀ i, listed.getD i false = true → ∀ o, ops[i]? = some o → ∀ e ∈ o.after, Region.binds .any e = true → listed.getD e.on false = true) {j i : Nat} (h : Reach ops j i) :
    (∀ o, ops[i]? = some o → ∀ e ∈ o.after, Region.binds .any e = true → listed.getD e.on false = true) → listed.getD j false = true := by
  induction h with
  | direct ho he hb => exact fun hi => hi _ ho _ he hb
  | trans ho he hb _ ih => exact fun hi => ih (hcl _ (hi _ ho _ he hb))

theorem lin (hE : E.tb = tb) (hd : ∀ i y, ops[i]? = some y → edgesDown i y = true ∧ ∀ j, j < i → Reach ops j i ∨ ∃ x, ops[j]? = some x ∧ compat tb ops x y = true) :
    ∀ (fuel t : Nat) (listed : Array Bool) (l : List Nat) (st st' : St), listed.size = ops.size → l.Pairwise (· < ·) → (∀ i, i ∈ l ↔ i < ops.size ∧ listed.getD i true = false) →
      (∀ i, listed.getD i false = true → ∀ o, ops[i]? = some o → ∀ e ∈ o.after, Region.binds .any e = true → listed.getD e.on false = true) → l.length ≤ fuel →
      runD E true ops (l.filterMap (ops[·]?)) st = some st' → runD E true ops ((Region.linearise.go .any ops fuel t listed []).filterMap (ops[·]?)) st = some st' := by
  intro fuel
  induction fuel with
  | zero =>
    intro t listed l st st' _ _ _ _ hl h
    have : l = [] := List.eq_nil_of_length_eq_zero (by omega)
    subst this
    simpa [Region.linearise.go] using h
  | succ fuel ih =>
    intro t listed l st st' hsz hpw hmem hcl hlen h
    have hgo : Region.linearise.go .any ops (fuel + 1) t listed [] = (match (Region.ready .any ops listed)[t % (Region.ready .any ops listed).length]? with
      | some i => Region.linearise.go .any ops fuel (t / (Region.ready .any ops listed).length) (listed.setIfInBounds i true) [i]
      | none => [].reverse) := by
      simp only [Region.linearise.go]
      rfl
    rw [hgo]
    have hready : ∀ i, i ∈ Region.ready .any ops listed ↔ i < ops.size ∧ listed.getD i true = false ∧ ∃ o, ops[i]? = some o ∧ ∀ e ∈ o.after, Region.binds .any e = true → listed.getD e.on false = true := by
      intro i
      unfold Region.ready
      rw [List.mem_filter]
      simp only [List.mem_range, Bool.and_eq_true, Bool.not_eq_true']
      constructor
      · rintro ⟨h1, h2, h3⟩
        refine ⟨h1, h2, ?_⟩
        cases ho : ops[i]? with
        | none => rw [ho] at h3; simp at h3
        | some o =>
          rw [ho] at h3
          simp only [Option.map_some, Option.getD_some, Array.all_eq_true_iff_forall_mem] at h3
          refine ⟨o, rfl, fun e he hb => ?_⟩
          have := h3 e he
          simpa [hb] using this
      · rintro ⟨h1, h2, o, ho, h3⟩
        refine ⟨h1, h2, ?_⟩
        rw [ho]
        simp only [Option.map_some, Option.getD_some, Array.all_eq_true_iff_forall_mem]
        intro e he
        cases hb : Region.binds .any e
        · rfl
        · simpa using h3 e he hb
    cases hi : (Region.ready .any ops listed)[t % (Region.ready .any ops listed).length]? with
    | none =>
      have hnil : Region.ready .any ops listed = [] := by
        cases hr : Region.ready .any ops listed with
        | nil => rfl
        | cons x xs =>
          rw [hr] at hi
          have hlt : t % (x :: xs).length < (x :: xs).length := Nat.mod_lt _ (by simp)
          simp at hi
          simp at hlt
          omega
      have hl : l = [] := by
        cases l with
        | nil => rfl
        | cons k r =>
          exfalso
          obtain ⟨hk1, hk2⟩ := (hmem k).1 (List.mem_cons_self ..)
          have hk : k ∈ Region.ready .any ops listed := by
            refine (hready k).2 ⟨hk1, hk2, ops[k], Array.getElem?_eq_getElem hk1, fun e he hb => ?_⟩
            have hdn := (hd k ops[k] (Array.getElem?_eq_getElem hk1)).1
            simp only [edgesDown, List.all_eq_true] at hdn
            have hlt := hdn e (Array.mem_toList_iff.2 he)
            rw [hb] at hlt
            have hlt : e.on < k := by simpa using hlt
            have hlt2 : e.on < ops.size := by omega
            by_cases hl : listed.getD e.on true = true
            · exact getD_false (by omega) hl
            · have hin := (hmem e.on).2 ⟨hlt2, by simpa using hl⟩
              rcases List.mem_cons.1 hin with e1 | e1
              · omega
              · have := (List.pairwise_cons.1 hpw).1 _ e1
                omega
          rw [hnil] at hk
          simp at hk
      subst hl
      simpa using h
    | some i =>
      dsimp only
      rw [linearise_go_acc, List.reverse_singleton, List.singleton_append]
      obtain ⟨r1, r2, y, hy, r3⟩ := (hready i).1 (List.mem_of_getElem? hi)
      have him : i ∈ l := (hmem i).2 ⟨r1, r2⟩
      obtain ⟨l1, l2, rfl⟩ := List.append_of_mem him
      have hlt : ∀ j ∈ l1, j < i := fun j hj => (List.pairwise_append.1 hpw).2.2 j hj i (List.mem_cons_self ..)
      have hgt : ∀ j ∈ l2, i < j := fun j hj => (List.pairwise_cons.1 (List.pairwise_append.1 hpw).2.1).1 j hj
      have hf := front hE hy l1 l2 st st' (fun j hj => by
        rcases (hd i y hy).2 j (hlt j hj) with hr | hc
        · exfalso
          have := reach_listed hcl hr (fun o ho e he hb => by rw [hy] at ho; cases ho; exact r3 e he hb)
          have h2 := ((hmem j).1 (List.mem_append.2 (.inl hj))).2
          rw [(getD_true this).2] at h2
          simp at h2
        · exact hc) h
      rw [List.filterMap_cons_some hy] at hf ⊢
      simp only [runD] at hf ⊢
      split at hf
      · rename_i st1 h1
        refine ih _ _ (l1 ++ l2) st1 st' (by simpa using hsz) ?_ (fun k => ?_) (fun k hk o ho e he hb => ?_) (by simp at hlen ⊢; omega) hf
        · obtain ⟨p1, p2, p3⟩ := List.pairwise_append.1 hpw
          exact List.pairwise_append.2 ⟨p1, (List.pairwise_cons.1 p2).2, fun a ha b hb => p3 a ha b (List.mem_cons_of_mem _ hb)⟩
        · have hset : (listed.setIfInBounds i true).getD k true = if k = i then true else listed.getD k true := by
            rw [Array.getD_eq_getD_getElem?, Array.getElem?_setIfInBounds, Array.getD_eq_getD_getElem?]
            by_cases e : i = k
            · subst e
              have : i < listed.size := by omega
              simp [this]
            · simp [e, Ne.symm e]
          rw [hset]
          have hm := hmem k
          simp only [List.mem_append, List.mem_cons] at hm ⊢
          by_cases e : k = i
          · subst e
            simp only [if_true, Bool.true_eq_false, and_false, iff_false, not_or]
            exact ⟨fun hh => by have := hlt k hh; omega, fun hh => by have := hgt k hh; omega⟩
          · simp only [e, if_false, false_or] at hm ⊢
            exact hm
        · have hset : ∀ m, (listed.setIfInBounds i true).getD m false = if m = i then true else listed.getD m false := by
            intro m
            rw [Array.getD_eq_getD_getElem?, Array.getElem?_setIfInBounds, Array.getD_eq_getD_getElem?]
            by_cases e : i = m
            · subst e
              have : i < listed.size := by omega
              simp [this]
            · simp [e, Ne.symm e]
          rw [hset] at hk ⊢
          by_cases e1 : k = i
          · subst e1
            rw [hy] at ho
            cases ho
            split
            · rfl
            · exact r3 e he hb
          · simp only [e1, if_false] at hk
            split
            · rfl
            · exact hcl k hk o ho e he hb
      · simp at hf

theorem drawOk_sound {P : Program} (hm : P.follows .mixedOrders = true) (h : drawOk tb ops = true) : DrawOk P tb ops := by
  intro E hE t st st' hr
  unfold drawOk at h
  simp only [List.all_eq_true, List.mem_range] at h
  have h2 := h
  have hsch : Region.schedule (P.follows .mixedOrders) ops t = Region.linearise .any ops t := by
    unfold Region.schedule
    simp [hm]
  rw [hsch]
  have hM := masks_reach (ops := ops) ops.toList [] (fun i => by simp) (fun i j h => by simp at h)
  refine lin hE (fun i y hy => ?_) ops.size t (Array.replicate ops.size false) (List.range ops.size) _ st' (by simp) (List.pairwise_lt_range) (fun i => ?_) (fun i hi => ?_) (by simp) (by rw [range_filterMap]; exact hr)
  · have hlt : i < ops.size := (Array.getElem?_eq_some_iff.1 hy).1
    have := h2 i hlt
    rw [hy] at this
    simp only [Bool.and_eq_true, List.all_eq_true, List.mem_range, Bool.or_eq_true] at this
    refine ⟨this.1, fun j hj => ?_⟩
    rcases this.2 j hj with hh | hh
    · exact .inl (hM i j hh)
    · right
      cases hx : ops[j]? with
      | none => rw [hx] at hh; simp at hh
      | some x => rw [hx] at hh; exact ⟨x, rfl, hh⟩
  · simp only [List.mem_range]
    constructor
    · intro hi; exact ⟨hi, by simp [hi]⟩
    · exact fun hi => hi.1
  · have := (getD_true hi).1
    simp at this
    simp [this] at hi

/-- The static look at a function's code. -/
def codeOkB (tb : Tb) : Code → Bool
  | .region _ ops draw => !draw || drawOk tb ops
  | .seq a b => codeOkB tb a && codeOkB tb b
  | .cond _ a b => codeOkB tb a && codeOkB tb b
  | .block _ c => codeOkB tb c
  | .loop c => codeOkB tb c
  | _ => true
theorem codeOkB_sound {P : Program} {tb : Tb} (hm : P.follows .mixedOrders = true) : ∀ {c : Code}, codeOkB tb c = true → CodeOk P tb c
  | .region _ ops draw, h => by
    cases draw
    · trivial
    · exact drawOk_sound hm (by simpa [codeOkB] using h)
  | .seq a b, h => by
    simp only [codeOkB, Bool.and_eq_true] at h
    exact ⟨codeOkB_sound hm h.1, codeOkB_sound hm h.2⟩
  | .cond _ a b, h => by
    simp only [codeOkB, Bool.and_eq_true] at h
    exact ⟨codeOkB_sound hm h.1, codeOkB_sound hm h.2⟩
  | .block _ c, h => codeOkB_sound hm (c := c) h
  | .loop c, h => codeOkB_sound hm (c := c) h
  | .skip, _ => trivial
  | .rangeFunc _ _ _ _, _ => trivial
  | .exit _, _ => trivial
  | .scope _, _ => trivial
  | .label _, _ => trivial
  | .goto _, _ => trivial
  | .ret, _ => trivial
  | .refuse _, _ => trivial

end
end Go.AM
