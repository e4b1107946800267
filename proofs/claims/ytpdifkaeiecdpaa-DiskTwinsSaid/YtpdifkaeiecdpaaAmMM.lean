/- Soundness: objects that go, turn, or are frozen. -/
import Derived.Test.YtpdifkaeiecdpaaAmML
namespace Go.AM
open Go.RowKit Go.Lib
section
variable [Reg]
section
variable {P : Program} {c : Ctx} {γ γ' γ'' : Gh} {D D' D'' : Dead} {st : St} {a : Act} {w w' w'' : World} {tb : Tb} {h h' h'' : Heap} {u u' u'' : List Nat}

def Gh.drop (γ : Gh) (k : Nat) : Gh := ⟨γ.g, fun b => if γ.own b = some k then none else γ.own b⟩
theorem own_uniq (hh : HOk γ h u w D) {b b' k : Nat} (h1 : γ.own b = some k) (h2 : γ.own b' = some k) : b = b' := (hh.own b k h1).2.2.trans (hh.own b' k h2).2.2.symm
/-- More that is dead, in a number's own block, when the number goes. -/
structure Dies (γ : Gh) (w : World) (D D' : Dead) (k : Nat) : Prop where
  dd : ∀ b o, D b o → D' b o
  d2 : ∀ b o, γ.own b ≠ some k → D' b o → D b o
  dl : ∀ b o, D' b o → b < w.heap.size
theorem Dies.refl (hi : Inv c γ D st a w) (k : Nat) : Dies γ w D D k := ⟨fun _ _ h => h, fun _ _ _ h => h, hi.dl⟩

/-- An object goes, or is frozen. -/
theorem stp_del (hi : Inv c γ D st a w) (k : Nat) (hd : Dies γ w D D' k) {h' : Heap} (hf : ∀ j, j ≠ k → find j h' = find j st.h)
    (hk : find k h' = none ∨ ∃ t xs, find k h' = some (.fz t xs) ∧ find k st.h = some (.row t xs) ∧ (xs = [] ∨ ∃ f : Nat → Value, ∀ (q : Nat) (c : AV), (flat t xs)[q]? = some c → D' (γ.g k).1 ((γ.g k).2 + q) ∧ w.cell? ⟨(γ.g k).1, (γ.g k).2 + q, none⟩ = some (f q) ∧ RepD w D' c (f q))) :
    Stp γ (γ.drop k) st.h h' st.u st.u w w D D' := by
  have hU : Upd γ (γ.drop k) st.h h' w w D D' k := by
    refine ⟨fun j hj => .inl (hf j hj), fun j hj => rfl, fun b j hj ho => ?_, fun b j hj ho _ => ?_⟩
    · simp only [Gh.drop] at ho
      split at ho
      · simp at ho
      · rename_i hne
        exact ⟨ho, by rw [hf j hj]; exact (hi.hp.own b j ho).2.1, rfl, fun o => hd.d2 b o hne⟩
    · simp only [Gh.drop]
      rw [if_neg (by rw [ho]; simpa using hj)]
      exact ho
  have hno : ∀ b, (γ.drop k).own b ≠ some k := by
    intro b ho
    simp only [Gh.drop] at ho
    split at ho
    · simp at ho
    · exact absurd ho (by assumption)
  have hsame : ∀ j ∈ st.u, Same γ (γ.drop k) st.h h' w w D D' j := by
    intro j hj
    by_cases e : j = k
    · subst e
      rcases hk with hk | ⟨t, xs, h1, h2, h3⟩
      · exact ⟨fun cs e => by rw [hk] at e; simp at e, fun t xs e => by rw [hk] at e; simp at e, fun t xs e => by rw [hk] at e; simp at e, fun e => by rw [hk] at e; simp at e⟩
      · refine ⟨fun cs e => by rw [h1] at e; simp at e, fun t xs e => by rw [h1] at e; simp at e, fun t' xs' e => ?_, fun e => by rw [h1] at e; simp at e⟩
        rw [h1] at e
        cases e
        exact .inr ⟨⟨xs, h2, rfl⟩, h3⟩
    · exact hU.same hi.hp e
  have hp : Pres D w w := fun _ _ _ => rfl
  refine ⟨hp, hd.dd, fun _ h => h, hsame, hU.ok hi.hp hp hd.dd (Nat.le_refl _) (fun _ h => h) (fun e => ?_) hsame ⟨fun cs e => ?_, fun t xs e => ?_, fun b ho => absurd ho (hno b), fun b ho => absurd ho (hno b)⟩, rfl, rfl, rfl, Nat.le_refl _, fun b hb hn => ⟨rfl, fun o => hd.d2 b o (by rw [hn]; simp)⟩, fun _ _ h => h, fun b j ho => ?_, hd.dl, fun j hj e => ⟨?_, fun _ => rfl⟩⟩
  · rcases hk with hk | ⟨t, xs, h1, h2, h3⟩
    · exact absurd hk e
    · exact hi.hp.u k (by rw [h2]; simp)
  · rcases hk with hk | ⟨t, xs, h1, h2, h3⟩
    · rw [hk] at e; simp at e
    · rw [h1] at e; simp at e
  · rcases hk with hk | ⟨t, xs, h1, h2, h3⟩
    · rw [hk] at e; simp at e
    · rw [h1] at e; simp at e
  · simp only [Gh.drop] at ho
    split at ho
    · simp at ho
    · exact .inr (by rw [ho]; simp)
  · by_cases e1 : j = k
    · subst e1
      rcases hk with hk | ⟨t, xs, h1, h2, h3⟩
      · exact absurd hk e
      · rw [h2]; simp
    · rw [← hf j e1]; exact e

def Gh.move (γ : Gh) (K b o : Nat) : Gh := ⟨fun j => if j = K then (b, o) else γ.g j, fun b' => if b' = b then some K else γ.own b'⟩
/-- What a world that differs in one block is. -/
structure OneBlk (w w' : World) (b : Nat) (vs' : Array Value) (E : Nat) (fr : Nat × Nat) : Prop where
  at_ : w'.heap[b]? = some (.cells vs' E fr)
  other : ∀ b', b' ≠ b → w'.heap[b']? = w.heap[b']?
  size : w'.heap.size = w.heap.size
  os : w'.os = w.os
  tape : w'.tape = w.tape
  output : w'.output = w.output
  big : ∀ vs E, w.heap[b]? = some (.cells vs E (0, 0)) → fr = (0, 0) ∧ vs.size ≤ vs'.size

omit [Reg] in
theorem OneBlk.lg {b : Nat} {vs' : Array Value} {E : Nat} {fr : Nat × Nat} (ho : OneBlk w w' b vs' E fr) (b' n : Nat) (hb : Blk w b' n) : Blk w' b' n := by
  obtain ⟨vs, E', h1, h2⟩ := hb
  by_cases e : b' = b
  · subst e
    exact ⟨vs', E, (ho.big _ _ h1).1 ▸ ho.at_, Nat.le_trans h2 (ho.big _ _ h1).2⟩
  · exact ⟨vs, E', (ho.other b' e).trans h1, h2⟩

/-- An object's block is turned, and the object with it: under its own number, or under a new one. -/
theorem stp_turn (hi : Inv c γ D st a w) {k K : Nat} (hown : γ.own (γ.g k).1 = some k) (hK : K = k ∨ (isNew st.u K = true ∧ 1000 ≤ K)) {o' : Ob} {h' : Heap} (hf : ∀ j, j ≠ K → j ≠ k → find j h' = find j st.h) (hkk : K ≠ k → find k h' = none) (hKK : find K h' = some o')
    {vs' : Array Value} {E : Nat} {fr : Nat × Nat} (hfr : o' = .tok ∨ fr = (0, 0)) (hw : OneBlk w w' (γ.g k).1 vs' E fr) (hp : Pres D w w') (hd : ∀ b o, D b o → D' b o) (hd2 : ∀ b o, b ≠ (γ.g k).1 → D' b o → D b o) (hd3 : ∀ b o, D' b o → b < w.heap.size) (hd4 : o' ≠ .tok → ∀ o, ¬ D' (γ.g k).1 o)
    (hsame : K = k → (∀ cs, o' = .box cs → ∃ cs0, find k st.h = some (.box cs0)) ∧ (∀ t xs, o' = .row t xs → ∃ xs0, find k st.h = some (.row t xs0) ∧ xs0.length = xs.length) ∧ o' ≠ .tok ∧ ∀ t xs, o' ≠ .fz t xs)
    (hbox : ∀ cs, o' = .box cs → (γ.g k).2 = (γ.g k).2 ∧ RepL γ st.h st.u w D cs vs') (hrow : ∀ t xs, o' = .row t xs → (γ.g k).2 + xs.length * szR t ≤ vs'.size ∧ ∀ (q : Nat) (c : AV) (v : Value), (flat t xs)[q]? = some c → vs'[(γ.g k).2 + q]? = some v → RepD w D c v) :
    Stp γ (γ.move K (γ.g k).1 (γ.g k).2) st.h h' st.u (bif Nat.beq K k then st.u else K :: st.u) w w' D D' := by
  have hlt := (hi.hp.own _ k hown).1
  have hku : k ∈ st.u := hi.hp.u k (hi.hp.own _ k hown).2.1
  have hfn : K ≠ k → find K st.h = none := by
    intro hne
    rcases hK with e | ⟨e, _⟩
    · exact absurd e hne
    · cases hf : find K st.h with
      | none => rfl
      | some o => exact absurd (hi.hp.u K (by rw [hf]; simp)) (by simpa [isNew] using e)
  have hgK : (γ.move K (γ.g k).1 (γ.g k).2).g K = γ.g k := by simp [Gh.move]
  have hoK : (γ.move K (γ.g k).1 (γ.g k).2).own (γ.g k).1 = some K := by simp [Gh.move]
  have hoi : ∀ {b j}, (γ.move K (γ.g k).1 (γ.g k).2).own b = some j → (b = (γ.g k).1 ∧ j = K) ∨ (b ≠ (γ.g k).1 ∧ γ.own b = some j) := by
    intro b j ho
    simp only [Gh.move] at ho
    split at ho
    · rename_i e; exact .inl ⟨e, by simpa using ho.symm⟩
    · rename_i e; exact .inr ⟨e, ho⟩
  have hjk : ∀ {b j}, b ≠ (γ.g k).1 → γ.own b = some j → j ≠ k := by
    intro b j hb ho e
    subst e
    exact hb (hi.hp.own b j ho).2.2
  have hU : Upd γ (γ.move K (γ.g k).1 (γ.g k).2) st.h h' w w' D D' K := by
    refine ⟨fun j hj => ?_, fun j hj => by simp [Gh.move, hj], fun b j hj ho => ?_, fun b j hj ho e => ?_⟩
    · by_cases e : j = k
      · subst e; exact .inr (hkk (Ne.symm hj))
      · exact .inl (hf j hj e)
    · rcases hoi ho with ⟨_, e⟩ | ⟨e, ho'⟩
      · exact absurd e hj
      · exact ⟨ho', by rw [hf j hj (hjk e ho')]; exact (hi.hp.own b j ho').2.1, hw.other b e, fun o => hd2 b o e⟩
    · simp only [Gh.move]
      split
      · rename_i e1
        rw [e1, hown] at ho
        simp only [Option.some.injEq] at ho
        subst ho
        exact absurd (hkk (Ne.symm hj)) e
      · exact ho
  have hs : ∀ j ∈ st.u, Same γ (γ.move K (γ.g k).1 (γ.g k).2) st.h h' w w' D D' j := by
    intro j hj
    by_cases e : j = K
    · subst e
      rcases hK with e | ⟨e, _⟩
      · subst e
        obtain ⟨s1, s2, s3, s4⟩ := hsame rfl
        refine ⟨fun cs e => ?_, fun t xs e => ?_, fun t xs e => ?_, fun e => ?_⟩
        · rw [hKK] at e
          exact ⟨s1 cs (by simpa using e), by rw [hgK]⟩
        · rw [hKK] at e
          exact ⟨s2 t xs (by simpa using e), hgK, fun _ => ⟨hoK, hw.lg _⟩⟩
        · rw [hKK] at e; exact absurd (by simpa using e) (s4 t xs)
        · rw [hKK] at e; exact absurd (by simpa using e) s3
      · exact absurd hj (by simpa [isNew] using e)
    · exact hU.same hi.hp e
  have hu' : ∀ j ∈ st.u, j ∈ (bif Nat.beq K k then st.u else K :: st.u) := by
    intro j hj
    cases Nat.beq K k
    · exact List.mem_cons_of_mem _ hj
    · exact hj
  have hKu : K ∈ (bif Nat.beq K k then st.u else K :: st.u) := by
    cases hb : Nat.beq K k
    · exact List.mem_cons_self ..
    · rw [Nat.eq_of_beq_eq_true hb]; exact hku
  refine ⟨hp, hd, hu', hs, hU.ok hi.hp hp hd (Nat.le_of_eq hw.size.symm) hu' (fun _ => hKu) hs ⟨fun cs e => ?_, fun t xs e => ?_, fun b ho => ?_, fun b ho e o hDD => ?_⟩, hw.os, hw.tape, hw.output, Nat.le_of_eq hw.size.symm, fun b hb hn => ?_, hw.lg, fun b j ho => ?_, fun b o hDD => by rw [hw.size]; exact hd3 b o hDD, fun j hj e => ?_⟩
  · rw [hKK] at e
    simp only [Option.some.injEq] at e
    rw [hgK]
    have hR := (hbox cs e).2
    exact ⟨hoK, vs', E, (hfr.resolve_left (by rw [e]; simp)) ▸ hw.at_, hR.1, fun i c v h1 h2 => ⟨(hR.2 i c v h1 h2).1.mono hp hd hu' hs, (hR.2 i c v h1 h2).2⟩⟩
  · rw [hKK] at e
    simp only [Option.some.injEq] at e
    rw [hgK]
    obtain ⟨h1, h2⟩ := hrow t xs e
    exact .inr ⟨hoK, vs', E, (hfr.resolve_left (by rw [e]; simp)) ▸ hw.at_, h1, fun q c v hq hv => (h2 q c v hq hv).mono hp hd⟩
  · rcases hoi ho with ⟨e, _⟩ | ⟨e, ho'⟩
    · subst e; exact ⟨by rw [hw.size]; exact hlt, by rw [hKK]; simp, by rw [hgK]⟩
    · exfalso
      rcases hK with e1 | ⟨e1, _⟩
      · subst e1; exact hjk e ho' rfl
      · exact absurd (hi.hp.u K (hi.hp.own b K ho').2.1) (by simpa [isNew] using e1)
  · rcases hoi ho with ⟨e1, _⟩ | ⟨e1, ho'⟩
    · subst e1; exact hd4 (fun e2 => e (by rw [hKK, e2])) o hDD
    · rcases hK with e2 | ⟨e2, _⟩
      · subst e2; exact hjk e1 ho' rfl
      · exact absurd (hi.hp.u K (hi.hp.own b K ho').2.1) (by simpa [isNew] using e2)
  · have : b ≠ (γ.g k).1 := fun e => by rw [e, hown] at hn; simp at hn
    exact ⟨hw.other b this, fun o => hd2 b o this⟩
  · rcases hoi ho with ⟨e, _⟩ | ⟨e, ho'⟩
    · subst e; exact .inr (by rw [hown]; simp)
    · exact .inr (by rw [ho']; simp)
  · by_cases e1 : j = K
    · subst e1
      rcases hK with e2 | ⟨_, e2⟩
      · subst e2; exact ⟨(hi.hp.own _ j hown).2.1, fun _ => hgK⟩
      · omega
    · refine ⟨fun e2 => e ?_, fun _ => by simp [Gh.move, e1]⟩
      by_cases e3 : j = k
      · subst e3; exact hkk (Ne.symm e1)
      · rw [hf j e1 e3]; exact e2
end
end
end Go.AM
