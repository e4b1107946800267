/- Soundness: steps of the heap. -/
import Derived.Test.YtpdifkaeiecdpaaAmMJ
namespace Go.AM
open Go.RowKit Go.Lib
section
variable [Reg]

/-- From one heap to the next: what is kept. -/
structure Stp (γ γ' : Gh) (h h' : Heap) (u u' : List Nat) (w w' : World) (D D' : Dead) : Prop where
  pres : Pres D w w'
  dd : ∀ b o, D b o → D' b o
  uu : ∀ k ∈ u, k ∈ u'
  same : ∀ k ∈ u, Same γ γ' h h' w w' D D' k
  ok : HOk γ' h' u' w' D'
  os : w'.os = w.os
  tape : w'.tape = w.tape
  output : w'.output = w.output
  size : w.heap.size ≤ w'.heap.size
  blk : ∀ b, b < w.heap.size → γ.own b = none → w'.heap[b]? = w.heap[b]? ∧ ∀ o, D' b o → D b o
  lg : ∀ b n, Blk w b n → Blk w' b n
  ow : ∀ b k, γ'.own b = some k → w.heap.size ≤ b ∨ γ.own b ≠ none
  dl : ∀ b o, D' b o → b < w'.heap.size
  lo : ∀ k, k < 1000 → find k h' ≠ none → find k h ≠ none ∧ ((∀ t xs, find k h' ≠ some (.fz t xs)) → γ'.g k = γ.g k)

section
variable {P : Program} {c : Ctx} {γ γ' γ'' : Gh} {D D' D'' : Dead} {st : St} {a : Act} {w w' w'' : World} {tb : Tb} {h h' h'' : Heap} {u u' u'' : List Nat}

theorem Inv.step (hi : Inv c γ D st a w) (s : Stp γ γ' st.h h' st.u u' w w' D D') : Inv c γ' D' { st with h := h', u := u' } a w' := by
  have hB : ∀ b, b < c.w.heap.size → c.γ.own b = none → b < w.heap.size ∧ γ.own b = none := by
    intro b hb hn
    refine ⟨Nat.lt_of_lt_of_le hb hi.size, ?_⟩
    cases ho : γ.own b with
    | none => rfl
    | some k =>
      rcases hi.ow b k ho with q | q
      · omega
      · exact absurd hn q
  refine ⟨hi.nt, hi.dfr, fun t => (hi.tm t).mono s.pres s.dd s.uu s.same, s.ok, s.os.trans hi.os, s.tape.trans hi.tape, s.output.trans hi.output, Nat.le_trans hi.size s.size,
    fun b hb hn => ((s.blk b (hB b hb hn).1 (hB b hb hn).2).1).trans (hi.block b hb hn), fun b n hb => s.lg b n (hi.lg b n hb), fun b k ho => ?_, ⟨fun b o hd => s.dd b o (hi.dd.1 b o hd), fun b o hb hn hd => hi.dd.2 b o hb hn ((s.blk b (hB b hb hn).1 (hB b hb hn).2).2 o hd)⟩, s.dl, ?_, ?_, ?_, ?_⟩
  · rcases s.ow b k ho with q | q
    · exact .inl (Nat.le_trans hi.size q)
    · cases ho' : γ.own b with
      | none => exact absurd ho' q
      | some k' => exact hi.ow b k' ho'
  · intro k hk cs hf
    obtain ⟨h1, h2⟩ := s.lo k hk (by rw [hf]; simp)
    obtain ⟨⟨cs', e1⟩, _⟩ := (s.same k (hi.hp.u k h1)).box cs hf
    exact ⟨(hi.ob k hk cs' e1).1, (h2 (by rw [hf]; simp)).trans (hi.ob k hk cs' e1).2⟩
  · intro k hk t xs hf
    obtain ⟨h1, h2⟩ := s.lo k hk (by rw [hf]; simp)
    obtain ⟨⟨xs', e1, e2⟩, e3, e4⟩ := (s.same k (hi.hp.u k h1)).row t xs hf
    obtain ⟨⟨xs0, q1, q2⟩, q3, q4⟩ := hi.or k hk t xs' e1
    have h2 := h2 (by rw [hf]; simp)
    refine ⟨⟨xs0, q1, q2.trans e2⟩, h2.trans q3, ?_⟩
    rw [h2]
    exact fun ho => (e4 (q4 ho)).1
  · intro k hk t xs hf
    obtain ⟨h1, h2⟩ := s.lo k hk (by rw [hf]; simp)
    rcases (s.same k (hi.hp.u k h1)).fz t xs hf with e1 | ⟨⟨xs', e1, e0⟩, e2⟩
    · refine (hi.ofz k hk t xs e1).imp id ?_
      rintro ⟨q1, q2⟩
      refine ⟨q1, q2.imp id ?_⟩
      rintro ⟨f, q3⟩
      exact ⟨f, fun q c' hq => ⟨s.dd _ _ (q3 q c' hq).1, (s.pres _ _ (q3 q c' hq).1).trans (q3 q c' hq).2.1, (q3 q c' hq).2.2.mono s.pres s.dd⟩⟩
    · obtain ⟨⟨xs0, q0, q1⟩, q2, _⟩ := hi.or k hk t xs' e1
      rw [q2] at e2
      exact .inr ⟨⟨xs0, q0, q1.trans e0⟩, e2⟩
  · intro k hk hf
    obtain ⟨h1, h2⟩ := s.lo k hk (by rw [hf]; simp)
    exact hi.ot k hk ((s.same k (hi.hp.u k h1)).tok hf).1

end

section
variable {P : Program} {c : Ctx} {γ γ' γ'' : Gh} {D D' D'' : Dead} {st : St} {a : Act} {w w' w'' : World} {tb : Tb} {h h' h'' : Heap} {u u' u'' : List Nat}
/-- One number's object is another one, some are gone. -/
structure Upd (γ γ' : Gh) (h h' : Heap) (w w' : World) (D D' : Dead) (K : Nat) : Prop where
  st : ∀ k, k ≠ K → find k h' = find k h ∨ find k h' = none
  g : ∀ k, k ≠ K → γ'.g k = γ.g k
  o1 : ∀ b k, k ≠ K → γ'.own b = some k → γ.own b = some k ∧ find k h' ≠ none ∧ w'.heap[b]? = w.heap[b]? ∧ ∀ o, D' b o → D b o
  o2 : ∀ b k, k ≠ K → γ.own b = some k → find k h' ≠ none → γ'.own b = some k
theorem Upd.same {k : Nat} (s : Upd γ γ' h h' w w' D D' k) (_hh : HOk γ h u w D) {k' : Nat} (hk : k' ≠ k) : Same γ γ' h h' w w' D D' k' := by
  have hf : ∀ {o}, find k' h' = some o → find k' h = some o := fun {o} e => by
    rcases s.st k' hk with q | q
    · rw [← q]; exact e
    · rw [q] at e; cases e
  have hb : ∀ {o}, find k' h' = some o → γ.own (γ.g k').1 = some k' → γ'.own (γ.g k').1 = some k' ∧ w'.heap[(γ.g k').1]? = w.heap[(γ.g k').1]? ∧ ∀ o, D' (γ.g k').1 o → D (γ.g k').1 o := fun {o} e ho => by
    have h1 := s.o2 _ k' hk ho (by rw [e]; simp)
    obtain ⟨_, _, h2, h3⟩ := s.o1 _ k' hk h1
    exact ⟨h1, h2, h3⟩
  exact ⟨fun cs e => ⟨⟨cs, hf e⟩, by rw [s.g k' hk]⟩, fun t xs e => ⟨⟨xs, hf e, rfl⟩, s.g k' hk, fun ho => ⟨(hb e ho).1, fun n ⟨vs, E, q1, q2⟩ => ⟨vs, E, (hb e ho).2.1.trans q1, q2⟩⟩⟩, fun t xs e => .inl (hf e), fun e => ⟨hf e, s.g k' hk, fun ho => ⟨(hb e ho).1, fun n ⟨vs, E, fr, q1, q2⟩ => ⟨vs, E, fr, (hb e ho).2.1.trans q1, q2⟩, (hb e ho).2.2⟩⟩⟩

/-- What the new object must be. -/
structure NewOk (γ' : Gh) (h' : Heap) (u' : List Nat) (w' : World) (D' : Dead) (K : Nat) : Prop where
  box : ∀ cs, find K h' = some (.box cs) → γ'.own (γ'.g K).1 = some K ∧ ∃ vs E, w'.heap[(γ'.g K).1]? = some (.cells vs E (0, 0)) ∧ RepL γ' h' u' w' D' cs vs
  row : ∀ t xs, find K h' = some (.row t xs) → xs = [] ∨ (γ'.own (γ'.g K).1 = some K ∧ ∃ vs E, w'.heap[(γ'.g K).1]? = some (.cells vs E (0, 0)) ∧ (γ'.g K).2 + xs.length * szR t ≤ vs.size ∧ ∀ (q : Nat) (c : AV) (v : Value), (flat t xs)[q]? = some c → vs[(γ'.g K).2 + q]? = some v → RepD w' D' c v)
  own : ∀ b, γ'.own b = some K → b < w'.heap.size ∧ find K h' ≠ none ∧ b = (γ'.g K).1
  lv : ∀ b, γ'.own b = some K → find K h' ≠ some .tok → ∀ o, ¬ D' b o
theorem Upd.ok {k : Nat} (s : Upd γ γ' h h' w w' D D' k) (hh : HOk γ h u w D) (hp : Pres D w w') (hd : ∀ b o, D b o → D' b o) (hs : w.heap.size ≤ w'.heap.size) (hu : ∀ j ∈ u, j ∈ u') (hk : find k h' ≠ none → k ∈ u') (hsame : ∀ j ∈ u, Same γ γ' h h' w w' D D' j) (hn : NewOk γ' h' u' w' D' k) : HOk γ' h' u' w' D' := by
  have hf : ∀ {j o}, j ≠ k → find j h' = some o → find j h = some o := fun {j o} hj e => by
    rcases s.st j hj with q | q
    · rw [← q]; exact e
    · rw [q] at e; cases e
  refine ⟨fun j cs e => ?_, fun j t xs e => ?_, fun b j ho => ?_, fun b j ho e o hD => ?_, fun j e => ?_⟩
  · by_cases hj : j = k
    · subst hj
      obtain ⟨h1, vs, E, h2, h3⟩ := hn.box cs e
      exact ⟨h1, vs, E, h2, h3.1, h3.2⟩
    · obtain ⟨q1, vs, E, q2, q3, q4⟩ := hh.box j cs (hf hj e)
      have h1 := s.o2 _ j hj q1 (by rw [e]; simp)
      obtain ⟨_, _, h2, _⟩ := s.o1 _ j hj h1
      rw [s.g j hj]
      exact ⟨h1, vs, E, h2.trans q2, q3, fun i c v hi hv => ⟨(q4 i c v hi hv).1.mono hp hd hu hsame, (q4 i c v hi hv).2⟩⟩
  · by_cases hj : j = k
    · subst hj
      exact hn.row t xs e
    · refine (hh.row j t xs (hf hj e)).imp id ?_
      rintro ⟨q1, vs, E, q2, q3, q4⟩
      have h1 := s.o2 _ j hj q1 (by rw [e]; simp)
      obtain ⟨_, _, h2, _⟩ := s.o1 _ j hj h1
      rw [s.g j hj]
      exact ⟨h1, vs, E, h2.trans q2, q3, fun q c v hi hv => (q4 q c v hi hv).mono hp hd⟩
  · by_cases hj : j = k
    · subst hj
      exact hn.own b ho
    · obtain ⟨h1, h2, _⟩ := s.o1 b j hj ho
      obtain ⟨h3, _, h4⟩ := hh.own b j h1
      exact ⟨Nat.lt_of_lt_of_le h3 hs, h2, by rw [s.g j hj]; exact h4⟩
  · by_cases hj : j = k
    · subst hj
      exact hn.lv b ho e o hD
    · obtain ⟨h1, h2, _, h3⟩ := s.o1 b j hj ho
      refine hh.lv b j h1 (fun e' => ?_) o (h3 o hD)
      rcases s.st j hj with q | q
      · exact e (q.trans e')
      · exact h2 q
  · by_cases hj : j = k
    · subst hj
      exact hk e
    · refine hu j (hh.u j fun e' => e ?_)
      rcases s.st j hj with q | q
      · rw [q]; exact e'
      · exact q

/-- A new object. -/
theorem Upd.stp_new {k : Nat} (s : Upd γ γ' h h' w w' D D' k) (hh : HOk γ h u w D) (hku : k ∉ u) (hp : Pres D w w') (hd : ∀ b o, D b o → D' b o) (hs : w.heap.size ≤ w'.heap.size) (hu : u' = k :: u) (hn : NewOk γ' h' u' w' D' k)
    (f1 : w'.os = w.os) (f2 : w'.tape = w.tape) (f3 : w'.output = w.output) (f4 : ∀ b, b < w.heap.size → γ.own b = none → w'.heap[b]? = w.heap[b]? ∧ ∀ o, D' b o → D b o) (f5 : ∀ b n, Blk w b n → Blk w' b n) (f6 : ∀ b k, γ'.own b = some k → w.heap.size ≤ b ∨ γ.own b ≠ none) (f7 : ∀ b o, D' b o → b < w'.heap.size) (hk : 1000 ≤ k) : Stp γ γ' h h' u u' w w' D D' := by
  have hsame : ∀ j ∈ u, Same γ γ' h h' w w' D D' j := fun j hj => s.same hh (fun e => hku (e ▸ hj))
  refine ⟨hp, hd, fun j hj => by rw [hu]; exact List.mem_cons_of_mem _ hj, hsame, s.ok hh hp hd hs (fun j hj => by rw [hu]; exact List.mem_cons_of_mem _ hj) (fun _ => by rw [hu]; exact List.mem_cons_self ..) hsame hn, f1, f2, f3, hs, f4, f5, f6, f7, fun j hj e => ?_⟩
  have hne : j ≠ k := by omega
  refine ⟨fun e' => e ?_, fun _ => s.g j hne⟩
  rcases s.st j hne with q | q
  · rw [q]; exact e'
  · exact q
end
end
end Go.AM
