/- A part of the proof: machine and program. -/
import Derived.Test.YtpdifkaeiecdpaaAm05
namespace Go.AM
open Go.RowKit Go.Lib
section
variable [Reg]

/-- From one heap to the next: what is kept. -/
structure Stp (γ γ' : Gh) (h h' : Heap) (u u' : List Nat) (w w' : World) (D D' : Dead) : Prop where
  pres : Pres D w w'
  dd : ∀ b o, D b o → D' b o
  uu : ∀ k ∈ u, k ∈ u'
  same : ∀ k ∈ u, Same γ γ' h h' w w' D D' k
  ok : HOk γ' h' u' w' D'
  os : w'.os = w.os
  tape : w'.tape = w.tape
  output : w'.output = w.output
  size : w.heap.size ≤ w'.heap.size
  blk : ∀ b, b < w.heap.size → γ.own b = none → w'.heap[b]? = w.heap[b]? ∧ ∀ o, D' b o → D b o
  lg : ∀ b n, Blk w b n → Blk w' b n
  ow : ∀ b k, γ'.own b = some k → w.heap.size ≤ b ∨ γ.own b ≠ none
  dl : ∀ b o, D' b o → b < w'.heap.size
  lo : ∀ k, k < 1000 → find k h' ≠ none → find k h ≠ none ∧ ((∀ t xs, find k h' ≠ some (.fz t xs)) → γ'.g k = γ.g k)

section
variable {P : Program} {c : Ctx} {γ γ' γ'' : Gh} {D D' D'' : Dead} {st : St} {a : Act} {w w' w'' : World} {tb : Tb} {h h' h'' : Heap} {u u' u'' : List Nat}

theorem Inv.step (hi : Inv c γ D st a w) (s : Stp γ γ' st.h h' st.u u' w w' D D') : Inv c γ' D' { st with h := h', u := u' } a w' := by
  have hB : ∀ b, b < c.w.heap.size → c.γ.own b = none → b < w.heap.size ∧ γ.own b = none := by
    intro b hb hn
    refine ⟨Nat.lt_of_lt_of_le hb hi.size, ?_⟩
    cases ho : γ.own b with
    | none => rfl
    | some k =>
      rcases hi.ow b k ho with q | q
      · omega
      · exact absurd hn q
  refine ⟨hi.nt, hi.dfr, fun t => (hi.tm t).mono s.pres s.dd s.uu s.same, s.ok, s.os.trans hi.os, s.tape.trans hi.tape, s.output.trans hi.output, Nat.le_trans hi.size s.size,
    fun b hb hn => ((s.blk b (hB b hb hn).1 (hB b hb hn).2).1).trans (hi.block b hb hn), fun b n hb => s.lg b n (hi.lg b n hb), fun b k ho => ?_, ⟨fun b o hd => s.dd b o (hi.dd.1 b o hd), fun b o hb hn hd => hi.dd.2 b o hb hn ((s.blk b (hB b hb hn).1 (hB b hb hn).2).2 o hd)⟩, s.dl, ?_, ?_, ?_, ?_⟩
  · rcases s.ow b k ho with q | q
    · exact .inl (Nat.le_trans hi.size q)
    · cases ho' : γ.own b with
      | none => exact absurd ho' q
      | some k' => exact hi.ow b k' ho'
  · intro k hk cs hf
    obtain ⟨h1, h2⟩ := s.lo k hk (by rw [hf]; simp)
    obtain ⟨⟨cs', e1⟩, _⟩ := (s.same k (hi.hp.u k h1)).box cs hf
    exact ⟨(hi.ob k hk cs' e1).1, (h2 (by rw [hf]; simp)).trans (hi.ob k hk cs' e1).2⟩
  · intro k hk t xs hf
    obtain ⟨h1, h2⟩ := s.lo k hk (by rw [hf]; simp)
    obtain ⟨⟨xs', e1, e2⟩, e3, e4⟩ := (s.same k (hi.hp.u k h1)).row t xs hf
    obtain ⟨⟨xs0, q1, q2⟩, q3, q4⟩ := hi.or k hk t xs' e1
    have h2 := h2 (by rw [hf]; simp)
    refine ⟨⟨xs0, q1, q2.trans e2⟩, h2.trans q3, ?_⟩
    rw [h2]
    exact fun ho => (e4 (q4 ho)).1
  · intro k hk t xs hf
    obtain ⟨h1, h2⟩ := s.lo k hk (by rw [hf]; simp)
    rcases (s.same k (hi.hp.u k h1)).fz t xs hf with e1 | ⟨⟨xs', e1, e0⟩, e2⟩
    · refine (hi.ofz k hk t xs e1).imp id ?_
      rintro ⟨q1, q2⟩
      refine ⟨q1, q2.imp id ?_⟩
      rintro ⟨f, q3⟩
      exact ⟨f, fun q c' hq => ⟨s.dd _ _ (q3 q c' hq).1, (s.pres _ _ (q3 q c' hq).1).trans (q3 q c' hq).2.1, (q3 q c' hq).2.2.mono s.pres s.dd⟩⟩
    · obtain ⟨⟨xs0, q0, q1⟩, q2, _⟩ := hi.or k hk t xs' e1
      rw [q2] at e2
      exact .inr ⟨⟨xs0, q0, q1.trans e0⟩, e2⟩
  · intro k hk hf
    obtain ⟨h1, h2⟩ := s.lo k hk (by rw [hf]; simp)
    exact hi.ot k hk ((s.same k (hi.hp.u k h1)).tok hf).1

end

section
variable {P : Program} {c : Ctx} {γ γ' γ'' : Gh} {D D' D'' : Dead} {st : St} {a : Act} {w w' w'' : World} {tb : Tb} {h h' h'' : Heap} {u u' u'' : List Nat}
/-- One number's object is another one, some are gone. -/
structure Upd (γ γ' : Gh) (h h' : Heap) (w w' : World) (D D' : Dead) (K : Nat) : Prop where
  st : ∀ k, k ≠ K → find k h' = find k h ∨ find k h' = none
  g : ∀ k, k ≠ K → γ'.g k = γ.g k
  o1 : ∀ b k, k ≠ K → γ'.own b = some k → γ.own b = some k ∧ find k h' ≠ none ∧ w'.heap[b]? = w.heap[b]? ∧ ∀ o, D' b o → D b o
  o2 : ∀ b k, k ≠ K → γ.own b = some k → find k h' ≠ none → γ'.own b = some k
theorem Upd.same {k : Nat} (s : Upd γ γ' h h' w w' D D' k) (_hh : HOk γ h u w D) {k' : Nat} (hk : k' ≠ k) : Same γ γ' h h' w w' D D' k' := by
  have hf : ∀ {o}, find k' h' = some o → find k' h = some o := fun {o} e => by
    rcases s.st k' hk with q | q
    · rw [← q]; exact e
    · rw [q] at e; cases e
  have hb : ∀ {o}, find k' h' = some o → γ.own (γ.g k').1 = some k' → γ'.own (γ.g k').1 = some k' ∧ w'.heap[(γ.g k').1]? = w.heap[(γ.g k').1]? ∧ ∀ o, D' (γ.g k').1 o → D (γ.g k').1 o := fun {o} e ho => by
    have h1 := s.o2 _ k' hk ho (by rw [e]; simp)
    obtain ⟨_, _, h2, h3⟩ := s.o1 _ k' hk h1
    exact ⟨h1, h2, h3⟩
  exact ⟨fun cs e => ⟨⟨cs, hf e⟩, by rw [s.g k' hk]⟩, fun t xs e => ⟨⟨xs, hf e, rfl⟩, s.g k' hk, fun ho => ⟨(hb e ho).1, fun n ⟨vs, E, q1, q2⟩ => ⟨vs, E, (hb e ho).2.1.trans q1, q2⟩⟩⟩, fun t xs e => .inl (hf e), fun e => ⟨hf e, s.g k' hk, fun ho => ⟨(hb e ho).1, fun n ⟨vs, E, fr, q1, q2⟩ => ⟨vs, E, fr, (hb e ho).2.1.trans q1, q2⟩, (hb e ho).2.2⟩⟩⟩

/-- What the new object must be. -/
structure NewOk (γ' : Gh) (h' : Heap) (u' : List Nat) (w' : World) (D' : Dead) (K : Nat) : Prop where
  box : ∀ cs, find K h' = some (.box cs) → γ'.own (γ'.g K).1 = some K ∧ ∃ vs E, w'.heap[(γ'.g K).1]? = some (.cells vs E (0, 0)) ∧ RepL γ' h' u' w' D' cs vs
  row : ∀ t xs, find K h' = some (.row t xs) → xs = [] ∨ (γ'.own (γ'.g K).1 = some K ∧ ∃ vs E, w'.heap[(γ'.g K).1]? = some (.cells vs E (0, 0)) ∧ (γ'.g K).2 + xs.length * szR t ≤ vs.size ∧ ∀ (q : Nat) (c : AV) (v : Value), (flat t xs)[q]? = some c → vs[(γ'.g K).2 + q]? = some v → RepD w' D' c v)
  own : ∀ b, γ'.own b = some K → b < w'.heap.size ∧ find K h' ≠ none ∧ b = (γ'.g K).1
  lv : ∀ b, γ'.own b = some K → find K h' ≠ some .tok → ∀ o, ¬ D' b o
theorem Upd.ok {k : Nat} (s : Upd γ γ' h h' w w' D D' k) (hh : HOk γ h u w D) (hp : Pres D w w') (hd : ∀ b o, D b o → D' b o) (hs : w.heap.size ≤ w'.heap.size) (hu : ∀ j ∈ u, j ∈ u') (hk : find k h' ≠ none → k ∈ u') (hsame : ∀ j ∈ u, Same γ γ' h h' w w' D D' j) (hn : NewOk γ' h' u' w' D' k) : HOk γ' h' u' w' D' := by
  have hf : ∀ {j o}, j ≠ k → find j h' = some o → find j h = some o := fun {j o} hj e => by
    rcases s.st j hj with q | q
    · rw [← q]; exact e
    · rw [q] at e; cases e
  refine ⟨fun j cs e => ?_, fun j t xs e => ?_, fun b j ho => ?_, fun b j ho e o hD => ?_, fun j e => ?_⟩
  · by_cases hj : j = k
    · subst hj
      obtain ⟨h1, vs, E, h2, h3⟩ := hn.box cs e
      exact ⟨h1, vs, E, h2, h3.1, h3.2⟩
    · obtain ⟨q1, vs, E, q2, q3, q4⟩ := hh.box j cs (hf hj e)
      have h1 := s.o2 _ j hj q1 (by rw [e]; simp)
      obtain ⟨_, _, h2, _⟩ := s.o1 _ j hj h1
      rw [s.g j hj]
      exact ⟨h1, vs, E, h2.trans q2, q3, fun i c v hi hv => ⟨(q4 i c v hi hv).1.mono hp hd hu hsame, (q4 i c v hi hv).2⟩⟩
  · by_cases hj : j = k
    · subst hj
      exact hn.row t xs e
    · refine (hh.row j t xs (hf hj e)).imp id ?_
      rintro ⟨q1, vs, E, q2, q3, q4⟩
      have h1 := s.o2 _ j hj q1 (by rw [e]; simp)
      obtain ⟨_, _, h2, _⟩ := s.o1 _ j hj h1
      rw [s.g j hj]
      exact ⟨h1, vs, E, h2.trans q2, q3, fun q c v hi hv => (q4 q c v hi hv).mono hp hd⟩
  · by_cases hj : j = k
    · subst hj
      exact hn.own b ho
    · obtain ⟨h1, h2, _⟩ := s.o1 b j hj ho
      obtain ⟨h3, _, h4⟩ := hh.own b j h1
      exact ⟨Nat.lt_of_lt_of_le h3 hs, h2, by rw [s.g j hj]; exact h4⟩
  · by_cases hj : j = k
    · subst hj
      exact hn.lv b ho e o hD
    · obtain ⟨h1, h2, _, h3⟩ := s.o1 b j hj ho
      refine hh.lv b j h1 (fun e' => ?_) o (h3 o hD)
      rcases s.st j hj with q | q
      · exact e (q.trans e')
      · exact h2 q
  · by_cases hj : j = k
    · subst hj
      exact hk e
    · refine hu j (hh.u j fun e' => e ?_)
      rcases s.st j hj with q | q
      · rw [q]; exact e'
      · exact q

/-- A new object. -/
theorem Upd.stp_new {k : Nat} (s : Upd γ γ' h h' w w' D D' k) (hh : HOk γ h u w D) (hku : k ∉ u) (hp : Pres D w w') (hd : ∀ b o, D b o → D' b o) (hs : w.heap.size ≤ w'.heap.size) (hu : u' = k :: u) (hn : NewOk γ' h' u' w' D' k)
    (f1 : w'.os = w.os) (f2 : w'.tape = w.tape) (f3 : w'.output = w.output) (f4 : ∀ b, b < w.heap.size → γ.own b = none → w'.heap[b]? = w.heap[b]? ∧ ∀ o, D' b o → D b o) (f5 : ∀ b n, Blk w b n → Blk w' b n) (f6 : ∀ b k, γ'.own b = some k → w.heap.size ≤ b ∨ γ.own b ≠ none) (f7 : ∀ b o, D' b o → b < w'.heap.size) (hk : 1000 ≤ k) : Stp γ γ' h h' u u' w w' D D' := by
  have hsame : ∀ j ∈ u, Same γ γ' h h' w w' D D' j := fun j hj => s.same hh (fun e => hku (e ▸ hj))
  refine ⟨hp, hd, fun j hj => by rw [hu]; exact List.mem_cons_of_mem _ hj, hsame, s.ok hh hp hd hs (fun j hj => by rw [hu]; exact List.mem_cons_of_mem _ hj) (fun _ => by rw [hu]; exact List.mem_cons_self ..) hsame hn, f1, f2, f3, hs, f4, f5, f6, f7, fun j hj e => ?_⟩
  have hne : j ≠ k := by omega
  refine ⟨fun e' => e ?_, fun _ => s.g j hne⟩
  rcases s.st j hne with q | q
  · rw [q]; exact e'
  · exact q
end
end
end Go.AM
namespace Go.AM
open Go.RowKit Go.Lib
section
variable [Reg]
section
variable {P : Program} {c : Ctx} {γ γ' γ'' : Gh} {D D' D'' : Dead} {st : St} {a : Act} {w w' w'' : World} {tb : Tb} {h h' h'' : Heap} {u u' u'' : List Nat}

/-- A block of its own for a number. -/
def Gh.new (γ : Gh) (k b o : Nat) : Gh := ⟨fun j => if j = k then (b, o) else γ.g j, fun b' => if b' = b then some k else γ.own b'⟩
/-- A number with no block. -/
def Gh.bare (γ : Gh) (k : Nat) : Gh := ⟨fun j => if j = k then (0, 0) else γ.g j, γ.own⟩

theorem own_lt (hh : HOk γ h u w D) {b k : Nat} (ho : γ.own b = some k) : b ≠ w.heap.size := by
  have := (hh.own b k ho).1
  omega
/-- A new block, a new number. -/
theorem stp_new (hi : Inv c γ D st a w) {k : Nat} (hk : isNew st.u k = true) (h1000 : 1000 ≤ k) {o' : Ob} {vs : Array Value} {E : Nat} {fr : Nat × Nat} (hfr : o' = .tok ∨ fr = (0, 0)) (hD : D' = D ∨ (o' = .tok ∧ ∃ n, D' = deadNew D w.heap.size n)) (hb : Below w.heap.size w w') (hsz : w'.heap.size = w.heap.size + 1) (hat : w'.heap[w.heap.size]? = some (.cells vs E fr))
    (hbox : ∀ cs, o' = .box cs → RepL γ st.h st.u w D cs vs) (hrow : ∀ t xs, o' = .row t xs → xs.length * szR t ≤ vs.size ∧ ∀ (q : Nat) (c : AV) (v : Value), (flat t xs)[q]? = some c → vs[q]? = some v → RepD w D c v) :
    Stp γ (γ.new k w.heap.size 0) st.h (AM.put k o' st.h) st.u (k :: st.u) w w' D D' := by
  have hku : k ∉ st.u := by simpa [isNew] using hk
  have hd : ∀ b o, D b o → D' b o := fun b o hx => by
    rcases hD with rfl | ⟨_, n, rfl⟩
    · exact hx
    · exact .inl hx
  have hd2 : ∀ b o, b < w.heap.size → D' b o → D b o := fun b o hlt hx => by
    rcases hD with rfl | ⟨_, n, rfl⟩
    · exact hx
    · exact hx.resolve_right fun hh => by omega
  have hp := hi.pres hb
  have hfk : find k (AM.put k o' st.h) = some o' := find_put_same _ _ _
  have hg : (γ.new k w.heap.size 0).g k = (w.heap.size, 0) := by simp [Gh.new]
  have hfn : find k st.h = none := by
    cases hf : find k st.h with
    | none => rfl
    | some o => exact absurd (hi.hp.u k (by rw [hf]; simp)) hku
  have hU : Upd γ (γ.new k w.heap.size 0) st.h (AM.put k o' st.h) w w' D D' k := by
    refine ⟨fun j hj => .inl (find_put_ne hj _ _), fun j hj => by simp [Gh.new, hj], fun b j hj ho => ?_, fun b j hj ho _ => ?_⟩
    · simp only [Gh.new] at ho
      split at ho
      · simp only [Option.some.injEq] at ho; exact absurd ho.symm hj
      · have hlt := (hi.hp.own b j ho).1
        exact ⟨ho, by rw [find_put_ne hj]; exact (hi.hp.own b j ho).2.1, hb.block b hlt, fun o => hd2 b o hlt⟩
    · simp only [Gh.new]
      rw [if_neg (own_lt hi.hp ho)]
      exact ho
  have hsame : ∀ j ∈ st.u, Same γ (γ.new k w.heap.size 0) st.h (AM.put k o' st.h) w w' D D' j := fun j hj => hU.same hi.hp (fun e => hku (e ▸ hj))
  have hownk : (γ.new k w.heap.size 0).own w.heap.size = some k := by simp [Gh.new]
  refine hU.stp_new hi.hp hku hp hd hb.size rfl ⟨fun cs e => ?_, fun t xs e => ?_, fun b ho => ?_, fun b ho e o hDD => ?_⟩ hb.os hb.tape hb.output (fun b hlt _ => ⟨hb.block b hlt, fun o => hd2 b o hlt⟩) (fun b n hn => hn.below hb) (fun b j ho => ?_) (fun b o hDD => ?_) h1000
  · rw [hfk] at e
    simp only [Option.some.injEq] at e
    rw [hg]
    have hR := hbox cs e
    have hfr : fr = (0, 0) := hfr.resolve_left (by rw [e]; simp)
    subst hfr
    exact ⟨hownk, vs, E, hat, hR.1, fun i c v h1 h2 => ⟨(hR.2 i c v h1 h2).1.mono hp hd (fun j hj => List.mem_cons_of_mem _ hj) hsame, (hR.2 i c v h1 h2).2⟩⟩
  · rw [hfk] at e
    simp only [Option.some.injEq] at e
    rw [hg]
    obtain ⟨h1, h2⟩ := hrow t xs e
    have hfr : fr = (0, 0) := hfr.resolve_left (by rw [e]; simp)
    subst hfr
    refine .inr ⟨hownk, vs, E, hat, by simpa using h1, fun q c v hq hv => ?_⟩
    simp only [Nat.zero_add] at hv
    exact (h2 q c v hq hv).mono hp hd
  · simp only [Gh.new] at ho
    split at ho
    · rename_i e; subst e; exact ⟨by omega, by rw [hfk]; simp, by rw [hg]⟩
    · exact absurd hfn (hi.hp.own b k ho).2.1
  · simp only [Gh.new] at ho
    split at ho
    · rename_i e1
      subst e1
      rcases hD with rfl | ⟨rfl, n, rfl⟩
      · have := hi.dl _ _ hDD; omega
      · rw [hfk] at e; simp at e
    · exact absurd hfn (hi.hp.own b k ho).2.1
  · simp only [Gh.new] at ho
    split at ho
    · rename_i e; exact .inl (by omega)
    · exact .inr (by rw [ho]; simp)
  · rcases hD with rfl | ⟨_, n, rfl⟩
    · have := hi.dl b o hDD; omega
    · rcases hDD with hDD | ⟨rfl, _⟩
      · have := hi.dl b o hDD; omega
      · omega

/-- A new number that needs no block. -/
theorem stp_bare (hi : Inv c γ D st a w) {k : Nat} (hk : isNew st.u k = true) (h1000 : 1000 ≤ k) {o' : Ob} (ho : o' = .tok ∨ ∃ t, o' = .row t []) :
    Stp γ (γ.bare k) st.h (AM.put k o' st.h) st.u (k :: st.u) w w D D := by
  have hku : k ∉ st.u := by simpa [isNew] using hk
  have hfk : find k (AM.put k o' st.h) = some o' := find_put_same _ _ _
  have hfn : find k st.h = none := by
    cases hf : find k st.h with
    | none => rfl
    | some o => exact absurd (hi.hp.u k (by rw [hf]; simp)) hku
  have hno : ∀ b, γ.own b ≠ some k := fun b e => (hi.hp.own b k e).2.1 hfn
  have hU : Upd γ (γ.bare k) st.h (AM.put k o' st.h) w w D D k :=
    ⟨fun j hj => .inl (find_put_ne hj _ _), fun j hj => by simp [Gh.bare, hj], fun b j hj ho => ⟨ho, by rw [find_put_ne hj]; exact (hi.hp.own b j ho).2.1, rfl, fun _ h => h⟩, fun b j hj ho _ => ho⟩
  refine hU.stp_new hi.hp hku (fun _ _ _ => rfl) (fun _ _ h => h) (Nat.le_refl _) rfl ⟨fun cs e => ?_, fun t xs e => ?_, fun b ho => absurd ho (hno b), fun b ho => absurd ho (hno b)⟩ rfl rfl rfl (fun b _ _ => ⟨rfl, fun _ h => h⟩) (fun b n h => h) (fun b j ho => .inr (by rw [show γ.own b = some j from ho]; simp)) hi.dl h1000
  · rw [hfk] at e
    rcases ho with rfl | ⟨t, rfl⟩ <;> cases e
  · rw [hfk] at e
    rcases ho with rfl | ⟨t, rfl⟩
    · cases e
    · cases e; exact .inl rfl
end
end
end Go.AM
namespace Go.AM
open Go.RowKit Go.Lib
section
variable [Reg]
section
variable {P : Program} {c : Ctx} {γ γ' γ'' : Gh} {D D' D'' : Dead} {st : St} {a : Act} {w w' w'' : World} {tb : Tb} {h h' h'' : Heap} {u u' u'' : List Nat}

def Gh.drop (γ : Gh) (k : Nat) : Gh := ⟨γ.g, fun b => if γ.own b = some k then none else γ.own b⟩
theorem own_uniq (hh : HOk γ h u w D) {b b' k : Nat} (h1 : γ.own b = some k) (h2 : γ.own b' = some k) : b = b' := (hh.own b k h1).2.2.trans (hh.own b' k h2).2.2.symm
/-- More that is dead, in a number's own block, when the number goes. -/
structure Dies (γ : Gh) (w : World) (D D' : Dead) (k : Nat) : Prop where
  dd : ∀ b o, D b o → D' b o
  d2 : ∀ b o, γ.own b ≠ some k → D' b o → D b o
  dl : ∀ b o, D' b o → b < w.heap.size
theorem Dies.refl (hi : Inv c γ D st a w) (k : Nat) : Dies γ w D D k := ⟨fun _ _ h => h, fun _ _ _ h => h, hi.dl⟩

/-- An object goes, or is frozen. -/
theorem stp_del (hi : Inv c γ D st a w) (k : Nat) (hd : Dies γ w D D' k) {h' : Heap} (hf : ∀ j, j ≠ k → find j h' = find j st.h)
    (hk : find k h' = none ∨ ∃ t xs, find k h' = some (.fz t xs) ∧ find k st.h = some (.row t xs) ∧ (xs = [] ∨ ∃ f : Nat → Value, ∀ (q : Nat) (c : AV), (flat t xs)[q]? = some c → D' (γ.g k).1 ((γ.g k).2 + q) ∧ w.cell? ⟨(γ.g k).1, (γ.g k).2 + q, none⟩ = some (f q) ∧ RepD w D' c (f q))) :
    Stp γ (γ.drop k) st.h h' st.u st.u w w D D' := by
  have hU : Upd γ (γ.drop k) st.h h' w w D D' k := by
    refine ⟨fun j hj => .inl (hf j hj), fun j hj => rfl, fun b j hj ho => ?_, fun b j hj ho _ => ?_⟩
    · simp only [Gh.drop] at ho
      split at ho
      · simp at ho
      · rename_i hne
        exact ⟨ho, by rw [hf j hj]; exact (hi.hp.own b j ho).2.1, rfl, fun o => hd.d2 b o hne⟩
    · simp only [Gh.drop]
      rw [if_neg (by rw [ho]; simpa using hj)]
      exact ho
  have hno : ∀ b, (γ.drop k).own b ≠ some k := by
    intro b ho
    simp only [Gh.drop] at ho
    split at ho
    · simp at ho
    · exact absurd ho (by assumption)
  have hsame : ∀ j ∈ st.u, Same γ (γ.drop k) st.h h' w w D D' j := by
    intro j hj
    by_cases e : j = k
    · subst e
      rcases hk with hk | ⟨t, xs, h1, h2, h3⟩
      · exact ⟨fun cs e => by rw [hk] at e; simp at e, fun t xs e => by rw [hk] at e; simp at e, fun t xs e => by rw [hk] at e; simp at e, fun e => by rw [hk] at e; simp at e⟩
      · refine ⟨fun cs e => by rw [h1] at e; simp at e, fun t xs e => by rw [h1] at e; simp at e, fun t' xs' e => ?_, fun e => by rw [h1] at e; simp at e⟩
        rw [h1] at e
        cases e
        exact .inr ⟨⟨xs, h2, rfl⟩, h3⟩
    · exact hU.same hi.hp e
  have hp : Pres D w w := fun _ _ _ => rfl
  refine ⟨hp, hd.dd, fun _ h => h, hsame, hU.ok hi.hp hp hd.dd (Nat.le_refl _) (fun _ h => h) (fun e => ?_) hsame ⟨fun cs e => ?_, fun t xs e => ?_, fun b ho => absurd ho (hno b), fun b ho => absurd ho (hno b)⟩, rfl, rfl, rfl, Nat.le_refl _, fun b hb hn => ⟨rfl, fun o => hd.d2 b o (by rw [hn]; simp)⟩, fun _ _ h => h, fun b j ho => ?_, hd.dl, fun j hj e => ⟨?_, fun _ => rfl⟩⟩
  · rcases hk with hk | ⟨t, xs, h1, h2, h3⟩
    · exact absurd hk e
    · exact hi.hp.u k (by rw [h2]; simp)
  · rcases hk with hk | ⟨t, xs, h1, h2, h3⟩
    · rw [hk] at e; simp at e
    · rw [h1] at e; simp at e
  · rcases hk with hk | ⟨t, xs, h1, h2, h3⟩
    · rw [hk] at e; simp at e
    · rw [h1] at e; simp at e
  · simp only [Gh.drop] at ho
    split at ho
    · simp at ho
    · exact .inr (by rw [ho]; simp)
  · by_cases e1 : j = k
    · subst e1
      rcases hk with hk | ⟨t, xs, h1, h2, h3⟩
      · exact absurd hk e
      · rw [h2]; simp
    · rw [← hf j e1]; exact e

def Gh.move (γ : Gh) (K b o : Nat) : Gh := ⟨fun j => if j = K then (b, o) else γ.g j, fun b' => if b' = b then some K else γ.own b'⟩
/-- What a world that differs in one block is. -/
structure OneBlk (w w' : World) (b : Nat) (vs' : Array Value) (E : Nat) (fr : Nat × Nat) : Prop where
  at_ : w'.heap[b]? = some (.cells vs' E fr)
  other : ∀ b', b' ≠ b → w'.heap[b']? = w.heap[b']?
  size : w'.heap.size = w.heap.size
  os : w'.os = w.os
  tape : w'.tape = w.tape
  output : w'.output = w.output
  big : ∀ vs E, w.heap[b]? = some (.cells vs E (0, 0)) → fr = (0, 0) ∧ vs.size ≤ vs'.size

omit [Reg] in
theorem OneBlk.lg {b : Nat} {vs' : Array Value} {E : Nat} {fr : Nat × Nat} (ho : OneBlk w w' b vs' E fr) (b' n : Nat) (hb : Blk w b' n) : Blk w' b' n := by
  obtain ⟨vs, E', h1, h2⟩ := hb
  by_cases e : b' = b
  · subst e
    exact ⟨vs', E, (ho.big _ _ h1).1 ▸ ho.at_, Nat.le_trans h2 (ho.big _ _ h1).2⟩
  · exact ⟨vs, E', (ho.other b' e).trans h1, h2⟩

/-- An object's block is turned, and the object with it: under its own number, or under a new one. -/
theorem stp_turn (hi : Inv c γ D st a w) {k K : Nat} (hown : γ.own (γ.g k).1 = some k) (hK : K = k ∨ (isNew st.u K = true ∧ 1000 ≤ K)) {o' : Ob} {h' : Heap} (hf : ∀ j, j ≠ K → j ≠ k → find j h' = find j st.h) (hkk : K ≠ k → find k h' = none) (hKK : find K h' = some o')
    {vs' : Array Value} {E : Nat} {fr : Nat × Nat} (hfr : o' = .tok ∨ fr = (0, 0)) (hw : OneBlk w w' (γ.g k).1 vs' E fr) (hp : Pres D w w') (hd : ∀ b o, D b o → D' b o) (hd2 : ∀ b o, b ≠ (γ.g k).1 → D' b o → D b o) (hd3 : ∀ b o, D' b o → b < w.heap.size) (hd4 : o' ≠ .tok → ∀ o, ¬ D' (γ.g k).1 o)
    (hsame : K = k → (∀ cs, o' = .box cs → ∃ cs0, find k st.h = some (.box cs0)) ∧ (∀ t xs, o' = .row t xs → ∃ xs0, find k st.h = some (.row t xs0) ∧ xs0.length = xs.length) ∧ o' ≠ .tok ∧ ∀ t xs, o' ≠ .fz t xs)
    (hbox : ∀ cs, o' = .box cs → (γ.g k).2 = (γ.g k).2 ∧ RepL γ st.h st.u w D cs vs') (hrow : ∀ t xs, o' = .row t xs → (γ.g k).2 + xs.length * szR t ≤ vs'.size ∧ ∀ (q : Nat) (c : AV) (v : Value), (flat t xs)[q]? = some c → vs'[(γ.g k).2 + q]? = some v → RepD w D c v) :
    Stp γ (γ.move K (γ.g k).1 (γ.g k).2) st.h h' st.u (bif Nat.beq K k then st.u else K :: st.u) w w' D D' := by
  have hlt := (hi.hp.own _ k hown).1
  have hku : k ∈ st.u := hi.hp.u k (hi.hp.own _ k hown).2.1
  have hfn : K ≠ k → find K st.h = none := by
    intro hne
    rcases hK with e | ⟨e, _⟩
    · exact absurd e hne
    · cases hf : find K st.h with
      | none => rfl
      | some o => exact absurd (hi.hp.u K (by rw [hf]; simp)) (by simpa [isNew] using e)
  have hgK : (γ.move K (γ.g k).1 (γ.g k).2).g K = γ.g k := by simp [Gh.move]
  have hoK : (γ.move K (γ.g k).1 (γ.g k).2).own (γ.g k).1 = some K := by simp [Gh.move]
  have hoi : ∀ {b j}, (γ.move K (γ.g k).1 (γ.g k).2).own b = some j → (b = (γ.g k).1 ∧ j = K) ∨ (b ≠ (γ.g k).1 ∧ γ.own b = some j) := by
    intro b j ho
    simp only [Gh.move] at ho
    split at ho
    · rename_i e; exact .inl ⟨e, by simpa using ho.symm⟩
    · rename_i e; exact .inr ⟨e, ho⟩
  have hjk : ∀ {b j}, b ≠ (γ.g k).1 → γ.own b = some j → j ≠ k := by
    intro b j hb ho e
    subst e
    exact hb (hi.hp.own b j ho).2.2
  have hU : Upd γ (γ.move K (γ.g k).1 (γ.g k).2) st.h h' w w' D D' K := by
    refine ⟨fun j hj => ?_, fun j hj => by simp [Gh.move, hj], fun b j hj ho => ?_, fun b j hj ho e => ?_⟩
    · by_cases e : j = k
      · subst e; exact .inr (hkk (Ne.symm hj))
      · exact .inl (hf j hj e)
    · rcases hoi ho with ⟨_, e⟩ | ⟨e, ho'⟩
      · exact absurd e hj
      · exact ⟨ho', by rw [hf j hj (hjk e ho')]; exact (hi.hp.own b j ho').2.1, hw.other b e, fun o => hd2 b o e⟩
    · simp only [Gh.move]
      split
      · rename_i e1
        rw [e1, hown] at ho
        simp only [Option.some.injEq] at ho
        subst ho
        exact absurd (hkk (Ne.symm hj)) e
      · exact ho
  have hs : ∀ j ∈ st.u, Same γ (γ.move K (γ.g k).1 (γ.g k).2) st.h h' w w' D D' j := by
    intro j hj
    by_cases e : j = K
    · subst e
      rcases hK with e | ⟨e, _⟩
      · subst e
        obtain ⟨s1, s2, s3, s4⟩ := hsame rfl
        refine ⟨fun cs e => ?_, fun t xs e => ?_, fun t xs e => ?_, fun e => ?_⟩
        · rw [hKK] at e
          exact ⟨s1 cs (by simpa using e), by rw [hgK]⟩
        · rw [hKK] at e
          exact ⟨s2 t xs (by simpa using e), hgK, fun _ => ⟨hoK, hw.lg _⟩⟩
        · rw [hKK] at e; exact absurd (by simpa using e) (s4 t xs)
        · rw [hKK] at e; exact absurd (by simpa using e) s3
      · exact absurd hj (by simpa [isNew] using e)
    · exact hU.same hi.hp e
  have hu' : ∀ j ∈ st.u, j ∈ (bif Nat.beq K k then st.u else K :: st.u) := by
    intro j hj
    cases Nat.beq K k
    · exact List.mem_cons_of_mem _ hj
    · exact hj
  have hKu : K ∈ (bif Nat.beq K k then st.u else K :: st.u) := by
    cases hb : Nat.beq K k
    · exact List.mem_cons_self ..
    · rw [Nat.eq_of_beq_eq_true hb]; exact hku
  refine ⟨hp, hd, hu', hs, hU.ok hi.hp hp hd (Nat.le_of_eq hw.size.symm) hu' (fun _ => hKu) hs ⟨fun cs e => ?_, fun t xs e => ?_, fun b ho => ?_, fun b ho e o hDD => ?_⟩, hw.os, hw.tape, hw.output, Nat.le_of_eq hw.size.symm, fun b hb hn => ?_, hw.lg, fun b j ho => ?_, fun b o hDD => by rw [hw.size]; exact hd3 b o hDD, fun j hj e => ?_⟩
  · rw [hKK] at e
    simp only [Option.some.injEq] at e
    rw [hgK]
    have hR := (hbox cs e).2
    exact ⟨hoK, vs', E, (hfr.resolve_left (by rw [e]; simp)) ▸ hw.at_, hR.1, fun i c v h1 h2 => ⟨(hR.2 i c v h1 h2).1.mono hp hd hu' hs, (hR.2 i c v h1 h2).2⟩⟩
  · rw [hKK] at e
    simp only [Option.some.injEq] at e
    rw [hgK]
    obtain ⟨h1, h2⟩ := hrow t xs e
    exact .inr ⟨hoK, vs', E, (hfr.resolve_left (by rw [e]; simp)) ▸ hw.at_, h1, fun q c v hq hv => (h2 q c v hq hv).mono hp hd⟩
  · rcases hoi ho with ⟨e, _⟩ | ⟨e, ho'⟩
    · subst e; exact ⟨by rw [hw.size]; exact hlt, by rw [hKK]; simp, by rw [hgK]⟩
    · exfalso
      rcases hK with e1 | ⟨e1, _⟩
      · subst e1; exact hjk e ho' rfl
      · exact absurd (hi.hp.u K (hi.hp.own b K ho').2.1) (by simpa [isNew] using e1)
  · rcases hoi ho with ⟨e1, _⟩ | ⟨e1, ho'⟩
    · subst e1; exact hd4 (fun e2 => e (by rw [hKK, e2])) o hDD
    · rcases hK with e2 | ⟨e2, _⟩
      · subst e2; exact hjk e1 ho' rfl
      · exact absurd (hi.hp.u K (hi.hp.own b K ho').2.1) (by simpa [isNew] using e2)
  · have : b ≠ (γ.g k).1 := fun e => by rw [e, hown] at hn; simp at hn
    exact ⟨hw.other b this, fun o => hd2 b o this⟩
  · rcases hoi ho with ⟨e, _⟩ | ⟨e, ho'⟩
    · subst e; exact .inr (by rw [hown]; simp)
    · exact .inr (by rw [ho']; simp)
  · by_cases e1 : j = K
    · subst e1
      rcases hK with e2 | ⟨_, e2⟩
      · subst e2; exact ⟨(hi.hp.own _ j hown).2.1, fun _ => hgK⟩
      · omega
    · refine ⟨fun e2 => e ?_, fun _ => by simp [Gh.move, e1]⟩
      by_cases e3 : j = k
      · subst e3; exact hkk (Ne.symm e1)
      · rw [hf j e1 e3]; exact e2
end
end
end Go.AM
