/- Soundness: new objects. -/
import Derived.Test.YtpdifkaeiecdpaaAmMK
namespace Go.AM
open Go.RowKit Go.Lib
section
variable [Reg]
section
variable {P : Program} {c : Ctx} {γ γ' γ'' : Gh} {D D' D'' : Dead} {st : St} {a : Act} {w w' w'' : World} {tb : Tb} {h h' h'' : Heap} {u u' u'' : List Nat}

/-- A block of its own for a number. -/
def Gh.new (γ : Gh) (k b o : Nat) : Gh := ⟨fun j => if j = k then (b, o) else γ.g j, fun b' => if b' = b then some k else γ.own b'⟩
/-- A number with no block. -/
def Gh.bare (γ : Gh) (k : Nat) : Gh := ⟨fun j => if j = k then (0, 0) else γ.g j, γ.own⟩

theorem own_lt (hh : HOk γ h u w D) {b k : Nat} (ho : γ.own b = some k) : b ≠ w.heap.size := by
  have := (hh.own b k ho).1
  omega
/-- A new block, a new number. -/
theorem stp_new (hi : Inv c γ D st a w) {k : Nat} (hk : isNew st.u k = true) (h1000 : 1000 ≤ k) {o' : Ob} {vs : Array Value} {E : Nat} {fr : Nat × Nat} (hfr : o' = .tok ∨ fr = (0, 0)) (hD : D' = D ∨ (o' = .tok ∧ ∃ n, D' = deadNew D w.heap.size n)) (hb : Below w.heap.size w w') (hsz : w'.heap.size = w.heap.size + 1) (hat : w'.heap[w.heap.size]? = some (.cells vs E fr))
    (hbox : ∀ cs, o' = .box cs → RepL γ st.h st.u w D cs vs) (hrow : ∀ t xs, o' = .row t xs → xs.length * szR t ≤ vs.size ∧ ∀ (q : Nat) (c : AV) (v : Value), (flat t xs)[q]? = some c → vs[q]? = some v → RepD w D c v) :
    Stp γ (γ.new k w.heap.size 0) st.h (AM.put k o' st.h) st.u (k :: st.u) w w' D D' := by
  have hku : k ∉ st.u := by simpa [isNew] using hk
  have hd : ∀ b o, D b o → D' b o := fun b o hx => by
    rcases hD with rfl | ⟨_, n, rfl⟩
    · exact hx
    · exact .inl hx
  have hd2 : ∀ b o, b < w.heap.size → D' b o → D b o := fun b o hlt hx => by
    rcases hD with rfl | ⟨_, n, rfl⟩
    · exact hx
    · exact hx.resolve_right fun hh => by omega
  have hp := hi.pres hb
  have hfk : find k (AM.put k o' st.h) = some o' := find_put_same _ _ _
  have hg : (γ.new k w.heap.size 0).g k = (w.heap.size, 0) := by simp [Gh.new]
  have hfn : find k st.h = none := by
    cases hf : find k st.h with
    | none => rfl
    | some o => exact absurd (hi.hp.u k (by rw [hf]; simp)) hku
  have hU : Upd γ (γ.new k w.heap.size 0) st.h (AM.put k o' st.h) w w' D D' k := by
    refine ⟨fun j hj => .inl (find_put_ne hj _ _), fun j hj => by simp [Gh.new, hj], fun b j hj ho => ?_, fun b j hj ho _ => ?_⟩
    · simp only [Gh.new] at ho
      split at ho
      · simp only [Option.some.injEq] at ho; exact absurd ho.symm hj
      · have hlt := (hi.hp.own b j ho).1
        exact ⟨ho, by rw [find_put_ne hj]; exact (hi.hp.own b j ho).2.1, hb.block b hlt, fun o => hd2 b o hlt⟩
    · simp only [Gh.new]
      rw [if_neg (own_lt hi.hp ho)]
      exact ho
  have hsame : ∀ j ∈ st.u, Same γ (γ.new k w.heap.size 0) st.h (AM.put k o' st.h) w w' D D' j := fun j hj => hU.same hi.hp (fun e => hku (e ▸ hj))
  have hownk : (γ.new k w.heap.size 0).own w.heap.size = some k := by simp [Gh.new]
  refine hU.stp_new hi.hp hku hp hd hb.size rfl ⟨fun cs e => ?_, fun t xs e => ?_, fun b ho => ?_, fun b ho e o hDD => ?_⟩ hb.os hb.tape hb.output (fun b hlt _ => ⟨hb.block b hlt, fun o => hd2 b o hlt⟩) (fun b n hn => hn.below hb) (fun b j ho => ?_) (fun b o hDD => ?_) h1000
  · rw [hfk] at e
    simp only [Option.some.injEq] at e
    rw [hg]
    have hR := hbox cs e
    have hfr : fr = (0, 0) := hfr.resolve_left (by rw [e]; simp)
    subst hfr
    exact ⟨hownk, vs, E, hat, hR.1, fun i c v h1 h2 => ⟨(hR.2 i c v h1 h2).1.mono hp hd (fun j hj => List.mem_cons_of_mem _ hj) hsame, (hR.2 i c v h1 h2).2⟩⟩
  · rw [hfk] at e
    simp only [Option.some.injEq] at e
    rw [hg]
    obtain ⟨h1, h2⟩ := hrow t xs e
    have hfr : fr = (0, 0) := hfr.resolve_left (by rw [e]; simp)
    subst hfr
    refine .inr ⟨hownk, vs, E, hat, by simpa using h1, fun q c v hq hv => ?_⟩
    simp only [Nat.zero_add] at hv
    exact (h2 q c v hq hv).mono hp hd
  · simp only [Gh.new] at ho
    split at ho
    · rename_i e; subst e; exact ⟨by omega, by rw [hfk]; simp, by rw [hg]⟩
    · exact absurd hfn (hi.hp.own b k ho).2.1
  · simp only [Gh.new] at ho
    split at ho
    · rename_i e1
      subst e1
      rcases hD with rfl | ⟨rfl, n, rfl⟩
      · have := hi.dl _ _ hDD; omega
      · rw [hfk] at e; simp at e
    · exact absurd hfn (hi.hp.own b k ho).2.1
  · simp only [Gh.new] at ho
    split at ho
    · rename_i e; exact .inl (by omega)
    · exact .inr (by rw [ho]; simp)
  · rcases hD with rfl | ⟨_, n, rfl⟩
    · have := hi.dl b o hDD; omega
    · rcases hDD with hDD | ⟨rfl, _⟩
      · have := hi.dl b o hDD; omega
      · omega

/-- A new number that needs no block. -/
theorem stp_bare (hi : Inv c γ D st a w) {k : Nat} (hk : isNew st.u k = true) (h1000 : 1000 ≤ k) {o' : Ob} (ho : o' = .tok ∨ ∃ t, o' = .row t []) :
    Stp γ (γ.bare k) st.h (AM.put k o' st.h) st.u (k :: st.u) w w D D := by
  have hku : k ∉ st.u := by simpa [isNew] using hk
  have hfk : find k (AM.put k o' st.h) = some o' := find_put_same _ _ _
  have hfn : find k st.h = none := by
    cases hf : find k st.h with
    | none => rfl
    | some o => exact absurd (hi.hp.u k (by rw [hf]; simp)) hku
  have hno : ∀ b, γ.own b ≠ some k := fun b e => (hi.hp.own b k e).2.1 hfn
  have hU : Upd γ (γ.bare k) st.h (AM.put k o' st.h) w w D D k :=
    ⟨fun j hj => .inl (find_put_ne hj _ _), fun j hj => by simp [Gh.bare, hj], fun b j hj ho => ⟨ho, by rw [find_put_ne hj]; exact (hi.hp.own b j ho).2.1, rfl, fun _ h => h⟩, fun b j hj ho _ => ho⟩
  refine hU.stp_new hi.hp hku (fun _ _ _ => rfl) (fun _ _ h => h) (Nat.le_refl _) rfl ⟨fun cs e => ?_, fun t xs e => ?_, fun b ho => absurd ho (hno b), fun b ho => absurd ho (hno b)⟩ rfl rfl rfl (fun b _ _ => ⟨rfl, fun _ h => h⟩) (fun b n h => h) (fun b j ho => .inr (by rw [show γ.own b = some j from ho]; simp)) hi.dl h1000
  · rw [hfk] at e
    rcases ho with rfl | ⟨t, rfl⟩ <;> cases e
  · rw [hfk] at e
    rcases ho with rfl | ⟨t, rfl⟩
    · cases e
    · cases e; exact .inl rfl
end
end
end Go.AM
