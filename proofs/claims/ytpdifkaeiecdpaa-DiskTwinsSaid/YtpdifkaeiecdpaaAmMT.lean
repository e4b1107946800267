/- Lists by keys; the kinds of cells; questions. -/
namespace Go.AM
universe u
def find {α : Type u} (k : Nat) : List (Nat × α) → Option α
  | [] => none
  | (m, v) :: r => if k = m then some v else find k r
def put {α : Type u} (k : Nat) (v : α) : List (Nat × α) → List (Nat × α)
  | [] => [(k, v)]
  | (m, u) :: r => if k = m then (k, v) :: r else if k < m then (k, v) :: (m, u) :: r else (m, u) :: put k v r
def del {α : Type u} (k : Nat) : List (Nat × α) → List (Nat × α)
  | [] => []
  | (m, u) :: r => if k = m then del k r else (m, u) :: del k r

/-- What an operation asks before it goes on. -/
inductive Q (α : Type) : Type 1 where
  | ret (a : α)
  | fail
  | ask (c : Bool) (q : Q α)
  | br (c : Bool) (a b : Q α)
  | get {T : Type} (o : Option T) (k : T → Q α)
def getO {T ρ : Type} (o : Option T) (k : T → Option ρ) : Option ρ := match o with | some x => k x | none => none
def Q.run {α ρ : Type} (K : α → Option ρ) : Q α → Option ρ
  | .ret a => K a
  | .fail => none
  | .ask c q => bif c then q.run K else none
  | .br c a b => bif c then a.run K else b.run K
  | .get o k => getO o fun x => (k x).run K
def Q.bind {α β : Type} (K : α → Q β) : Q α → Q β
  | .ret a => K a
  | .fail => .fail
  | .ask c q => .ask c (q.bind K)
  | .br c a b => .br c (a.bind K) (b.bind K)
  | .get o k => .get o fun x => (k x).bind K
/-- The answer, if there is one. -/
def Q.val {α : Type} (q : Q α) : Option α := q.run some
def Q.of {α : Type} : Option α → Q α
  | some a => .ret a
  | none => .fail

theorem Q.run_val {α ρ : Type} {K : α → Option ρ} {r : ρ} : ∀ {q : Q α}, q.run K = some r → ∃ a, q.val = some a ∧ K a = some r
  | .ret a, h => ⟨a, rfl, h⟩
  | .ask c q, h => by
    cases c
    · cases h
    · exact Q.run_val (q := q) h
  | .br c a b, h => by
    cases c
    · exact Q.run_val (q := b) h
    · exact Q.run_val (q := a) h
  | .get o k, h => by
    cases o
    · cases h
    · exact Q.run_val (q := k _) h
theorem Q.val_bind {α β : Type} {K : α → Q β} {b : β} : ∀ {q : Q α}, (q.bind K).val = some b → ∃ a, q.val = some a ∧ (K a).val = some b
  | .ret a, h => ⟨a, rfl, h⟩
  | .ask c q, h => by
    cases c
    · cases h
    · exact Q.val_bind (q := q) h
  | .br c x y, h => by
    cases c
    · exact Q.val_bind (q := y) h
    · exact Q.val_bind (q := x) h
  | .get o k, h => by
    cases o
    · cases h
    · exact Q.val_bind (q := k _) h
theorem Q.val_ask {α : Type} {c : Bool} {q : Q α} {a : α} (h : (Q.ask c q).val = some a) : c = true ∧ q.val = some a := by
  cases c
  · cases h
  · exact ⟨rfl, h⟩
theorem Q.val_br {α : Type} {c : Bool} {p q : Q α} {a : α} (h : (Q.br c p q).val = some a) : (c = true ∧ p.val = some a) ∨ (c = false ∧ q.val = some a) := by
  cases c
  · exact .inr ⟨rfl, h⟩
  · exact .inl ⟨rfl, h⟩
theorem Q.val_get {α T : Type} {o : Option T} {k : T → Q α} {a : α} (h : (Q.get o k).val = some a) : ∃ x, o = some x ∧ (k x).val = some a := by
  cases o
  · cases h
  · exact ⟨_, rfl, h⟩
theorem Q.val_of {α : Type} {o : Option α} {a : α} (h : (Q.of o).val = some a) : o = some a := by
  cases o
  · cases h
  · exact h

theorem find_put_same {α : Type} (k : Nat) (v : α) : ∀ l : List (Nat × α), find k (put k v l) = some v
  | [] => by simp [put, find]
  | (m, u) :: r => by
    unfold put
    split
    · simp [find]
    · split
      · simp [find]
      · simp only [find, *, if_false]
        exact find_put_same k v r
theorem find_put_ne {α : Type} {j k : Nat} (h : j ≠ k) (v : α) : ∀ l : List (Nat × α), find j (put k v l) = find j l
  | [] => by simp [put, find, h]
  | (m, u) :: r => by
    unfold put
    split
    · rename_i e
      subst e
      simp [find, h]
    · split
      · simp [find, h]
      · simp only [find]
        split
        · rfl
        · exact find_put_ne h v r
theorem find_put {α : Type} (j k : Nat) (v : α) (l : List (Nat × α)) : find j (put k v l) = if j = k then some v else find j l := by
  split
  · rename_i e
    subst e
    exact find_put_same j v l
  · rename_i e
    exact find_put_ne e v l
theorem find_del {α : Type} (j k : Nat) : ∀ l : List (Nat × α), find j (del k l) = if j = k then none else find j l
  | [] => by simp [del, find]
  | (m, u) :: r => by
    have ih := find_del j k r
    unfold del
    split
    · rename_i e
      subst e
      rw [ih]
      simp only [find]
      split
      · rfl
      · rfl
    · rename_i e
      simp only [find, ih]
      split
      · rename_i e2
        subst e2
        rw [if_neg (fun e3 => e e3.symm)]
      · rfl
end Go.AM
