/- A part of the proof: machine and program. -/
import Derived.Test.YtpdifkaeiecdpaaAm01
import Derived.WalkKit
namespace Go.AM

abbrev Dead := Nat → Nat → Prop
def Pres (D : Dead) (w w' : World) : Prop := ∀ b o, D b o → w'.cell? ⟨b, o, none⟩ = w.cell? ⟨b, o, none⟩
/-- A block of so many cells at least. -/
def Blk (w : World) (b n : Nat) : Prop := ∃ vs E, w.heap[b]? = some (Obj.cells vs E (0, 0)) ∧ n ≤ vs.size
/-- .. of which none of the first is frozen. -/
def TBlk (w : World) (b n : Nat) : Prop := ∃ vs E fr, w.heap[b]? = some (Obj.cells vs E fr) ∧ n ≤ vs.size ∧ ∀ o, o < n → ¬ (fr.1 ≤ o ∧ o < fr.2)
structure Gh where
  g : Nat → Nat × Nat
  own : Nat → Option Nat

section
variable [Reg]

/-- A finished value, and what represents it: all cells that it reads are dead (nothing will be written there). -/
inductive RepD (w : World) (D : Dead) : AV → Value → Prop
  | int (k : IntKind) (n : Int) : RepD w D (.int k n) (.int k n)
  | bool (b : Bool) : RepD w D (.bool b) (.bool b)
  | str (l : List UInt8) (s : ByteArray) (h : s.data.toList = l) : RepD w D (.str l) (.string s)
  | nilp : RepD w D .nilp (.pointer none)
  | nilfn : RepD w D .nilfn .nilFunc
  | nili : RepD w D .nili .nilIface
  | nils : RepD w D .nils (.slice none 0 0)
  | iface (t : Nat) (v : AV) (cv : Value) (h : RepD w D v cv) : RepD w D (.iface t v) (.iface t cv)
  | slN (t : Nat) (full : Bool) (A : Option Addr) (cap : Nat) (hf : full = true → cap = 0) : RepD w D (.sl t full []) (.slice A 0 cap)
  | sl (t : Nat) (full : Bool) (xs : List (R t)) (b o cap : Nat) (f : Nat → Value) (hlc : xs.length ≤ cap) (hf : full = true → cap = xs.length)
      (hc : ∀ (q : Nat) (c : AV), (flat t xs)[q]? = some c → D b (o + q) ∧ w.cell? ⟨b, o + q, none⟩ = some (f q))
      (hr : ∀ (q : Nat) (c : AV), (flat t xs)[q]? = some c → RepD w D c (f q)) : RepD w D (.sl t full xs) (.slice (some ⟨b, o, none⟩) xs.length cap)
  | rp (cs : List AV) (j b o : Nat) (f : Nat → Value) (h1 : one1 cs = true)
      (hc : ∀ (q : Nat) (c : AV), cs[q]? = some c → D b (o + q) ∧ w.cell? ⟨b, o + q, none⟩ = some (f q))
      (hr : ∀ (q : Nat) (c : AV), cs[q]? = some c → RepD w D c (f q)) : RepD w D (.rp cs j) (.pointer (some ⟨b, o + j, none⟩))
  | ra (t : Nat) (xs : List (R t)) (b o : Nat) (f : Nat → Value)
      (hc : ∀ (q : Nat) (c : AV), (flat t xs)[q]? = some c → D b (o + q) ∧ w.cell? ⟨b, o + q, none⟩ = some (f q))
      (hr : ∀ (q : Nat) (c : AV), (flat t xs)[q]? = some c → RepD w D c (f q)) : RepD w D (.ra t xs) (.pointer (some ⟨b, o, none⟩))

theorem RepD.mono {w w' : World} {D D' : Dead} (hp : Pres D w w') (hd : ∀ b o, D b o → D' b o) {a : AV} {v : Value} (h : RepD w D a v) : RepD w' D' a v := by
  induction h with
  | int k n => exact .int k n
  | bool b => exact .bool b
  | str l s h => exact .str l s h
  | nilp => exact .nilp
  | nilfn => exact .nilfn
  | nili => exact .nili
  | nils => exact .nils
  | iface t v cv h ih => exact .iface t v cv ih
  | slN s full A cap hf => exact .slN s full A cap hf
  | sl s full xs b o cap f hlc hf hc hr ih => exact .sl s full xs b o cap f hlc hf (fun q c hq => ⟨hd _ _ (hc q c hq).1, (hp _ _ (hc q c hq).1).trans (hc q c hq).2⟩) ih
  | rp cs j b o f h1 hc hr ih => exact .rp cs j b o f h1 (fun q c hq => ⟨hd _ _ (hc q c hq).1, (hp _ _ (hc q c hq).1).trans (hc q c hq).2⟩) ih
  | ra t xs b o f hc hr ih => exact .ra t xs b o f (fun q c hq => ⟨hd _ _ (hc q c hq).1, (hp _ _ (hc q c hq).1).trans (hc q c hq).2⟩) ih

theorem RepD.unfull {w : World} {D : Dead} {t : Nat} {full : Bool} {xs : List (R t)} {v : Value} (h : RepD w D (.sl t full xs) v) : RepD w D (.sl t false xs) v := by
  cases h with
  | slN _ _ A cap hf => exact .slN t false A cap (by simp)
  | sl _ _ _ b o cap f hlc hf hc hr => exact .sl t false xs b o cap f hlc (by simp) hc hr
theorem RepD.one {w : World} {D : Dead} {a : AV} {v : Value} (h : RepD w D a v) : v.oneCell' = true ∧ a.cell1 = true := by
  cases h <;> exact ⟨rfl, rfl⟩

/-- What lets a slice be appended to: its capacity is its length, or it lies at the head of a row of the call's own behind whose dead cells all is free. -/
def TipOk (γ : Gh) (w : World) (D : Dead) (k t : Nat) (n : Nat) (v : Value) : Prop :=
  ∃ A cap, v = .slice A n cap ∧ (cap = n ∨
    (A = some ⟨(γ.g k).1, 0, none⟩ ∧ γ.own (γ.g k).1 = some k ∧ n ≤ cap ∧ TBlk w (γ.g k).1 (cap * szR t) ∧ ∀ o, D (γ.g k).1 o → o < n * szR t))
/-- Elements of a row of L elements, from the lo-th on. -/
def VwOk (γ : Gh) (w : World) (k t L lo n : Nat) (v : Value) : Prop :=
  ∃ A cap, v = .slice A n cap ∧ n ≤ cap ∧ lo + n ≤ L ∧ ((cap = 0 ∧ L ≤ lo) ∨
    (A = some ⟨(γ.g k).1, (γ.g k).2 + lo * szR t, none⟩ ∧ γ.own (γ.g k).1 = some k ∧ L ≤ lo + cap ∧ Blk w (γ.g k).1 ((γ.g k).2 + (lo + cap) * szR t)))

/-- What represents a value that lies in a cell. -/
def RepA (γ : Gh) (h : Heap) (u : List Nat) (w : World) (D : Dead) : AV → Value → Prop
  | .undef, _ => True
  | .ptr k off, v => k ∈ u ∧ (∃ A, v = .pointer (some A)) ∧ ∀ cs, find k h = some (.box cs) → v = .pointer (some ⟨(γ.g k).1, off, none⟩)
  | .vw k t, v => k ∈ u ∧ (∃ A n cap, v = .slice A n cap) ∧ (∀ xs, find k h = some (.row t xs) → VwOk γ w k t xs.length 0 xs.length v) ∧ ∀ xs, find k h = some (.fz t xs) → RepD w D (.sl t false xs) v
  | .sv k t lo n, v => k ∈ u ∧ (∃ A n cap, v = .slice A n cap) ∧ (∀ xs, find k h = some (.row t xs) → VwOk γ w k t xs.length lo n v) ∧ ∀ xs, find k h = some (.fz t xs) → RepD w D (.sl t false ((xs.drop lo).take n)) v ∧ lo + n ≤ xs.length
  | .ep k t i j, v => k ∈ u ∧ (∃ A, v = .pointer (some A)) ∧ (∀ xs, find k h = some (.row t xs) → v = .pointer (some ⟨(γ.g k).1, (γ.g k).2 + (i * szR t + j), none⟩)) ∧
      ∀ xs y, find k h = some (.fz t xs) → xs[i]? = some y → ∃ b o, RepD w D (.rp (cel t y) 0) (.pointer (some ⟨b, o, none⟩)) ∧ v = .pointer (some ⟨b, o + j, none⟩)
  | .tip k t xs, v => k ∈ u ∧ RepD w D (.sl t false xs) v ∧ (find k h = some .tok → TipOk γ w D k t xs.length v)
  | a, v => RepD w D a v
def Cell (c : AV) : Prop := c = .undef ∨ c.cell1 = true
/-- .. functions with what they captured among them. -/
def RepC (γ : Gh) (h : Heap) (u : List Nat) (w : World) (D : Dead) : AV → Value → Prop
  | .fn f cs, v => ∃ vs : Array Value, v = .func (.func f) #[] vs ∧ vs.size = cs.length ∧ ∀ (i : Nat) (c : AV) (x : Value), cs[i]? = some c → vs[i]? = some x → RepA γ h u w D c x ∧ Cell c
  | a, v => RepA γ h u w D a v
def RepB (γ : Gh) (h : Heap) (u : List Nat) (w : World) (D : Dead) : AV → Value → Prop
  | .agg cs, v => ∃ vs : Array Value, v = .agg vs ∧ vs.size = cs.length ∧ ∀ (i : Nat) (c : AV) (x : Value), cs[i]? = some c → vs[i]? = some x → RepC γ h u w D c x ∧ Cell c
  | a, v => RepC γ h u w D a v
def RepV (γ : Gh) (h : Heap) (u : List Nat) (w : World) (D : Dead) : AV → Value → Prop
  | .tup vs, v => ∃ arr : Array Value, v = .tuple arr ∧ arr.size = vs.length ∧ ∀ (i : Nat) (c : AV) (x : Value), vs[i]? = some c → arr[i]? = some x → RepB γ h u w D c x
  | a, v => RepB γ h u w D a v

section
variable {γ γ' : Gh} {h h' : Heap} {u u' : List Nat} {w w' : World} {D D' : Dead} {x : AV} {y : Value}
theorem RepD.a (h1 : RepD w D x y) : RepA γ h u w D x y := by cases h1 <;> (unfold RepA; constructor <;> assumption)
theorem RepA.c (h1 : RepA γ h u w D x y) : RepC γ h u w D x y := by
  cases x <;> first | exact h1 | exact (nomatch (show RepD w D _ y from h1))
theorem RepC.b (h1 : RepC γ h u w D x y) : RepB γ h u w D x y := by
  cases x <;> first | exact h1 | exact (nomatch (show RepD w D _ y from h1))
theorem RepB.v (h1 : RepB γ h u w D x y) : RepV γ h u w D x y := by
  cases x <;> first | exact h1 | exact (nomatch (show RepD w D _ y from h1))
theorem RepC.v (h1 : RepC γ h u w D x y) : RepV γ h u w D x y := h1.b.v
theorem RepD.c (h1 : RepD w D x y) : RepC γ h u w D x y := h1.a.c
theorem RepV.of (h1 : RepD w D x y) : RepV γ h u w D x y := h1.a.c.v
theorem RepV.toB (h1 : RepV γ h u w D x y) (h2 : ∀ vs, x ≠ .tup vs) : RepB γ h u w D x y := by
  cases x <;> first | exact h1 | exact absurd rfl (h2 _)
theorem RepB.toC (h1 : RepB γ h u w D x y) (h2 : Cell x) : RepC γ h u w D x y := by
  cases x <;> first | exact h1 | (simp [Cell, AV.cell1] at h2)
theorem RepV.toC (h1 : RepV γ h u w D x y) (h2 : Cell x) : RepC γ h u w D x y := by
  cases x <;> first | exact h1 | (simp [Cell, AV.cell1] at h2)
theorem RepC.dat {b : AV} (h1 : RepC γ h u w D x y) (hd : x.dat = some b) : RepD w D b y := by
  cases x <;> simp only [AV.dat, Option.some.injEq, reduceCtorEq] at hd <;> subst hd <;> first | exact h1 | exact h1.2.1
theorem RepC.one (h1 : RepC γ h u w D x y) (hc : x.cell1 = true) : y.oneCell' = true := by
  cases x
  case ptr => obtain ⟨_, ⟨_, rfl⟩, _⟩ := h1; rfl
  case ep => obtain ⟨_, ⟨_, rfl⟩, _⟩ := h1; rfl
  case vw => obtain ⟨_, ⟨_, _, _, rfl⟩, _⟩ := h1; rfl
  case sv => obtain ⟨_, ⟨_, _, _, rfl⟩, _⟩ := h1; rfl
  case tip => exact (RepD.one h1.2.1).1
  case fn => obtain ⟨_, rfl, _⟩ := h1; rfl
  all_goals first | (simp [AV.cell1] at hc; done) | exact (RepD.one (show RepD w D _ y from h1)).1

/-- What a number stands for is as it was. -/
structure Same (γ γ' : Gh) (h h' : Heap) (w w' : World) (D D' : Dead) (k : Nat) : Prop where
  box : ∀ cs', find k h' = some (.box cs') → (∃ cs, find k h = some (.box cs)) ∧ (γ'.g k).1 = (γ.g k).1
  row : ∀ t xs', find k h' = some (.row t xs') → (∃ xs, find k h = some (.row t xs) ∧ xs.length = xs'.length) ∧ γ'.g k = γ.g k ∧ (γ.own (γ.g k).1 = some k → γ'.own (γ.g k).1 = some k ∧ ∀ n, Blk w (γ.g k).1 n → Blk w' (γ.g k).1 n)
  fz : ∀ t xs, find k h' = some (.fz t xs) → find k h = some (.fz t xs) ∨ ((∃ xs', find k h = some (.row t xs') ∧ xs'.length = xs.length) ∧ (xs = [] ∨ ∃ f : Nat → Value, ∀ (q : Nat) (c : AV), (flat t xs)[q]? = some c → D' (γ.g k).1 ((γ.g k).2 + q) ∧ w'.cell? ⟨(γ.g k).1, (γ.g k).2 + q, none⟩ = some (f q) ∧ RepD w' D' c (f q)))
  tok : find k h' = some .tok → find k h = some .tok ∧ γ'.g k = γ.g k ∧ (γ.own (γ.g k).1 = some k → γ'.own (γ.g k).1 = some k ∧ (∀ n, TBlk w (γ.g k).1 n → TBlk w' (γ.g k).1 n) ∧ ∀ o, D' (γ.g k).1 o → D (γ.g k).1 o)

theorem flat_nil (t : Nat) : flat t ([] : List (R t)) = [] := rfl
theorem cel_len (t : Nat) (x : R t) : (cel t x).length = szR t := by
  have key : ∀ (ks : List CK) (y : HL Reg.T ks), (ups ks y).length = ks.length := by
    intro ks
    induction ks with
    | nil => intro _; rfl
    | cons k r ih => intro y; simp [ups, ih]
  unfold cel szR
  cases Reg.ent t with
  | none => rfl
  | some e => exact key _ _
theorem flat_cons (t : Nat) (x : R t) (xs : List (R t)) : flat t (x :: xs) = cel t x ++ flat t xs := rfl
theorem flat_append (t : Nat) (xs ys : List (R t)) : flat t (xs ++ ys) = flat t xs ++ flat t ys := by simp [flat]
theorem flat_len (t : Nat) : ∀ xs : List (R t), (flat t xs).length = xs.length * szR t
  | [] => by simp [flat]
  | x :: r => by rw [flat_cons, List.length_append, cel_len, flat_len t r, List.length_cons, Nat.add_mul]; omega
theorem flat_get (t : Nat) : ∀ (xs : List (R t)) (i j : Nat) (x : R t), xs[i]? = some x → j < szR t → (flat t xs)[i * szR t + j]? = (cel t x)[j]?
  | [], i, j, x, h, _ => by simp at h
  | y :: r, 0, j, x, h, hj => by
    simp only [List.getElem?_cons_zero, Option.some.injEq] at h
    subst h
    rw [flat_cons, List.getElem?_append_left (by rw [cel_len]; omega)]
    simp
  | y :: r, i + 1, j, x, h, hj => by
    have := flat_get t r i j x (by simpa using h) hj
    rw [flat_cons, List.getElem?_append_right (by rw [cel_len, Nat.add_mul]; omega), cel_len, ← this]
    congr 1
    rw [Nat.add_mul]
    omega
theorem flat_drop (t : Nat) : ∀ (xs : List (R t)) (n : Nat), flat t (xs.drop n) = (flat t xs).drop (n * szR t)
  | [], n => by simp [flat]
  | x :: r, 0 => by simp
  | x :: r, n + 1 => by
    rw [List.drop_succ_cons, flat_drop t r n, flat_cons, show (n + 1) * szR t = (cel t x).length + n * szR t by rw [cel_len, Nat.add_mul]; omega, List.drop_append]
    simp
theorem flat_take (t : Nat) : ∀ (xs : List (R t)) (n : Nat), flat t (xs.take n) = (flat t xs).take (n * szR t)
  | [], n => by simp [flat]
  | x :: r, 0 => by simp [flat]
  | x :: r, n + 1 => by
    rw [List.take_succ_cons, flat_cons, flat_take t r n, flat_cons, show (n + 1) * szR t = (cel t x).length + n * szR t by rw [cel_len, Nat.add_mul]; omega, List.take_append, List.take_of_length_le (Nat.le_add_right _ _)]
    simp
theorem ups_one (ks : List CK) (y : HL Reg.T ks) : ∀ c ∈ ups ks y, c.cell1 = true := by
  induction ks with
  | nil => intro c hc; simp [ups] at hc
  | cons k r ih =>
    intro c hc
    simp only [ups, List.mem_cons] at hc
    rcases hc with rfl | hc
    · cases k <;> rfl
    · exact ih _ c hc
theorem cel_one (t : Nat) (x : R t) : ∀ c ∈ cel t x, c.cell1 = true := by
  unfold cel
  cases Reg.ent t with
  | none => intro c hc; simp at hc
  | some e => exact ups_one _ _
theorem flat_one (t : Nat) (xs : List (R t)) : ∀ c ∈ flat t xs, c.cell1 = true := by
  intro c hc
  simp only [flat, List.mem_flatMap] at hc
  obtain ⟨x, _, hc⟩ := hc
  exact cel_one t x c hc

theorem one_cel (t : Nat) (y : R t) : one1 (cel t y) = true := List.all_eq_true.2 (cel_one t y)
theorem rp_el {t : Nat} {xs : List (R t)} {b o : Nat} {f : Nat → Value} (hE : ∀ (q : Nat) (c : AV), (flat t xs)[q]? = some c → D b (o + q) ∧ w.cell? ⟨b, o + q, none⟩ = some (f q) ∧ RepD w D c (f q)) {i : Nat} {z : R t} (hy : xs[i]? = some z) : RepD w D (.rp (cel t z) 0) (.pointer (some ⟨b, o + i * szR t, none⟩)) := by
  have hfl : ∀ (q : Nat) (c' : AV), (cel t z)[q]? = some c' → (flat t xs)[i * szR t + q]? = some c' := fun q c' hq => by
    rw [flat_get t xs i q z hy (by rw [← cel_len t z]; exact (List.getElem?_eq_some_iff.1 hq).1)]; exact hq
  exact .rp (cel t z) 0 b (o + i * szR t) (fun q => f (i * szR t + q)) (one_cel t z) (fun q c hq => by
    rw [Nat.add_assoc]
    exact ⟨(hE _ c (hfl q c hq)).1, (hE _ c (hfl q c hq)).2.1⟩) (fun q c hq => (hE _ c (hfl q c hq)).2.2)

/-- Some elements of finished ones. -/
theorem RepD.part {t : Nat} {xs : List (R t)} {b o : Nat} {f : Nat → Value} (hq : ∀ (q : Nat) (c : AV), (flat t xs)[q]? = some c → D b (o + q) ∧ w.cell? ⟨b, o + q, none⟩ = some (f q) ∧ RepD w D c (f q)) {lo n cap : Nat} (hn : lo + n ≤ xs.length) (hc : n ≤ cap) :
    RepD w D (.sl t false ((xs.drop lo).take n)) (.slice (some ⟨b, o + lo * szR t, none⟩) n cap) := by
  have hl : ((xs.drop lo).take n).length = n := by simp; omega
  have key : ∀ (q : Nat) (c : AV), (flat t ((xs.drop lo).take n))[q]? = some c → (flat t xs)[lo * szR t + q]? = some c := by
    intro q c h1
    rw [flat_take, flat_drop, List.getElem?_take] at h1
    split at h1
    · rw [List.getElem?_drop] at h1; exact h1
    · simp at h1
  have := RepD.sl (w := w) (D := D) t false ((xs.drop lo).take n) b (o + lo * szR t) cap (fun q => f (lo * szR t + q)) (by omega) (by simp) (fun q c h1 => by
    have := hq _ _ (key q c h1)
    rw [Nat.add_assoc]
    exact ⟨this.1, this.2.1⟩) (fun q c h1 => (hq _ _ (key q c h1)).2.2)
  rw [hl] at this
  exact this

theorem RepA.mono (hp : Pres D w w') (hd : ∀ b o, D b o → D' b o) (hu : ∀ k ∈ u, k ∈ u') (hs : ∀ k ∈ u, Same γ γ' h h' w w' D D' k) (h1 : RepA γ h u w D x y) : RepA γ' h' u' w' D' x y := by
  cases x with
  | undef => trivial
  | ptr k off =>
    obtain ⟨q1, q2, q3⟩ := h1
    refine ⟨hu k q1, q2, fun cs hk => ?_⟩
    obtain ⟨⟨cs', r1⟩, r2⟩ := (hs k q1).box cs hk
    rw [r2]
    exact q3 cs' r1
  | vw k t =>
    obtain ⟨q1, q2, q3, q4⟩ := h1
    refine ⟨hu k q1, q2, fun xs hk => ?_, fun xs hk => ?_⟩
    · obtain ⟨⟨xs', r1, r2⟩, r3, r4⟩ := (hs k q1).row t xs hk
      obtain ⟨A, cap, e1, e2, e3, e4⟩ := q3 xs' r1
      rw [← r2]
      refine ⟨A, cap, e1, e2, e3, e4.imp id ?_⟩
      rintro ⟨f1, f2, f3, f4⟩
      rw [r3]
      exact ⟨f1, (r4 f2).1, f3, (r4 f2).2 _ f4⟩
    · rcases (hs k q1).fz t xs hk with r1 | ⟨⟨xs', r1, r0⟩, r2⟩
      · exact (q4 xs r1).mono hp hd
      · obtain ⟨A, cap, e1, e2, e3, e4⟩ := q3 xs' r1
        rw [r0] at e1 e2 e3 e4
        rcases r2 with rfl | ⟨f, r2⟩
        · subst e1; exact .slN _ _ _ _ (by simp)
        · rcases e4 with ⟨f1, f2⟩ | ⟨f1, f2, f3, f4⟩
          · have : xs = [] := List.eq_nil_of_length_eq_zero (by omega)
            subst this
            subst e1
            exact .slN _ _ _ _ (by simp)
          · subst e1
            subst f1
            rw [Nat.zero_mul, Nat.add_zero]
            exact .sl _ _ _ _ _ _ f e2 (by simp) (fun q c hq => ⟨(r2 q c hq).1, (r2 q c hq).2.1⟩) (fun q c hq => (r2 q c hq).2.2)
  | sv k t lo n =>
    obtain ⟨q1, q2, q3, q4⟩ := h1
    refine ⟨hu k q1, q2, fun xs hk => ?_, fun xs hk => ?_⟩
    · obtain ⟨⟨xs', r1, r2⟩, r3, r4⟩ := (hs k q1).row t xs hk
      obtain ⟨A, cap, e1, e2, e3, e4⟩ := q3 xs' r1
      rw [← r2]
      refine ⟨A, cap, e1, e2, e3, e4.imp id ?_⟩
      rintro ⟨f1, f2, f3, f4⟩
      rw [r3]
      exact ⟨f1, (r4 f2).1, f3, (r4 f2).2 _ f4⟩
    · rcases (hs k q1).fz t xs hk with r1 | ⟨⟨xs', r1, r0⟩, r2⟩
      · exact ⟨(q4 xs r1).1.mono hp hd, (q4 xs r1).2⟩
      · obtain ⟨A, cap, e1, e2, e3, e4⟩ := q3 xs' r1
        rw [r0] at e3 e4
        refine ⟨?_, e3⟩
        have nil : n = 0 → RepD w' D' (.sl t false ((xs.drop lo).take n)) y := by
          intro e
          subst e
          subst e1
          rw [List.take_zero]
          exact .slN _ _ _ _ (by simp)
        rcases r2 with rfl | ⟨f, r2⟩
        · exact nil (by simp at e3; omega)
        · rcases e4 with ⟨f1, f2⟩ | ⟨f1, f2, f3, f4⟩
          · exact nil (by omega)
          · subst e1
            subst f1
            exact RepD.part (f := f) (fun q c hq => r2 q c hq) e3 e2
  | ep k t i j =>
    obtain ⟨q1, q2, q3, q4⟩ := h1
    refine ⟨hu k q1, q2, fun xs hk => ?_, fun xs y hk hy => ?_⟩
    · obtain ⟨⟨xs', r1, r2⟩, r3, r4⟩ := (hs k q1).row t xs hk
      rw [r3]
      exact q3 xs' r1
    · rcases (hs k q1).fz t xs hk with r1 | ⟨⟨xs', r1, r0⟩, r2⟩
      · obtain ⟨b, o, e1, e2⟩ := q4 xs y r1 hy
        exact ⟨b, o, e1.mono hp hd, e2⟩
      · rcases r2 with rfl | ⟨f, r2⟩
        · simp at hy
        · exact ⟨_, _, rp_el r2 hy, by rw [Nat.add_assoc]; exact q3 xs' r1⟩
  | tip k t xs =>
    obtain ⟨q1, q2, q3⟩ := h1
    refine ⟨hu k q1, q2.mono hp hd, fun hk => ?_⟩
    obtain ⟨r1, r2, r3⟩ := (hs k q1).tok hk
    obtain ⟨A, cap, e1, e2⟩ := q3 r1
    refine ⟨A, cap, e1, e2.imp id ?_⟩
    rintro ⟨f1, f2, f3, f4, f5⟩
    rw [r2]
    obtain ⟨g1, g2, g3⟩ := r3 f2
    exact ⟨f1, g1, f3, g2 _ f4, fun o ho => f5 o (g3 o ho)⟩
  | _ => exact RepD.mono hp hd h1
theorem RepC.mono (hp : Pres D w w') (hd : ∀ b o, D b o → D' b o) (hu : ∀ k ∈ u, k ∈ u') (hs : ∀ k ∈ u, Same γ γ' h h' w w' D D' k) (h1 : RepC γ h u w D x y) : RepC γ' h' u' w' D' x y := by
  cases x with
  | fn f cs =>
    obtain ⟨vs, e, hn, hh⟩ := h1
    exact ⟨vs, e, hn, fun i c z hi hj => ⟨(hh i c z hi hj).1.mono hp hd hu hs, (hh i c z hi hj).2⟩⟩
  | _ => unfold RepC at h1 ⊢; exact RepA.mono hp hd hu hs h1
theorem RepB.mono (hp : Pres D w w') (hd : ∀ b o, D b o → D' b o) (hu : ∀ k ∈ u, k ∈ u') (hs : ∀ k ∈ u, Same γ γ' h h' w w' D D' k) (h1 : RepB γ h u w D x y) : RepB γ' h' u' w' D' x y := by
  cases x with
  | agg cs =>
    obtain ⟨vs, e, hn, hh⟩ := h1
    exact ⟨vs, e, hn, fun i c z hi hj => ⟨(hh i c z hi hj).1.mono hp hd hu hs, (hh i c z hi hj).2⟩⟩
  | _ => unfold RepB at h1 ⊢; exact RepC.mono hp hd hu hs h1
theorem RepV.mono (hp : Pres D w w') (hd : ∀ b o, D b o → D' b o) (hu : ∀ k ∈ u, k ∈ u') (hs : ∀ k ∈ u, Same γ γ' h h' w w' D D' k) (h1 : RepV γ h u w D x y) : RepV γ' h' u' w' D' x y := by
  cases x with
  | tup cs =>
    obtain ⟨vs, e, hn, hh⟩ := h1
    exact ⟨vs, e, hn, fun i c z hi hj => (hh i c z hi hj).mono hp hd hu hs⟩
  | _ => unfold RepV at h1 ⊢; exact RepB.mono hp hd hu hs h1

/-- The heap. -/
structure HOk (γ : Gh) (h : Heap) (u : List Nat) (w : World) (D : Dead) : Prop where
  box : ∀ k cs, find k h = some (.box cs) → γ.own (γ.g k).1 = some k ∧ ∃ vs E, w.heap[(γ.g k).1]? = some (.cells vs E (0, 0)) ∧ vs.size = cs.length ∧ ∀ (i : Nat) (c : AV) (v : Value), cs[i]? = some c → vs[i]? = some v → RepC γ h u w D c v ∧ Cell c
  row : ∀ k t xs, find k h = some (.row t xs) → xs = [] ∨ (γ.own (γ.g k).1 = some k ∧ ∃ vs E, w.heap[(γ.g k).1]? = some (.cells vs E (0, 0)) ∧ (γ.g k).2 + xs.length * szR t ≤ vs.size ∧ ∀ (q : Nat) (c : AV) (v : Value), (flat t xs)[q]? = some c → vs[(γ.g k).2 + q]? = some v → RepD w D c v)
  own : ∀ b k, γ.own b = some k → b < w.heap.size ∧ find k h ≠ none ∧ b = (γ.g k).1
  lv : ∀ b k, γ.own b = some k → find k h ≠ some .tok → ∀ o, ¬ D b o
  u : ∀ k, find k h ≠ none → k ∈ u
end

/-- Where a call began. -/
structure Ctx where
  w : World
  D : Dead
  γ : Gh
  os : Heap

structure Inv (c : Ctx) (γ : Gh) (D : Dead) (st : St) (a : Act) (w : World) : Prop where
  nt : a.tmps.size = st.nt
  dfr : a.defers = []
  tm : ∀ t, RepV γ st.h st.u w D (st.get t) (a.tmps.getD t undef)
  hp : HOk γ st.h st.u w D
  os : w.os = c.w.os
  tape : w.tape = c.w.tape
  output : w.output = c.w.output
  size : c.w.heap.size ≤ w.heap.size
  block : ∀ b, b < c.w.heap.size → c.γ.own b = none → w.heap[b]? = c.w.heap[b]?
  lg : ∀ b n, Blk c.w b n → Blk w b n
  ow : ∀ b k, γ.own b = some k → c.w.heap.size ≤ b ∨ c.γ.own b ≠ none
  dd : (∀ b o, c.D b o → D b o) ∧ ∀ b o, b < c.w.heap.size → c.γ.own b = none → D b o → c.D b o
  dl : ∀ b o, D b o → b < w.heap.size
  ob : ∀ k, k < 1000 → ∀ cs, find k st.h = some (.box cs) → (∃ cs0, find k c.os = some (.box cs0)) ∧ γ.g k = c.γ.g k
  or : ∀ k, k < 1000 → ∀ t xs, find k st.h = some (.row t xs) → (∃ xs0, find k c.os = some (.row t xs0) ∧ xs0.length = xs.length) ∧ γ.g k = c.γ.g k ∧ (c.γ.own (γ.g k).1 = some k → γ.own (γ.g k).1 = some k)
  ofz : ∀ k, k < 1000 → ∀ t xs, find k st.h = some (.fz t xs) → find k c.os = some (.fz t xs) ∨ ((∃ xs0, find k c.os = some (.row t xs0) ∧ xs0.length = xs.length) ∧ (xs = [] ∨ ∃ f : Nat → Value, ∀ (q : Nat) (c' : AV), (flat t xs)[q]? = some c' → D (c.γ.g k).1 ((c.γ.g k).2 + q) ∧ w.cell? ⟨(c.γ.g k).1, (c.γ.g k).2 + q, none⟩ = some (f q) ∧ RepD w D c' (f q)))
  ot : ∀ k, k < 1000 → find k st.h ≠ some .tok

omit [Reg] in
theorem blt_iff {a b : Nat} : Nat.blt a b = true ↔ a < b := by simp [Nat.blt_eq]
theorem St.get_put (st : St) (d : Nat) (v : AV) (t : Nat) : (st.put (some d) v).get t = if t = d ∧ d < st.nt then v else st.get t := by
  unfold St.put
  simp only
  cases hd : Nat.blt d st.nt
  · have : ¬ d < st.nt := fun hh => by rw [blt_iff.2 hh] at hd; cases hd
    simp [this]
  · have : d < st.nt := blt_iff.1 hd
    simp only [cond_true, this, and_true]
    unfold St.get
    simp only [find_put]
    by_cases e : t = d
    · simp only [e, if_true]
    · simp only [e, if_false]
theorem St.put_h (st : St) (d : Option Nat) (v : AV) : (st.put d v).h = st.h ∧ (st.put d v).u = st.u ∧ (st.put d v).nt = st.nt := by
  cases d with
  | none => exact ⟨rfl, rfl, rfl⟩
  | some d => unfold St.put; simp only; cases Nat.blt d st.nt <;> exact ⟨rfl, rfl, rfl⟩
omit [Reg] in
theorem Act.getD_put (a : Act) (d : Nat) (v : Value) (t : Nat) : (a.put (some d) v).tmps.getD t undef = if t = d ∧ d < a.tmps.size then v else a.tmps.getD t undef := by
  simp only [Act.put, Array.getD_eq_getD_getElem?, Array.getElem?_setIfInBounds]
  by_cases e : d = t
  · subst e
    by_cases h : d < a.tmps.size
    · simp [h]
    · simp [h]
  · simp [e, Ne.symm e]

/-- A slot is written. -/
theorem Inv.put {c : Ctx} {γ : Gh} {D : Dead} {st : St} {a : Act} {w : World} (h : Inv c γ D st a w) {v : AV} {cv : Value} (hv : RepV γ st.h st.u w D v cv) (dst : Option Nat) :
    Inv c γ D (st.put dst v) (a.put dst cv) w := by
  obtain ⟨e1, e2, e3⟩ := st.put_h dst v
  refine ⟨?_, ?_, fun t => ?_, by rw [e1, e2]; exact h.hp, h.os, h.tape, h.output, h.size, h.block, h.lg, h.ow, h.dd, h.dl, by rw [e1]; exact h.ob, by rw [e1]; exact h.or, by rw [e1]; exact h.ofz, by rw [e1]; exact h.ot⟩
  · rw [e3]; cases dst <;> simp [Act.put, h.nt]
  · cases dst <;> exact h.dfr
  · rw [e1, e2]
    cases dst with
    | none => exact h.tm t
    | some d =>
      rw [St.get_put, Act.getD_put, h.nt]
      split
      · exact hv
      · exact h.tm t

theorem RepD.ofVal1 {w : World} {D : Dead} (v : Value) : ofVal1 v = .undef ∨ RepD w D (ofVal1 v) v := by
  unfold AM.ofVal1
  split <;> first
    | exact .inr (.int _ _) | exact .inr (.bool _) | exact .inr (.str _ _ rfl) | exact .inr .nilp | exact .inr .nils | exact .inr .nili | exact .inr .nilfn | exact .inl rfl
theorem RepV.ofVal {w : World} {D : Dead} {γ : Gh} {h : Heap} {u : List Nat} (v : Value) : RepV γ h u w D (ofVal v) v := by
  unfold AM.ofVal
  split
  · rename_i cs
    refine ⟨cs, rfl, by simp, fun i c x hi hj => ?_⟩
    rw [List.getElem?_map, Array.getElem?_toList, hj] at hi
    simp only [Option.map_some, Option.some.injEq] at hi
    subst hi
    rcases RepD.ofVal1 (w := w) (D := D) x with e | e
    · rw [e]; exact ⟨trivial, .inl rfl⟩
    · exact ⟨e.c, .inr e.one.2⟩
  · rename_i hne
    rcases RepD.ofVal1 (w := w) (D := D) v with e | e
    · rw [e]; trivial
    · exact .of e
theorem Inv.ev {c : Ctx} {γ : Gh} {D : Dead} {st : St} {a : Act} {w : World} (h : Inv c γ D st a w) (x : Operand) : RepV γ st.h st.u w D (st.ev x) (a.eval x) := by
  cases x with
  | tmp t => exact h.tm t
  | const v => exact RepV.ofVal v
  | global g => trivial
  | func f => exact ⟨#[], rfl, rfl, fun i c x hi => by simp at hi⟩
end
end Go.AM
namespace Go.AM
section
variable [Reg]

def kindOf (P : Program) : TypeDesc → Option TK
  | .int k => some (.int k)
  | .bool => some .bool
  | .string => some .str
  | .struct fs => if fs.all (fun f => P.cellsOf f.type != 0) then some (.struct (fs.toList.map fun f => (f.offset, f.type))) else none
  | .array n e => if P.cellsOf e != 0 then some (.arr n e) else none
  | .slice e => some (.sl e)
  | .pointer _ => some .ptr
  | .func .. => some .other
  | .interface _ => some .iface
  | _ => none

/-- A struct of plain fields is compared field by field. -/
def structEqB (P : Program) (t : Nat) (d : TypeDesc) : Bool := match d with
  | .struct fs => !(fs.toList.all fun f => P.plainKey f.type) || (!P.stoodInHeld t && !P.eqGuardType P.depth t && fs.toList.all fun f => f.name != "_")
  | _ => true
def tyOf (P : Program) (t : Nat) : Option TI :=
  match P.info? t, P.underlying t with
  | some i, some d => match (if structEqB P t d = true then kindOf P d else none) with
    | some k => some ⟨k, i.size, i.bytes, match i.zero with | some z => ofVal z | none => .undef⟩
    | none => none
  | _, _ => none

/-- The table says what the program says. -/
def TbOk (P : Program) (tb : Tb) : Prop := ∀ t ti, find t tb = some ti → tyOf P t = some ti
def TbAll (P : Program) : Tb → Prop
  | [] => True
  | (t, ti) :: r => tyOf P t = some ti ∧ TbAll P r
theorem TbOk.of_all {P : Program} : ∀ {tb : Tb}, TbAll P tb → TbOk P tb
  | [], _, t, ti, h => by simp [find] at h
  | (u, ui) :: r, ha, t, ti, h => by
    simp only [find] at h
    split at h
    · rename_i e
      subst e
      simp only [Option.some.injEq] at h
      subst h
      exact ha.1
    · exact TbOk.of_all ha.2 t ti h

section
variable {P : Program} {t : Nat} {ti : TI}

theorem tyOf.parts (h : tyOf P t = some ti) : ∃ i d, P.info? t = some i ∧ P.underlying t = some d ∧ kindOf P d = some ti.k ∧ i.size = ti.sz ∧ i.bytes = ti.bytes ∧ (∀ z, i.zero = some z → ofVal z = ti.z) ∧ (i.zero = none → ti.z = .undef) := by
  unfold tyOf at h
  split at h
  · rename_i i d hi hd
    split at h
    · rename_i k hk
      have hk : kindOf P d = some k := by
        split at hk
        · exact hk
        · simp at hk
      simp only [Option.some.injEq] at h
      subst h
      refine ⟨i, d, hi, hd, hk, rfl, rfl, fun z hz => by simp [hz], fun hz => by simp [hz]⟩
    · simp at h
  · simp at h

theorem tyOf.structEq (h : tyOf P t = some ti) {d : TypeDesc} (hd : P.underlying t = some d) : structEqB P t d = true := by
  unfold tyOf at h
  split at h
  · rename_i i d' hi hd'
    rw [hd] at hd'
    simp only [Option.some.injEq] at hd'
    subst hd'
    split at h
    · rename_i k hk
      split at hk
      · assumption
      · simp at hk
    · simp at h
  · simp at h

omit [Reg] in
theorem run_typeInfo' (w : World) {i : TypeInfo} (h : P.info? t = some i) : (typeInfo t).run P w = .ok i w := by
  simp [typeInfo, h]
omit [Reg] in
theorem run_underlying' (w : World) {d : TypeDesc} (h : P.underlying t = some d) : (underlying t).run P w = .ok d w := by
  simp [underlying, h]
theorem ty_size (h : tyOf P t = some ti) (w : World) : (sizeOf t).run P w = .ok ti.sz w := by
  obtain ⟨i, d, hi, _, _, hs, _⟩ := tyOf.parts h
  simp [sizeOf, run_typeInfo' w hi, hs]
theorem ty_cells (h : tyOf P t = some ti) : P.cellsOf t = ti.sz := by
  obtain ⟨i, d, hi, _, _, hs, _⟩ := tyOf.parts h
  simp [Program.cellsOf, hi, hs]
theorem ty_agg (h : tyOf P t = some ti) (w : World) : (isAgg t).run P w = .ok ti.isAgg w := by
  obtain ⟨i, d, _, hd, hk, _⟩ := tyOf.parts h
  unfold isAgg TI.isAgg
  simp only [Sem.run_bind, run_underlying' w hd, Result.andThen_ok]
  cases d <;> simp only [kindOf] at hk <;> first
    | (simp only [Option.some.injEq] at hk; rw [← hk]; rfl)
    | (split at hk <;> first | (simp only [Option.some.injEq] at hk; rw [← hk]; rfl) | (simp at hk))
    | (simp at hk)
theorem ty_zero (h : tyOf P t = some ti) (hz : ti.z ≠ .undef) (w : World) : ∃ z, (zeroValue t).run P w = .ok z w ∧ ofVal z = ti.z := by
  obtain ⟨i, d, hi, _, _, _, _, h1, h2⟩ := tyOf.parts h
  cases hzz : i.zero with
  | none => exact absurd (h2 hzz) hz
  | some z => exact ⟨z, by simp [zeroValue, run_typeInfo' w hi, hzz], h1 z hzz⟩
theorem ty_sl {e : Nat} (h : tyOf P t = some ti) (hk : ti.k = .sl e) : P.underlying t = some (.slice e) := by
  obtain ⟨i, d, _, hd, hk', _⟩ := tyOf.parts h
  rw [hd]
  rw [hk] at hk'
  cases d <;> simp only [kindOf] at hk' <;> first | (simp at hk'; done) | (split at hk' <;> simp at hk'; done) | (simp at hk'; subst hk'; rfl)
theorem ty_arr {n e : Nat} (h : tyOf P t = some ti) (hk : ti.k = .arr n e) : P.underlying t = some (.array n e) := by
  obtain ⟨i, d, _, hd, hk', _⟩ := tyOf.parts h
  rw [hd]
  rw [hk] at hk'
  cases d <;> simp only [kindOf] at hk' <;> first | (simp at hk'; done) | (split at hk' <;> simp at hk'; done) | (split at hk' <;> simp at hk'; obtain ⟨rfl, rfl⟩ := hk'; rfl)
theorem ty_int {k : IntKind} (h : tyOf P t = some ti) (hk : ti.k = .int k) : P.underlying t = some (.int k) := by
  obtain ⟨i, d, _, hd, hk', _⟩ := tyOf.parts h
  rw [hd]
  rw [hk] at hk'
  cases d <;> simp only [kindOf] at hk' <;> first | (simp at hk'; done) | (split at hk' <;> simp at hk'; done) | (simp at hk'; subst hk'; rfl)
theorem ty_str (h : tyOf P t = some ti) (hk : ti.k = .str) : P.underlying t = some .string := by
  obtain ⟨i, d, _, hd, hk', _⟩ := tyOf.parts h
  rw [hd]
  rw [hk] at hk'
  cases d <;> simp only [kindOf] at hk' <;> first | rfl | (simp at hk'; done) | (split at hk' <;> simp at hk'; done)
theorem ty_struct {fs : List (Nat × Nat)} (h : tyOf P t = some ti) (hk : ti.k = .struct fs) :
    ∃ arr : Array Field, P.underlying t = some (.struct arr) ∧ fs = arr.toList.map (fun f => (f.offset, f.type)) ∧ ∀ f ∈ arr, P.cellsOf f.type ≠ 0 := by
  obtain ⟨i, d, _, hd, hk', _⟩ := tyOf.parts h
  rw [hk] at hk'
  cases d <;> simp only [kindOf] at hk' <;> try (first | (simp at hk'; done) | (split at hk' <;> simp at hk'; done))
  rename_i arr
  refine ⟨arr, hd, ?_⟩
  split at hk'
  · rename_i ha
    simp only [Option.some.injEq, TK.struct.injEq] at hk'
    refine ⟨hk'.symm, fun f hf => ?_⟩
    have := (Array.all_eq_true_iff_forall_mem.1 ha) f hf
    simpa using this
  · simp at hk'
end

omit [Reg] in
theorem addr_add (b o n : Nat) : (⟨b, o, none⟩ : Addr).add n = ⟨b, o + n, none⟩ := by
  unfold Addr.add
  split <;> simp_all

/-- A load out of cells that are known one by one. -/
theorem load_part {P : Program} {w : World} {D : Dead} {γ : Gh} {h : Heap} {u : List Nat} {t : Nat} {ti : TI} (ht : tyOf P t = some ti) {cs : List AV} {f : Nat → Value} {b base off : Nat} {av : AV}
    (hv : ∀ (j : Nat) (c : AV), cs[j]? = some c → w.cell? ⟨b, base + j, none⟩ = some (f j) ∧ RepC γ h u w D c (f j) ∧ Cell c) (hp : partOf ti cs off = some av) :
    ∃ cv, (loadVar t ⟨b, base + off, none⟩).run P w = .ok cv w ∧ RepB γ h u w D av cv := by
  unfold partOf at hp
  unfold loadVar
  simp only [Sem.run_bind, ty_agg ht, Result.andThen_ok]
  cases hagg : ti.isAgg with
  | true =>
    rw [hagg] at hp
    simp only [cond_true] at hp
    cases hlen : Nat.ble (off + ti.sz) cs.length with
    | false => rw [hlen] at hp; simp at hp
    | true =>
      rw [hlen] at hp
      simp only [cond_true, Option.some.injEq] at hp
      subst hp
      have hlen := Nat.le_of_ble_eq_true hlen
      have hrun : (loadCells ⟨b, base + off, none⟩ ti.sz).run P w = .ok ((List.range ti.sz).map fun j => f (off + j)).toArray w :=
        run_loadCells w _ _ (fun j => f (off + j)) fun j hj => by
          rw [addr_add, Nat.add_assoc]
          have hlt : off + j < cs.length := by omega
          exact (hv (off + j) cs[off + j] (List.getElem?_eq_getElem hlt)).1
      refine ⟨.agg ((List.range ti.sz).map fun j => f (off + j)).toArray, ?_, _, rfl, by simp; omega, fun i c v hi hj => ?_⟩
      · simp [ty_size ht, hrun]
      · have hi1 : i < ti.sz := by
          have := (List.getElem?_eq_some_iff.1 hi).1
          simp at this
          omega
        rw [List.getElem?_take, if_pos hi1, List.getElem?_drop] at hi
        have hv' : v = f (off + i) := by
          simp [hi1] at hj
          exact hj.symm
        subst hv'
        exact (hv _ c hi).2
  | false =>
    rw [hagg] at hp
    simp only [cond_false] at hp
    obtain ⟨h1, h2, h3⟩ := hv off av hp
    exact ⟨f off, by simp [h1], h2.b⟩
end
end Go.AM
