/- The machine's values against Go's: what represents what, and what is kept. -/
import Derived.Test.YtnhfjkckgicidaaAmDefs
import Derived.WalkKit
set_option linter.unusedVariables false
set_option linter.unusedSimpArgs false
namespace Go.AM

theorem find_put_same {α : Type} (k : Nat) (v : α) : ∀ l : List (Nat × α), find k (put k v l) = some v
  | [] => by simp [put, find]
  | (m, u) :: r => by
    unfold put
    split
    · simp [find]
    · split
      · simp [find]
      · simp only [find, *, if_false]
        exact find_put_same k v r
theorem find_put_ne {α : Type} {j k : Nat} (h : j ≠ k) (v : α) : ∀ l : List (Nat × α), find j (put k v l) = find j l
  | [] => by simp [put, find, h]
  | (m, u) :: r => by
    unfold put
    split
    · rename_i e
      subst e
      simp [find, h]
    · split
      · simp [find, h]
      · simp only [find]
        split
        · rfl
        · exact find_put_ne h v r

abbrev Dead := Nat → Nat → Prop
def Pres (D : Dead) (w w' : World) : Prop := ∀ b o, D b o → w'.cell? ⟨b, o, none⟩ = w.cell? ⟨b, o, none⟩

/-- A finished value, and what represents it: all cells that it reads are dead (nothing will be written there). -/
inductive RepD (w : World) (D : Dead) : AV → Value → Prop
  | int (k : IntKind) (n : Int) : RepD w D (.int k n) (.int k n)
  | bool (b : Bool) : RepD w D (.bool b) (.bool b)
  | str (l : List UInt8) (s : ByteArray) (h : s.data.toList = l) : RepD w D (.str l) (.string s)
  | agg (cs : List AV) (vs : Array Value) (hn : vs.size = cs.length) (h1 : ∀ c ∈ cs, c.cell1 = true) (h : ∀ (i : Nat) (c : AV) (v : Value), cs[i]? = some c → vs[i]? = some v → RepD w D c v) : RepD w D (.agg cs) (.agg vs)
  | slN (s : Nat) (full : Bool) (A : Option Addr) (cap : Nat) (hf : full = true → cap = 0) : RepD w D (.sl s full []) (.slice A 0 cap)
  | sl (s : Nat) (full : Bool) (xs : List AV) (b o cap : Nat) (f : Nat → Nat → Value) (hlc : xs.length ≤ cap) (hf : full = true → cap = xs.length)
      (hs : ∀ (i : Nat) (e : AV), xs[i]? = some e → e.cells.length = s)
      (hc : ∀ (i : Nat) (e : AV) (j : Nat) (c : AV), xs[i]? = some e → e.cells[j]? = some c → c.cell1 = true ∧ D b (o + (i * s + j)) ∧ w.cell? ⟨b, o + (i * s + j), none⟩ = some (f i j))
      (hr : ∀ (i : Nat) (e : AV) (j : Nat) (c : AV), xs[i]? = some e → e.cells[j]? = some c → RepD w D c (f i j)) : RepD w D (.sl s full xs) (.slice (some ⟨b, o, none⟩) xs.length cap)
  | rp (s : Nat) (e : AV) (j b o : Nat) (f : Nat → Value) (hs : e.cells.length = s)
      (hc : ∀ (j : Nat) (c : AV), e.cells[j]? = some c → c.cell1 = true ∧ D b (o + j) ∧ w.cell? ⟨b, o + j, none⟩ = some (f j))
      (hr : ∀ (j : Nat) (c : AV), e.cells[j]? = some c → RepD w D c (f j)) : RepD w D (.rp s e j) (.pointer (some ⟨b, o + j, none⟩))
  | nilp : RepD w D .nilp (.pointer none)
  | fn (f : Nat) : RepD w D (.fn f) (.func (.func f) #[] #[])
  | nilfn : RepD w D .nilfn .nilFunc
  | iface (t : Nat) (v : AV) (cv : Value) (h : RepD w D v cv) : RepD w D (.iface t v) (.iface t cv)
  | nili : RepD w D .nili .nilIface

theorem RepD.mono {w w' : World} {D D' : Dead} (hp : Pres D w w') (hd : ∀ b o, D b o → D' b o) {a : AV} {v : Value} (h : RepD w D a v) : RepD w' D' a v := by
  induction h with
  | int k n => exact .int k n
  | bool b => exact .bool b
  | str l s h => exact .str l s h
  | agg cs vs hn h1 h ih => exact .agg cs vs hn h1 ih
  | slN s full A cap hf => exact .slN s full A cap hf
  | sl s full xs b o cap f hlc hf hs hc hr ih =>
    exact .sl s full xs b o cap f hlc hf hs (fun i e j c hi hj => ⟨(hc i e j c hi hj).1, hd _ _ (hc i e j c hi hj).2.1, (hp _ _ (hc i e j c hi hj).2.1).trans (hc i e j c hi hj).2.2⟩) ih
  | rp s e j b o f hs hc hr ih =>
    exact .rp s e j b o f hs (fun j c hj => ⟨(hc j c hj).1, hd _ _ (hc j c hj).2.1, (hp _ _ (hc j c hj).2.1).trans (hc j c hj).2.2⟩) ih
  | nilp => exact .nilp
  | fn f => exact .fn f
  | nilfn => exact .nilfn
  | iface t v cv h ih => exact .iface t v cv ih
  | nili => exact .nili

theorem RepD.one {w : World} {D : Dead} {a : AV} {v : Value} (h : RepD w D a v) (h1 : a.cell1 = true) : v.oneCell' = true := by
  cases h <;> first | rfl | (simp [AV.cell1] at h1)

/-- A finished slice that is no longer called full. -/
theorem RepD.unfull {w : World} {D : Dead} {s : Nat} {full : Bool} {xs : List AV} {v : Value} (h : RepD w D (.sl s full xs) v) : RepD w D (.sl s false xs) v := by
  cases h with
  | slN _ _ A cap hf => exact .slN s false A cap (by simp)
  | sl _ _ _ b o cap f hlc hf hs hc hr => exact .sl s false xs b o cap f hlc (by simp) hs hc hr

structure Gh where
  bx : Nat → Nat
  rw : Nat → Nat
  tp : Nat → Nat
  own : Nat → Option (Nat × Nat)

/-- What lets a slice be appended to: its capacity is its length, or it lies at the head of a row of the call's own behind whose dead cells all is free. -/
def TipOk (γ : Gh) (w : World) (D : Dead) (k s : Nat) (xs : List AV) (v : Value) : Prop :=
  ∃ A cap, v = .slice A xs.length cap ∧ (cap = xs.length ∨
    (A = some ⟨γ.tp k, 0, none⟩ ∧ γ.own (γ.tp k) = some (2, k) ∧ xs.length ≤ cap ∧ (∀ o, o < cap * s → (w.cell? ⟨γ.tp k, o, none⟩).isSome = true ∧ w.frozen? ⟨γ.tp k, o, none⟩ = false) ∧ ∀ o, D (γ.tp k) o → o < xs.length * s))

def RepV (γ : Gh) (w : World) (D : Dead) (st : St) : AV → Value → Prop
  | .undef, _ => True
  | .ptr k g off, v => g ≤ st.gen k ∧ (g = st.gen k → v = .pointer (some ⟨γ.bx k, off, none⟩))
  | .row k g, v => g ≤ st.gen k ∧ (g = st.gen k → ∀ xs, find k st.r = some xs → v = .slice (some ⟨γ.rw k, 0, none⟩) xs.length xs.length)
  | .rowp k g i, v => g ≤ st.gen k ∧ (g = st.gen k → v = .pointer (some ⟨γ.rw k, i, none⟩))
  | .tip k g s xs, v => g ≤ st.gen k ∧ RepD w D (.sl s false xs) v ∧ (g = st.gen k → TipOk γ w D k s xs v)
  | .tup vs, v => ∃ arr : Array Value, v = .tuple arr ∧ arr.size = vs.length ∧ ∀ (i : Nat) (c : AV) (cv : Value), vs[i]? = some c → arr[i]? = some cv → RepD w D c cv
  | a, v => RepD w D a v

theorem RepV.of {γ : Gh} {w : World} {D : Dead} {st : St} {a : AV} {v : Value} (h : RepD w D a v) : RepV γ w D st a v := by
  cases h <;> (unfold RepV; constructor <;> assumption)

/-- What a finished value is. -/
theorem RepV.dat {γ : Gh} {w : World} {D : Dead} {st : St} {a b : AV} {v : Value} (h : RepV γ w D st a v) (hd : a.dat = some b) : RepD w D b v := by
  cases a <;> simp only [AV.dat, Option.some.injEq, reduceCtorEq] at hd <;> subst hd <;> first | exact h | exact h.2.1

theorem RepV.mono {γ γ' : Gh} {w w' : World} {D D' : Dead} {st st' : St} (hp : Pres D w w') (hd : ∀ b o, D b o → D' b o)
    (h1 : ∀ k, st.gen k ≤ st'.gen k)
    (h2 : ∀ k, st'.gen k = st.gen k → γ'.bx k = γ.bx k ∧ γ'.rw k = γ.rw k ∧ (∀ xs', find k st'.r = some xs' → ∃ xs, find k st.r = some xs ∧ xs.length = xs'.length) ∧ (∀ s xs v, TipOk γ w D k s xs v → TipOk γ' w' D' k s xs v))
    {a : AV} {v : Value} (h : RepV γ w D st a v) : RepV γ' w' D' st' a v := by
  have key : ∀ {g k : Nat}, g ≤ st.gen k → g = st'.gen k → g = st.gen k ∧ st'.gen k = st.gen k := fun {g k} hg e => by have := h1 k; omega
  cases a with
  | undef => trivial
  | ptr k g off =>
    refine ⟨Nat.le_trans h.1 (h1 k), fun e => ?_⟩
    obtain ⟨e1, e2⟩ := key h.1 e
    rw [(h2 k e2).1]
    exact h.2 e1
  | row k g =>
    refine ⟨Nat.le_trans h.1 (h1 k), fun e xs' hx => ?_⟩
    obtain ⟨e1, e2⟩ := key h.1 e
    obtain ⟨xs, hxs, hl⟩ := (h2 k e2).2.2.1 xs' hx
    rw [(h2 k e2).2.1, ← hl]
    exact h.2 e1 xs hxs
  | rowp k g i =>
    refine ⟨Nat.le_trans h.1 (h1 k), fun e => ?_⟩
    obtain ⟨e1, e2⟩ := key h.1 e
    rw [(h2 k e2).2.1]
    exact h.2 e1
  | tip k g s xs =>
    refine ⟨Nat.le_trans h.1 (h1 k), RepD.mono hp hd h.2.1, fun e => ?_⟩
    obtain ⟨e1, e2⟩ := key h.1 e
    exact (h2 k e2).2.2.2 _ _ _ (h.2.2 e1)
  | tup vs =>
    obtain ⟨arr, e, hn, hh⟩ := h
    exact ⟨arr, e, hn, fun i c cv hi hj => (hh i c cv hi hj).mono hp hd⟩
  | _ => exact RepD.mono hp hd h

/-- Where a call began. -/
structure Ctx where
  w : World
  pb : List Nat      -- the blocks of the boxes that came in
  D : Dead

structure Frame (c : Ctx) (w : World) : Prop where
  os : w.os = c.w.os
  tape : w.tape = c.w.tape
  output : w.output = c.w.output
  size : c.w.heap.size ≤ w.heap.size
  block : ∀ b, b < c.w.heap.size → b ∉ c.pb → w.heap[b]? = c.w.heap[b]?

structure Inv (c : Ctx) (γ : Gh) (D : Dead) (st : St) (a : Act) (w : World) : Prop where
  nt : a.tmps.size = st.nt
  dfr : a.defers = []
  tm : ∀ t, RepV γ w D st (st.get t) (a.tmps.getD t undef)
  bx : ∀ k cs, find k st.b = some cs → γ.own (γ.bx k) = some (0, k) ∧ ∃ vs E, w.heap[γ.bx k]? = some (.cells vs E (0, 0)) ∧ vs.size = cs.length ∧ ∀ (i : Nat) (c : AV) (v : Value), cs[i]? = some c → vs[i]? = some v → RepV γ w D st c v ∧ (c = .undef ∨ c.cell1 = true)
  rw : ∀ k xs, find k st.r = some xs → γ.own (γ.rw k) = some (1, k) ∧ ∃ vs E, w.heap[γ.rw k]? = some (.cells vs E (0, 0)) ∧ vs.size = xs.length ∧ ∀ (i : Nat) (c : AV) (v : Value), xs[i]? = some c → vs[i]? = some v → RepD w D c v ∧ c.cell1 = true
  own : ∀ b q, γ.own b = some q → b < w.heap.size ∧ (c.w.heap.size ≤ b ∨ (b ∈ c.pb ∧ q.1 = 0))
  live : ∀ b k, (γ.own b = some (0, k) ∨ γ.own b = some (1, k)) → ∀ o, ¬ D b o
  fr : Frame c w
  dold : ∀ b o, b < c.w.heap.size → (D b o ↔ c.D b o)
  dlt : ∀ b o, D b o → b < w.heap.size
  pk : ∀ n, n < c.pb.length → γ.bx (1000000 + n) = c.pb.getD n 0

theorem St.get_put (st : St) (d : Nat) (v : AV) (t : Nat) : (st.put (some d) v).get t = if t = d ∧ d < st.nt then v else st.get t := by
  unfold St.put
  simp only
  split
  · rename_i h
    unfold St.get
    simp only
    by_cases e : t = d
    · subst e
      simp [find_put_same, h]
    · simp [find_put_ne e, e]
  · rename_i h
    simp [h]

theorem St.gen_put (st : St) (d : Option Nat) (v : AV) (k : Nat) : (st.put d v).gen k = st.gen k := by
  cases d with
  | none => rfl
  | some d => unfold St.put; simp only; split <;> rfl
theorem St.b_put (st : St) (d : Option Nat) (v : AV) : (st.put d v).b = st.b := by
  cases d with
  | none => rfl
  | some d => unfold St.put; simp only; split <;> rfl
theorem St.r_put (st : St) (d : Option Nat) (v : AV) : (st.put d v).r = st.r := by
  cases d with
  | none => rfl
  | some d => unfold St.put; simp only; split <;> rfl
theorem St.nt_put (st : St) (d : Option Nat) (v : AV) : (st.put d v).nt = st.nt := by
  cases d with
  | none => rfl
  | some d => unfold St.put; simp only; split <;> rfl

theorem RepV.st {γ : Gh} {w : World} {D : Dead} {st st' : St} (hg : ∀ k, st'.gen k = st.gen k) (hr : st'.r = st.r) {a : AV} {v : Value} (h : RepV γ w D st a v) : RepV γ w D st' a v :=
  RepV.mono (fun _ _ _ => rfl) (fun _ _ h => h) (fun k => Nat.le_of_eq (hg k).symm) (fun k _ => ⟨rfl, rfl, fun xs h => ⟨xs, hr ▸ h, rfl⟩, fun _ _ _ h => h⟩) h

theorem Act.getD_put (a : Act) (d : Nat) (v : Value) (t : Nat) : (a.put (some d) v).tmps.getD t undef = if t = d ∧ d < a.tmps.size then v else a.tmps.getD t undef := by
  simp only [Act.put, Array.getD_eq_getD_getElem?, Array.getElem?_setIfInBounds]
  by_cases e : d = t
  · subst e
    by_cases h : d < a.tmps.size
    · simp [h]
    · simp [h]
  · simp [e, Ne.symm e]

/-- A slot is written. -/
theorem Inv.put {c : Ctx} {γ : Gh} {D : Dead} {st : St} {a : Act} {w : World} (h : Inv c γ D st a w) {v : AV} {cv : Value} (hv : RepV γ w D st v cv) (dst : Option Nat) :
    Inv c γ D (st.put dst v) (a.put dst cv) w := by
  have hg := St.gen_put st dst v
  have hr := St.r_put st dst v
  refine ⟨?_, ?_, ?_, ?_, ?_, h.own, h.live, h.fr, h.dold, h.dlt, h.pk⟩
  · rw [St.nt_put]
    cases dst <;> simp [Act.put, h.nt]
  · cases dst <;> exact h.dfr
  · intro t
    cases dst with
    | none => exact h.tm t
    | some d =>
      refine RepV.st (st := st) hg hr ?_
      rw [St.get_put, Act.getD_put, h.nt]
      split
      · exact hv
      · exact h.tm t
  · intro k cs hk
    rw [St.b_put] at hk
    obtain ⟨h1, vs, E, h2, h3, h4⟩ := h.bx k cs hk
    exact ⟨h1, vs, E, h2, h3, fun i c v hi hj => ⟨RepV.st hg hr (h4 i c v hi hj).1, (h4 i c v hi hj).2⟩⟩
  · intro k xs hk
    rw [St.r_put] at hk
    exact h.rw k xs hk

theorem RepD.ofVal1 {w : World} {D : Dead} {γ : Gh} {st : St} (v : Value) : RepV γ w D st (ofVal1 v) v := by
  unfold AM.ofVal1
  split
  · exact .of (.int _ _)
  · exact .of (.bool _)
  · exact .of (.str _ _ rfl)
  · exact .of .nilp
  · exact .of (.slN _ _ _ _ (by simp))
  · exact .of .nili
  · exact .of .nilfn
  · trivial

theorem RepV.ofVal {w : World} {D : Dead} {γ : Gh} {st : St} (v : Value) : RepV γ w D st (ofVal v) v := by
  unfold AM.ofVal
  split
  · rename_i cs
    split
    · rename_i hall
      refine .of (.agg _ _ (by simp) (fun c hc => ?_) (fun i c v hi hj => ?_))
      · exact List.all_eq_true.1 hall c hc
      · have hc1 : c.cell1 = true := List.all_eq_true.1 hall c (List.mem_of_getElem? hi)
        rw [List.getElem?_map] at hi
        rw [Array.getElem?_toList, hj] at hi
        simp only [Option.map_some, Option.some.injEq] at hi
        subst hi
        have := RepD.ofVal1 (w := w) (D := D) (γ := ⟨id, id, id, fun _ => none⟩) (st := ⟨0, [], [], [], [], [], []⟩) v
        unfold ofVal1 at *
        split at this <;> first | exact this | (simp [AV.cell1] at hc1)
    · trivial
  · exact RepD.ofVal1 _

theorem RepV.cur {γ : Gh} {w : World} {D : Dead} {st : St} {a : AV} {v : Value} (h : RepV γ w D st a v) : RepV γ w D st (st.cur a) v := by
  cases a <;> simp only [St.cur] <;> try exact h
  all_goals
    split
    · exact h
    · first | trivial | exact h.2.1

theorem Inv.ev {c : Ctx} {γ : Gh} {D : Dead} {st : St} {a : Act} {w : World} (h : Inv c γ D st a w) (x : Operand) : RepV γ w D st (st.ev x) (a.eval x) := by
  cases x with
  | tmp t => exact (h.tm t).cur
  | const v => exact RepV.ofVal v
  | global g => trivial
  | func f => exact .of (.fn f)

/-- A value that counts now. -/
def St.isCur (st : St) : AV → Prop
  | .tip k g _ _ => g = st.gen k
  | .ptr k g _ => g = st.gen k
  | .row k g => g = st.gen k
  | .rowp k g _ => g = st.gen k
  | _ => True
theorem St.cur_isCur (st : St) (v : AV) : st.isCur (st.cur v) := by
  cases v <;> simp only [St.cur] <;> first | trivial | (split <;> first | trivial | assumption)
theorem ofVal_isCur (st : St) (v : Value) : st.isCur (ofVal v) := by
  unfold ofVal
  split
  · split <;> trivial
  · unfold ofVal1
    split <;> trivial
theorem St.ev_isCur (st : St) (x : Operand) : st.isCur (st.ev x) := by
  cases x with
  | tmp t => exact st.cur_isCur _
  | const v => exact ofVal_isCur st v
  | global g => trivial
  | func f => trivial

end Go.AM
