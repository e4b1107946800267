/- A law's row: what its arguments are as the machine has them; what it answers. -/
import Derived.Test.YtnhfjkckgicidaaAmPrg
import Derived.WalkKit
import Derived.ProofKit
import Derived.OpenShut
import Derived.ShutString
import Derived.ChangeOld
import Derived.Below
import Derived.Carry
import Derived.SizedLaws
set_option linter.unusedVariables false
set_option linter.unusedSimpArgs false
namespace Go.AM
open Go.RowKit Go.Lib Go.ChangeShapes Go.WideShapes

def aggT (P : Program) (t : TypeId) : Bool := match P.underlying t with | some (.struct _) | some (.array _ _) => true | _ => false
def tileB (P : Program) : Nat → List Field → Nat → Bool
  | o, [], n => o == n
  | o, f :: r, n => f.offset == o && tileB P (o + P.cellsOf f.type) r n
/-- Types whose values are read whole. -/
def plainT (P : Program) : Nat → TypeId → Bool
  | 0, _ => false
  | n + 1, t => match P.underlying t with
    | some .bool => P.cellsOf t == 1
    | some (.int _) => P.cellsOf t == 1
    | some .string => P.cellsOf t == 1
    | some (.slice e) => P.cellsOf t == 1 && (P.cellsOf e != 0 && plainT P n e)
    | some (.struct fs) => tileB P 0 fs.toList (P.cellsOf t) && fs.toList.all (fun f => plainT P n f.type)
    | _ => false

mutual
/-- Cells of a type. -/
def Wt (P : Program) : Nat → TypeId → List AV → Prop
  | 0, _, _ => False
  | n + 1, t, cs => match P.underlying t with
    | some .bool => ∃ b, cs = [.bool b]
    | some (.int k) => ∃ m, cs = [.int k m] ∧ (Lit.int k m).wf = true
    | some .string => ∃ l, cs = [.str l] ∧ l.length ≤ reachBytes
    | some (.slice e) => ∃ xs, cs = [.sl (P.cellsOf e) false xs] ∧ xs.length * P.bytesOf e ≤ reachBytes ∧ ∀ x ∈ xs, WtV P n e x
    | some (.struct fs) => WtFs P n (fs.toList.map (·.type)) cs
    | _ => False
/-- A value of a type. -/
def WtV (P : Program) : Nat → TypeId → AV → Prop
  | 0, _, _ => False
  | n + 1, t, x => x.cells.length = P.cellsOf t ∧ (match P.underlying t with
    | some .bool => ∃ b, x = .bool b
    | some (.int k) => ∃ m, x = .int k m ∧ (Lit.int k m).wf = true
    | some .string => ∃ l, x = .str l ∧ l.length ≤ reachBytes
    | some (.slice e) => ∃ xs, x = .sl (P.cellsOf e) false xs ∧ xs.length * P.bytesOf e ≤ reachBytes ∧ ∀ x ∈ xs, WtV P n e x
    | some (.struct fs) => ∃ l, x = .agg l ∧ WtFs P n (fs.toList.map (·.type)) l
    | _ => False)
def WtFs (P : Program) : Nat → List TypeId → List AV → Prop
  | _, [], cs => cs = []
  | n, t :: ts, cs => ∃ a b, cs = a ++ b ∧ a.length = P.cellsOf t ∧ Wt P n t a ∧ WtFs P n ts b
end

def Reps (w : World) (D : Dead) (avs : List AV) (cs : List Value) : Prop := ∀ (i : Nat) (c : AV) (v : Value), avs[i]? = some c → cs[i]? = some v → RepD w D c v ∧ c.cell1 = true

theorem exists_list {α : Type} {n : Nat} {p : Nat → α → Prop} (h : ∀ i, i < n → ∃ x, p i x) : ∃ xs : List α, xs.length = n ∧ ∀ (i : Nat) (x : α), xs[i]? = some x → p i x := by
  induction n with
  | zero => exact ⟨[], rfl, by simp⟩
  | succ n ih =>
    obtain ⟨xs, h1, h2⟩ := ih fun i hi => h i (by omega)
    obtain ⟨x, hx⟩ := h n (by omega)
    refine ⟨xs ++ [x], by simp [h1], fun i y hy => ?_⟩
    by_cases hi : i < n
    · rw [List.getElem?_append_left (by omega)] at hy
      exact h2 i y hy
    · by_cases e : i = n
      · subst e
        rw [List.getElem?_append_right (by omega)] at hy
        simp [h1] at hy
        subst hy
        exact hx
      · rw [List.getElem?_append_right (by omega)] at hy
        have : i - xs.length ≠ 0 := by omega
        simp [this] at hy

theorem Reps.append {w : World} {D : Dead} {a b : List AV} {x y : List Value} (hl : a.length = x.length) (h1 : Reps w D a x) (h2 : Reps w D b y) : Reps w D (a ++ b) (x ++ y) := by
  intro i c v hi hj
  by_cases h : i < a.length
  · rw [List.getElem?_append_left h] at hi
    rw [List.getElem?_append_left (by omega)] at hj
    exact h1 i c v hi hj
  · rw [List.getElem?_append_right (by omega)] at hi
    rw [List.getElem?_append_right (by omega), ← hl] at hj
    exact h2 _ c v hi hj

/-- All that stands is dead. -/
def oldD (w : World) : Dead := fun b _ => b < w.heap.size

section
variable {H : Type} {enc : TypeId × Value → H} {P : Program} {W : World} {spare : Nat → Bool} {held : Bool}

theorem Wt.toV {n : Nat} {t : TypeId} {avs : List AV} (hl : avs.length = P.cellsOf t) (h : Wt P n t avs) : ∃ x : AV, WtV P n t x ∧ x.cells = avs := by
  cases n with
  | zero => simp [Wt] at h
  | succ n =>
    unfold Wt at h
    unfold WtV
    split at h
    · rename_i hu
      obtain ⟨b, rfl⟩ := h
      exact ⟨.bool b, ⟨hl, by exact ⟨b, rfl⟩⟩, rfl⟩
    · rename_i hu
      obtain ⟨m, rfl, hw⟩ := h
      exact ⟨.int _ m, ⟨hl, by exact ⟨m, rfl, hw⟩⟩, rfl⟩
    · rename_i hu
      obtain ⟨l, rfl, hw⟩ := h
      exact ⟨.str l, ⟨hl, by exact ⟨l, rfl, hw⟩⟩, rfl⟩
    · rename_i hu
      obtain ⟨xs, rfl, hw⟩ := h
      exact ⟨.sl _ false xs, ⟨hl, by exact ⟨xs, rfl, hw⟩⟩, rfl⟩
    · rename_i hu
      exact ⟨.agg avs, ⟨hl, by exact ⟨avs, rfl, h⟩⟩, rfl⟩
    · exact h.elim

theorem reps_one {w : World} {D : Dead} {c : AV} {v : Value} (h : RepD w D c v) (h1 : c.cell1 = true) : Reps w D [c] [v] := by
  intro i c' v' hi hj
  cases i with
  | zero => simp at hi hj; subst hi; subst hj; exact ⟨h, h1⟩
  | succ i => simp at hi

theorem trod_fields {n fuel : Nat} (ih : ∀ (t : TypeId) (cs : List Value) (x : DataW H × List MemPlace), plainT P n t = true → DataW.trod enc P W 0 spare held fuel t cs = some x → (∀ m ∈ x.1.weights P t, m ≤ reachBytes) →
      ∃ avs, avs.length = cs.length ∧ avs.length = P.cellsOf t ∧ Wt P n t avs ∧ Reps W (oldD W) avs cs) {cs : List Value} :
    ∀ (l : List Field) (o : Nat), tileB P o l cs.length = true → (∀ f ∈ l, plainT P n f.type = true ∧ ∃ y, DataW.trod enc P W 0 spare held fuel f.type ((cs.drop f.offset).take (P.cellsOf f.type)) = some y ∧ ∀ m ∈ y.1.weights P f.type, m ≤ reachBytes) →
      ∃ avs, avs.length = (cs.drop o).length ∧ WtFs P n (l.map (·.type)) avs ∧ Reps W (oldD W) avs (cs.drop o)
  | [], o, ht, _ => by
    simp only [tileB, beq_iff_eq] at ht
    refine ⟨[], by simp [ht], by simp [WtFs], by intro i c v hi; simp at hi⟩
  | f :: r, o, ht, hf => by
    simp only [tileB, Bool.and_eq_true, beq_iff_eq] at ht
    obtain ⟨ho, ht⟩ := ht
    obtain ⟨hp, y, hy, hw⟩ := hf f (List.mem_cons_self ..)
    rw [ho] at hy
    obtain ⟨a, a1, a2, a3, a4⟩ := ih _ _ _ hp hy hw
    obtain ⟨b, b1, b2, b3⟩ := trod_fields ih r (o + P.cellsOf f.type) ht fun g hg => hf g (List.mem_cons_of_mem _ hg)
    have e : cs.drop o = (cs.drop o).take (P.cellsOf f.type) ++ cs.drop (o + P.cellsOf f.type) := by
      rw [← List.drop_drop]
      exact (List.take_append_drop _ _).symm
    refine ⟨a ++ b, by rw [e]; simp only [List.length_append]; rw [a1, b1], ?_, ?_⟩
    · simp only [List.map_cons, WtFs]
      exact ⟨a, b, rfl, a2, a3, b2⟩
    · rw [e]
      exact Reps.append a1 a4 b3

theorem weightsAll_mem {e : TypeId} : ∀ {l : List (DataW H)} {d : DataW H}, d ∈ l → ∀ m ∈ d.weights P e, m ∈ DataW.weightsAll P e l
  | [], d, h, _, _ => by simp at h
  | x :: r, d, h, m, hm => by
    simp only [DataW.weightsAll, List.mem_append]
    rcases List.mem_cons.1 h with e1 | e1
    · subst e1; exact .inl hm
    · exact .inr (weightsAll_mem e1 m hm)

theorem trod_rep : ∀ (n : Nat) (fuel : Nat) (t : TypeId) (cs : List Value) (x : DataW H × List MemPlace), plainT P n t = true → DataW.trod enc P W 0 spare held fuel t cs = some x → (∀ m ∈ x.1.weights P t, m ≤ reachBytes) →
    ∃ avs, avs.length = cs.length ∧ avs.length = P.cellsOf t ∧ Wt P n t avs ∧ Reps W (oldD W) avs cs := by
  intro n
  induction n with
  | zero => intro fuel t cs x hp; simp [plainT] at hp
  | succ n ih =>
    intro fuel t cs x hp h hw
    unfold plainT at hp
    split at hp
    · rename_i hu
      obtain ⟨b, rfl, rfl⟩ := DataW.trod_bool hu h
      exact ⟨[.bool b], rfl, by simpa using (beq_iff_eq.1 hp).symm, by unfold Wt; rw [hu]; exact ⟨b, rfl⟩, reps_one (.bool b) rfl⟩
    · rename_i k hu
      obtain ⟨m, rfl, rfl, hm⟩ := DataW.trod_int hu h
      exact ⟨[.int k m], rfl, by simpa using (beq_iff_eq.1 hp).symm, by unfold Wt; rw [hu]; exact ⟨m, rfl, hm⟩, reps_one (.int k m) rfl⟩
    · rename_i hu
      obtain ⟨s, rfl, rfl, hm⟩ := DataW.trod_string hu h
      have hl : s.data.toList.length ≤ reachBytes := hw _ (by simp [DataW.weights])
      exact ⟨[.str s.data.toList], rfl, by simpa using (beq_iff_eq.1 hp).symm, by unfold Wt; rw [hu]; exact ⟨_, rfl, hl⟩, reps_one (.str _ s rfl) rfl⟩
    · rename_i e hu
      simp only [Bool.and_eq_true, beq_iff_eq, bne_iff_ne, ne_eq] at hp
      obtain ⟨hp1, hp2, hp3⟩ := hp
      rcases DataW.trod_slice hu h with ⟨rfl, rfl⟩ | ⟨a, len, cap, elems, rest, n', rfl, rfl, rfl, hb, hl, hm, hlen, hel, _, _⟩
      · exact ⟨[.sl (P.cellsOf e) false []], rfl, by simpa using hp1.symm, by unfold Wt; rw [hu]; exact ⟨[], rfl, by simp, by simp⟩, reps_one (.slN _ _ _ _ (by simp)) rfl⟩
      · have hw' : ∀ m, m ∈ ((elems.map (·.1)).length * P.bytesOf e + (rest.map (·.1)).length * P.bytesOf e) :: (DataW.weightsAll P e (elems.map (·.1)) ++ DataW.weightsAll P e (rest.map (·.1))) → m ≤ reachBytes := by
          intro m hm
          refine hw m ?_
          simp only [DataW.weights, hu]
          rw [Nat.add_mul]
          exact hm
        have hel' : ∀ i, i < len → ∃ x : AV, WtV P n e x ∧ ∃ cs', W.cells? 0 (a.add (i * P.cellsOf e)) (P.cellsOf e) = some cs' ∧ x.cells.length = cs'.length ∧ Reps W (oldD W) x.cells cs' := by
          intro i hi
          have h1 := hel i hi
          have hlt : i < elems.length := by omega
          rw [List.getElem?_eq_getElem hlt, Option.bind_eq_some_iff] at h1
          obtain ⟨cs', hcs, hy⟩ := h1
          obtain ⟨avs, a1, a2, a3, a4⟩ := ih n' e cs' elems[i] hp3 hy (fun m hm => hw' m (List.mem_cons_of_mem _ (List.mem_append.2 (.inl (weightsAll_mem (List.mem_map_of_mem (List.getElem_mem hlt)) m hm)))))
          obtain ⟨x, hx, hxc⟩ := a3.toV a2
          exact ⟨x, hx, cs', hcs, by rw [hxc, a1], by rw [hxc]; exact a4⟩
        obtain ⟨xs, hxl, hxs⟩ := exists_list hel'
        have hbytes : xs.length * P.bytesOf e ≤ reachBytes := by
          have := hw' _ (List.mem_cons_self ..)
          simp only [List.length_map] at this
          rw [hxl]
          rw [hlen] at this
          omega
        refine ⟨[.sl (P.cellsOf e) false xs], rfl, by simpa using hp1.symm, ?_, reps_one ?_ rfl⟩
        · unfold Wt
          rw [hu]
          refine ⟨xs, rfl, hbytes, fun x hx => ?_⟩
          obtain ⟨i, hi⟩ := List.getElem?_of_mem hx
          exact (hxs i x hi).1
        · cases hx0 : xs with
          | nil =>
            rw [hx0] at hxl
            simp at hxl
            subst hxl
            exact .slN _ _ _ _ (by simp)
          | cons x0 xr =>
            have hpos : 0 < len := by rw [← hxl, hx0]; simp
            have hspot : a.spot = none := by
              obtain ⟨_, _, cs', hcs, _⟩ := hel' 0 hpos
              obtain ⟨_, q2, q3⟩ := World.cells?_some hcs
              have q4 := q3 0 (by omega)
              rw [Nat.zero_mul] at q4
              have e0 : (a.add 0).add 0 = a := by simp [Addr.add]
              rw [e0, List.getElem?_eq_getElem (show 0 < cs'.length by omega)] at q4
              unfold World.cell? at q4
              split at q4
              · split at q4
                · simp at q4
                · rename_i hs; simpa using hs
              · simp at q4
            obtain ⟨b, off, spot⟩ := a
            simp only at hspot
            subst hspot
            rw [← hx0]
            have hcell : ∀ (i : Nat) (x : AV) (j : Nat) (c : AV), xs[i]? = some x → x.cells[j]? = some c → ∃ v, W.cell? ⟨b, off + (i * P.cellsOf e + j), none⟩ = some v ∧ RepD W (oldD W) c v ∧ c.cell1 = true ∧ b < W.heap.size := by
              intro i x j c hi hj
              obtain ⟨_, cs', hcs, hlc, hR⟩ := hxs i x hi
              obtain ⟨_, q2, q3⟩ := World.cells?_some hcs
              have hjlt : j < x.cells.length := (List.getElem?_eq_some_iff.1 hj).1
              have hjlt' : j < cs'.length := by omega
              have q4 := q3 j (by omega)
              have ea : ((⟨b, off, none⟩ : Addr).add (i * P.cellsOf e)).add j = ⟨b, off + (i * P.cellsOf e + j), none⟩ := by rw [addr_add, addr_add, Nat.add_assoc]
              rw [ea, List.getElem?_eq_getElem hjlt'] at q4
              obtain ⟨r1, r2⟩ := hR j c cs'[j] hj (List.getElem?_eq_getElem hjlt')
              refine ⟨_, q4, r1, r2, ?_⟩
              unfold World.cell? at q4
              split at q4
              · rename_i hh; exact (Array.getElem?_eq_some_iff.1 hh).1
              · simp at q4
            have hxl' : len = xs.length := hxl.symm
            rw [hxl']
            refine .sl _ _ _ b off cap (fun i j => (W.cell? ⟨b, off + (i * P.cellsOf e + j), none⟩).getD Go.undef) (by omega) (by simp) (fun i x hi => ?_) (fun i x j c hi hj => ?_) (fun i x j c hi hj => ?_)
            · obtain ⟨_, cs', hcs, hlc, _⟩ := hxs i x hi
              obtain ⟨_, q2, _⟩ := World.cells?_some hcs
              omega
            · obtain ⟨v, q1, q2, q3, q4⟩ := hcell i x j c hi hj
              exact ⟨q3, q4, by rw [q1]; rfl⟩
            · obtain ⟨v, q1, q2, q3, q4⟩ := hcell i x j c hi hj
              simp only [q1, Option.getD_some]
              exact q2
    · rename_i fs hu
      simp only [Bool.and_eq_true, List.all_eq_true] at hp
      obtain ⟨hp1, hp2⟩ := hp
      obtain ⟨xs, n', rfl, rfl, hl, hxl, hf⟩ := DataW.trod_struct hu h
      obtain ⟨avs, a1, a2, a3⟩ := trod_fields (fun t cs x => ih n' t cs x) (cs := cs) fs.toList 0 (by rw [hl]; exact hp1) (fun f hfm => by
        refine ⟨hp2 f hfm, ?_⟩
        obtain ⟨i, hi⟩ := List.getElem?_of_mem hfm
        have hi' : fs[i]? = some f := by simpa using hi
        have hlt : i < xs.length := by rw [hxl]; exact (Array.getElem?_eq_some_iff.1 hi').1
        refine ⟨xs[i], by rw [hf i f hi', List.getElem?_eq_getElem hlt], fun m hm => hw m ?_⟩
        simp only [DataW.weights, hu]
        exact DataW.weights_mem_each (j := i) (t := f.type) (d := xs[i].1) (by simp [hi']) (by simp [hlt]) m hm)
      simp only [List.drop_zero] at a1 a3
      exact ⟨avs, a1, by rw [a1, hl], by unfold Wt; rw [hu]; exact a2, a3⟩
    · simp at hp

/-- The arguments. -/
def WtArgs (P : Program) (n : Nat) : List TypeId → List AV → Prop
  | [], avs => avs = []
  | t :: ts, avs => ∃ x r, avs = x :: r ∧ WtV P n t x ∧ WtArgs P n ts r

theorem WtV.dataPtr {n : Nat} {t : TypeId} {x : AV} (h : WtV P n t x) : ∀ k g off, x ≠ .ptr k g off := by
  intro k g off e
  subst e
  cases n with
  | zero => simp [WtV] at h
  | succ n =>
    unfold WtV at h
    obtain ⟨_, h⟩ := h
    split at h
    · obtain ⟨_, h⟩ := h; simp at h
    · obtain ⟨_, h, _⟩ := h; simp at h
    · obtain ⟨_, h, _⟩ := h; simp at h
    · obtain ⟨_, h, _⟩ := h; simp at h
    · obtain ⟨_, h, _⟩ := h; simp at h
    · exact h

variable {base : Nat}
theorem value_rep {n : Nat} {t : TypeId} {v : Value} {d : DataW H} {ps : List MemPlace} (hp : plainT P n t = true) (hv : Value.okWide P W .any base t v) (h : DataW.Trod enc P W 0 spare held t v d ps) (hw : ∀ m ∈ d.weights P t, m ≤ reachBytes) :
    ∃ x, WtV P n t x ∧ RepD W (oldD W) x v := by
  obtain ⟨fuel, hf⟩ := h
  obtain ⟨avs, a1, a2, a3, a4⟩ := trod_rep n fuel t _ _ hp hf hw
  cases n with
  | zero => simp [plainT] at hp
  | succ n =>
    unfold Wt at a3
    unfold WtV
    have one : ∀ (c : AV), avs = [c] → (∀ cs, v ≠ .agg cs) → RepD W (oldD W) c v := by
      intro c e hne
      subst e
      have : v.cells = #[v] := by cases v <;> first | rfl | exact absurd rfl (hne _)
      rw [this] at a4
      exact (a4 0 c v rfl rfl).1
    split at a3
    · rename_i hu
      obtain ⟨b, e⟩ := a3
      refine ⟨.bool b, ⟨by rw [← a2, e]; rfl, b, rfl⟩, one _ e ?_⟩
      obtain ⟨_, rfl⟩ := okWide_bool hu hv
      simp
    · rename_i k hu
      obtain ⟨m, e, hm⟩ := a3
      refine ⟨.int k m, ⟨by rw [← a2, e]; rfl, m, rfl, hm⟩, one _ e ?_⟩
      obtain ⟨_, rfl⟩ := okWide_int hu hv
      simp
    · rename_i hu
      obtain ⟨l, e, hl⟩ := a3
      refine ⟨.str l, ⟨by rw [← a2, e]; rfl, l, rfl, hl⟩, one _ e ?_⟩
      obtain ⟨_, rfl⟩ := okWide_string hu hv
      simp
    · rename_i e' hu
      obtain ⟨xs, e, h1, h2⟩ := a3
      refine ⟨.sl _ false xs, ⟨by rw [← a2, e]; rfl, xs, rfl, h1, h2⟩, one _ e ?_⟩
      obtain ⟨_, _, _, rfl⟩ := okWide_slice hu hv
      simp
    · rename_i fs hu
      refine ⟨.agg avs, ⟨a2, avs, rfl, a3⟩, ?_⟩
      have hv' := hv
      unfold Value.okWide at hv'
      rw [hu] at hv'
      obtain ⟨cs, rfl, hcs, _⟩ := hv'
      refine .agg _ _ (by simpa [Value.cells] using a1.symm) (fun c hc => ?_) (fun i c v hi hj => (a4 i c v hi (by simpa [Value.cells] using hj)).1)
      obtain ⟨i, hi⟩ := List.getElem?_of_mem hc
      have hlt : i < cs.size := by
        have := (List.getElem?_eq_some_iff.1 hi).1
        simp [Value.cells] at a1
        omega
      exact (a4 i c cs[i] hi (by simp [Value.cells, hlt])).2
    · exact a3.elim

theorem args_rep {n : Nat} : ∀ {ts : List TypeId} {vs : List Value} {ds : List (DataW H)} {ps : List MemPlace}, ts.all (plainT P n) = true → (∀ (j : Nat) t v, ts[j]? = some t → vs[j]? = some v → Value.okWide P W .any base t v) →
    DataW.TrodAll enc P W 0 spare held ts vs ds ps → (∀ m ∈ DataW.weightsEach P ts ds, m ≤ reachBytes) → ∃ avs, WtArgs P n ts avs ∧ avs.length = vs.length ∧ ∀ (i : Nat) (x : AV) (v : Value), avs[i]? = some x → vs[i]? = some v → RepD W (oldD W) x v ∧ ∀ k g off, x ≠ .ptr k g off
  | [], vs, ds, ps, _, _, h, _ => by
    obtain ⟨rfl, rfl, rfl⟩ := trodAll_nil h
    exact ⟨[], rfl, rfl, by simp⟩
  | t :: ts, vs, ds, ps, hp, hv, h, hw => by
    obtain ⟨v, vs', d, ds', p, q, rfl, rfl, rfl, h1, h2⟩ := trodAll_cons h
    simp only [List.all_cons, Bool.and_eq_true] at hp
    simp only [DataW.weightsEach, List.mem_append] at hw
    obtain ⟨x, hx, hr⟩ := value_rep hp.1 (hv 0 t v rfl rfl) h1 (fun m hm => hw m (.inl hm))
    obtain ⟨r, hr1, hr2, hr3⟩ := args_rep hp.2 (fun j t v ht hv' => hv (j + 1) t v (by simpa using ht) (by simpa using hv')) h2 (fun m hm => hw m (.inr hm))
    refine ⟨x :: r, ⟨x, r, rfl, hx, hr1⟩, by simp [hr2], fun i y u hi hj => ?_⟩
    cases i with
    | zero => simp at hi hj; subst hi; subst hj; exact ⟨hr, hx.dataPtr⟩
    | succ i => exact hr3 i y u (by simpa using hi) (by simpa using hj)

/-- What a law does, from what its machine answers. -/
theorem law_calls {pr : Prg} (hP : PrgOk P pr) {f n : Nat} {ts : List TypeId} (hts : ts.all (plainT P n) = true) {args : Array Value} {ds : List (DataW H)} {ps : List MemPlace} (hv : ∀ (j : Nat) t v, ts[j]? = some t → args[j]? = some v → Value.okWide P W .any base t v)
    (hA : DataW.TrodAll enc P W 0 spare held ts args.toList ds ps) (hw : (DataW.weightsEach P ts ds).all (· ≤ reachBytes) = true) (law : ∀ avs, WtArgs P n ts avs → ∃ k, evF pr k f avs [] = some (.bool true, [])) :
    Calls P f args W fun e W' => e = .returned (.bool true) ∧ Below W.heap.size W W' := by
  obtain ⟨avs, h1, h2, h3⟩ := args_rep hts (fun j t v ht hj => hv j t v ht (by simpa using hj)) hA (fun m hm => by simpa using List.all_eq_true.1 hw m hm)
  obtain ⟨k, hk⟩ := law avs h1
  obtain ⟨_, hc⟩ := evF_sound hP k f avs [] _ _ hk
  refine (hc W (oldD W) (fun _ => 0) args (fun b o h => h) ⟨by simpa using h2.symm, fun i v cv hi hj => ?_⟩ (by intro n cs h; simp at h) (by intro m n hm; simp at hm) (by intro n hn; simp at hn)).mono fun e W' hp => ?_
  · obtain ⟨q1, q2⟩ := h3 i v cv hi (by simpa using hj)
    cases v <;> first | exact q1 | exact absurd rfl (q2 _ _ _)
  · obtain ⟨cv, D', rfl, hR, _, _, hA⟩ := hp
    have : cv = .bool true := by cases (show RepD W' D' (.bool true) cv from hR); rfl
    subst this
    exact ⟨rfl, hA.os, hA.tape, hA.output, hA.size, fun b hb => hA.block b hb (by intro n hn; simp at hn)⟩

end
end Go.AM
