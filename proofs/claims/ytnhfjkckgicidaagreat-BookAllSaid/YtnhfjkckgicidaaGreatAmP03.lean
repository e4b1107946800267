/- A law's row: what its arguments are as the machine has them; what it answers. -/
import Derived.Test.YtnhfjkckgicidaaGreatAmP02
import Derived.WalkKit
import Derived.ProofKit
import Derived.OpenShut
import Derived.ShutString
import Derived.ChangeOld
import Derived.Below
import Derived.Carry
import Derived.SizedLaws
import Derived.Calls
set_option linter.unusedVariables false
set_option linter.unusedSimpArgs false
namespace Go.AM
open Go.RowKit Go.Lib Go.ChangeShapes Go.WideShapes
def tileB (P : Program) : Nat → List Field → Nat → Bool
 | o, [], n => o == n
 | o, f :: r, n => f.offset == o && tileB P (o + P.cellsOf f.type) r n
def plainT (P : Program) : Nat → TypeId → Bool
 | 0, _ => false
 | n + 1, t => match P.underlying t with
  | some .bool => P.cellsOf t == 1
  | some (.int _) => P.cellsOf t == 1
  | some .string => P.cellsOf t == 1
  | some (.slice e) => P.cellsOf t == 1 && (P.cellsOf e != 0 && plainT P n e)
  | some (.struct fs) => tileB P 0 fs.toList (P.cellsOf t) && fs.toList.all (fun f => plainT P n f.type)
  | _ => false
mutual
def Wt (P : Program) : Nat → TypeId → List AV → Prop
 | 0, _, _ => False
 | n + 1, t, cs => match P.underlying t with
  | some .bool => ∃ b, cs = [.bool b]
  | some (.int k) => ∃ m, cs = [.int k m] ∧ (Lit.int k m).wf = true
  | some .string => ∃ l, cs = [.str l] ∧ l.length ≤ reachBytes
  | some (.slice e) => ∃ xs, cs = [.sl (P.cellsOf e) false xs] ∧ xs.length * P.bytesOf e ≤ reachBytes ∧ ∀ x ∈ xs, WtV P n e x
  | some (.struct fs) => WtFs P n (fs.toList.map (·.type)) cs
  | _ => False
def WtV (P : Program) : Nat → TypeId → AV → Prop
 | 0, _, _ => False
 | n + 1, t, x => x.cells.length = P.cellsOf t ∧ (match P.underlying t with
  | some .bool => ∃ b, x = .bool b
  | some (.int k) => ∃ m, x = .int k m ∧ (Lit.int k m).wf = true
  | some .string => ∃ l, x = .str l ∧ l.length ≤ reachBytes
  | some (.slice e) => ∃ xs, x = .sl (P.cellsOf e) false xs ∧ xs.length * P.bytesOf e ≤ reachBytes ∧ ∀ x ∈ xs, WtV P n e x
  | some (.struct fs) => ∃ l, x = .agg l ∧ WtFs P n (fs.toList.map (·.type)) l
  | _ => False)
def WtFs (P : Program) : Nat → List TypeId → List AV → Prop
 | _, [], cs => cs = []
 | n, t :: ts, cs => ∃ a b, cs = a ++ b ∧ a.length = P.cellsOf t ∧ Wt P n t a ∧ WtFs P n ts b
end
def Reps (w : World) (D : Dead) (avs : List AV) (cs : List Value) : Prop := ∀ (i : Nat) (c : AV) (v : Value), avs[i]? = some c → cs[i]? = some v → RepD w D c v ∧ c.cell1 = true
theorem exists_list {α : Type} {n : Nat} {p : Nat → α → Prop} (h : ∀ i, i < n → ∃ x, p i x) : ∃ xs : List α, xs.length = n ∧ ∀ (i : Nat) (x : α), xs[i]? = some x → p i x := by
 induction n with
 | zero => exact ⟨[], rfl, by simp⟩
 | succ n ih =>
  obtain ⟨xs, h1, h2⟩ := ih fun i hi => h i (by omega)
  obtain ⟨x, hx⟩ := h n (by omega)
  refine ⟨xs ++ [x], by simp [h1], fun i y hy => ?_⟩
  by_cases hi : i < n
  ·rw [List.getElem?_append_left (by omega)] at hy
   exact h2 i y hy
  ·by_cases e : i = n
   ·subst e
    rw [List.getElem?_append_right (by omega)] at hy
    simp [h1] at hy
    subst hy
    exact hx
   ·rw [List.getElem?_append_right (by omega)] at hy
    have : i - xs.length ≠ 0 := by omega
    simp [this] at hy
theorem Reps.append {w : World} {D : Dead} {a b : List AV} {x y : List Value} (hl : a.length = x.length) (h1 : Reps w D a x) (h2 : Reps w D b y) : Reps w D (a ++ b) (x ++ y) := by
 intro i c v hi hj
 by_cases h : i < a.length
 ·rw [List.getElem?_append_left h] at hi
  rw [List.getElem?_append_left (by omega)] at hj
  exact h1 i c v hi hj
 ·rw [List.getElem?_append_right (by omega)] at hi
  rw [List.getElem?_append_right (by omega), ← hl] at hj
  exact h2 _ c v hi hj
def oldD (w : World) : Dead := fun b _ => b < w.heap.size
section
variable {H : Type} {enc : TypeId × Value → H} {P : Program} {W : World} {spare : Nat → Bool} {held : Bool}
theorem Wt.toV {n : Nat} {t : TypeId} {avs : List AV} (hl : avs.length = P.cellsOf t) (h : Wt P n t avs) : ∃ x : AV, WtV P n t x ∧ x.cells = avs := by
 cases n with
 | zero => simp [Wt] at h
 | succ n =>
  unfold Wt at h
  unfold WtV
  split at h
  ·rename_i hu
   obtain ⟨b, rfl⟩ := h
   exact ⟨.bool b, ⟨hl, by exact ⟨b, rfl⟩⟩, rfl⟩
  ·rename_i hu
   obtain ⟨m, rfl, hw⟩ := h
   exact ⟨.int _ m, ⟨hl, by exact ⟨m, rfl, hw⟩⟩, rfl⟩
  ·rename_i hu
   obtain ⟨l, rfl, hw⟩ := h
   exact ⟨.str l, ⟨hl, by exact ⟨l, rfl, hw⟩⟩, rfl⟩
  ·rename_i hu
   obtain ⟨xs, rfl, hw⟩ := h
   exact ⟨.sl _ false xs, ⟨hl, by exact ⟨xs, rfl, hw⟩⟩, rfl⟩
  ·rename_i hu
   exact ⟨.agg avs, ⟨hl, by exact ⟨avs, rfl, h⟩⟩, rfl⟩
  ·exact h.elim
theorem reps_one {w : World} {D : Dead} {c : AV} {v : Value} (h : RepD w D c v) (h1 : c.cell1 = true) : Reps w D [c] [v] := by
 intro i c' v' hi hj
 cases i with
 | zero => simp at hi hj; subst hi; subst hj; exact ⟨h, h1⟩
 | succ i => simp at hi
theorem trod_fields {n fuel : Nat} (ih : ∀ (t : TypeId) (cs : List Value) (x : DataW H × List MemPlace), plainT P n t = true → DataW.trod enc P W 0 spare held fuel t cs = some x → (∀ m ∈ x.1.weights P t, m ≤ reachBytes) →
   ∃ avs, avs.length = cs.length ∧ avs.length = P.cellsOf t ∧ Wt P n t avs ∧ Reps W (oldD W) avs cs) {cs : List Value} :
  ∀ (l : List Field) (o : Nat), tileB P o l cs.length = true → (∀ f ∈ l, plainT P n f.type = true ∧ ∃ y, DataW.trod enc P W 0 spare held fuel f.type ((cs.drop f.offset).take (P.cellsOf f.type)) = some y ∧ ∀ m ∈ y.1.weights P f.type, m ≤ reachBytes) →
   ∃ avs, avs.length = (cs.drop o).length ∧ WtFs P n (l.map (·.type)) avs ∧ Reps W (oldD W) avs (cs.drop o)
 | [], o, ht, _ => by
  simp only [tileB, beq_iff_eq] at ht
  refine ⟨[], by simp [ht], by simp [WtFs], by intro i c v hi; simp at hi⟩
 | f :: r, o, ht, hf => by
  simp only [tileB, Bool.and_eq_true, beq_iff_eq] at ht
  obtain ⟨ho, ht⟩ := ht
  obtain ⟨hp, y, hy, hw⟩ := hf f (List.mem_cons_self ..)
  rw [ho] at hy
  obtain ⟨a, a1, a2, a3, a4⟩ := ih _ _ _ hp hy hw
  obtain ⟨b, b1, b2, b3⟩ := trod_fields ih r (o + P.cellsOf f.type) ht fun g hg => hf g (List.mem_cons_of_mem _ hg)
  have e : cs.drop o = (cs.drop o).take (P.cellsOf f.type) ++ cs.drop (o + P.cellsOf f.type) := by
   rw [← List.drop_drop]
   exact (List.take_append_drop _ _).symm
  refine ⟨a ++ b, by rw [e]; simp only [List.length_append]; rw [a1, b1], ?_, ?_⟩
  ·simp only [List.map_cons, WtFs]
   exact ⟨a, b, rfl, a2, a3, b2⟩
  ·rw [e]
   exact Reps.append a1 a4 b3
theorem weightsAll_mem {e : TypeId} : ∀ {l : List (DataW H)} {d : DataW H}, d ∈ l → ∀ m ∈ d.weights P e, m ∈ DataW.weightsAll P e l
 | [], d, h, _, _ => by simp at h
 | x :: r, d, h, m, hm => by
  simp only [DataW.weightsAll, List.mem_append]
  rcases List.mem_cons.1 h with e1 | e1
  ·subst e1; exact .inl hm
  ·exact .inr (weightsAll_mem e1 m hm)
theorem trod_rep : ∀ (n : Nat) (fuel : Nat) (t : TypeId) (cs : List Value) (x : DataW H × List MemPlace), plainT P n t = true → DataW.trod enc P W 0 spare held fuel t cs = some x → (∀ m ∈ x.1.weights P t, m ≤ reachBytes) →
  ∃ avs, avs.length = cs.length ∧ avs.length = P.cellsOf t ∧ Wt P n t avs ∧ Reps W (oldD W) avs cs := by
 intro n
 induction n with
 | zero => intro fuel t cs x hp; simp [plainT] at hp
 | succ n ih =>
  intro fuel t cs x hp h hw
  unfold plainT at hp
  split at hp
  ·rename_i hu
   obtain ⟨b, rfl, rfl⟩ := DataW.trod_bool hu h
   exact ⟨[.bool b], rfl, by simpa using (beq_iff_eq.1 hp).symm, by unfold Wt; rw [hu]; exact ⟨b, rfl⟩, reps_one (.bool b) rfl⟩
  ·rename_i k hu
   obtain ⟨m, rfl, rfl, hm⟩ := DataW.trod_int hu h
   exact ⟨[.int k m], rfl, by simpa using (beq_iff_eq.1 hp).symm, by unfold Wt; rw [hu]; exact ⟨m, rfl, hm⟩, reps_one (.int k m) rfl⟩
  ·rename_i hu
   obtain ⟨s, rfl, rfl, hm⟩ := DataW.trod_string hu h
   have hl : s.data.toList.length ≤ reachBytes := hw _ (by simp [DataW.weights])
   exact ⟨[.str s.data.toList], rfl, by simpa using (beq_iff_eq.1 hp).symm, by unfold Wt; rw [hu]; exact ⟨_, rfl, hl⟩, reps_one (.str _ s rfl) rfl⟩
  ·rename_i e hu
   simp only [Bool.and_eq_true, beq_iff_eq, bne_iff_ne, ne_eq] at hp
   obtain ⟨hp1, hp2, hp3⟩ := hp
   rcases DataW.trod_slice hu h with ⟨rfl, rfl⟩ | ⟨a, len, cap, elems, rest, n', rfl, rfl, rfl, hb, hl, hm, hlen, hel, _, _⟩
   ·exact ⟨[.sl (P.cellsOf e) false []], rfl, by simpa using hp1.symm, by unfold Wt; rw [hu]; exact ⟨[], rfl, by simp, by simp⟩, reps_one (.slN _ _ _ _ (by simp)) rfl⟩
   ·have hw' : ∀ m, m ∈ ((elems.map (·.1)).length * P.bytesOf e + (rest.map (·.1)).length * P.bytesOf e) :: (DataW.weightsAll P e (elems.map (·.1)) ++ DataW.weightsAll P e (rest.map (·.1))) → m ≤ reachBytes := by
     intro m hm
     refine hw m ?_
     simp only [DataW.weights, hu]
     rw [Nat.add_mul]
     exact hm
    have hel' : ∀ i, i < len → ∃ x : AV, WtV P n e x ∧ ∃ cs', W.cells? 0 (a.add (i * P.cellsOf e)) (P.cellsOf e) = some cs' ∧ x.cells.length = cs'.length ∧ Reps W (oldD W) x.cells cs' := by
     intro i hi
     have h1 := hel i hi
     have hlt : i < elems.length := by omega
     rw [List.getElem?_eq_getElem hlt, Option.bind_eq_some_iff] at h1
     obtain ⟨cs', hcs, hy⟩ := h1
     obtain ⟨avs, a1, a2, a3, a4⟩ := ih n' e cs' elems[i] hp3 hy (fun m hm => hw' m (List.mem_cons_of_mem _ (List.mem_append.2 (.inl (weightsAll_mem (List.mem_map_of_mem (List.getElem_mem hlt)) m hm)))))
     obtain ⟨x, hx, hxc⟩ := a3.toV a2
     exact ⟨x, hx, cs', hcs, by rw [hxc, a1], by rw [hxc]; exact a4⟩
    obtain ⟨xs, hxl, hxs⟩ := exists_list hel'
    have hbytes : xs.length * P.bytesOf e ≤ reachBytes := by
     have := hw' _ (List.mem_cons_self ..)
     simp only [List.length_map] at this
     rw [hxl]
     rw [hlen] at this
     omega
    refine ⟨[.sl (P.cellsOf e) false xs], rfl, by simpa using hp1.symm, ?_, reps_one ?_ rfl⟩
    ·unfold Wt
     rw [hu]
     refine ⟨xs, rfl, hbytes, fun x hx => ?_⟩
     obtain ⟨i, hi⟩ := List.getElem?_of_mem hx
     exact (hxs i x hi).1
    ·cases hx0 : xs with
     | nil =>
      rw [hx0] at hxl
      simp at hxl
      subst hxl
      exact .slN _ _ _ _ (by simp)
     | cons x0 xr =>
      have hpos : 0 < len := by rw [← hxl, hx0]; simp
      have hspot : a.spot = none := by
       obtain ⟨_, _, cs', hcs, _⟩ := hel' 0 hpos
       obtain ⟨_, q2, q3⟩ := World.cells?_some hcs
       have q4 := q3 0 (by omega)
       rw [Nat.zero_mul] at q4
       have e0 : (a.add 0).add 0 = a := by simp [Addr.add]
       rw [e0, List.getElem?_eq_getElem (show 0 < cs'.length by omega)] at q4
       unfold World.cell? at q4
       split at q4
       ·split at q4
        ·simp at q4
        ·rename_i hs; simpa using hs
       ·simp at q4
      obtain ⟨b, off, spot⟩ := a
      simp only at hspot
      subst hspot
      rw [← hx0]
      have hcell : ∀ (i : Nat) (x : AV) (j : Nat) (c : AV), xs[i]? = some x → x.cells[j]? = some c → ∃ v, W.cell? ⟨b, off + (i * P.cellsOf e + j), none⟩ = some v ∧ RepD W (oldD W) c v ∧ c.cell1 = true ∧ b < W.heap.size := by
       intro i x j c hi hj
       obtain ⟨_, cs', hcs, hlc, hR⟩ := hxs i x hi
       obtain ⟨_, q2, q3⟩ := World.cells?_some hcs
       have hjlt : j < x.cells.length := (List.getElem?_eq_some_iff.1 hj).1
       have hjlt' : j < cs'.length := by omega
       have q4 := q3 j (by omega)
       have ea : ((⟨b, off, none⟩ : Addr).add (i * P.cellsOf e)).add j = ⟨b, off + (i * P.cellsOf e + j), none⟩ := by rw [addr_add, addr_add, Nat.add_assoc]
       rw [ea, List.getElem?_eq_getElem hjlt'] at q4
       obtain ⟨r1, r2⟩ := hR j c cs'[j] hj (List.getElem?_eq_getElem hjlt')
       refine ⟨_, q4, r1, r2, ?_⟩
       unfold World.cell? at q4
       split at q4
       ·rename_i hh; exact (Array.getElem?_eq_some_iff.1 hh).1
       ·simp at q4
      have hxl' : len = xs.length := hxl.symm
      rw [hxl']
      refine .sl _ _ _ b off cap (fun i j => (W.cell? ⟨b, off + (i * P.cellsOf e + j), none⟩).getD Go.undef) (by omega) (by simp) (fun i x hi => ?_) (fun i x j c hi hj => ?_) (fun i x j c hi hj => ?_)
      ·obtain ⟨_, cs', hcs, hlc, _⟩ := hxs i x hi
       obtain ⟨_, q2, _⟩ := World.cells?_some hcs
       omega
      ·obtain ⟨v, q1, q2, q3, q4⟩ := hcell i x j c hi hj
       exact ⟨q3, q4, by rw [q1]; rfl⟩
      ·obtain ⟨v, q1, q2, q3, q4⟩ := hcell i x j c hi hj
       simp only [q1, Option.getD_some]
       exact q2
  ·rename_i fs hu
   simp only [Bool.and_eq_true, List.all_eq_true] at hp
   obtain ⟨hp1, hp2⟩ := hp
   obtain ⟨xs, n', rfl, rfl, hl, hxl, hf⟩ := DataW.trod_struct hu h
   obtain ⟨avs, a1, a2, a3⟩ := trod_fields (fun t cs x => ih n' t cs x) (cs := cs) fs.toList 0 (by rw [hl]; exact hp1) (fun f hfm => by
    refine ⟨hp2 f hfm, ?_⟩
    obtain ⟨i, hi⟩ := List.getElem?_of_mem hfm
    have hi' : fs[i]? = some f := by simpa using hi
    have hlt : i < xs.length := by rw [hxl]; exact (Array.getElem?_eq_some_iff.1 hi').1
    refine ⟨xs[i], by rw [hf i f hi', List.getElem?_eq_getElem hlt], fun m hm => hw m ?_⟩
    simp only [DataW.weights, hu]
    exact DataW.weights_mem_each (j := i) (t := f.type) (d := xs[i].1) (by simp [hi']) (by simp [hlt]) m hm)
   simp only [List.drop_zero] at a1 a3
   exact ⟨avs, a1, by rw [a1, hl], by unfold Wt; rw [hu]; exact a2, a3⟩
  ·simp at hp
def WtArgs (P : Program) (n : Nat) : List TypeId → List AV → Prop
 | [], avs => avs = []
 | t :: ts, avs => ∃ x r, avs = x :: r ∧ WtV P n t x ∧ WtArgs P n ts r
theorem WtV.dataPtr {n : Nat} {t : TypeId} {x : AV} (h : WtV P n t x) : ∀ k g off, x ≠ .ptr k g off := by
 intro k g off e
 subst e
 cases n with
 | zero => simp [WtV] at h
 | succ n =>
  unfold WtV at h
  obtain ⟨_, h⟩ := h
  split at h
  ·obtain ⟨_, h⟩ := h; simp at h
  ·obtain ⟨_, h, _⟩ := h; simp at h
  ·obtain ⟨_, h, _⟩ := h; simp at h
  ·obtain ⟨_, h, _⟩ := h; simp at h
  ·obtain ⟨_, h, _⟩ := h; simp at h
  ·exact h
variable {base : Nat}
theorem value_rep {n : Nat} {t : TypeId} {v : Value} {d : DataW H} {ps : List MemPlace} (hp : plainT P n t = true) (hv : Value.okWide P W .any base t v) (h : DataW.Trod enc P W 0 spare held t v d ps) (hw : ∀ m ∈ d.weights P t, m ≤ reachBytes) :
  ∃ x, WtV P n t x ∧ RepD W (oldD W) x v := by
 obtain ⟨fuel, hf⟩ := h
 obtain ⟨avs, a1, a2, a3, a4⟩ := trod_rep n fuel t _ _ hp hf hw
 cases n with
 | zero => simp [plainT] at hp
 | succ n =>
  unfold Wt at a3
  unfold WtV
  have one : ∀ (c : AV), avs = [c] → (∀ cs, v ≠ .agg cs) → RepD W (oldD W) c v := by
   intro c e hne
   subst e
   have : v.cells = #[v] := by cases v <;> first | rfl | exact absurd rfl (hne _)
   rw [this] at a4
   exact (a4 0 c v rfl rfl).1
  split at a3
  ·rename_i hu
   obtain ⟨b, e⟩ := a3
   refine ⟨.bool b, ⟨by rw [← a2, e]; rfl, b, rfl⟩, one _ e ?_⟩
   obtain ⟨_, rfl⟩ := okWide_bool hu hv
   simp
  ·rename_i k hu
   obtain ⟨m, e, hm⟩ := a3
   refine ⟨.int k m, ⟨by rw [← a2, e]; rfl, m, rfl, hm⟩, one _ e ?_⟩
   obtain ⟨_, rfl⟩ := okWide_int hu hv
   simp
  ·rename_i hu
   obtain ⟨l, e, hl⟩ := a3
   refine ⟨.str l, ⟨by rw [← a2, e]; rfl, l, rfl, hl⟩, one _ e ?_⟩
   obtain ⟨_, rfl⟩ := okWide_string hu hv
   simp
  ·rename_i e' hu
   obtain ⟨xs, e, h1, h2⟩ := a3
   refine ⟨.sl _ false xs, ⟨by rw [← a2, e]; rfl, xs, rfl, h1, h2⟩, one _ e ?_⟩
   obtain ⟨_, _, _, rfl⟩ := okWide_slice hu hv
   simp
  ·rename_i fs hu
   refine ⟨.agg avs, ⟨a2, avs, rfl, a3⟩, ?_⟩
   have hv' := hv
   unfold Value.okWide at hv'
   rw [hu] at hv'
   obtain ⟨cs, rfl, hcs, _⟩ := hv'
   refine .agg _ _ (by simpa [Value.cells] using a1.symm) (fun c hc => ?_) (fun i c v hi hj => (a4 i c v hi (by simpa [Value.cells] using hj)).1)
   obtain ⟨i, hi⟩ := List.getElem?_of_mem hc
   have hlt : i < cs.size := by
    have := (List.getElem?_eq_some_iff.1 hi).1
    simp [Value.cells] at a1
    omega
   exact (a4 i c cs[i] hi (by simp [Value.cells, hlt])).2
  ·exact a3.elim
theorem args_rep {n : Nat} : ∀ {ts : List TypeId} {vs : List Value} {ds : List (DataW H)} {ps : List MemPlace}, ts.all (plainT P n) = true → (∀ (j : Nat) t v, ts[j]? = some t → vs[j]? = some v → Value.okWide P W .any base t v) →
  DataW.TrodAll enc P W 0 spare held ts vs ds ps → (∀ m ∈ DataW.weightsEach P ts ds, m ≤ reachBytes) → ∃ avs, WtArgs P n ts avs ∧ avs.length = vs.length ∧ ∀ (i : Nat) (x : AV) (v : Value), avs[i]? = some x → vs[i]? = some v → RepD W (oldD W) x v ∧ ∀ k g off, x ≠ .ptr k g off
 | [], vs, ds, ps, _, _, h, _ => by
  obtain ⟨rfl, rfl, rfl⟩ := trodAll_nil h
  exact ⟨[], rfl, rfl, by simp⟩
 | t :: ts, vs, ds, ps, hp, hv, h, hw => by
  obtain ⟨v, vs', d, ds', p, q, rfl, rfl, rfl, h1, h2⟩ := trodAll_cons h
  simp only [List.all_cons, Bool.and_eq_true] at hp
  simp only [DataW.weightsEach, List.mem_append] at hw
  obtain ⟨x, hx, hr⟩ := value_rep hp.1 (hv 0 t v rfl rfl) h1 (fun m hm => hw m (.inl hm))
  obtain ⟨r, hr1, hr2, hr3⟩ := args_rep hp.2 (fun j t v ht hv' => hv (j + 1) t v (by simpa using ht) (by simpa using hv')) h2 (fun m hm => hw m (.inr hm))
  refine ⟨x :: r, ⟨x, r, rfl, hx, hr1⟩, by simp [hr2], fun i y u hi hj => ?_⟩
  cases i with
  | zero => simp at hi hj; subst hi; subst hj; exact ⟨hr, hx.dataPtr⟩
  | succ i => exact hr3 i y u (by simpa using hi) (by simpa using hj)
end
def nLoops (c : Code) : Nat := (loopsOf c).length
noncomputable def contL (E : Ev) (fx : Fx) (n : Nat) : Code → Nat → (Ex → St → Res) → Ex → St → Res
 | .seq a b, i, K => if i < nLoops a then contL E fx n a i (fun e st' => match e with
   | .normal => evC E fx n b st' K
   | .exit id => K (.exit id) st'
   | .ret => K .ret st') else contL E fx n b (i - nLoops a) K
 | .cond _ a b, i, K => if i < nLoops a then contL E fx n a i K else contL E fx n b (i - nLoops a) K
 | .block id c, i, K => contL E fx n c i (fun e st' => match e with
   | .normal => K .normal st'
   | .exit id' => if id' = id then K .normal st' else K (.exit id') st'
   | .ret => K .ret st')
 | _, _, K => K
def loopAt (fx : Fx) (i : Nat) : Code := match fx.fn.body with | some c => (match (loopsOf c)[i]? with | some c => c | none => .skip) | none => .skip
noncomputable def contF (F : Fns) (tb : Tb) (sh : List (Nat × Sh)) (fx : Fx) (n : Nat) (i : Nat) (nb : Nat) : Ex → St → Res :=
 match fx.fn.body with
 | some c => contL ⟨F, tb, sh⟩ fx n c i (endK tb fx.fn nb)
 | none => fun _ _ => none
noncomputable def bodyF (F : Fns) (tb : Tb) (sh : List (Nat × Sh)) (fx : Fx) (n : Nat) (i : Nat) : St → (Ex → St → Res) → Res := evC ⟨F, tb, sh⟩ fx n (loopAt fx i)
noncomputable def contB (F : Fns) (tb : Tb) (sh : List (Nat × Sh)) (fx : Fx) (n : Nat) (i j : Nat) (K : Ex → St → Res) : Ex → St → Res := contL ⟨F, tb, sh⟩ fx n (loopAt fx i) j K
noncomputable def fromR (E : Ev) (fx : Fx) (n : Nat) : Code → Nat → (Ex → St → Res) → Option (St → Res)
 | .region id _ _, j, K => if id = j then some (K .normal) else none
 | .seq a b, j, K => (match fromR E fx n a j (fun e st' => match e with
   | .normal => evC E fx n b st' K
   | .exit id => K (.exit id) st'
   | .ret => K .ret st') with
  | some f => some f
  | none => fromR E fx n b j K)
 | .cond _ a b, j, K => (match fromR E fx n a j K with | some f => some f | none => fromR E fx n b j K)
 | .block id c, j, K => fromR E fx n c j (fun e st' => match e with
   | .normal => K .normal st'
   | .exit id' => if id' = id then K .normal st' else K (.exit id') st'
   | .ret => K .ret st')
 | _, _, _ => none
noncomputable def joinF (F : Fns) (tb : Tb) (sh : List (Nat × Sh)) (fx : Fx) (n : Nat) (j nb : Nat) : St → Res :=
 match fx.fn.body with
 | some c => (match fromR ⟨F, tb, sh⟩ fx n c j (endK tb fx.fn nb) with | some f => f | none => fun _ => none)
 | none => fun _ => none
end Go.AM

namespace Go.AM.YtnhfjkckgicidaaGreat
open Go.AM Go.Proofs Go
noncomputable def fxOf (f : Nat) : Fx := match find f fnl with | some fx => fx | none => ⟨default, [], [], [], []⟩
noncomputable def zBy (F : Fns) (f i n : Nat) : St → (Ex → St → Res) → Res := bodyF F tb sh (fxOf f) n i
noncomputable def zCt (F : Fns) (f i n nb : Nat) : Ex → St → Res := contF F tb sh (fxOf f) n i nb
noncomputable def runOf (F : Fns) (f n : Nat) : Over := evFn F tb sh (fxOf f) n
noncomputable def joinOf (F : Fns) (f j n nb : Nat) : St → Res := joinF F tb sh (fxOf f) n j nb
noncomputable def zDe (f i : Nat) : List Nat := (fxOf f).deadAt (loopAt (fxOf f) i)
def brk (K : Ex → St → Res) (KN : St → Res) : Ex → St → Res := fun e st => match e with | .normal => KN st | .exit id => K (.exit id) st | .ret => K .ret st
theorem loopA_succ (body : St → (Ex → St → Res) → Res) (dead : List Nat) (K : Ex → St → Res) (n : Nat) (st : St) : loopA body dead K (n + 1) st = body (st.clean dead) (brk K fun st' => loopA body dead K n st') := rfl
def getOne (acc n : Int) : Int := (IntKind.wrap .u64
                      ↑(BitVec.toNat
                          (BitVec.ofInt (IntKind.bits IntKind.u64)
                              (IntKind.wrap .u64 (acc * 2 ^ min (Int.toNat 8) (IntKind.bits IntKind.u64))) |||
                            BitVec.ofInt (IntKind.bits IntKind.u64) (IntKind.wrap .u64 n))))
def getAcc (acc : Int) : List UInt8 → Int
  | [] => acc
  | b :: r => getAcc (getOne acc b.toNat) r
def getS (s : List UInt8) (acc i : Int) (len : Int) (b : Bool) : St := ⟨31, [(0, AV.str s), (2, AV.int .i64 0), (3, AV.int .i64 0), (4, AV.int .u64 acc), (13, AV.bool b), (15, AV.int .i64 len), (16, AV.int .i64 i)], [], [], [], [], []⟩
theorem get_body (F : Fns) (n : Nat) (s : List UInt8) (acc i len : Int) (b : Bool) (K : Ex → St → Res) : zBy F 92 0 n (getS s acc i len b) K =
  bif decide (i < len) then
  bif decide (0 ≤ i) then
    zOp (Option.map (fun b => AV.int .u8 ↑(UInt8.toNat b)) s[Int.toNat i]?) fun x =>
      zIn .u8 x fun n =>
        K Ex.normal
          { nt := 31,
            t :=
              [(0, AV.str s), (2, AV.int .i64 0), (3, AV.int .i64 0),
                (4, AV.int .u64 (getOne acc n)),
                (5, AV.int .i64 i), (13, AV.bool b), (15, AV.int .i64 len),
                (16, AV.int .i64 (IntKind.wrap .i64 (i + 1))), (17, AV.bool (decide (i < len)))],
            b := [], r := [], g := [], rd := [], wr := [] }
  else none
  else
  K (Ex.exit 0)
    { nt := 31,
      t :=
        [(0, AV.str s), (2, AV.int .i64 0), (3, AV.int .i64 0), (4, AV.int .u64 acc),
          (13, AV.bool b), (15, AV.int .i64 len), (16, AV.int .i64 i), (17, AV.bool (decide (i < len)))],
      b := [], r := [], g := [], rd := [], wr := [] } := by kernel_rfl
theorem wrap_i64 {n : Int} (h : 0 ≤ n) (h2 : n < 9223372036854775808) : IntKind.wrap .i64 n = n := by
  simp [IntKind.wrap, IntKind.bits, IntKind.signed]
  omega
theorem get_loop (F : Fns) (n : Nat) (s : List UInt8) (b : Bool) (K : Ex → St → Res) (hs : s.length ≤ 8) : ∀ (d i m : Nat) (acc : Int) (st : St), i + d = s.length → d < m → st.clean (zDe 92 0) = getS s acc i s.length b →
    loopA (zBy F 92 0 n) (zDe 92 0) K m st = K (.exit 0) ⟨31, [(0, AV.str s), (2, AV.int .i64 0), (3, AV.int .i64 0), (4, AV.int .u64 (getAcc acc (s.drop i))), (13, AV.bool b), (15, AV.int .i64 s.length), (16, AV.int .i64 s.length), (17, AV.bool false)], [], [], [], [], []⟩ := by
  intro d
  induction d with
  | zero =>
    intro i m acc st hi hm hst
    obtain ⟨m, rfl⟩ : ∃ m', m = m' + 1 := ⟨m - 1, by omega⟩
    have : i = s.length := by omega
    subst this
    rw [loopA, hst, get_body]
    simp [getAcc]
  | succ d ih =>
    intro i m acc st hi hm hst
    obtain ⟨m, rfl⟩ : ∃ m', m = m' + 1 := ⟨m - 1, by omega⟩
    rw [loopA, hst, get_body]
    have h1 : decide ((i : Int) < s.length) = true := decide_eq_true (by omega)
    have h2 : decide ((0 : Int) ≤ i) = true := decide_eq_true (by omega)
    have hlt : i < s.length := by omega
    rw [h1, h2]
    simp only [cond_true, Int.toNat_natCast, List.getElem?_eq_getElem hlt, Option.map_some, zOp, zIn, if_true]
    rw [wrap_i64 (by omega) (by omega)]
    rw [ih (i + 1) m (getOne acc (s[i]).toNat) _ (by omega) (by omega) (by kernel_rfl)]
    rw [List.drop_eq_getElem_cons hlt, getAcc]
theorem get_head (F : Fns) (n : Nat) (s : List UInt8) : runOf F 92 n [.str s] [] =
  bif decide (↑(List.length s) < (1 : Int)) then some (AV.tup [AV.int .i64 0, AV.int .i64 1], [])
  else
  bif decide (↑(List.length s) > (8 : Int)) then some (AV.tup [AV.int .i64 0, AV.int .i64 1], [])
  else loopA (zBy F 92 0 n) (zDe 92 0) (zCt F 92 0 n 0) n (getS s 0 0 ↑(List.length s) (decide (↑(List.length s) > (8 : Int)))) := by kernel_rfl
theorem get_tail (F : Fns) (n : Nat) (s : List UInt8) (acc len : Int) (b : Bool) : zCt F 92 0 n 0 (.exit 0) ⟨31, [(0, AV.str s), (2, AV.int .i64 0), (3, AV.int .i64 0), (4, AV.int .u64 acc), (13, AV.bool b), (15, AV.int .i64 len), (16, AV.int .i64 len), (17, AV.bool false)], [], [], [], [], []⟩ =
  bif decide (acc > 9223372036854775807) then some (AV.tup [AV.int .i64 0, AV.int .i64 10], [])
  else some (AV.tup [AV.int .i64 (IntKind.wrap .i64 acc), AV.int .i64 0], []) := by kernel_rfl
def getV (s : List UInt8) : Int × Int :=
  if s.length < 1 ∨ s.length > 8 then (0, 1) else if getAcc 0 s > 9223372036854775807 then (0, 10) else (IntKind.wrap .i64 (getAcc 0 s), 0)
theorem get_spec (F : Fns) (n : Nat) (hn : 8 < n) (s : List UInt8) : runOf F 92 n [.str s] [] = some (.tup [.int .i64 (getV s).1, .int .i64 (getV s).2], []) := by
  rw [get_head]
  unfold getV
  by_cases h1 : s.length < 1
  · have e : decide (↑(List.length s) < (1 : Int)) = true := decide_eq_true (by omega)
    rw [e, if_pos (.inl h1)]
    rfl
  · have e : decide (↑(List.length s) < (1 : Int)) = false := decide_eq_false (by omega)
    rw [e]
    by_cases h2 : s.length > 8
    · have e2 : decide (↑(List.length s) > (8 : Int)) = true := decide_eq_true (by omega)
      rw [e2, if_pos (.inr h2)]
      rfl
    · have e2 : decide (↑(List.length s) > (8 : Int)) = false := decide_eq_false (by omega)
      rw [e2, if_neg (by omega)]
      simp only [cond_false]
      rw [get_loop F n s false _ (by omega) s.length 0 n 0 _ (by omega) (by omega) (by kernel_rfl), get_tail]
      simp only [List.drop_zero]
      by_cases h3 : getAcc 0 s > 9223372036854775807
      · rw [decide_eq_true h3, if_pos h3]; rfl
      · rw [decide_eq_false h3, if_neg h3]; rfl
def putS (z w : Int) (c : Bool) (b : Bool) (len i : Int) (row : List AV) : St := ⟨48, [(0, AV.int .i64 z), (1, AV.int .i64 w), (4, AV.str []), (5, AV.int .i64 0), (6, AV.row 28 0), (13, AV.bool b), (26, AV.bool c), (30, AV.int .i64 len), (31, AV.int .i64 i)], [], [(28, row)], [], [], []⟩
def putByte (z w i : Int) : Int := (IntKind.wrap .u8
                        (Int.fdiv z
                          (2 ^
                            min
                              (Int.toNat
                                (IntKind.wrap .i64
                                  (8 * IntKind.wrap .i64 (IntKind.wrap .i64 (w - 1) - i))))
                              (IntKind.bits IntKind.i64))))
theorem put_body (F : Fns) (n : Nat) (z w : Int) (c b : Bool) (len i : Int) (row : List AV) (K : Ex → St → Res) : zBy F 23 0 n (putS z w c b len i row) K =
  bif decide (i < len) then
  bif decide (0 ≤ IntKind.wrap .i64 (8 * IntKind.wrap .i64 (IntKind.wrap .i64 (w - 1) - i))) then
    bif decide (0 ≤ i ∧ i < ↑(List.length row)) then
      bif decide (Int.toNat i < List.length row) then
        K Ex.normal
          { nt := 48,
            t :=
              [(0, AV.int .i64 z), (1, AV.int .i64 w), (4, AV.str []), (5, AV.int .i64 0),
                (6, AV.row 28 0), (7, AV.int .i64 i), (13, AV.bool b), (26, AV.bool c),
                (30, AV.int .i64 len), (31, AV.int .i64 (IntKind.wrap .i64 (i + 1))),
                (32, AV.bool (decide (i < len)))],
            b := [],
            r := [(28, List.set row (Int.toNat i) (AV.int .u8 (putByte z w i)))],
            g := [], rd := [], wr := [] }
      else none
    else none
  else none
  else
  K (Ex.exit 0)
    { nt := 48,
      t :=
        [(0, AV.int .i64 z), (1, AV.int .i64 w), (4, AV.str []), (5, AV.int .i64 0),
          (6, AV.row 28 0), (13, AV.bool b), (26, AV.bool c), (30, AV.int .i64 len), (31, AV.int .i64 i),
          (32, AV.bool (decide (i < len)))],
      b := [], r := [(28, row)], g := [], rd := [], wr := [] } := by kernel_rfl
theorem wrap_small {n : Int} (h : -9223372036854775808 ≤ n) (h2 : n < 9223372036854775808) : IntKind.wrap .i64 n = n := by
  simp [IntKind.wrap, IntKind.bits, IntKind.signed]
  omega
theorem put_loop (F : Fns) (n : Nat) (z : Int) (w : Nat) (c b : Bool) (K : Ex → St → Res) (hw : w ≤ 8) : ∀ (d i m : Nat) (row : List AV) (st : St), i + d = w → row.length = w → d < m → st.clean (zDe 23 0) = putS z w c b w i row →
    loopA (zBy F 23 0 n) (zDe 23 0) K m st = K (.exit 0) ⟨48, [(0, AV.int .i64 z), (1, AV.int .i64 w), (4, AV.str []), (5, AV.int .i64 0), (6, AV.row 28 0), (13, AV.bool b), (26, AV.bool c), (30, AV.int .i64 w), (31, AV.int .i64 w), (32, AV.bool false)], [], [(28, row.take i ++ (List.range' i d).map fun j : Nat => AV.int .u8 (putByte z w (j : Int)))], [], [], []⟩ := by
  intro d
  induction d with
  | zero =>
    intro i m row st hi hr hm hst
    obtain ⟨m, rfl⟩ : ∃ m', m = m' + 1 := ⟨m - 1, by omega⟩
    have : i = w := by omega
    subst this
    rw [loopA, hst, put_body]
    have : row.take i = row := List.take_of_length_le (by omega)
    simp [this]
  | succ d ih =>
    intro i m row st hi hr hm hst
    obtain ⟨m, rfl⟩ : ∃ m', m = m' + 1 := ⟨m - 1, by omega⟩
    rw [loopA, hst, put_body]
    have h1 : decide ((i : Int) < w) = true := decide_eq_true (by omega)
    have h2 : decide (0 ≤ IntKind.wrap .i64 (8 * IntKind.wrap .i64 (IntKind.wrap .i64 ((w : Int) - 1) - i))) = true := decide_eq_true (by
      rw [wrap_small (n := (w : Int) - 1) (by omega) (by omega), wrap_small (n := (w : Int) - 1 - i) (by omega) (by omega), wrap_small (by omega) (by omega)]
      omega)
    have h3 : decide ((0 : Int) ≤ i ∧ (i : Int) < row.length) = true := decide_eq_true (by omega)
    have h4 : decide (Int.toNat i < row.length) = true := decide_eq_true (by omega)
    rw [h1, h2, h3, h4]
    simp only [cond_true, Int.toNat_natCast]
    rw [wrap_small (by omega) (by omega)]
    rw [ih (i + 1) m (row.set i (AV.int .u8 (putByte z w i))) _ (by omega) (by simpa using hr) (by omega) (by kernel_rfl)]
    have e : (row.set i (AV.int .u8 (putByte z w i))).take (i + 1) = row.take i ++ [AV.int .u8 (putByte z w i)] := by
      rw [List.take_add_one, List.take_set_of_le (Nat.le_refl _)]
      simp [show i < row.length by omega]
    rw [e, List.range'_succ, List.map_cons, List.append_assoc]
    rfl
theorem put_tail (F : Fns) (n : Nat) (z w len : Int) (c b : Bool) (row : List AV) : zCt F 23 0 n 0 (.exit 0) ⟨48, [(0, AV.int .i64 z), (1, AV.int .i64 w), (4, AV.str []), (5, AV.int .i64 0), (6, AV.row 28 0), (13, AV.bool b), (26, AV.bool c), (30, AV.int .i64 len), (31, AV.int .i64 len), (32, AV.bool false)], [], [(28, row)], [], [], []⟩ =
  zOp (Option.map AV.str (bytesOf row)) fun x => zSt x fun s => some (AV.tup [AV.str s, AV.int .i64 0], []) := by kernel_rfl
theorem put_head (F : Fns) (n : Nat) (z w : Int) : runOf F 23 n [.int .i64 z, .int .i64 w] [] =
  bif decide (w < 1) then some (AV.tup [AV.str [], AV.int .i64 1], [])
  else bif decide (w > 8) then some (AV.tup [AV.str [], AV.int .i64 1], [])
  else bif decide (z < 0) then some (AV.tup [AV.str [], AV.int .i64 10], [])
  else bif decide (w < 8) then
    bif decide (0 ≤ IntKind.wrap .i64 (8 * w)) then
      bif Int.fdiv z (2 ^ min (Int.toNat (IntKind.wrap .i64 (8 * w))) (IntKind.bits IntKind.i64)) != 0 then some (AV.tup [AV.str [], AV.int .i64 10], [])
      else bif decide (w = w ∧ 0 ≤ w ∧ w ≤ 9223372036854775807 ∧ fitsB w.toNat 1 = true) then
        loopA (zBy F 23 0 n) (zDe 23 0) (zCt F 23 0 n 0) n (putS z w (Int.fdiv z (2 ^ min (Int.toNat (IntKind.wrap .i64 (8 * w))) (IntKind.bits IntKind.i64)) != 0) (decide (w > 8)) (List.length (List.replicate w.toNat (AV.int .u8 0))) 0 (List.replicate w.toNat (AV.int .u8 0)))
      else none
    else none
  else bif decide (w = w ∧ 0 ≤ w ∧ w ≤ 9223372036854775807 ∧ fitsB w.toNat 1 = true) then
    loopA (zBy F 23 0 n) (zDe 23 0) (zCt F 23 0 n 0) n (putS z w false (decide (w > 8)) (List.length (List.replicate w.toNat (AV.int .u8 0))) 0 (List.replicate w.toNat (AV.int .u8 0)))
  else none := by kernel_rfl
theorem bytesOf_map (g : Nat → Int) : ∀ l : List Nat, bytesOf (l.map fun j => AV.int .u8 (g j)) = some (l.map fun j => UInt8.ofNat (g j).toNat)
  | [] => rfl
  | a :: r => by simp only [List.map_cons, bytesOf, bytesOf_map g r]
end Go.AM.YtnhfjkckgicidaaGreat

namespace Go.AM
def be : Nat → Nat → List UInt8
 | 0, _ => []
 | w + 1, n => be w (n / 256) ++ [UInt8.ofNat (n % 256)]
def unbe : List UInt8 → Nat → Nat
 | [], a => a
 | b :: r, a => unbe r (a * 256 + b.toNat)
theorem be_length : ∀ (w n : Nat), (be w n).length = w
 | 0, _ => rfl
 | w + 1, n => by simp [be, be_length w]
theorem unbe_append (s t : List UInt8) : ∀ a, unbe (s ++ t) a = unbe t (unbe s a) := by
 induction s with
 | nil => intro a; rfl
 | cons b r ih => intro a; simp [unbe, ih]
theorem unbe_be : ∀ (w n a : Nat), unbe (be w n) a = a * 256 ^ w + n % 256 ^ w
 | 0, n, a => by simp [be, unbe, Nat.mod_one]
 | w + 1, n, a => by
  rw [be, unbe_append, unbe_be w]
  simp only [unbe]
  have h : (UInt8.ofNat (n % 256)).toNat = n % 256 := by simp
  rw [h, Nat.pow_succ, Nat.mul_comm (256 ^ w) 256, Nat.mod_mul, Nat.add_mul, ← Nat.mul_assoc, Nat.mul_right_comm]
  omega
theorem unbe_lt : ∀ (s : List UInt8) (a : Nat), unbe s a < (a + 1) * 256 ^ s.length
 | [], a => by simp [unbe]
 | b :: r, a => by
  have := unbe_lt r (a * 256 + b.toNat)
  have hb := b.toNat_lt
  simp only [unbe, List.length_cons, Nat.pow_succ]
  refine Nat.lt_of_lt_of_le this ?_
  rw [Nat.mul_comm (256 ^ r.length) 256, ← Nat.mul_assoc]
  exact Nat.mul_le_mul_right _ (by omega)
theorem unbe_acc : ∀ (s : List UInt8) (a : Nat), unbe s a = a * 256 ^ s.length + unbe s 0
 | [], a => by simp [unbe]
 | b :: r, a => by
  simp only [unbe, List.length_cons, Nat.pow_succ]
  rw [unbe_acc r, unbe_acc r (0 * 256 + b.toNat), Nat.mul_comm (256 ^ r.length) 256, Nat.add_mul, Nat.mul_assoc, Nat.zero_mul, Nat.zero_add, Nat.add_assoc]
theorem be_unbe_append (t : List UInt8) : ∀ (w n : Nat), be (w + t.length) (n * 256 ^ t.length + unbe t 0) = be w n ++ t := by
 generalize hl : t.length = m
 induction m generalizing t with
 | zero => intro w n; have := List.length_eq_zero_iff.1 hl; subst this; simp [unbe]
 | succ m ih' =>
  obtain ⟨r, b, rfl⟩ : ∃ r b, t = r ++ [b] := ⟨t.dropLast, t.getLast (by intro h; simp [h] at hl), (List.dropLast_concat_getLast _).symm⟩
  have hl : r.length = m := by simpa using hl
  have ih := ih' r hl
  subst hl
  intro w n
  have hb := b.toNat_lt
  rw [unbe_append, ← Nat.add_assoc, be]
  simp only [unbe]
  have e1 : (n * 256 ^ (r.length + 1) + (unbe r 0 * 256 + b.toNat)) / 256 = n * 256 ^ r.length + unbe r 0 := by
   rw [Nat.pow_succ, ← Nat.mul_assoc]
   omega
  have e2 : (n * 256 ^ (r.length + 1) + (unbe r 0 * 256 + b.toNat)) % 256 = b.toNat := by
   rw [Nat.pow_succ, ← Nat.mul_assoc]
   omega
  rw [e1, e2, ih]
  simp
theorem be_unbe (t : List UInt8) : be t.length (unbe t 0) = t := by
 have := be_unbe_append t 0 0
 simpa [be] using this
theorem be_map : ∀ (w n : Nat), be w n = (List.range w).map fun j => UInt8.ofNat (n / 256 ^ (w - 1 - j) % 256)
 | 0, n => rfl
 | w + 1, n => by
  rw [be, be_map w, List.range_succ, List.map_append]
  congr 1
  ·apply List.map_congr_left
   intro j hj
   rw [List.mem_range] at hj
   rw [Nat.div_div_eq_div_mul, ← Nat.pow_succ']
   congr 4
   omega
  ·simp
theorem le_unbe (s : List UInt8) (a : Nat) : a ≤ unbe s a := by
 rw [unbe_acc]
 have : 0 < 256 ^ s.length := Nat.pow_pos (by omega)
 have := Nat.le_mul_of_pos_right a this
 omega
def putV (z w : Int) : List UInt8 × Int :=
 if w < 1 ∨ w > 8 then ([], 1) else if z < 0 then ([], 10) else if z.toNat / 256 ^ w.toNat ≠ 0 then ([], 10) else (be w.toNat z.toNat, 0)
def getV (s : List UInt8) : Int × Int :=
 if s.length < 1 ∨ s.length > 8 then (0, 1) else if unbe s 0 ≥ 9223372036854775808 then (0, 10) else ((unbe s 0 : Nat), 0)
end Go.AM

namespace Go.AM.YtnhfjkckgicidaaGreat
open Go.AM Go.Proofs Go
theorem wrap_u64 {n : Nat} (h : n < 18446744073709551616) : IntKind.wrap .u64 (n : Int) = n := by
 simp [IntKind.wrap, IntKind.bits, IntKind.signed]
 omega
theorem getOne_aux (a n M : Nat) (h : a < M) (hn : n < 256) : a * 256 + n < M * 256 := by omega
theorem getOne_nat (a n : Nat) (h7 : a < 72057594037927936) (hn : n < 256) : getOne (a : Int) (n : Int) = ((a * 256 + n : Nat) : Int) := by
 have hs : a * 256 + n < 18446744073709551616 := by simpa using getOne_aux a n 72057594037927936 h7 hn
 have ha : a * 256 < 18446744073709551616 := Nat.lt_of_le_of_lt (Nat.le_add_right _ _) hs
 unfold getOne
 have e : ((a : Int) * 2 ^ min (Int.toNat 8) (IntKind.bits IntKind.u64)) = ((a * 256 : Nat) : Int) := by
  have : (2 : Int) ^ min (Int.toNat 8) (IntKind.bits IntKind.u64) = 256 := by decide
  rw [this]
  omega
 rw [e, wrap_u64 (n := a * 256) ha, wrap_u64 (n := n) (by omega)]
 have hb : IntKind.bits IntKind.u64 = 64 := rfl
 rw [hb, BitVec.ofInt_natCast, BitVec.ofInt_natCast, BitVec.toNat_or, BitVec.toNat_ofNat, BitVec.toNat_ofNat, Nat.mod_eq_of_lt ha, Nat.mod_eq_of_lt (show n < 2 ^ 64 by omega)]
 have h8 := Nat.shiftLeft_add_eq_or_of_lt (i := 8) (b := n) (by omega) a
 rw [Nat.shiftLeft_eq] at h8
 have h9 : a * 256 ||| n = a * 256 + n := h8.symm
 rw [h9]
 exact wrap_u64 hs
theorem getAcc_unbe : ∀ (s : List UInt8) (a k : Nat), a < 256 ^ k → k + s.length ≤ 8 → getAcc (a : Int) s = (unbe s a : Nat)
 | [], a, k, h, hk => rfl
 | b :: r, a, k, h, hk => by
  have hb := b.toNat_lt
  simp only [List.length_cons] at hk
  have h7 : a < 256 ^ 7 := Nat.lt_of_lt_of_le h (Nat.pow_le_pow_right (by omega) (by omega))
  rw [getAcc, unbe, getOne_nat a b.toNat (by simpa using h7) hb]
  refine getAcc_unbe r _ (k + 1) ?_ (by omega)
  rw [Nat.pow_succ]
  omega
theorem get_run (F : Fns) (n : Nat) (hn : 8 < n) (s : List UInt8) : runOf F 92 n [.str s] [] = some (.tup [.int .i64 (AM.getV s).1, .int .i64 (AM.getV s).2], []) := by
 rw [get_spec F n hn s]
 have : getV s = AM.getV s := by
  unfold getV AM.getV
  split
  ·rfl
  ·rename_i h
   have h0 : getAcc 0 s = (unbe s 0 : Nat) := getAcc_unbe s 0 0 (by simp) (by omega)
   rw [h0]
   by_cases h1 : unbe s 0 ≥ 9223372036854775808
   ·rw [if_pos (by omega), if_pos h1]
   ·rw [if_neg (by omega), if_neg h1, wrap_small (by omega) (by omega)]
 rw [this]
theorem putByte_eq (m w j : Nat) (hw : w ≤ 8) (hj : j < w) : (putByte (m : Int) (w : Int) (j : Int)).toNat = m / 256 ^ (w - 1 - j) % 256 := by
 unfold putByte
 rw [wrap_small (n := (w : Int) - 1) (by omega) (by omega), wrap_small (n := (w : Int) - 1 - j) (by omega) (by omega), wrap_small (by omega) (by omega)]
 have e1 : (8 * ((w : Int) - 1 - (j : Int))).toNat = 8 * (w - 1 - j) := by omega
 have e2 : min (8 * (w - 1 - j)) (IntKind.bits IntKind.i64) = 8 * (w - 1 - j) := Nat.min_eq_left (by have : IntKind.bits IntKind.i64 = 64 := rfl; omega)
 rw [e1, e2]
 have e3 : Int.fdiv (m : Int) ((2 : Int) ^ (8 * (w - 1 - j))) = ((m / 256 ^ (w - 1 - j) : Nat) : Int) := by
  have : ((2 : Int) ^ (8 * (w - 1 - j))) = ((256 ^ (w - 1 - j) : Nat) : Int) := by
   rw [Int.pow_mul]
   simp
  rw [this]
  exact (Int.fdiv_eq_ediv_of_nonneg _ (Int.natCast_nonneg _)).trans (by simp)
 rw [e3]
 generalize m / 256 ^ (w - 1 - j) = q
 simp [IntKind.wrap, IntKind.bits, IntKind.signed]
 omega
theorem bits_fdiv (m w : Nat) (hw : w < 8) : Int.fdiv (m : Int) (2 ^ min (Int.toNat (IntKind.wrap .i64 (8 * (w : Int)))) (IntKind.bits IntKind.i64)) = ((m / 256 ^ w : Nat) : Int) := by
 rw [wrap_small (by omega) (by omega)]
 have e2 : min (8 * (w : Int)).toNat (IntKind.bits IntKind.i64) = 8 * w := by
  have e1 : (8 * (w : Int)).toNat = 8 * w := by omega
  rw [e1]
  exact Nat.min_eq_left (by have : IntKind.bits IntKind.i64 = 64 := rfl; omega)
 rw [e2]
 have : ((2 : Int) ^ (8 * w)) = ((256 ^ w : Nat) : Int) := by
  rw [Int.pow_mul]
  simp
 rw [this]
 exact (Int.fdiv_eq_ediv_of_nonneg _ (Int.natCast_nonneg _)).trans (by simp)
theorem put_run (F : Fns) (n : Nat) (hn : 8 < n) (z : Int) (hz : z < 9223372036854775808) (w : Nat) (hw1 : 1 ≤ w) (hw : w ≤ 8) : runOf F 23 n [.int .i64 z, .int .i64 w] [] = some (.tup [.str (putV z w).1, .int .i64 (putV z w).2], []) := by
 rw [put_head]
 unfold putV
 rw [decide_eq_false (show ¬ ((w : Int) < 1) by omega), decide_eq_false (show ¬ ((w : Int) > 8) by omega), if_neg (by omega)]
 simp only [cond_false]
 by_cases h0 : z < 0
 ·rw [decide_eq_true h0, if_pos h0]; rfl
 obtain ⟨m, rfl⟩ : ∃ m : Nat, z = m := ⟨z.toNat, by omega⟩
 have fin : ∀ c b : Bool, loopA (zBy F 23 0 n) (zDe 23 0) (zCt F 23 0 n 0) n (putS m w c b (List.length (List.replicate ((w : Int).toNat) (AV.int .u8 0))) 0 (List.replicate ((w : Int).toNat) (AV.int .u8 0))) = some (.tup [.str (be w m), .int .i64 0], []) := by
  intro c b
  have hl : (List.length (List.replicate ((w : Int).toNat) (AV.int .u8 0)) : Int) = w := by simp
  rw [hl, put_loop F n m w c b _ hw w 0 n (List.replicate ((w : Int).toNat) (AV.int .u8 0)) _ (by omega) (by simp) (by omega) (by kernel_rfl)]
  rw [put_tail]
  simp only [List.take_zero, List.nil_append]
  rw [bytesOf_map, be_map, ← List.range_eq_range']
  have : (List.range w).map (fun j : Nat => UInt8.ofNat (putByte (m : Int) (w : Int) (j : Int)).toNat) = (List.range w).map fun j => UInt8.ofNat (m / 256 ^ (w - 1 - j) % 256) := by
   apply List.map_congr_left
   intro j hj
   rw [List.mem_range] at hj
   rw [putByte_eq m w j hw hj]
  rw [this]
  rfl
 have hfit : decide (True ∧ 0 ≤ (w : Int) ∧ (w : Int) ≤ 9223372036854775807 ∧ fitsB (w : Int).toNat 1 = true) = true := decide_eq_true ⟨trivial, by omega, by omega, by simp [fitsB, roomB]; omega⟩
 rw [decide_eq_false h0, if_neg h0, hfit]
 simp only [cond_false, cond_true]
 have e1 : (w : Int).toNat = w := by omega
 have e2 : (m : Int).toNat = m := by omega
 by_cases h8 : w < 8
 ·have hs : decide (0 ≤ IntKind.wrap .i64 (8 * (w : Int))) = true := decide_eq_true (by rw [wrap_small (by omega) (by omega)]; omega)
  rw [decide_eq_true (show (w : Int) < 8 by omega), hs, bits_fdiv m w h8]
  simp only [cond_true]
  rw [fin]
  simp only [e1, e2]
  by_cases hq : m / 256 ^ w = 0
  ·simp [hq]
  ·have : (((m / 256 ^ w : Nat) : Int) != 0) = true := by simp only [bne_iff_ne, ne_eq]; omega
   rw [this, if_pos hq]; rfl
 ·have : w = 8 := by omega
  subst this
  rw [decide_eq_false (show ¬ (((8 : Nat) : Int) < 8) by omega)]
  simp only [cond_false]
  rw [fin]
  simp only [e1, e2]
  have : m / 256 ^ 8 = 0 := Nat.div_eq_of_lt (by omega)
  rw [this]
  simp
theorem ev_step (k f : Nat) (a : List AV) (b : Boxes) (h : (find f fnl).isSome = true) : evF pr (k + 1) f a b = runOf (evF pr k) f k a b := by
 unfold runOf fxOf
 obtain ⟨fx, hfx⟩ := Option.isSome_iff_exists.1 h
 have : pr.f f = some (.inl fx) := by
  show mkF fnl [] f = _
  simp [mkF, find, hfx]
 simp only [evF, this, hfx]
 rfl
theorem e89 (k : Nat) (hk : 10 ≤ k) (s : List UInt8) : evF pr k 92 [.str s] [] = some (.tup [.int .i64 (AM.getV s).1, .int .i64 (AM.getV s).2], []) := by
 obtain ⟨k, rfl⟩ : ∃ m, k = m + 1 := ⟨k - 1, by omega⟩
 rw [ev_step _ _ _ _ (by kernel_rfl)]
 exact get_run _ _ (by omega) s
theorem e37 (k : Nat) (hk : 10 ≤ k) (z : Int) (hz : z < 9223372036854775808) (w : Nat) (hw1 : 1 ≤ w) (hw : w ≤ 8) : evF pr k 23 [.int .i64 z, .int .i64 w] [] = some (.tup [.str (putV z w).1, .int .i64 (putV z w).2], []) := by
 obtain ⟨k, rfl⟩ : ∃ m, k = m + 1 := ⟨k - 1, by omega⟩
 rw [ev_step _ _ _ _ (by kernel_rfl)]
 exact put_run _ _ (by omega) z hz w hw1 hw
theorem one_tree (F : Fns) (N : Nat) (z : Int) : runOf F 97 N [.int .i64 z] [] =
 some (AV.str [UInt8.ofNat (Int.toNat (IntKind.wrap .u8 z))], []) := by kernel_rfl
theorem two_tree (F : Fns) (N : Nat) (z : Int) : runOf F 99 N [.int .i64 z] [] =
 some (AV.str [UInt8.ofNat (Int.toNat (IntKind.wrap .u8 (IntKind.wrap .i64 (Int.tdiv z 256)))), UInt8.ofNat (Int.toNat (IntKind.wrap .u8 (Int.tmod z 256)))], []) := by kernel_rfl
theorem byte_wrap (n : Nat) : UInt8.ofNat (Int.toNat (IntKind.wrap .u8 (n : Int))) = UInt8.ofNat n := by
 have : (IntKind.wrap .u8 (n : Int)) = ((n % 256 : Nat) : Int) := by
  simp [IntKind.wrap, IntKind.bits, IntKind.signed]
 rw [this, Int.toNat_natCast]
 apply UInt8.toNat_inj.1
 simp
theorem e41 (k : Nat) (hk : 1 ≤ k) (n : Nat) : evF pr k 97 [.int .i64 n] [] = some (.str [UInt8.ofNat n], []) := by
 obtain ⟨k, rfl⟩ : ∃ m, k = m + 1 := ⟨k - 1, by omega⟩
 rw [ev_step _ _ _ _ (by kernel_rfl), one_tree, byte_wrap]
theorem e40 (k : Nat) (hk : 1 ≤ k) (n : Nat) (hn : n < 9223372036854775808) : evF pr k 99 [.int .i64 n] [] = some (.str (be 2 n), []) := by
 obtain ⟨k, rfl⟩ : ∃ m, k = m + 1 := ⟨k - 1, by omega⟩
 rw [ev_step _ _ _ _ (by kernel_rfl), two_tree]
 have e1 : Int.tdiv (n : Int) 256 = ((n / 256 : Nat) : Int) := rfl
 have e2 : Int.tmod (n : Int) 256 = ((n % 256 : Nat) : Int) := rfl
 rw [e1, e2, wrap_small (by omega) (by omega), byte_wrap, byte_wrap]
 simp only [be, List.nil_append, List.cons_append]
 have : UInt8.ofNat (n / 256 % 256) = UInt8.ofNat (n / 256) := by apply UInt8.toNat_inj.1; simp
 rw [this]
def rputS (z w i : Int) (s : List UInt8) (b d : Bool) : St := ⟨33, [(0, AV.int .i64 z), (1, AV.int .i64 w), (4, AV.str []), (5, AV.int .i64 0), (6, AV.str s), (7, AV.int .i64 i), (13, AV.bool b), (15, AV.bool d)], [], [], [], [], []⟩
theorem rput_body (F : Fns) (N : Nat) (z w i : Int) (s : List UInt8) (b d : Bool) (KN : St → Res) : zBy F 96 0 N (rputS z w i s b d) (brk (zCt F 96 0 N 0) KN) =
 bif decide (i < w) then bif decide (List.length [UInt8.ofNat (Int.toNat (IntKind.wrap .u8 (Int.tmod z 256)))] + List.length s ≤ 4611686018427387904) then KN { nt := 33, t := [(0, AV.int .i64 (IntKind.wrap .i64 (Int.tdiv z 256))), (1, AV.int .i64 w), (4, AV.str []), (5, AV.int .i64 0), (6, AV.str ([UInt8.ofNat (Int.toNat (IntKind.wrap .u8 (Int.tmod z 256)))] ++ s)), (7, AV.int .i64 (IntKind.wrap .i64 (i + 1))), (13, AV.bool b), (15, AV.bool d), (18, AV.bool (decide (i < w)))], b := [], r := [], g := [], rd := [], wr := [] } else none else bif decide (z > 0) then some (AV.tup [AV.str [], AV.int .i64 10], []) else some (AV.tup [AV.str s, AV.int .i64 0], []) := by kernel_rfl
theorem rput_tree (F : Fns) (N : Nat) (z w : Int) : runOf F 96 N [.int .i64 z, .int .i64 w] [] =
 bif decide (w < 1) then some (AV.tup [AV.str [], AV.int .i64 1], []) else bif decide (w > 8) then some (AV.tup [AV.str [], AV.int .i64 1], []) else bif decide (z < 0) then some (AV.tup [AV.str [], AV.int .i64 10], []) else loopA (zBy F 96 0 N) (zDe 96 0) (zCt F 96 0 N 0) N { nt := 33, t := [(0, AV.int .i64 z), (1, AV.int .i64 w), (4, AV.str []), (5, AV.int .i64 0), (6, AV.str []), (7, AV.int .i64 0), (13, AV.bool (decide (w > 8))), (15, AV.bool (decide (z < 0)))], b := [], r := [], g := [], rd := [], wr := [] } := by kernel_rfl
theorem rput_loop (F : Fns) (N : Nat) (w : Nat) (hw : w ≤ 8) (b d : Bool) : ∀ (dd i M m : Nat) (s : List UInt8) (st : St), i + dd = w → dd < m → s.length ≤ i → M < 9223372036854775808 → st.clean (zDe 96 0) = rputS M w i s b d →
  loopA (zBy F 96 0 N) (zDe 96 0) (zCt F 96 0 N 0) m st = bif decide (((M / 256 ^ dd : Nat) : Int) > 0) then some (.tup [.str [], .int .i64 10], []) else some (.tup [.str (be dd M ++ s), .int .i64 0], []) := by
 intro dd
 induction dd with
 | zero =>
  intro i M m s st hi hm hs hM hst
  obtain ⟨m, rfl⟩ : ∃ m', m = m' + 1 := ⟨m - 1, by omega⟩
  have : i = w := by omega
  subst this
  rw [loopA_succ, hst, rput_body, decide_eq_false (by omega)]
  simp [be]
 | succ dd ih =>
  intro i M m s st hi hm hs hM hst
  obtain ⟨m, rfl⟩ : ∃ m', m = m' + 1 := ⟨m - 1, by omega⟩
  rw [loopA_succ, hst, rput_body, decide_eq_true (show (i : Int) < w by omega), decide_eq_true (show List.length [UInt8.ofNat (Int.toNat (IntKind.wrap .u8 (Int.tmod M 256)))] + s.length ≤ 4611686018427387904 by simp only [List.length_singleton]; omega)]
  have e1 : Int.tdiv (M : Int) 256 = ((M / 256 : Nat) : Int) := rfl
  have e2 : Int.tmod (M : Int) 256 = ((M % 256 : Nat) : Int) := rfl
  simp only [cond_true, e1, e2, byte_wrap]
  rw [wrap_small (n := ((M / 256 : Nat) : Int)) (by omega) (by omega), wrap_small (n := (i : Int) + 1) (by omega) (by omega)]
  rw [ih (i + 1) (M / 256) m ([UInt8.ofNat (M % 256)] ++ s) _ (by omega) (by omega) (by simp only [List.length_append, List.length_singleton]; omega) (by omega) (by kernel_rfl)]
  rw [Nat.div_div_eq_div_mul, ← Nat.pow_succ', be, List.append_assoc]
theorem rput_run (F : Fns) (N : Nat) (hN : 8 < N) (z : Int) (hz : z < 9223372036854775808) (w : Nat) (hw1 : 1 ≤ w) (hw : w ≤ 8) : runOf F 96 N [.int .i64 z, .int .i64 w] [] = some (.tup [.str (putV z w).1, .int .i64 (putV z w).2], []) := by
 rw [rput_tree]
 unfold putV
 rw [decide_eq_false (show ¬ ((w : Int) < 1) by omega), decide_eq_false (show ¬ ((w : Int) > 8) by omega), if_neg (by omega)]
 simp only [cond_false]
 by_cases h0 : z < 0
 ·rw [decide_eq_true h0, if_pos h0]; rfl
 obtain ⟨M, rfl⟩ : ∃ m : Nat, z = m := ⟨z.toNat, by omega⟩
 rw [decide_eq_false h0, if_neg h0]
 simp only [cond_false]
 rw [rput_loop F N w hw false false w 0 M N [] _ (by omega) (by omega) (by simp) (by omega) (by kernel_rfl)]
 have e1 : (w : Int).toNat = w := by omega
 have e2 : (M : Int).toNat = M := by omega
 rw [e1, e2, List.append_nil]
 by_cases hq : M / 256 ^ w = 0
 ·simp [hq]
 ·have : ((M / 256 ^ w : Nat) : Int) > 0 := by
   generalize M / 256 ^ w = q at hq
   omega
  rw [decide_eq_true this, if_pos hq]; rfl
theorem e87 (k : Nat) (hk : 10 ≤ k) (z : Int) (hz : z < 9223372036854775808) (w : Nat) (hw1 : 1 ≤ w) (hw : w ≤ 8) : evF pr k 96 [.int .i64 z, .int .i64 w] [] = some (.tup [.str (putV z w).1, .int .i64 (putV z w).2], []) := by
 obtain ⟨k, rfl⟩ : ∃ m, k = m + 1 := ⟨k - 1, by omega⟩
 rw [ev_step _ _ _ _ (by kernel_rfl)]
 exact rput_run _ _ (by omega) z hz w hw1 hw
theorem eight_tree (F : Fns) (N : Nat) (z : Int) : runOf F 98 N [.int .i64 z] [] =
 zRe (F 96 [AV.int .i64 z, AV.int .i64 8] []) fun v bs => zTu v fun cs => zCo cs fun v r => zSt v fun s => zCo r fun v r => zIn .i64 v fun n => zNi r (zNi bs (some (AV.str s, []))) := by kernel_rfl
theorem e47 (k : Nat) (hk : 11 ≤ k) (z : Int) (hz : z < 9223372036854775808) : evF pr k 98 [.int .i64 z] [] = some (.str (putV z 8).1, []) := by
 obtain ⟨k, rfl⟩ : ∃ m, k = m + 1 := ⟨k - 1, by omega⟩
 rw [ev_step _ _ _ _ (by kernel_rfl), eight_tree, show (8 : Int) = ((8 : Nat) : Int) from rfl, e87 k (by omega) z hz 8 (by omega) (by omega)]
 rfl
def rgetS (s : List UInt8) (a i : Int) (b d : Bool) : St := ⟨36, [(0, AV.str s), (2, AV.int .i64 0), (3, AV.int .i64 0), (4, AV.int .i64 a), (5, AV.int .i64 i), (13, AV.bool b), (21, AV.bool d)], [], [], [], [], []⟩
theorem rget_body (F : Fns) (N : Nat) (s : List UInt8) (a i : Int) (b d : Bool) (KN : St → Res) : zBy F 100 0 N (rgetS s a i b d) (brk (zCt F 100 0 N 0) KN) =
 bif decide (i < (s.length : Int)) then bif decide (0 ≤ i) then zOp (Option.map (fun b => AV.int .u8 ((UInt8.toNat b : Nat) : Int)) s[Int.toNat i]?) fun x => zIn .u8 x fun n => KN { nt := 36, t := [(0, AV.str s), (2, AV.int .i64 0), (3, AV.int .i64 0), (4, AV.int .i64 (IntKind.wrap .i64 (IntKind.wrap .i64 (256 * a) + IntKind.wrap .i64 n))), (5, AV.int .i64 (IntKind.wrap .i64 (i + 1))), (13, AV.bool b), (21, AV.bool d), (25, AV.bool (decide (i < (s.length : Int))))], b := [], r := [], g := [], rd := [], wr := [] } else none else some (AV.tup [AV.int .i64 a, AV.int .i64 0], []) := by kernel_rfl
theorem rget_tree (F : Fns) (N : Nat) (s : List UInt8) : runOf F 100 N [.str s] [] =
 bif (s.length : Int) == 0 then some (AV.tup [AV.int .i64 0, AV.int .i64 1], []) else bif decide ((s.length : Int) > 8) then some (AV.tup [AV.int .i64 0, AV.int .i64 1], []) else bif (s.length : Int) == 8 then zOp (Option.map (fun b => AV.int .u8 ((UInt8.toNat b : Nat) : Int)) s[Int.toNat 0]?) fun x => zIn .u8 x fun n => bif decide (n ≥ 128) then some (AV.tup [AV.int .i64 0, AV.int .i64 10], []) else loopA (zBy F 100 0 N) (zDe 100 0) (zCt F 100 0 N 0) N { nt := 36, t := [(0, AV.str s), (2, AV.int .i64 0), (3, AV.int .i64 0), (4, AV.int .i64 0), (5, AV.int .i64 0), (13, AV.bool (decide ((s.length : Int) > 8))), (21, AV.bool (decide (n ≥ 128)))], b := [], r := [], g := [], rd := [], wr := [] } else loopA (zBy F 100 0 N) (zDe 100 0) (zCt F 100 0 N 0) N { nt := 36, t := [(0, AV.str s), (2, AV.int .i64 0), (3, AV.int .i64 0), (4, AV.int .i64 0), (5, AV.int .i64 0), (13, AV.bool (decide ((s.length : Int) > 8))), (21, AV.bool false)], b := [], r := [], g := [], rd := [], wr := [] } := by kernel_rfl
theorem rget_loop (F : Fns) (N : Nat) (s : List UInt8) (b d : Bool) (hs : s.length ≤ 8) : ∀ (dd i m a : Nat) (st : St), i + dd = s.length → dd < m → unbe (s.drop i) a < 9223372036854775808 → st.clean (zDe 100 0) = rgetS s a i b d →
  loopA (zBy F 100 0 N) (zDe 100 0) (zCt F 100 0 N 0) m st = some (.tup [.int .i64 (unbe (s.drop i) a : Nat), .int .i64 0], []) := by
 intro dd
 induction dd with
 | zero =>
  intro i m a st hi hm ha hst
  obtain ⟨m, rfl⟩ : ∃ m', m = m' + 1 := ⟨m - 1, by omega⟩
  have : i = s.length := by omega
  subst this
  rw [loopA_succ, hst, rget_body, decide_eq_false (by omega), List.drop_length]
  rfl
 | succ dd ih =>
  intro i m a st hi hm ha hst
  obtain ⟨m, rfl⟩ : ∃ m', m = m' + 1 := ⟨m - 1, by omega⟩
  have hlt : i < s.length := by omega
  rw [loopA_succ, hst, rget_body, decide_eq_true (show (i : Int) < s.length by omega), decide_eq_true (show (0 : Int) ≤ i by omega)]
  rw [List.drop_eq_getElem_cons hlt, unbe] at ha ⊢
  have h1 := le_unbe (s.drop (i + 1)) (a * 256 + (s[i]).toNat)
  simp only [cond_true, Int.toNat_natCast, List.getElem?_eq_getElem hlt, Option.map_some, zOp, zIn, if_true]
  have e : IntKind.wrap .i64 (IntKind.wrap .i64 (256 * (a : Int)) + IntKind.wrap .i64 ((s[i]).toNat : Int)) = ((a * 256 + (s[i]).toNat : Nat) : Int) := by
   have hb := (s[i]).toNat_lt
   rw [wrap_small (n := 256 * (a : Int)) (by omega) (by omega), wrap_small (n := ((s[i]).toNat : Int)) (by omega) (by omega), wrap_small (by omega) (by omega)]
   omega
  rw [e, wrap_small (n := (i : Int) + 1) (by omega) (by omega)]
  exact ih (i + 1) m _ _ (by omega) (by omega) ha (by kernel_rfl)
theorem rget_run (F : Fns) (N : Nat) (hN : 8 < N) (s : List UInt8) : runOf F 100 N [.str s] [] = some (.tup [.int .i64 (AM.getV s).1, .int .i64 (AM.getV s).2], []) := by
 rw [rget_tree]
 unfold AM.getV
 by_cases h0 : s.length = 0
 ·rw [if_pos (by omega), show (((s.length : Nat) : Int) == 0) = true by simp [h0]]
  rfl
 rw [show (((s.length : Nat) : Int) == 0) = false by simp only [beq_eq_false_iff_ne, ne_eq]; omega]
 by_cases h8 : s.length > 8
 ·rw [if_pos (by omega), decide_eq_true (by omega)]
  rfl
 rw [if_neg (by omega), decide_eq_false (by omega)]
 simp only [cond_false]
 by_cases h9 : s.length = 8
 ·rw [show (((s.length : Nat) : Int) == 8) = true by simp [h9]]
  obtain ⟨c, r, rfl⟩ : ∃ c r, s = c :: r := by cases s with | nil => simp at h9 | cons c r => exact ⟨c, r, rfl⟩
  have hr : r.length = 7 := by simpa using h9
  have hu : unbe (c :: r) 0 = c.toNat * 72057594037927936 + unbe r 0 := by
   rw [unbe, unbe_acc, hr]
   simp
  have hl := unbe_lt r 0
  rw [hr] at hl
  have hc := c.toNat_lt
  simp only [cond_true, zOp, zIn, if_true, show Int.toNat 0 = 0 from rfl, List.getElem?_cons_zero, Option.map_some]
  by_cases hd : c.toNat ≥ 128
  ·rw [decide_eq_true (show (c.toNat : Int) ≥ 128 by omega), if_pos (by omega)]
   rfl
  ·rw [decide_eq_false (show ¬ (c.toNat : Int) ≥ 128 by omega), if_neg (by omega)]
   simp only [cond_false]
   exact rget_loop F N (c :: r) false false (by omega) _ 0 N 0 _ (Nat.zero_add _) (by omega) (by rw [List.drop_zero]; omega) (by kernel_rfl)
 ·rw [show (((s.length : Nat) : Int) == 8) = false by simp only [beq_eq_false_iff_ne, ne_eq]; omega]
  have hl := unbe_lt s 0
  have hp : 256 ^ s.length ≤ 256 ^ 7 := Nat.pow_le_pow_right (by omega) (by omega)
  rw [if_neg (by omega)]
  simp only [cond_false]
  exact rget_loop F N s false false (by omega) _ 0 N 0 _ (Nat.zero_add _) (by omega) (by rw [List.drop_zero]; omega) (by kernel_rfl)
theorem e86 (k : Nat) (hk : 10 ≤ k) (s : List UInt8) : evF pr k 100 [.str s] [] = some (.tup [.int .i64 (AM.getV s).1, .int .i64 (AM.getV s).2], []) := by
 obtain ⟨k, rfl⟩ : ∃ m, k = m + 1 := ⟨k - 1, by omega⟩
 rw [ev_step _ _ _ _ (by kernel_rfl)]
 exact rget_run _ _ (by omega) s
def numE (w : Nat) (s : List UInt8) : Int := if s.length < w then 2 else if unbe (s.take w) 0 ≥ 9223372036854775808 then 10 else 0
def numN (w : Nat) (s : List UInt8) : Nat := if numE w s = 0 then unbe (s.take w) 0 else 0
def numR (w : Nat) (s : List UInt8) : List UInt8 := if numE w s = 0 then s.drop w else []
theorem getV_take (w : Nat) (hw1 : 1 ≤ w) (hw : w ≤ 8) (s : List UInt8) (h : ¬ s.length < w) : AM.getV (s.take w) = (((numN w s : Nat) : Int), numE w s) := by
 have hl : (s.take w).length = w := by rw [List.length_take]; omega
 unfold AM.getV numN numE
 rw [if_neg (by omega), if_neg h]
 split <;> simp
theorem number_tree (F : Fns) (N : Nat) (s : List UInt8) (w : Int) : runOf F 88 N [.str s, .int .i64 w] [] =
 bif decide (w < 1) then some (AV.tup [AV.int .i64 0, AV.str [], AV.int .i64 1], []) else bif decide (w > 8) then some (AV.tup [AV.int .i64 0, AV.str [], AV.int .i64 1], []) else bif decide ((s.length : Int) < w) then some (AV.tup [AV.int .i64 0, AV.str [], AV.int .i64 2], []) else bif decide ((0 : Int) ≤ 0 ∧ 0 ≤ w ∧ w ≤ (s.length : Int)) then zRe (F 92 [AV.str (List.drop (Int.toNat 0) (List.take (Int.toNat w) s))] []) fun v bs => zTu v fun cs => zCo cs fun v r => zIn .i64 v fun n => zCo r fun v r => zIn .i64 v fun n_1 => zNi r (zNi bs (bif n_1 != 0 then some (AV.tup [AV.int .i64 0, AV.str [], AV.int .i64 n_1], []) else bif decide (0 ≤ w ∧ w ≤ (s.length : Int) ∧ (s.length : Int) ≤ (s.length : Int)) then some (AV.tup [AV.int .i64 n, AV.str (List.drop (Int.toNat w) (List.take (Int.toNat (s.length : Int)) s)), AV.int .i64 0], []) else none)) else none := by kernel_rfl
theorem e88 (k : Nat) (hk : 11 ≤ k) (s : List UInt8) (w : Nat) (hw1 : 1 ≤ w) (hw : w ≤ 8) : evF pr k 88 [.str s, .int .i64 w] [] = some (.tup [.int .i64 (numN w s), .str (numR w s), .int .i64 (numE w s)], []) := by
 obtain ⟨k, rfl⟩ : ∃ m, k = m + 1 := ⟨k - 1, by omega⟩
 rw [ev_step _ _ _ _ (by kernel_rfl), number_tree, decide_eq_false (show ¬ ((w : Int) < 1) by omega), decide_eq_false (show ¬ ((w : Int) > 8) by omega)]
 simp only [cond_false]
 by_cases h : s.length < w
 ·rw [decide_eq_true (by omega)]
  simp [numN, numR, numE, h]
 ·rw [decide_eq_false (by omega), decide_eq_true (show (0 : Int) ≤ 0 ∧ 0 ≤ (w : Int) ∧ (w : Int) ≤ s.length by omega)]
  simp only [cond_false, cond_true, Int.toNat_natCast, Int.toNat_zero, List.drop_zero]
  rw [e89 k (by omega), getV_take w hw1 hw s h]
  simp only [zRe, zTu, zCo, zIn, if_true, zNi]
  by_cases h0 : numE w s = 0
  ·rw [decide_eq_true (show 0 ≤ (w : Int) ∧ (w : Int) ≤ s.length ∧ (s.length : Int) ≤ s.length by omega)]
   simp [h0, numR]
  ·rw [show (numE w s != 0) = true by simp [h0]]
   simp [numN, numR, h0]
theorem rnum_tree (F : Fns) (N : Nat) (s : List UInt8) (b : Bool) (w : Int) : runOf F 146 N [.ptr 0 0 0, .int .i64 w] [[.str s, .bool b]] =
 zRe (F 88 [AV.str s, AV.int .i64 w] []) fun v bs => zTu v fun cs => zCo cs fun v r => zIn .i64 v fun n => zCo r fun v r => zSt v fun s_1 => zCo r fun v r => zIn .i64 v fun n_1 => zNi r (zNi bs (bif b then some (AV.int .i64 0, [[AV.str s, AV.bool true]]) else bif n_1 != 0 then some (AV.int .i64 0, [[AV.str s, AV.bool true]]) else some (AV.int .i64 n, [[AV.str s_1, AV.bool b]]))) := by kernel_rfl
def rdB (w : Nat) (s : List UInt8) (b : Bool) : Bool := b || decide (numE w s ≠ 0)
def rdN (w : Nat) (s : List UInt8) (b : Bool) : Nat := if rdB w s b then 0 else numN w s
def rdS (w : Nat) (s : List UInt8) (b : Bool) : List UInt8 := if rdB w s b then s else s.drop w
theorem e49 (k : Nat) (hk : 12 ≤ k) (s : List UInt8) (b : Bool) (w : Nat) (hw1 : 1 ≤ w) (hw : w ≤ 8) : evF pr k 146 [.ptr 0 0 0, .int .i64 w] [[.str s, .bool b]] = some (.int .i64 (rdN w s b), [[.str (rdS w s b), .bool (rdB w s b)]]) := by
 obtain ⟨k, rfl⟩ : ∃ m, k = m + 1 := ⟨k - 1, by omega⟩
 rw [ev_step _ _ _ _ (by kernel_rfl), rnum_tree, e88 k (by omega) s w hw1 hw]
 simp only [zRe, zTu, zCo, zIn, zSt, if_true, zNi]
 cases b
 ·by_cases h0 : numE w s = 0
  ·simp [rdN, rdS, rdB, h0, numR]
  ·rw [show (numE w s != 0) = true by simp [h0]]
   simp [rdN, rdS, rdB, h0]
 ·simp [rdN, rdS, rdB]
theorem at_tree (F : Fns) (N : Nat) (s : List UInt8) (p w : Int) : runOf F 129 N [.str s, .int .i64 p, .int .i64 w] [] =
 bif decide (p < 0) then some (AV.tup [AV.int .i64 0, AV.bool false], []) else bif decide (p > IntKind.wrap .i64 ((s.length : Int) - w)) then some (AV.tup [AV.int .i64 0, AV.bool false], []) else bif decide (0 ≤ p ∧ p ≤ IntKind.wrap .i64 (p + w) ∧ IntKind.wrap .i64 (p + w) ≤ (s.length : Int)) then zRe (F 100 [AV.str (List.drop (Int.toNat p) (List.take (Int.toNat (IntKind.wrap .i64 (p + w))) s))] []) fun v bs => zTu v fun cs => zCo cs fun v r => zIn .i64 v fun n => zCo r fun v r => zIn .i64 v fun n_1 => zNi r (zNi bs (some (AV.tup [AV.int .i64 n, AV.bool (n_1 == 0)], []))) else none := by kernel_rfl
theorem e43 (k : Nat) (hk : 11 ≤ k) (s : List UInt8) (hs : s.length < 4611686018427387904) (p : Nat) (hp : p < 4611686018427387904) (w : Nat) (hw1 : 1 ≤ w) (hw : w ≤ 8) :
  evF pr k 129 [.str s, .int .i64 p, .int .i64 w] [] = some (.tup [.int .i64 (numN w (s.drop p)), .bool (numE w (s.drop p) == 0)], []) := by
 obtain ⟨k, rfl⟩ : ∃ m, k = m + 1 := ⟨k - 1, by omega⟩
 rw [ev_step _ _ _ _ (by kernel_rfl), at_tree, decide_eq_false (show ¬ ((p : Int) < 0) by omega), wrap_small (n := (s.length : Int) - w) (by omega) (by omega), wrap_small (n := (p : Int) + w) (by omega) (by omega)]
 simp only [cond_false]
 by_cases h : (s.drop p).length < w
 ·have : (p : Int) > (s.length : Int) - w := by rw [List.length_drop] at h; omega
  rw [decide_eq_true this]
  simp only [cond_true, numN, numE, h, if_true]
  rfl
 ·have hl : p + w ≤ s.length := by rw [List.length_drop] at h; omega
  rw [decide_eq_false (show ¬ (p : Int) > (s.length : Int) - w by omega), decide_eq_true (show 0 ≤ (p : Int) ∧ (p : Int) ≤ p + w ∧ (p : Int) + w ≤ s.length by omega)]
  have e1 : ((p : Int) + w).toNat = p + w := by omega
  simp only [cond_false, cond_true, Int.toNat_natCast, e1]
  rw [List.drop_take, show p + w - p = w by omega, e86 k (by omega), getV_take w hw1 hw _ h]
  simp only [zRe, zTu, zCo, zIn, if_true, zNi]
def brV (b : Int × Int) : AV := .agg [.int .i64 b.1, .int .i64 b.2]
def be8 (z : Int) : List UInt8 := (putV z 8).1
def chain : Int → Int → List (Int × Int) → Bool
 | _, _, [] => true
 | e, a, b :: r => decide (e < b.1 ∧ b.1 ≤ 1099511627776 ∧ a ≤ b.2 ∧ b.2 ≤ 1099511627776) && chain b.1 b.2 r
def lineOk : List (Int × Int) → Bool
 | [] => false
 | b :: r => decide ((b :: r).length ≤ 64) && (decide (b.2 = 0) && chain 0 0 (b :: r))
theorem be8_length (z : Int) : (be8 z).length ≤ 8 := by
 unfold be8 putV
 split
 ·simp
 ·split
  ·simp
  ·split
   ·simp
   ·rw [be_length]; decide
theorem getBr (l : List (Int × Int)) (i : Nat) (h : i < l.length) : (l.map brV)[Int.toNat (i : Int)]? = some (.agg [.int .i64 (l[i]).1, .int .i64 (l[i]).2]) := by
 rw [Int.toNat_natCast, List.getElem?_map, List.getElem?_eq_getElem h]
 rfl
theorem ofBytes_append (a b : List UInt8) : ofBytes a ++ ofBytes b = ofBytes (a ++ b) := by simp [ofBytes]
theorem bytesOf_ofBytes : ∀ l : List UInt8, bytesOf (ofBytes l) = some l
 | [] => rfl
 | b :: r => by
  have := bytesOf_ofBytes r
  unfold ofBytes at this
  simp only [ofBytes, List.map_cons, bytesOf, this, Int.toNat_natCast]
  simp
theorem fitsB_small {n b : Nat} (h : n * b ≤ 140737488355328) : fitsB n b = true := decide_eq_true h
def meightS (fl : Bool) (xs : List AV) (len i : Int) (v : AV) : St := ⟨25, [(0, AV.sl 1 fl xs), (2, AV.str []), (3, v), (8, AV.sl 1 fl xs), (9, AV.int .i64 len), (10, AV.int .i64 i)], [], [], [], [], []⟩
theorem meight_tree (F : Fns) (N : Nat) (fl : Bool) (xs : List AV) : runOf F 120 N [.sl 1 fl xs] [] =
 loopA (zBy F 120 0 N) (zDe 120 0) (zCt F 120 0 N 0) N { nt := 25, t := [(0, AV.sl 1 fl xs), (2, AV.str []), (3, AV.sl 0 true []), (8, AV.sl 1 fl xs), (9, AV.int .i64 (xs.length : Int)), (10, AV.int .i64 0)], b := [], r := [], g := [], rd := [], wr := [] } := by kernel_rfl
theorem meight_body0 (F : Fns) (N : Nat) (fl : Bool) (xs : List AV) (len i : Int) (KN : St → Res) : zBy F 120 0 N (meightS fl xs len i (.sl 0 true [])) (brk (zCt F 120 0 N 0) KN) =
 bif decide (i < len) then bif decide (0 ≤ i) then zOp xs[Int.toNat i]? fun x => zIn .i64 x fun n => zRe (F 23 [AV.int .i64 n, AV.int .i64 8] []) fun v bs => zTu v fun cs => zCo cs fun v r => zSt v fun s => zCo r fun v r => zIn .i64 v fun n_1 => zNi r (zNi bs (bif decide ((0 = 1 ∨ ([] : List AV) = []) ∧ fitsB (List.length ([] : List AV) + List.length (ofBytes s)) 1 = true ∧ List.length ([] : List AV) + List.length (ofBytes s) ≤ 4611686018427387904) then KN { nt := 25, t := [(0, AV.sl 1 fl xs), (2, AV.str []), (3, AV.tip 21 0 1 ([] ++ ofBytes s)), (5, AV.int .i64 n), (6, AV.str s), (8, AV.sl 1 fl xs), (9, AV.int .i64 len), (10, AV.int .i64 (IntKind.wrap .i64 (i + 1))), (11, AV.bool (decide (i < len)))], b := [], r := [], g := [], rd := [], wr := [] } else none)) else none else some (AV.str [], []) := by kernel_rfl
theorem meight_body1 (F : Fns) (N : Nat) (fl : Bool) (xs ys : List AV) (len i : Int) (KN : St → Res) : zBy F 120 0 N (meightS fl xs len i (.tip 21 0 1 ys)) (brk (zCt F 120 0 N 0) KN) =
 bif decide (i < len) then bif decide (0 ≤ i) then zOp xs[Int.toNat i]? fun x => zIn .i64 x fun n => zRe (F 23 [AV.int .i64 n, AV.int .i64 8] []) fun v bs => zTu v fun cs => zCo cs fun v r => zSt v fun s => zCo r fun v r => zIn .i64 v fun n_1 => zNi r (zNi bs (bif decide (1 = 1 ∧ fitsB (List.length ys + List.length (ofBytes s)) 1 = true ∧ List.length ys + List.length (ofBytes s) ≤ 4611686018427387904) then KN { nt := 25, t := [(0, AV.sl 1 fl xs), (2, AV.str []), (3, AV.tip 21 0 1 (ys ++ ofBytes s)), (5, AV.int .i64 n), (6, AV.str s), (8, AV.sl 1 fl xs), (9, AV.int .i64 len), (10, AV.int .i64 (IntKind.wrap .i64 (i + 1))), (11, AV.bool (decide (i < len)))], b := [], r := [], g := [], rd := [], wr := [] } else none)) else none else zOp (Option.map AV.str (bytesOf ys)) fun x => zSt x fun s => some (AV.str s, []) := by kernel_rfl
theorem meight_loop (k : Nat) (hk : 12 ≤ k) (fl : Bool) (ns : List Int) (hn : ∀ n ∈ ns, n < 9223372036854775808) (hl : ns.length ≤ 1000) : ∀ (dd i m : Nat) (acc : List UInt8) (st : St), i + dd = ns.length → dd < m → acc.length ≤ 8 * i →
  st.clean (zDe 120 0) = meightS fl (ns.map (AV.int .i64)) ns.length i (.tip 21 0 1 (ofBytes acc)) →
  loopA (zBy (evF pr k) 120 0 k) (zDe 120 0) (zCt (evF pr k) 120 0 k 0) m st = some (.str (acc ++ (ns.drop i).flatMap be8), []) := by
 intro dd
 induction dd with
 | zero =>
  intro i m acc st hi hm ha hst
  obtain ⟨m, rfl⟩ : ∃ m', m = m' + 1 := ⟨m - 1, by omega⟩
  have : i = ns.length := by omega
  subst this
  rw [loopA_succ, hst, meight_body1, decide_eq_false (by omega), bytesOf_ofBytes, List.drop_length]
  simp [zOp, zSt]
 | succ dd ih =>
  intro i m acc st hi hm ha hst
  obtain ⟨m, rfl⟩ : ∃ m', m = m' + 1 := ⟨m - 1, by omega⟩
  have hlt : i < ns.length := by omega
  have h8 := be8_length ns[i]
  rw [loopA_succ, hst, meight_body1, decide_eq_true (show (i : Int) < ns.length by omega), decide_eq_true (show (0 : Int) ≤ i by omega), Int.toNat_natCast, List.getElem?_map, List.getElem?_eq_getElem hlt]
  simp only [cond_true, Option.map_some, zOp, zIn, if_true]
  rw [show (8 : Int) = ((8 : Nat) : Int) from rfl, e37 k (by omega) _ (hn _ (List.getElem_mem hlt)) 8 (by omega) (by omega)]
  simp only [zRe, zTu, zCo, zSt, zIn, if_true, zNi]
  rw [ofBytes_append, decide_eq_true (by
   have hb : (putV ns[i] ((8 : Nat) : Int)).1.length ≤ 8 := h8
   refine ⟨trivial, fitsB_small ?_, ?_⟩ <;> simp only [ofBytes, List.length_map] <;> omega)]
  simp only [cond_true]
  rw [wrap_small (n := (i : Int) + 1) (by omega) (by omega), List.drop_eq_getElem_cons hlt, List.flatMap_cons, ← List.append_assoc]
  exact ih (i + 1) m _ _ (by omega) (by omega) (by
   have hb : (putV ns[i] ((8 : Nat) : Int)).1.length ≤ 8 := h8
   rw [List.length_append]
   omega) (by kernel_rfl)
theorem e45 (k : Nat) (fl : Bool) (ns : List Int) (hk : 13 + ns.length ≤ k) (hn : ∀ n ∈ ns, n < 9223372036854775808) (hl : ns.length ≤ 1000) : evF pr k 120 [.sl 1 fl (ns.map (AV.int .i64))] [] = some (.str (ns.flatMap be8), []) := by
 obtain ⟨k, rfl⟩ : ∃ m, k = m + 1 := ⟨k - 1, by omega⟩
 rw [ev_step _ _ _ _ (by kernel_rfl), meight_tree, List.length_map]
 cases ns with
 | nil =>
  obtain ⟨k, rfl⟩ : ∃ m, k = m + 1 := ⟨k - 1, by omega⟩
  rw [loopA_succ]
  exact meight_body0 _ _ fl [] 0 0 _
 | cons n r =>
  obtain ⟨k', hk'⟩ : ∃ m, k = m + 1 := ⟨k - 1, by omega⟩
  have h8 := be8_length n
  have hb : (putV n ((8 : Nat) : Int)).1.length ≤ 8 := h8
  conv => lhs; arg 4; rw [hk']
  rw [loopA_succ]
  refine (meight_body0 _ _ fl ((n :: r).map (AV.int .i64)) ((n :: r).length) 0 _).trans ?_
  simp only [List.length_cons] at hk
  rw [decide_eq_true (show (0 : Int) < ((n :: r).length : Nat) by simp only [List.length_cons]; omega)]
  simp only [cond_true, Int.toNat_zero, List.map_cons, List.getElem?_cons_zero, zOp, zIn, if_true, show decide ((0 : Int) ≤ 0) = true from rfl]
  rw [show (8 : Int) = ((8 : Nat) : Int) from rfl, e37 k (by omega) _ (hn _ (List.mem_cons_self ..)) 8 (by omega) (by omega)]
  simp only [zRe, zTu, zCo, zSt, zIn, if_true, zNi]
  rw [decide_eq_true (by
   refine ⟨.inr trivial, fitsB_small ?_, ?_⟩ <;> simp only [ofBytes, List.length_map, List.length_nil] <;> omega)]
  simp only [cond_true, List.nil_append]
  exact meight_loop k (by omega) fl (n :: r) hn hl r.length 1 k' _ _ (by simp only [List.length_cons]; omega) (by omega) (by omega) (by kernel_rfl)
def lrightS (fl d : Bool) (xs : List AV) (e a len i : Int) : St := ⟨53, [(0, AV.sl 2 fl xs), (2, AV.bool false), (3, AV.int .i64 e), (4, AV.int .i64 a), (21, AV.bool d), (22, AV.sl 2 fl xs), (23, AV.int .i64 len), (24, AV.int .i64 i)], [], [], [], [], []⟩
theorem lright_tree (F : Fns) (N : Nat) (fl : Bool) (xs : List AV) : runOf F 119 N [.sl 2 fl xs] [] =
 bif decide ((xs.length : Int) < 1) then some (AV.bool false, []) else bif decide ((xs.length : Int) > 64) then some (AV.bool false, []) else zOp xs[Int.toNat 0]? fun x => zAg x fun cs => zCo cs fun v r => zIn .i64 v fun n => zCo r fun v r => zIn .i64 v fun n => zNi r (bif n != 0 then some (AV.bool false, []) else loopA (zBy F 119 0 N) (zDe 119 0) (zCt F 119 0 N 0) N { nt := 53, t := [(0, AV.sl 2 fl xs), (2, AV.bool false), (3, AV.int .i64 0), (4, AV.int .i64 0), (21, AV.bool (n != 0)), (22, AV.sl 2 fl xs), (23, AV.int .i64 (xs.length : Int)), (24, AV.int .i64 0)], b := [], r := [], g := [], rd := [], wr := [] }) := by kernel_rfl
theorem lright_body (F : Fns) (N : Nat) (fl d : Bool) (xs : List AV) (e a len i : Int) (KN : St → Res) : zBy F 119 0 N (lrightS fl d xs e a len i) (brk (zCt F 119 0 N 0) KN) =
 bif decide (i < len) then bif decide (0 ≤ i) then zOp xs[Int.toNat i]? fun x => zAg x fun cs => zCo cs fun v r => zIn .i64 v fun n => zCo r fun v r => zIn .i64 v fun n_1 => zNi r (bif decide (n ≤ e) then some (AV.bool false, []) else bif decide (n > 1099511627776) then some (AV.bool false, []) else bif decide (n_1 < a) then some (AV.bool false, []) else bif decide (n_1 > 1099511627776) then some (AV.bool false, []) else KN { nt := 53, t := [(0, AV.sl 2 fl xs), (2, AV.bool false), (3, AV.int .i64 n), (4, AV.int .i64 n_1), (6, AV.ptr 6 0 0), (21, AV.bool d), (22, AV.sl 2 fl xs), (23, AV.int .i64 len), (24, AV.int .i64 (IntKind.wrap .i64 (i + 1))), (25, AV.bool (decide (i < len))), (47, AV.bool (decide (n_1 > 1099511627776)))], b := [(6, [AV.int .i64 n, AV.int .i64 n_1])], r := [], g := [], rd := [], wr := [] }) else none else some (AV.bool true, []) := by kernel_rfl
theorem lright_loop (F : Fns) (N : Nat) (fl d : Bool) (l : List (Int × Int)) (hl : l.length ≤ 64) : ∀ (dd i m : Nat) (e a : Int) (st : St), i + dd = l.length → dd < m → st.clean (zDe 119 0) = lrightS fl d (l.map brV) e a l.length i →
  loopA (zBy F 119 0 N) (zDe 119 0) (zCt F 119 0 N 0) m st = some (.bool (chain e a (l.drop i)), []) := by
 intro dd
 induction dd with
 | zero =>
  intro i m e a st hi hm hst
  obtain ⟨m, rfl⟩ : ∃ m', m = m' + 1 := ⟨m - 1, by omega⟩
  have : i = l.length := by omega
  subst this
  rw [loopA_succ, hst, lright_body, decide_eq_false (by omega), List.drop_length]
  rfl
 | succ dd ih =>
  intro i m e a st hi hm hst
  obtain ⟨m, rfl⟩ : ∃ m', m = m' + 1 := ⟨m - 1, by omega⟩
  have hlt : i < l.length := by omega
  rw [loopA_succ, hst, lright_body, decide_eq_true (show (i : Int) < l.length by omega), decide_eq_true (show (0 : Int) ≤ i by omega), getBr l i hlt, List.drop_eq_getElem_cons hlt, chain]
  simp only [cond_true, zOp, zAg, zCo, zIn, if_true, zNi]
  rw [wrap_small (n := (i : Int) + 1) (by omega) (by omega)]
  by_cases hc : e < (l[i]).1 ∧ (l[i]).1 ≤ 1099511627776 ∧ a ≤ (l[i]).2 ∧ (l[i]).2 ≤ 1099511627776
  ·rw [decide_eq_true hc, decide_eq_false (show ¬ (l[i]).1 ≤ e by omega), decide_eq_false (show ¬ (l[i]).1 > 1099511627776 by omega), decide_eq_false (show ¬ (l[i]).2 < a by omega), decide_eq_false (show ¬ (l[i]).2 > 1099511627776 by omega)]
   simp only [cond_false, Bool.true_and]
   exact ih (i + 1) m _ _ _ (by omega) (by omega) (by kernel_rfl)
  ·rw [decide_eq_false hc, Bool.false_and]
   by_cases h1 : (l[i]).1 ≤ e
   ·rw [decide_eq_true h1]; rfl
   by_cases h2 : (l[i]).1 > 1099511627776
   ·rw [decide_eq_false h1, decide_eq_true h2]; rfl
   by_cases h3 : (l[i]).2 < a
   ·rw [decide_eq_false h1, decide_eq_false h2, decide_eq_true h3]; rfl
   by_cases h4 : (l[i]).2 > 1099511627776
   ·rw [decide_eq_false h1, decide_eq_false h2, decide_eq_false h3, decide_eq_true h4]; rfl
   exact absurd (by omega) hc
theorem e44 (k : Nat) (hk : 66 ≤ k) (fl : Bool) (l : List (Int × Int)) : evF pr k 119 [.sl 2 fl (l.map brV)] [] = some (.bool (lineOk l), []) := by
 obtain ⟨k, rfl⟩ : ∃ m, k = m + 1 := ⟨k - 1, by omega⟩
 rw [ev_step _ _ _ _ (by kernel_rfl), lright_tree, List.length_map]
 cases l with
 | nil => rfl
 | cons b r =>
  rw [decide_eq_false (show ¬ (((b :: r).length : Nat) : Int) < 1 by simp only [List.length_cons]; omega), lineOk]
  simp only [cond_false]
  by_cases h : (b :: r).length ≤ 64
  ·rw [decide_eq_false (show ¬ (((b :: r).length : Nat) : Int) > 64 by omega), decide_eq_true h]
   simp only [cond_false, Int.toNat_zero, List.map_cons, List.getElem?_cons_zero, zOp, brV, zAg, zCo, zIn, if_true, zNi, Bool.true_and]
   by_cases h0 : b.2 = 0
   ·rw [show (b.2 != 0) = false by simp [h0], decide_eq_true h0]
    simp only [cond_false, Bool.true_and]
    exact lright_loop (evF pr k) k fl false (b :: r) h (b :: r).length 0 k 0 0 _ (Nat.zero_add _) (by omega) (by kernel_rfl)
   ·rw [show (b.2 != 0) = true by simp [h0], decide_eq_false h0]
    rfl
  ·rw [decide_eq_true (show (((b :: r).length : Nat) : Int) > 64 by omega), decide_eq_false h]
   rfl
def rrightS (fl d : Bool) (xs : List AV) (i : Int) : St := ⟨88, [(0, AV.sl 2 fl xs), (2, AV.bool false), (3, AV.int .i64 i), (11, AV.bool d)], [], [], [], [], []⟩
theorem rright_tree (F : Fns) (N : Nat) (fl : Bool) (xs : List AV) : runOf F 75 N [.sl 2 fl xs] [] =
 bif (xs.length : Int) == 0 then some (AV.bool false, []) else bif decide ((xs.length : Int) > 64) then some (AV.bool false, []) else loopA (zBy F 75 0 N) (zDe 75 0) (zCt F 75 0 N 0) N { nt := 88, t := [(0, AV.sl 2 fl xs), (2, AV.bool false), (3, AV.int .i64 0), (11, AV.bool (decide ((xs.length : Int) > 64)))], b := [], r := [], g := [], rd := [], wr := [] } := by kernel_rfl
theorem rright_body (F : Fns) (N : Nat) (fl d : Bool) (xs : List AV) (i : Int) (KN : St → Res) : zBy F 75 0 N (rrightS fl d xs i) (brk (zCt F 75 0 N 0) KN) =
 bif decide (i < (xs.length : Int)) then bif decide (0 ≤ i) then zOp xs[Int.toNat i]? fun x => zAg x fun cs => zCo cs fun v r => zIn .i64 v fun n => zCo r fun v r => zIn .i64 v fun n_1 => zNi r (bif decide (n < 1) then some (AV.bool false, []) else bif decide (0 ≤ i) then zOp xs[Int.toNat i]? fun x => zAg x fun cs => zCo cs fun v r => zIn .i64 v fun n => zCo r fun v r => zIn .i64 v fun n_2 => zNi r (bif decide (n > 1099511627776) then some (AV.bool false, []) else bif decide (0 ≤ i) then zOp xs[Int.toNat i]? fun x => zAg x fun cs => zCo cs fun v r => zIn .i64 v fun n => zCo r fun v r => zIn .i64 v fun n => zNi r (bif decide (n < 0) then some (AV.bool false, []) else bif decide (0 ≤ i) then zOp xs[Int.toNat i]? fun x => zAg x fun cs => zCo cs fun v r => zIn .i64 v fun n => zCo r fun v r => zIn .i64 v fun n => zNi r (bif decide (n > 1099511627776) then some (AV.bool false, []) else bif i == 0 then bif decide (0 ≤ i) then zOp xs[Int.toNat i]? fun x => zAg x fun cs => zCo cs fun v r => zIn .i64 v fun n_3 => zCo r fun v r => zIn .i64 v fun n_4 => zNi r (bif n_4 != 0 then some (AV.bool false, []) else bif decide (i > 0) then bif decide (0 ≤ i) then zOp xs[Int.toNat i]? fun x => zAg x fun cs => zCo cs fun v r => zIn .i64 v fun n_5 => zCo r fun v r => zIn .i64 v fun n_6 => zNi r (bif decide (0 ≤ IntKind.wrap .i64 (i - 1)) then zOp xs[Int.toNat (IntKind.wrap .i64 (i - 1))]? fun x => zAg x fun cs => zCo cs fun v r => zIn .i64 v fun n_7 => zCo r fun v r => zIn .i64 v fun n_8 => zNi r (bif decide (n_5 ≤ n_7) then some (AV.bool false, []) else bif decide (0 ≤ i) then zOp xs[Int.toNat i]? fun x => zAg x fun cs => zCo cs fun v r => zIn .i64 v fun n_9 => zCo r fun v r => zIn .i64 v fun n_10 => zNi r (bif decide (0 ≤ IntKind.wrap .i64 (i - 1)) then zOp xs[Int.toNat (IntKind.wrap .i64 (i - 1))]? fun x => zAg x fun cs => zCo cs fun v r => zIn .i64 v fun n_11 => zCo r fun v r => zIn .i64 v fun n_12 => zNi r (bif decide (n_10 < n_12) then some (AV.bool false, []) else KN { nt := 88, t := [(0, AV.sl 2 fl xs), (2, AV.bool false), (3, AV.int .i64 (IntKind.wrap .i64 (i + 1))), (11, AV.bool d), (15, AV.bool (decide (i < (xs.length : Int)))), (47, AV.bool (decide (n > 1099511627776))), (57, AV.bool (n_4 != 0)), (87, AV.bool (decide (n_10 < n_12)))], b := [], r := [], g := [], rd := [], wr := [] }) else none) else none) else none) else none else KN { nt := 88, t := [(0, AV.sl 2 fl xs), (2, AV.bool false), (3, AV.int .i64 (IntKind.wrap .i64 (i + 1))), (11, AV.bool d), (15, AV.bool (decide (i < (xs.length : Int)))), (47, AV.bool (decide (n > 1099511627776))), (57, AV.bool (n_4 != 0)), (87, AV.bool false)], b := [], r := [], g := [], rd := [], wr := [] }) else none else bif decide (i > 0) then bif decide (0 ≤ i) then zOp xs[Int.toNat i]? fun x => zAg x fun cs => zCo cs fun v r => zIn .i64 v fun n_3 => zCo r fun v r => zIn .i64 v fun n_4 => zNi r (bif decide (0 ≤ IntKind.wrap .i64 (i - 1)) then zOp xs[Int.toNat (IntKind.wrap .i64 (i - 1))]? fun x => zAg x fun cs => zCo cs fun v r => zIn .i64 v fun n_5 => zCo r fun v r => zIn .i64 v fun n_6 => zNi r (bif decide (n_3 ≤ n_5) then some (AV.bool false, []) else bif decide (0 ≤ i) then zOp xs[Int.toNat i]? fun x => zAg x fun cs => zCo cs fun v r => zIn .i64 v fun n_7 => zCo r fun v r => zIn .i64 v fun n_8 => zNi r (bif decide (0 ≤ IntKind.wrap .i64 (i - 1)) then zOp xs[Int.toNat (IntKind.wrap .i64 (i - 1))]? fun x => zAg x fun cs => zCo cs fun v r => zIn .i64 v fun n_9 => zCo r fun v r => zIn .i64 v fun n_10 => zNi r (bif decide (n_8 < n_10) then some (AV.bool false, []) else KN { nt := 88, t := [(0, AV.sl 2 fl xs), (2, AV.bool false), (3, AV.int .i64 (IntKind.wrap .i64 (i + 1))), (11, AV.bool d), (15, AV.bool (decide (i < (xs.length : Int)))), (47, AV.bool (decide (n > 1099511627776))), (57, AV.bool false), (87, AV.bool (decide (n_8 < n_10)))], b := [], r := [], g := [], rd := [], wr := [] }) else none) else none) else none) else none else KN { nt := 88, t := [(0, AV.sl 2 fl xs), (2, AV.bool false), (3, AV.int .i64 (IntKind.wrap .i64 (i + 1))), (11, AV.bool d), (15, AV.bool (decide (i < (xs.length : Int)))), (47, AV.bool (decide (n > 1099511627776))), (57, AV.bool false), (87, AV.bool false)], b := [], r := [], g := [], rd := [], wr := [] }) else none) else none) else none) else none else some (AV.bool true, []) := by kernel_rfl
theorem rright_loop (F : Fns) (N : Nat) (fl d : Bool) (l : List (Int × Int)) (hl : l.length ≤ 64) : ∀ (dd i m : Nat) (e a : Int) (st : St), i + 1 + dd = l.length → dd < m → (∀ h : i < l.length, l[i] = (e, a)) → 1 ≤ e → 0 ≤ a → st.clean (zDe 75 0) = rrightS fl d (l.map brV) ((i + 1 : Nat) : Int) →
  loopA (zBy F 75 0 N) (zDe 75 0) (zCt F 75 0 N 0) m st = some (.bool (chain e a (l.drop (i + 1))), []) := by
 intro dd
 induction dd with
 | zero =>
  intro i m e a st hi hm hp he ha hst
  obtain ⟨m, rfl⟩ : ∃ m', m = m' + 1 := ⟨m - 1, by omega⟩
  have : i + 1 = l.length := by omega
  rw [loopA_succ, hst, rright_body, List.length_map, decide_eq_false (by omega), this, List.drop_length]
  rfl
 | succ dd ih =>
  intro i m e a st hi hm hp he ha hst
  obtain ⟨m, rfl⟩ : ∃ m', m = m' + 1 := ⟨m - 1, by omega⟩
  have hlt : i + 1 < l.length := by omega
  have hb0 := getBr l i (by omega)
  rw [hp (by omega)] at hb0
  rw [loopA_succ, hst, rright_body, List.length_map, decide_eq_true (show (((i + 1 : Nat)) : Int) < l.length by omega), decide_eq_true (show (0 : Int) ≤ (i + 1 : Nat) by omega), getBr l (i + 1) hlt, List.drop_eq_getElem_cons hlt, chain]
  have hw : IntKind.wrap .i64 (((i + 1 : Nat) : Int) - 1) = (i : Int) := by rw [wrap_small (by omega) (by omega)]; omega
  rw [hw, hb0, decide_eq_true (show (0 : Int) ≤ i by omega), decide_eq_true (show (((i + 1 : Nat)) : Int) > 0 by omega), show ((((i + 1 : Nat)) : Int) == 0) = false by simp only [beq_eq_false_iff_ne, ne_eq]; omega]
  simp only [cond_true, cond_false, zOp, zAg, zCo, zIn, if_true, zNi]
  rw [show IntKind.wrap .i64 (((i + 1 : Nat) : Int) + 1) = ((i + 1 + 1 : Nat) : Int) by rw [wrap_small (by omega) (by omega)]; omega]
  generalize hx : l[i + 1] = b
  obtain ⟨x, y⟩ := b
  simp only
  by_cases hc : e < x ∧ x ≤ 1099511627776 ∧ a ≤ y ∧ y ≤ 1099511627776
  ·rw [decide_eq_true hc, decide_eq_false (show ¬ x < 1 by omega), decide_eq_false (show ¬ x > 1099511627776 by omega), decide_eq_false (show ¬ y < 0 by omega), decide_eq_false (show ¬ y > 1099511627776 by omega), decide_eq_false (show ¬ x ≤ e by omega), decide_eq_false (show ¬ y < a by omega)]
   simp only [cond_false, Bool.true_and]
   exact ih (i + 1) m x y _ (by omega) (by omega) (fun _ => hx) (by omega) (by omega) (by kernel_rfl)
  ·rw [decide_eq_false hc, Bool.false_and]
   by_cases h1 : x < 1
   ·rw [decide_eq_true h1]; rfl
   by_cases h2 : x > 1099511627776
   ·rw [decide_eq_false h1, decide_eq_true h2]; rfl
   by_cases h3 : y < 0
   ·rw [decide_eq_false h1, decide_eq_false h2, decide_eq_true h3]; rfl
   by_cases h4 : y > 1099511627776
   ·rw [decide_eq_false h1, decide_eq_false h2, decide_eq_false h3, decide_eq_true h4]; rfl
   by_cases h5 : x ≤ e
   ·rw [decide_eq_false h1, decide_eq_false h2, decide_eq_false h3, decide_eq_false h4, decide_eq_true h5]; rfl
   by_cases h6 : y < a
   ·rw [decide_eq_false h1, decide_eq_false h2, decide_eq_false h3, decide_eq_false h4, decide_eq_false h5, decide_eq_true h6]; rfl
   exact absurd (by omega) hc
theorem e46 (k : Nat) (hk : 67 ≤ k) (fl : Bool) (l : List (Int × Int)) : evF pr k 75 [.sl 2 fl (l.map brV)] [] = some (.bool (lineOk l), []) := by
 obtain ⟨k, rfl⟩ : ∃ m, k = m + 1 := ⟨k - 1, by omega⟩
 rw [ev_step _ _ _ _ (by kernel_rfl), rright_tree, List.length_map]
 cases l with
 | nil => rfl
 | cons b r =>
  rw [show ((((b :: r).length : Nat) : Int) == 0) = false by simp only [beq_eq_false_iff_ne, ne_eq, List.length_cons]; omega, lineOk]
  simp only [cond_false]
  by_cases h : (b :: r).length ≤ 64
  ·rw [decide_eq_false (show ¬ (((b :: r).length : Nat) : Int) > 64 by omega), decide_eq_true h]
   simp only [cond_false, Bool.true_and]
   obtain ⟨k', hk'⟩ : ∃ m, k = m + 1 := ⟨k - 1, by omega⟩
   conv => lhs; arg 4; rw [hk']
   rw [loopA_succ]
   refine (rright_body _ _ fl false ((b :: r).map brV) 0 _).trans ?_
   rw [List.length_map, decide_eq_true (show (0 : Int) < (((b :: r).length : Nat) : Int) by simp only [List.length_cons]; omega)]
   obtain ⟨x, y⟩ := b
   simp only [cond_true, cond_false, Int.toNat_zero, List.map_cons, List.getElem?_cons_zero, zOp, brV, zAg, zCo, zIn, if_true, zNi, Bool.true_and, show decide ((0 : Int) ≤ 0) = true from rfl, show decide ((0 : Int) > 0) = false from rfl, show ((0 : Int) == 0) = true from rfl, chain]
   by_cases h0 : y = 0
   ·subst h0
    by_cases hc : 0 < x ∧ x ≤ 1099511627776 ∧ (0 : Int) ≤ 0 ∧ (0 : Int) ≤ 1099511627776
    ·rw [decide_eq_true hc, decide_eq_false (show ¬ x < 1 by omega), decide_eq_false (show ¬ x > 1099511627776 by omega)]
     simp only [cond_false, Bool.true_and, show decide ((0 : Int) < 0) = false from rfl, show decide ((0 : Int) > 1099511627776) = false from rfl, show ((0 : Int) != 0) = false from rfl, show decide ((0 : Int) = 0) = true from rfl]
     exact rright_loop (evF pr k) k fl false ((x, 0) :: r) h r.length 0 k' x 0 _ (by simp only [List.length_cons]; omega) (by simp only [List.length_cons] at h; omega) (fun _ => rfl) (by omega) (by omega) (by kernel_rfl)
    ·rw [decide_eq_false hc]
     by_cases h1 : x < 1
     ·rw [decide_eq_true h1]; rfl
     rw [decide_eq_false h1, decide_eq_true (show x > 1099511627776 by omega)]
     rfl
   ·rw [decide_eq_false h0, Bool.false_and]
    by_cases h1 : x < 1
    ·rw [decide_eq_true h1]; rfl
    by_cases h2 : x > 1099511627776
    ·rw [decide_eq_false h1, decide_eq_true h2]; rfl
    by_cases h3 : y < 0
    ·rw [decide_eq_false h1, decide_eq_false h2, decide_eq_true h3]; rfl
    by_cases h4 : y > 1099511627776
    ·rw [decide_eq_false h1, decide_eq_false h2, decide_eq_false h3, decide_eq_true h4]; rfl
    rw [decide_eq_false h1, decide_eq_false h2, decide_eq_false h3, decide_eq_false h4, show (y != 0) = true by simp [h0]]
    rfl
  ·rw [decide_eq_true (show (((b :: r).length : Nat) : Int) > 64 by omega), decide_eq_false h]
   rfl
def lined (l : List (Int × Int)) : Bool := l.isEmpty || lineOk l
theorem lined_tree (F : Fns) (N : Nat) (fl : Bool) (xs : List AV) : runOf F 130 N [.sl 2 fl xs] [] =
 bif (xs.length : Int) == 0 then some (AV.bool true, []) else zRe (F 75 [AV.sl 2 fl xs] []) fun v bs => zBo v fun b => zNi bs (some (AV.bool b, [])) := by kernel_rfl
theorem e18 (k : Nat) (hk : 68 ≤ k) (fl : Bool) (l : List (Int × Int)) : evF pr k 130 [.sl 2 fl (l.map brV)] [] = some (.bool (lined l), []) := by
 obtain ⟨k, rfl⟩ : ∃ m, k = m + 1 := ⟨k - 1, by omega⟩
 rw [ev_step _ _ _ _ (by kernel_rfl), lined_tree, List.length_map, e46 k (by omega)]
 cases l with
 | nil => rfl
 | cons b r =>
  rw [show ((((b :: r).length : Nat) : Int) == 0) = false by simp only [beq_eq_false_iff_ne, ne_eq, List.length_cons]; omega]
  rfl
theorem lined_tree0 (F : Fns) (N : Nat) : runOf F 130 N [.sl 0 true []] [] =
 some (AV.bool true, []) := by kernel_rfl
theorem e18nil (k : Nat) (hk : 68 ≤ k) : evF pr k 130 [.sl 0 true []] [] = some (.bool true, []) := by
 obtain ⟨k, rfl⟩ : ∃ m, k = m + 1 := ⟨k - 1, by omega⟩
 rw [ev_step _ _ _ _ (by kernel_rfl), lined_tree0]
def brB (b : Int × Int) : List UInt8 := be8 b.1 ++ be8 b.2
def putL (l : List (Int × Int)) : List UInt8 := UInt8.ofNat l.length :: l.flatMap brB
def Sm (l : List (Int × Int)) : Prop := ∀ b ∈ l, b.1 < 9223372036854775808 ∧ b.2 < 9223372036854775808
theorem brB_length (b : Int × Int) : (brB b).length ≤ 16 := by
 have h1 := be8_length b.1
 have h2 := be8_length b.2
 unfold brB
 rw [List.length_append]
 omega
def putlS (fl d : Bool) (xs : List AV) (s : List UInt8) (len i : Int) : St := ⟨36, [(0, AV.sl 2 fl xs), (2, AV.str []), (3, AV.int .i64 0), (4, AV.str s), (14, AV.bool d), (20, AV.sl 2 fl xs), (21, AV.int .i64 len), (22, AV.int .i64 i)], [], [], [], [], []⟩
theorem putl_tree (F : Fns) (N : Nat) (fl : Bool) (xs : List AV) : runOf F 73 N [.sl 2 fl xs] [] =
 bif decide ((xs.length : Int) > 0) then zRe (F 119 [AV.sl 2 fl xs] []) fun v bs => zBo v fun b => zNi bs (bif !b then some (AV.tup [AV.str [], AV.int .i64 1], []) else loopA (zBy F 73 0 N) (zDe 73 0) (zCt F 73 0 N 0) N { nt := 36, t := [(0, AV.sl 2 fl xs), (2, AV.str []), (3, AV.int .i64 0), (4, AV.str [UInt8.ofNat (Int.toNat (IntKind.wrap .u8 (xs.length : Int)))]), (14, AV.bool !b), (20, AV.sl 2 fl xs), (21, AV.int .i64 (xs.length : Int)), (22, AV.int .i64 0)], b := [], r := [], g := [], rd := [], wr := [] }) else loopA (zBy F 73 0 N) (zDe 73 0) (zCt F 73 0 N 0) N { nt := 36, t := [(0, AV.sl 2 fl xs), (2, AV.str []), (3, AV.int .i64 0), (4, AV.str [UInt8.ofNat (Int.toNat (IntKind.wrap .u8 (xs.length : Int)))]), (14, AV.bool false), (20, AV.sl 2 fl xs), (21, AV.int .i64 (xs.length : Int)), (22, AV.int .i64 0)], b := [], r := [], g := [], rd := [], wr := [] } := by kernel_rfl
theorem putl_body (F : Fns) (N : Nat) (fl d : Bool) (xs : List AV) (s : List UInt8) (len i : Int) (KN : St → Res) : zBy F 73 0 N (putlS fl d xs s len i) (brk (zCt F 73 0 N 0) KN) =
 bif decide (i < len) then bif decide (0 ≤ i) then zOp xs[Int.toNat i]? fun x => zAg x fun cs => zCo cs fun v r => zIn .i64 v fun n => zCo r fun v r => zIn .i64 v fun n_1 => zNi r (zRe (F 120 [AV.sl 1 true [AV.int .i64 n, AV.int .i64 n_1]] []) fun v bs => zSt v fun s_1 => zNi bs (bif decide (List.length s + List.length s_1 ≤ 4611686018427387904) then KN { nt := 36, t := [(0, AV.sl 2 fl xs), (2, AV.str []), (3, AV.int .i64 0), (4, AV.str (s ++ s_1)), (6, AV.ptr 6 0 0), (14, AV.bool d), (20, AV.sl 2 fl xs), (21, AV.int .i64 len), (22, AV.int .i64 (IntKind.wrap .i64 (i + 1))), (23, AV.bool (decide (i < len)))], b := [(6, [AV.int .i64 n, AV.int .i64 n_1])], r := [], g := [], rd := [], wr := [] } else none)) else none else some (AV.tup [AV.str s, AV.int .i64 0], []) := by kernel_rfl
theorem putl_loop (k : Nat) (hk : 16 ≤ k) (fl d : Bool) (l : List (Int × Int)) (hs : Sm l) (hl : l.length ≤ 1000) : ∀ (dd i m : Nat) (acc : List UInt8) (st : St), i + dd = l.length → dd < m → acc.length ≤ 16 * i + 16 → st.clean (zDe 73 0) = putlS fl d (l.map brV) acc l.length i →
  loopA (zBy (evF pr k) 73 0 k) (zDe 73 0) (zCt (evF pr k) 73 0 k 0) m st = some (.tup [.str (acc ++ (l.drop i).flatMap brB), .int .i64 0], []) := by
 intro dd
 induction dd with
 | zero =>
  intro i m acc st hi hm ha hst
  obtain ⟨m, rfl⟩ : ∃ m', m = m' + 1 := ⟨m - 1, by omega⟩
  have : i = l.length := by omega
  subst this
  rw [loopA_succ, hst, putl_body, decide_eq_false (by omega), List.drop_length]
  simp
 | succ dd ih =>
  intro i m acc st hi hm ha hst
  obtain ⟨m, rfl⟩ : ∃ m', m = m' + 1 := ⟨m - 1, by omega⟩
  have hlt : i < l.length := by omega
  have hb := brB_length l[i]
  have hsm := hs _ (List.getElem_mem hlt)
  rw [loopA_succ, hst, putl_body, decide_eq_true (show (i : Int) < l.length by omega), decide_eq_true (show (0 : Int) ≤ i by omega), getBr l i hlt]
  simp only [cond_true, zOp, zAg, zCo, zIn, if_true, zNi]
  have h45 := e45 k true [(l[i]).1, (l[i]).2] (by simp only [List.length_cons, List.length_nil]; omega) (by intro n hn; simp at hn; rcases hn with rfl | rfl; exact hsm.1; exact hsm.2) (by simp)
  simp only [List.map_cons, List.map_nil, List.flatMap_cons, List.flatMap_nil, List.append_nil] at h45
  rw [h45]
  simp only [zRe, zSt, zNi]
  have hb' : (be8 (l[i]).1 ++ be8 (l[i]).2).length ≤ 16 := hb
  rw [decide_eq_true (show acc.length + (be8 (l[i]).1 ++ be8 (l[i]).2).length ≤ 4611686018427387904 by omega)]
  simp only [cond_true]
  rw [wrap_small (n := (i : Int) + 1) (by omega) (by omega), List.drop_eq_getElem_cons hlt, List.flatMap_cons, show acc ++ (brB l[i] ++ (l.drop (i + 1)).flatMap brB) = (acc ++ brB l[i]) ++ (l.drop (i + 1)).flatMap brB from (List.append_assoc ..).symm]
  exact ih (i + 1) m (acc ++ brB l[i]) _ (by omega) (by omega) (by rw [List.length_append]; omega) (by kernel_rfl)
theorem e17 (k : Nat) (fl : Bool) (l : List (Int × Int)) (hk : 70 + l.length ≤ k) (hs : Sm l) (hl : l.length ≤ 1000) : evF pr k 73 [.sl 2 fl (l.map brV)] [] = some (if lined l then .tup [.str (putL l), .int .i64 0] else .tup [.str [], .int .i64 1], []) := by
 obtain ⟨k, rfl⟩ : ∃ m, k = m + 1 := ⟨k - 1, by omega⟩
 rw [ev_step _ _ _ _ (by kernel_rfl), putl_tree, List.length_map, byte_wrap, e44 k (by omega)]
 cases l with
 | nil => exact putl_loop k (by omega) fl false [] hs (by simp) 0 0 k [UInt8.ofNat 0] _ rfl (by omega) (by simp) (by kernel_rfl)
 | cons b r =>
  rw [decide_eq_true (show (((b :: r).length : Nat) : Int) > 0 by simp only [List.length_cons]; omega)]
  simp only [cond_true, zRe, zBo, zNi]
  have hd : lined (b :: r) = lineOk (b :: r) := rfl
  rw [hd]
  cases hok : lineOk (b :: r) with
  | false => rfl
  | true =>
   simp only [Bool.not_true, cond_false, if_true]
   exact putl_loop k (by omega) fl false (b :: r) hs hl (b :: r).length 0 k [UInt8.ofNat (b :: r).length] _ (Nat.zero_add _) (by omega) (by simp) (by kernel_rfl)
def rputlS (fl : Bool) (xs : List AV) (s : List UInt8) (i : Int) : St := ⟨30, [(0, AV.sl 2 fl xs), (2, AV.str []), (3, AV.str s), (4, AV.int .i64 i)], [], [], [], [], []⟩
theorem rputl_tree (F : Fns) (N : Nat) (fl : Bool) (xs : List AV) : runOf F 50 N [.sl 2 fl xs] [] =
 zRe (F 97 [AV.int .i64 (xs.length : Int)] []) fun v bs => zSt v fun s => zNi bs (loopA (zBy F 50 0 N) (zDe 50 0) (zCt F 50 0 N 0) N { nt := 30, t := [(0, AV.sl 2 fl xs), (2, AV.str []), (3, AV.str s), (4, AV.int .i64 0)], b := [], r := [], g := [], rd := [], wr := [] }) := by kernel_rfl
theorem rputl_body (F : Fns) (N : Nat) (fl : Bool) (xs : List AV) (s : List UInt8) (i : Int) (KN : St → Res) : zBy F 50 0 N (rputlS fl xs s i) (brk (zCt F 50 0 N 0) KN) =
 bif decide (i < (xs.length : Int)) then bif decide (0 ≤ i) then zOp xs[Int.toNat i]? fun x => zAg x fun cs => zCo cs fun v r => zIn .i64 v fun n => zCo r fun v r => zIn .i64 v fun n_1 => zNi r (zRe (F 98 [AV.int .i64 n] []) fun v bs => zSt v fun s_1 => zNi bs (bif decide (List.length s + List.length s_1 ≤ 4611686018427387904) then bif decide (0 ≤ i) then zOp xs[Int.toNat i]? fun x => zAg x fun cs => zCo cs fun v r => zIn .i64 v fun n => zCo r fun v r => zIn .i64 v fun n => zNi r (zRe (F 98 [AV.int .i64 n] []) fun v bs => zSt v fun s_2 => zNi bs (bif decide (List.length (s ++ s_1) + List.length s_2 ≤ 4611686018427387904) then KN { nt := 30, t := [(0, AV.sl 2 fl xs), (2, AV.str []), (3, AV.str (s ++ s_1 ++ s_2)), (4, AV.int .i64 (IntKind.wrap .i64 (i + 1))), (11, AV.bool (decide (i < (xs.length : Int))))], b := [], r := [], g := [], rd := [], wr := [] } else none)) else none else none)) else none else some (AV.str s, []) := by kernel_rfl
theorem rputl_loop (k : Nat) (hk : 16 ≤ k) (fl : Bool) (l : List (Int × Int)) (hs : Sm l) (hl : l.length ≤ 1000) : ∀ (dd i m : Nat) (acc : List UInt8) (st : St), i + dd = l.length → dd < m → acc.length ≤ 16 * i + 16 → st.clean (zDe 50 0) = rputlS fl (l.map brV) acc i →
  loopA (zBy (evF pr k) 50 0 k) (zDe 50 0) (zCt (evF pr k) 50 0 k 0) m st = some (.str (acc ++ (l.drop i).flatMap brB), []) := by
 intro dd
 induction dd with
 | zero =>
  intro i m acc st hi hm ha hst
  obtain ⟨m, rfl⟩ : ∃ m', m = m' + 1 := ⟨m - 1, by omega⟩
  have : i = l.length := by omega
  subst this
  rw [loopA_succ, hst, rputl_body, List.length_map, decide_eq_false (by omega), List.drop_length]
  simp
 | succ dd ih =>
  intro i m acc st hi hm ha hst
  obtain ⟨m, rfl⟩ : ∃ m', m = m' + 1 := ⟨m - 1, by omega⟩
  have hlt : i < l.length := by omega
  have hsm := hs _ (List.getElem_mem hlt)
  have h1 := be8_length (l[i]).1
  have h2 := be8_length (l[i]).2
  rw [loopA_succ, hst, rputl_body, List.length_map, decide_eq_true (show (i : Int) < l.length by omega), decide_eq_true (show (0 : Int) ≤ i by omega), getBr l i hlt]
  simp only [cond_true, zOp, zAg, zCo, zIn, if_true, zNi]
  rw [e47 k (by omega) _ hsm.1, e47 k (by omega) _ hsm.2, show putV (l[i]).1 8 = (be8 (l[i]).1, (putV (l[i]).1 8).2) from rfl, show putV (l[i]).2 8 = (be8 (l[i]).2, (putV (l[i]).2 8).2) from rfl]
  simp only [zRe, zSt, zNi]
  rw [decide_eq_true (show acc.length + (be8 (l[i]).1).length ≤ 4611686018427387904 by omega), decide_eq_true (show (acc ++ be8 (l[i]).1).length + (be8 (l[i]).2).length ≤ 4611686018427387904 by rw [List.length_append]; omega)]
  simp only [cond_true]
  rw [wrap_small (n := (i : Int) + 1) (by omega) (by omega), List.drop_eq_getElem_cons hlt, List.flatMap_cons, brB, ← List.append_assoc, ← List.append_assoc]
  exact ih (i + 1) m _ _ (by omega) (by omega) (by rw [List.length_append, List.length_append]; omega) (by kernel_rfl)
theorem e19 (k : Nat) (fl : Bool) (l : List (Int × Int)) (hk : 20 + l.length ≤ k) (hs : Sm l) (hl : l.length ≤ 1000) : evF pr k 50 [.sl 2 fl (l.map brV)] [] = some (.str (putL l), []) := by
 obtain ⟨k, rfl⟩ : ∃ m, k = m + 1 := ⟨k - 1, by omega⟩
 rw [ev_step _ _ _ _ (by kernel_rfl), rputl_tree, List.length_map, e41 k (by omega)]
 simp only [zRe, zSt, zNi]
 exact rputl_loop k (by omega) fl l hs hl l.length 0 k [UInt8.ofNat l.length] _ (Nat.zero_add _) (by omega) (by simp) (by kernel_rfl)
def num (w : Nat) (s : List UInt8) : Option (Nat × List UInt8) := if numE w s = 0 then some (numN w s, s.drop w) else none
def brs : Nat → List UInt8 → Option (List (Int × Int) × List UInt8)
 | 0, s => some ([], s)
 | n + 1, s => match num 8 s with
  | none => none
  | some (e, s1) => match num 8 s1 with
   | none => none
   | some (a, s2) => match brs n s2 with
    | none => none
    | some (l, s3) => some (((e : Int), (a : Int)) :: l, s3)
def takeL (s : List UInt8) : Option (List (Int × Int) × List UInt8) := match num 1 s with
 | none => none
 | some (n, s1) => match brs n s1 with
  | none => none
  | some (l, s2) => if lined l then some (l, s2) else none
def slB (l : List (Int × Int)) : AV := if l = [] then .sl 0 true [] else .sl 2 false (l.map brV)
def Bad (r : Res) : Prop := ∃ m fl xs s, r = some (.sl m fl xs, [[.str s, .bool true]])
theorem num_lt {w : Nat} {s : List UInt8} {n : Nat} {t : List UInt8} (h : num w s = some (n, t)) : n < 256 ^ w ∧ n < 9223372036854775808 := by
 unfold num at h
 split at h
 ·rename_i h0
  simp only [Option.some.injEq, Prod.mk.injEq] at h
  rw [← h.1]
  have hl := unbe_lt (s.take w) 0
  unfold numN
  rw [if_pos h0]
  unfold numE at h0
  split at h0
  ·simp at h0
  ·split at h0
   ·simp at h0
   ·rename_i hw hu
    rw [List.length_take, Nat.min_eq_left (by omega)] at hl
    omega
 ·simp at h
theorem rd_some {w : Nat} {s : List UInt8} {n : Nat} {t : List UInt8} (h : num w s = some (n, t)) : rdB w s false = false ∧ rdN w s false = n ∧ rdS w s false = t := by
 unfold num at h
 split at h
 ·rename_i h0
  simp only [Option.some.injEq, Prod.mk.injEq] at h
  have : rdB w s false = false := by simp [rdB, h0]
  exact ⟨this, by simp [rdN, this, h.1], by simp [rdS, this, h.2]⟩
 ·simp at h
theorem rd_none {w : Nat} {s : List UInt8} (h : num w s = none) : rdB w s false = true := by
 unfold num at h
 split at h
 ·simp at h
 ·rename_i h0
  simp [rdB, h0]
theorem rd_bad (w : Nat) (s : List UInt8) : rdB w s true = true ∧ rdN w s true = 0 ∧ rdS w s true = s := by simp [rdB, rdN, rdS]
def rlineS (s : List UInt8) (b : Bool) (v : AV) (n i : Int) : St := ⟨39, [(0, AV.ptr 1000000 0 0), (2, AV.sl 0 true []), (3, v), (5, AV.int .i64 n), (6, AV.int .i64 i)], [(1000000, [AV.str s, AV.bool b])], [], [], [], []⟩
theorem rline_tree (F : Fns) (N : Nat) (s : List UInt8) (b : Bool) : runOf F 127 N [.ptr 0 0 0] [[.str s, .bool b]] =
 zRe (F 146 [AV.ptr 0 0 0, AV.int .i64 1] [[AV.str s, AV.bool b]]) fun v bs => zIn .i64 v fun n => zCo bs fun v r => zCo v fun v r_1 => zSt v fun s => zCo r_1 fun v r_2 => zBo v fun b => zNi r_2 (zNi r (loopA (zBy F 127 0 N) (zDe 127 0) (zCt F 127 0 N 1) N { nt := 39, t := [(0, AV.ptr (1000000 + 0) 0 0), (2, AV.sl 0 true []), (3, AV.sl 0 true []), (5, AV.int .i64 n), (6, AV.int .i64 0)], b := [(1000000, [AV.str s, AV.bool b])], r := [], g := [], rd := [], wr := [] })) := by kernel_rfl
theorem rline_body0 (F : Fns) (N : Nat) (s : List UInt8) (b : Bool) (n i : Int) (KN : St → Res) : zBy F 127 0 N (rlineS s b (.sl 0 true []) n i) (brk (zCt F 127 0 N 1) KN) =
 bif decide (i < n) then zRe (F 146 [AV.ptr 0 0 0, AV.int .i64 8] [[AV.str s, AV.bool b]]) fun v bs => zIn .i64 v fun n_1 => zCo bs fun v r => zCo v fun v r_1 => zSt v fun s => zCo r_1 fun v r_2 => zBo v fun b => zNi r_2 (zNi r (zRe (F 146 [AV.ptr 0 0 0, AV.int .i64 8] [[AV.str s, AV.bool b]]) fun v bs => zIn .i64 v fun n_2 => zCo bs fun v r => zCo v fun v r_3 => zSt v fun s => zCo r_3 fun v r_4 => zBo v fun b => zNi r_4 (zNi r (bif b then some (AV.sl 0 true [], [[AV.str s, AV.bool b]]) else KN { nt := 39, t := [(0, AV.ptr 1000000 0 0), (2, AV.sl 0 true []), (3, AV.tip 15 0 2 [AV.agg [AV.int .i64 n_1, AV.int .i64 n_2]]), (5, AV.int .i64 n), (6, AV.int .i64 (IntKind.wrap .i64 (i + 1))), (7, AV.bool (decide (i < n))), (19, AV.bool b)], b := [(1000000, [AV.str s, AV.bool b])], r := [], g := [], rd := [], wr := [] })))) else bif b then some (AV.sl 0 true [], [[AV.str s, AV.bool true]]) else some (AV.sl 0 true [], [[AV.str s, AV.bool false]]) := by kernel_rfl
theorem rline_body1 (F : Fns) (N : Nat) (s : List UInt8) (b : Bool) (n i : Int) (ys : List AV) (KN : St → Res) : zBy F 127 0 N (rlineS s b (.tip 15 0 2 ys) n i) (brk (zCt F 127 0 N 1) KN) =
 bif decide (i < n) then zRe (F 146 [AV.ptr 0 0 0, AV.int .i64 8] [[AV.str s, AV.bool b]]) fun v bs => zIn .i64 v fun n_1 => zCo bs fun v r => zCo v fun v r_1 => zSt v fun s_1 => zCo r_1 fun v r_2 => zBo v fun b_1 => zNi r_2 (zNi r (zRe (F 146 [AV.ptr 0 0 0, AV.int .i64 8] [[AV.str s_1, AV.bool b_1]]) fun v bs => zIn .i64 v fun n_2 => zCo bs fun v r => zCo v fun v r_3 => zSt v fun s_2 => zCo r_3 fun v r_4 => zBo v fun b_2 => zNi r_4 (zNi r (bif decide (2 = 2 ∧ fitsB (List.length ys + List.length [AV.agg [AV.int .i64 n_1, AV.int .i64 n_2]]) 16 = true ∧ List.length ys + List.length [AV.agg [AV.int .i64 n_1, AV.int .i64 n_2]] ≤ 4611686018427387904) then bif b_2 then some (AV.sl 0 true [], [[AV.str s_2, AV.bool b_2]]) else KN { nt := 39, t := [(0, AV.ptr 1000000 0 0), (2, AV.sl 0 true []), (3, AV.tip 15 0 2 (ys ++ [AV.agg [AV.int .i64 n_1, AV.int .i64 n_2]])), (5, AV.int .i64 n), (6, AV.int .i64 (IntKind.wrap .i64 (i + 1))), (7, AV.bool (decide (i < n))), (19, AV.bool b_2)], b := [(1000000, [AV.str s_2, AV.bool b_2])], r := [], g := [], rd := [], wr := [] } else none)))) else bif b then some (AV.sl 2 false ys, [[AV.str s, AV.bool true]]) else bif decide ((ys.length : Int) > 0) then zRe (F 119 [AV.sl 2 false ys] []) fun v bs => zBo v fun b => zNi bs (some (AV.sl 2 false ys, [[AV.str s, AV.bool !b]])) else some (AV.sl 2 false ys, [[AV.str s, AV.bool false]]) := by kernel_rfl
def LineR (x : Option (List (Int × Int) × List UInt8)) (r : Res) : Prop := match x with
 | none => Bad r
 | some (l, s) => r = some (slB l, [[.str s, .bool false]])
def restL (acc : List (Int × Int)) (x : Option (List (Int × Int) × List UInt8)) : Option (List (Int × Int) × List UInt8) := match x with
 | none => none
 | some (l, s) => if lined (acc ++ l) then some (acc ++ l, s) else none
theorem rline_loop (k : Nat) (hk : 66 ≤ k) (n : Nat) (hn : n ≤ 1000) : ∀ (dd i m : Nat) (acc : List (Int × Int)) (s : List UInt8) (st : St), i + dd = n → dd < m → acc ≠ [] → acc.length = i → st.clean (zDe 127 0) = rlineS s false (.tip 15 0 2 (acc.map brV)) n i →
  LineR (restL acc (brs dd s)) (loopA (zBy (evF pr k) 127 0 k) (zDe 127 0) (zCt (evF pr k) 127 0 k 1) m st) := by
 intro dd
 induction dd with
 | zero =>
  intro i m acc s st hi hm ha hl hst
  obtain ⟨m, rfl⟩ : ∃ m', m = m' + 1 := ⟨m - 1, by omega⟩
  have hp : 0 < acc.length := List.length_pos_iff.2 ha
  rw [loopA_succ, hst, rline_body1, decide_eq_false (by omega), List.length_map, decide_eq_true (show ((acc.length : Nat) : Int) > 0 by omega), e44 k hk]
  simp only [cond_false, cond_true, zRe, zBo, zNi, brs, restL, List.append_nil]
  have hd : lined acc = lineOk acc := by cases acc with | nil => exact absurd rfl ha | cons b r => rfl
  rw [hd]
  cases lineOk acc with
  | false => exact ⟨_, _, _, _, rfl⟩
  | true =>
   show _ = some (slB acc, _)
   rw [slB, if_neg ha]
   rfl
 | succ dd ih =>
  intro i m acc s st hi hm ha hl hst
  obtain ⟨m, rfl⟩ : ∃ m', m = m' + 1 := ⟨m - 1, by omega⟩
  rw [loopA_succ, hst, rline_body1, decide_eq_true (show (i : Int) < n by omega), show (8 : Int) = ((8 : Nat) : Int) from rfl, e49 k (by omega) s false 8 (by omega) (by omega)]
  simp only [cond_true, zRe, zBo, zNi, zIn, if_true, zCo, zSt]
  rw [e49 k (by omega) _ _ 8 (by omega) (by omega)]
  simp only [zRe, zBo, zNi, zIn, if_true, zCo, zSt]
  rw [decide_eq_true (by
   refine ⟨trivial, fitsB_small ?_, ?_⟩ <;> simp only [List.length_map, List.length_cons, List.length_nil] <;> omega)]
  simp only [cond_true, brs]
  cases h1 : num 8 s with
  | none =>
   rw [rd_none h1, (rd_bad _ _).1]
   exact ⟨_, _, _, _, rfl⟩
  | some p =>
   obtain ⟨e, s1⟩ := p
   obtain ⟨r1, r2, r3⟩ := rd_some h1
   rw [r1, r2, r3]
   simp only
   cases h2 : num 8 s1 with
   | none =>
    rw [rd_none h2]
    exact ⟨_, _, _, _, rfl⟩
   | some q =>
    obtain ⟨a, s2⟩ := q
    obtain ⟨q1, q2, q3⟩ := rd_some h2
    rw [q1, q2, q3]
    simp only [cond_false]
    rw [wrap_small (n := (i : Int) + 1) (by omega) (by omega)]
    have := ih (i + 1) m (acc ++ [((e : Int), (a : Int))]) s2 ⟨39, [(0, AV.ptr 1000000 0 0), (2, AV.sl 0 true []), (3, AV.tip 15 0 2 (acc.map brV ++ [AV.agg [AV.int .i64 e, AV.int .i64 a]])), (5, AV.int .i64 n), (6, AV.int .i64 ((i : Int) + 1)), (7, AV.bool true), (19, AV.bool false)], [(1000000, [AV.str s2, AV.bool false])], [], [], [], []⟩ (by omega) (by omega) (by simp) (by simp [hl]) (by rw [List.map_append]; kernel_rfl)
    cases h3 : brs dd s2 with
    | none => rw [h3] at this; exact this
    | some r =>
     obtain ⟨l, s3⟩ := r
     rw [h3] at this
     simp only [restL, List.append_assoc, List.cons_append, List.nil_append] at this ⊢
     exact this
theorem e48 (k : Nat) (hk : 1100 ≤ k) (s : List UInt8) : LineR (takeL s) (evF pr k 127 [.ptr 0 0 0] [[.str s, .bool false]]) := by
 obtain ⟨k, rfl⟩ : ∃ m, k = m + 1 := ⟨k - 1, by omega⟩
 rw [ev_step _ _ _ _ (by kernel_rfl), rline_tree, show (1 : Int) = ((1 : Nat) : Int) from rfl, e49 k (by omega) s false 1 (by omega) (by omega)]
 simp only [zRe, zBo, zNi, zIn, if_true, zCo, zSt]
 obtain ⟨k', hk'⟩ : ∃ m, k = m + 1 := ⟨k - 1, by omega⟩
 unfold takeL
 cases h1 : num 1 s with
 | none =>
  rw [rd_none h1]
  have : rdN 1 s false = 0 := by simp [rdN, rd_none h1]
  rw [this]
  conv => arg 2; arg 4; rw [hk']
  rw [loopA_succ]
  refine ⟨0, true, [], rdS 1 s false, ?_⟩
  exact rline_body0 _ _ (rdS 1 s false) true ((0 : Nat) : Int) 0 _
 | some p =>
  obtain ⟨n, s1⟩ := p
  obtain ⟨r1, r2, r3⟩ := rd_some h1
  have hn := (num_lt h1).1
  rw [r1, r2, r3]
  simp only
  conv => arg 2; arg 4; rw [hk']
  rw [loopA_succ]
  have hb : ∀ x, (x = zBy (evF pr k) 127 0 k (rlineS s1 false (.sl 0 true []) n 0) (brk (zCt (evF pr k) 127 0 k 1) fun st' => loopA (zBy (evF pr k) 127 0 k) (zDe 127 0) (zCt (evF pr k) 127 0 k 1) k' st')) → LineR (match brs n s1 with
   | none => none
   | some (l, s2) => if lined l then some (l, s2) else none) x := by
   intro x hx
   rw [rline_body0] at hx
   cases n with
   | zero => rw [hx]; rfl
   | succ n =>
    rw [hx, decide_eq_true (show (0 : Int) < ((n + 1 : Nat) : Int) by omega), show (8 : Int) = ((8 : Nat) : Int) from rfl, e49 k (by omega) s1 false 8 (by omega) (by omega)]
    simp only [cond_true, zRe, zBo, zNi, zIn, if_true, zCo, zSt]
    rw [e49 k (by omega) _ _ 8 (by omega) (by omega)]
    simp only [zRe, zBo, zNi, zIn, if_true, zCo, zSt, brs]
    cases h1 : num 8 s1 with
    | none =>
     rw [rd_none h1, (rd_bad _ _).1]
     exact ⟨_, _, _, _, rfl⟩
    | some p =>
     obtain ⟨e, s2⟩ := p
     obtain ⟨r1, r2, r3⟩ := rd_some h1
     rw [r1, r2, r3]
     simp only
     cases h2 : num 8 s2 with
     | none =>
      rw [rd_none h2]
      exact ⟨_, _, _, _, rfl⟩
     | some q =>
      obtain ⟨a, s3⟩ := q
      obtain ⟨q1, q2, q3⟩ := rd_some h2
      rw [q1, q2, q3]
      simp only [cond_false]
      have := rline_loop k (by omega) (n + 1) (by omega) n 1 k' [((e : Int), (a : Int))] s3 ⟨39, [(0, AV.ptr 1000000 0 0), (2, AV.sl 0 true []), (3, AV.tip 15 0 2 [AV.agg [AV.int .i64 e, AV.int .i64 a]]), (5, AV.int .i64 ((n + 1 : Nat) : Int)), (6, AV.int .i64 (IntKind.wrap .i64 (0 + 1))), (7, AV.bool true), (19, AV.bool false)], [(1000000, [AV.str s3, AV.bool false])], [], [], [], []⟩ (by omega) (by omega) (by simp) rfl (by kernel_rfl)
      cases h3 : brs n s3 with
      | none => rw [h3] at this; exact this
      | some r =>
       obtain ⟨l, s4⟩ := r
       rw [h3] at this
       exact this
  exact hb _ (by kernel_rfl)
theorem takel_tree (F : Fns) (N : Nat) (s : List UInt8) : runOf F 90 N [.str s] [] =
 zRe (F 127 [AV.ptr 0 0 0] [[AV.str s, AV.bool false]]) fun v bs => asSl v fun m fl xs => zCo bs fun v r => zCo v fun v r_1 => zSt v fun s => zCo r_1 fun v r_2 => zBo v fun b => zNi r_2 (zNi r (bif b then some (AV.tup [AV.sl 0 true [], AV.str [], AV.int .i64 3], []) else some (AV.tup [AV.sl m fl xs, AV.str s, AV.int .i64 0], []))) := by kernel_rfl
def TakeR (x : Option (List (Int × Int) × List UInt8)) : Res := match x with
 | none => some (.tup [.sl 0 true [], .str [], .int .i64 3], [])
 | some (l, s) => some (.tup [slB l, .str s, .int .i64 0], [])
theorem e20 (k : Nat) (hk : 1101 ≤ k) (s : List UInt8) : evF pr k 90 [.str s] [] = TakeR (takeL s) := by
 obtain ⟨k, rfl⟩ : ∃ m, k = m + 1 := ⟨k - 1, by omega⟩
 rw [ev_step _ _ _ _ (by kernel_rfl), takel_tree]
 have h := e48 k (by omega) s
 cases ht : takeL s with
 | none =>
  rw [ht] at h
  obtain ⟨m, fl, xs, s', h⟩ := h
  rw [h]
  rfl
 | some p =>
  obtain ⟨l, s'⟩ := p
  rw [ht] at h
  have h : _ = some (slB l, _) := h
  rw [h]
  show _ = some (AV.tup [slB l, .str s', .int .i64 0], [])
  unfold slB
  split <;> rfl
theorem brs_spec : ∀ (n : Nat) (s : List UInt8) (l : List (Int × Int)) (t : List UInt8), brs n s = some (l, t) → t = s.drop (16 * n) ∧ l.length = n ∧ 16 * n ≤ s.length ∧ Sm l
 | 0, s, l, t, h => by
  simp only [brs, Option.some.injEq, Prod.mk.injEq] at h
  obtain ⟨rfl, rfl⟩ := h
  exact ⟨rfl, rfl, by omega, by simp [Sm]⟩
 | n + 1, s, l, t, h => by
  simp only [brs] at h
  split at h
  ·simp at h
  ·rename_i e s1 h1
   split at h
   ·simp at h
   ·rename_i a s2 h2
    split at h
    ·simp at h
    ·rename_i l' s3 h3
     simp only [Option.some.injEq, Prod.mk.injEq] at h
     obtain ⟨rfl, rfl⟩ := h
     obtain ⟨q1, q2, q3, q4⟩ := brs_spec n s2 l' s3 h3
     have n1 := num_lt h1
     have n2 := num_lt h2
     unfold num at h1 h2
     split at h1
     ·rename_i z1
      split at h2
      ·rename_i z2
       simp only [Option.some.injEq, Prod.mk.injEq] at h1 h2
       have d1 : s1 = s.drop 8 := h1.2.symm
       have d2 : s2 = s1.drop 8 := h2.2.symm
       have l1 : ¬ s.length < 8 := by
        intro hl
        simp [numE, hl] at z1
       have l2 : ¬ s1.length < 8 := by
        intro hl
        simp [numE, hl] at z2
       have g1 : s1.length = s.length - 8 := by rw [d1, List.length_drop]
       have g2 : s2.length = s1.length - 8 := by rw [d2, List.length_drop]
       refine ⟨?_, by simp [q2], by omega, ?_⟩
       ·rw [q1, d2, d1, List.drop_drop, List.drop_drop]
        congr 1
        omega
       ·intro b hb
        rcases List.mem_cons.1 hb with rfl | hb
        ·exact ⟨by simp only; omega, by simp only; omega⟩
        ·exact q4 b hb
      ·simp at h2
     ·simp at h1
def rtakelS (s : List UInt8) (p n i : Int) (b c : Bool) (v : AV) : St := ⟨68, [(0, AV.str s), (1, AV.int .i64 p), (4, AV.sl 0 true []), (5, AV.int .i64 0), (6, AV.bool false), (7, AV.int .i64 n), (8, AV.bool b), (9, v), (10, AV.int .i64 i), (22, AV.bool c)], [], [], [], [], []⟩
theorem rtakel_tree (F : Fns) (N : Nat) (s : List UInt8) (p : Int) : runOf F 101 N [.str s, .int .i64 p] [] =
 zRe (F 129 [AV.str s, AV.int .i64 p, AV.int .i64 1] []) fun v bs => zTu v fun cs => zCo cs fun v r => zIn .i64 v fun n => zCo r fun v r => zBo v fun b => zNi r (zNi bs (bif !b then some (AV.tup [AV.sl 0 true [], AV.int .i64 0, AV.bool false], []) else loopA (zBy F 101 0 N) (zDe 101 0) (zCt F 101 0 N 0) N { nt := 68, t := [(0, AV.str s), (1, AV.int .i64 p), (4, AV.sl 0 true []), (5, AV.int .i64 0), (6, AV.bool false), (7, AV.int .i64 n), (8, AV.bool b), (9, AV.sl 0 true []), (10, AV.int .i64 0), (22, AV.bool !b)], b := [], r := [], g := [], rd := [], wr := [] })) := by kernel_rfl
theorem rtakel_body0 (F : Fns) (N : Nat) (s : List UInt8) (p n i : Int) (b c : Bool) (KN : St → Res) : zBy F 101 0 N (rtakelS s p n i b c (.sl 0 true [])) (brk (zCt F 101 0 N 0) KN) =
 bif decide (i < n) then zRe (F 129 [AV.str s, AV.int .i64 (IntKind.wrap .i64 (IntKind.wrap .i64 (p + 1) + IntKind.wrap .i64 (16 * i))), AV.int .i64 8] []) fun v bs => zTu v fun cs => zCo cs fun v r => zIn .i64 v fun n_1 => zCo r fun v r => zBo v fun b_1 => zNi r (zNi bs (zRe (F 129 [AV.str s, AV.int .i64 (IntKind.wrap .i64 (IntKind.wrap .i64 (p + 9) + IntKind.wrap .i64 (16 * i))), AV.int .i64 8] []) fun v bs => zTu v fun cs => zCo cs fun v r => zIn .i64 v fun n_2 => zCo r fun v r => zBo v fun b_2 => zNi r (zNi bs (bif !b_1 then some (AV.tup [AV.sl 0 true [], AV.int .i64 0, AV.bool false], []) else bif !b_2 then some (AV.tup [AV.sl 0 true [], AV.int .i64 0, AV.bool false], []) else KN { nt := 68, t := [(0, AV.str s), (1, AV.int .i64 p), (4, AV.sl 0 true []), (5, AV.int .i64 0), (6, AV.bool false), (7, AV.int .i64 n), (8, AV.bool b), (9, AV.tip 59 0 2 [AV.agg [AV.int .i64 n_1, AV.int .i64 n_2]]), (10, AV.int .i64 (IntKind.wrap .i64 (i + 1))), (11, AV.int .i64 n_1), (12, AV.bool b_1), (13, AV.int .i64 n_2), (14, AV.bool b_2), (22, AV.bool c), (25, AV.bool (decide (i < n))), (53, AV.bool !b_2)], b := [], r := [], g := [], rd := [], wr := [] })))) else zRe (F 130 [AV.sl 0 true []] []) fun v bs => zBo v fun b => zNi bs (some (AV.tup [AV.sl 0 true [], AV.int .i64 (IntKind.wrap .i64 (IntKind.wrap .i64 (p + 1) + IntKind.wrap .i64 (16 * n))), AV.bool b], [])) := by kernel_rfl
theorem rtakel_body1 (F : Fns) (N : Nat) (s : List UInt8) (p n i : Int) (b c : Bool) (ys : List AV) (KN : St → Res) : zBy F 101 0 N (rtakelS s p n i b c (.tip 59 0 2 ys)) (brk (zCt F 101 0 N 0) KN) =
 bif decide (i < n) then zRe (F 129 [AV.str s, AV.int .i64 (IntKind.wrap .i64 (IntKind.wrap .i64 (p + 1) + IntKind.wrap .i64 (16 * i))), AV.int .i64 8] []) fun v bs => zTu v fun cs => zCo cs fun v r => zIn .i64 v fun n_1 => zCo r fun v r => zBo v fun b_1 => zNi r (zNi bs (zRe (F 129 [AV.str s, AV.int .i64 (IntKind.wrap .i64 (IntKind.wrap .i64 (p + 9) + IntKind.wrap .i64 (16 * i))), AV.int .i64 8] []) fun v bs => zTu v fun cs => zCo cs fun v r => zIn .i64 v fun n_2 => zCo r fun v r => zBo v fun b_2 => zNi r (zNi bs (bif !b_1 then some (AV.tup [AV.sl 0 true [], AV.int .i64 0, AV.bool false], []) else bif !b_2 then some (AV.tup [AV.sl 0 true [], AV.int .i64 0, AV.bool false], []) else bif decide (2 = 2 ∧ fitsB (List.length ys + List.length [AV.agg [AV.int .i64 n_1, AV.int .i64 n_2]]) 16 = true ∧ List.length ys + List.length [AV.agg [AV.int .i64 n_1, AV.int .i64 n_2]] ≤ 4611686018427387904) then KN { nt := 68, t := [(0, AV.str s), (1, AV.int .i64 p), (4, AV.sl 0 true []), (5, AV.int .i64 0), (6, AV.bool false), (7, AV.int .i64 n), (8, AV.bool b), (9, AV.tip 59 0 2 (ys ++ [AV.agg [AV.int .i64 n_1, AV.int .i64 n_2]])), (10, AV.int .i64 (IntKind.wrap .i64 (i + 1))), (11, AV.int .i64 n_1), (12, AV.bool b_1), (13, AV.int .i64 n_2), (14, AV.bool b_2), (22, AV.bool c), (25, AV.bool (decide (i < n))), (53, AV.bool !b_2)], b := [], r := [], g := [], rd := [], wr := [] } else none)))) else zRe (F 130 [AV.sl 2 false ys] []) fun v bs => zBo v fun b => zNi bs (some (AV.tup [AV.sl 2 false ys, AV.int .i64 (IntKind.wrap .i64 (IntKind.wrap .i64 (p + 1) + IntKind.wrap .i64 (16 * n))), AV.bool b], [])) := by kernel_rfl
theorem num_at {w : Nat} {s : List UInt8} {n : Nat} {t : List UInt8} (h : num w s = some (n, t)) : numE w s = 0 ∧ numN w s = n ∧ t = s.drop w := by
 unfold num at h
 split at h
 ·rename_i h0
  simp only [Option.some.injEq, Prod.mk.injEq] at h
  exact ⟨h0, h.1, h.2.symm⟩
 ·simp at h
theorem num_no {w : Nat} {s : List UInt8} (h : num w s = none) : numE w s ≠ 0 := by
 unfold num at h
 split at h
 ·simp at h
 ·assumption
def RTake (p n : Nat) (acc : List (Int × Int)) (x : Option (List (Int × Int) × List UInt8)) : Res := match x with
 | none => some (.tup [.sl 0 true [], .int .i64 0, .bool false], [])
 | some (l, _) => some (.tup [slB (acc ++ l), .int .i64 ((p + 1 + 16 * n : Nat) : Int), .bool (lined (acc ++ l))], [])
theorem rtakel_loop (k : Nat) (hk : 70 ≤ k) (s : List UInt8) (hs : s.length < 1152921504606846976) (p n : Nat) (hp : p < 1152921504606846976) (hn : n ≤ 1000) (b c : Bool) : ∀ (dd i m : Nat) (acc : List (Int × Int)) (st : St), i + dd = n → dd < m → acc ≠ [] → acc.length = i → st.clean (zDe 101 0) = rtakelS s p n i b c (.tip 59 0 2 (acc.map brV)) →
  loopA (zBy (evF pr k) 101 0 k) (zDe 101 0) (zCt (evF pr k) 101 0 k 0) m st = RTake p n acc (brs dd (s.drop (p + 1 + 16 * i))) := by
 intro dd
 induction dd with
 | zero =>
  intro i m acc st hi hm ha hl hst
  obtain ⟨m, rfl⟩ : ∃ m', m = m' + 1 := ⟨m - 1, by omega⟩
  rw [loopA_succ, hst, rtakel_body1, decide_eq_false (by omega), e18 k (by omega)]
  simp only [cond_false, zRe, zBo, zNi, brs, RTake, List.append_nil]
  rw [wrap_small (n := (p : Int) + 1) (by omega) (by omega), wrap_small (n := 16 * (n : Int)) (by omega) (by omega), wrap_small (by omega) (by omega), show (p : Int) + 1 + 16 * (n : Int) = ((p + 1 + 16 * n : Nat) : Int) by omega, slB, if_neg ha]
 | succ dd ih =>
  intro i m acc st hi hm ha hl hst
  obtain ⟨m, rfl⟩ : ∃ m', m = m' + 1 := ⟨m - 1, by omega⟩
  rw [loopA_succ, hst, rtakel_body1, decide_eq_true (show (i : Int) < n by omega), show (8 : Int) = ((8 : Nat) : Int) from rfl]
  rw [wrap_small (n := (p : Int) + 1) (by omega) (by omega), wrap_small (n := (p : Int) + 9) (by omega) (by omega), wrap_small (n := 16 * (i : Int)) (by omega) (by omega), wrap_small (n := (p : Int) + 1 + 16 * (i : Int)) (by omega) (by omega), wrap_small (n := (p : Int) + 9 + 16 * (i : Int)) (by omega) (by omega), show (p : Int) + 1 + 16 * (i : Int) = ((p + 1 + 16 * i : Nat) : Int) by omega, show (p : Int) + 9 + 16 * (i : Int) = ((p + 9 + 16 * i : Nat) : Int) by omega,
   e43 k (by omega) s (by omega) (p + 1 + 16 * i) (by omega) 8 (by omega) (by omega), e43 k (by omega) s (by omega) (p + 9 + 16 * i) (by omega) 8 (by omega) (by omega)]
  simp only [cond_true, zRe, zBo, zNi, zIn, if_true, zCo, zTu, brs]
  have hd : (s.drop (p + 1 + 16 * i)).drop 8 = s.drop (p + 9 + 16 * i) := by rw [List.drop_drop]; congr 1; omega
  have hd2 : (s.drop (p + 9 + 16 * i)).drop 8 = s.drop (p + 1 + 16 * (i + 1)) := by rw [List.drop_drop]; congr 1; omega
  cases h1 : num 8 (s.drop (p + 1 + 16 * i)) with
  | none =>
   rw [show (numE 8 (s.drop (p + 1 + 16 * i)) == 0) = false by simpa using num_no h1]
   rfl
  | some q =>
   obtain ⟨e, s1⟩ := q
   obtain ⟨r1, r2, r3⟩ := num_at h1
   rw [r1, r2]
   rw [hd] at r3
   subst r3
   simp only [show ((0 : Int) == 0) = true from rfl, Bool.not_true, cond_false]
   cases h2 : num 8 (s.drop (p + 9 + 16 * i)) with
   | none =>
    rw [show (numE 8 (s.drop (p + 9 + 16 * i)) == 0) = false by simpa using num_no h2]
    rfl
   | some q =>
    obtain ⟨a, s2⟩ := q
    obtain ⟨q1, q2, q3⟩ := num_at h2
    rw [q1, q2]
    rw [hd2] at q3
    subst q3
    simp only [show ((0 : Int) == 0) = true from rfl, Bool.not_true, cond_false]
    rw [decide_eq_true (by
     refine ⟨trivial, fitsB_small ?_, ?_⟩ <;> simp only [List.length_map, List.length_cons, List.length_nil] <;> omega)]
    simp only [cond_true]
    rw [wrap_small (n := (i : Int) + 1) (by omega) (by omega)]
    refine (ih (i + 1) m (acc ++ [((e : Int), (a : Int))]) _ (by omega) (by omega) (by simp) (by simp [hl]) (by rw [List.map_append]; kernel_rfl)).trans ?_
    cases h3 : brs dd (s.drop (p + 1 + 16 * (i + 1))) with
    | none => rfl
    | some r =>
     obtain ⟨l, s3⟩ := r
     simp only [RTake, List.append_assoc, List.cons_append, List.nil_append]
def RTakeAt (p : Nat) (s : List UInt8) : Res := match num 1 (s.drop p) with
 | none => RTake p 0 [] none
 | some (n, t) => RTake p n [] (brs n t)
theorem e21 (k : Nat) (hk : 1100 ≤ k) (s : List UInt8) (hs : s.length < 1152921504606846976) (p : Nat) (hp : p < 1152921504606846976) : evF pr k 101 [.str s, .int .i64 p] [] = RTakeAt p s := by
 obtain ⟨k, rfl⟩ : ∃ m, k = m + 1 := ⟨k - 1, by omega⟩
 rw [ev_step _ _ _ _ (by kernel_rfl), rtakel_tree, show (1 : Int) = ((1 : Nat) : Int) from rfl, e43 k (by omega) s (by omega) p (by omega) 1 (by omega) (by omega)]
 simp only [zRe, zBo, zNi, zIn, if_true, zCo, zTu]
 unfold RTakeAt
 cases h1 : num 1 (s.drop p) with
 | none =>
  rw [show (numE 1 (s.drop p) == 0) = false by simpa using num_no h1]
  rfl
 | some q =>
  obtain ⟨n, t⟩ := q
  obtain ⟨r1, r2, r3⟩ := num_at h1
  have hn := (num_lt h1).1
  rw [r1, r2]
  rw [List.drop_drop] at r3
  subst r3
  simp only [show ((0 : Int) == 0) = true from rfl, Bool.not_true, cond_false]
  obtain ⟨k', hk'⟩ : ∃ m, k = m + 1 := ⟨k - 1, by omega⟩
  conv => lhs; arg 4; rw [hk']
  rw [loopA_succ]
  refine (rtakel_body0 _ _ s p n 0 true false _).trans ?_
  cases n with
  | zero =>
   rw [e18nil k (by omega), decide_eq_false (show ¬ (0 : Int) < ((0 : Nat) : Int) by omega)]
   simp only [cond_false]
   rw [wrap_small (n := (p : Int) + 1) (by omega) (by omega), show (16 * ((0 : Nat) : Int)) = 0 from rfl, show IntKind.wrap .i64 0 = 0 from rfl, wrap_small (by omega) (by omega), show (p : Int) + 1 + 0 = ((p + 1 + 16 * 0 : Nat) : Int) by omega]
   rfl
  | succ n =>
   rw [decide_eq_true (show (0 : Int) < ((n + 1 : Nat) : Int) by omega), show (8 : Int) = ((8 : Nat) : Int) from rfl, show (16 * (0 : Int)) = 0 from rfl, show IntKind.wrap .i64 0 = 0 from rfl]
   rw [wrap_small (n := (p : Int) + 1) (by omega) (by omega), wrap_small (n := (p : Int) + 9) (by omega) (by omega), wrap_small (n := (p : Int) + 1 + 0) (by omega) (by omega), wrap_small (n := (p : Int) + 9 + 0) (by omega) (by omega), show (p : Int) + 1 + 0 = ((p + 1 : Nat) : Int) by omega, show (p : Int) + 9 + 0 = ((p + 9 : Nat) : Int) by omega,
    e43 k (by omega) s (by omega) (p + 1) (by omega) 8 (by omega) (by omega), e43 k (by omega) s (by omega) (p + 9) (by omega) 8 (by omega) (by omega)]
   simp only [cond_true, zRe, zBo, zNi, zIn, if_true, zCo, zTu, brs]
   have hd : (s.drop (p + 1)).drop 8 = s.drop (p + 9) := by rw [List.drop_drop]
   have hd2 : (s.drop (p + 9)).drop 8 = s.drop (p + 1 + 16 * 1) := by rw [List.drop_drop]
   cases h1 : num 8 (s.drop (p + 1)) with
   | none =>
    rw [show (numE 8 (s.drop (p + 1)) == 0) = false by simpa using num_no h1]
    rfl
   | some q =>
    obtain ⟨e, s1⟩ := q
    obtain ⟨r1, r2, r3⟩ := num_at h1
    rw [r1, r2]
    rw [hd] at r3
    subst r3
    simp only [show ((0 : Int) == 0) = true from rfl, Bool.not_true, cond_false]
    cases h2 : num 8 (s.drop (p + 9)) with
    | none =>
     rw [show (numE 8 (s.drop (p + 9)) == 0) = false by simpa using num_no h2]
     rfl
    | some q =>
     obtain ⟨a, s2⟩ := q
     obtain ⟨q1, q2, q3⟩ := num_at h2
     rw [q1, q2]
     rw [hd2] at q3
     subst q3
     simp only [show ((0 : Int) == 0) = true from rfl, Bool.not_true, cond_false]
     refine (rtakel_loop k (by omega) s hs p (n + 1) hp (by omega) true false n 1 k' [((e : Int), (a : Int))] _ (by omega) (by omega) (by simp) rfl (by kernel_rfl)).trans ?_
     cases h3 : brs n (s.drop (p + 1 + 16 * 1)) with
     | none => rfl
     | some r => rfl
def leqS (fl fl' c : Bool) (xs ys : List AV) (i : Int) : St := ⟨26, [(0, AV.sl 2 fl xs), (1, AV.sl 2 fl' ys), (4, AV.bool false), (5, AV.int .i64 i), (10, AV.bool c)], [], [], [], [], []⟩
def leqS0 (a b : Nat) (fl fl' c : Bool) : St := ⟨26, [(0, AV.sl a fl []), (1, AV.sl b fl' []), (4, AV.bool false), (5, AV.int .i64 0), (10, AV.bool c)], [], [], [], [], []⟩
theorem leq_tree (F : Fns) (N : Nat) (a b : Nat) (fl fl' : Bool) (xs ys : List AV) : runOf F 56 N [.sl a fl xs, .sl b fl' ys] [] =
 bif (xs.length : Int) != (ys.length : Int) then some (AV.bool false, []) else loopA (zBy F 56 0 N) (zDe 56 0) (zCt F 56 0 N 0) N { nt := 26, t := [(0, AV.sl a fl xs), (1, AV.sl b fl' ys), (4, AV.bool false), (5, AV.int .i64 0), (10, AV.bool ((xs.length : Int) != (ys.length : Int)))], b := [], r := [], g := [], rd := [], wr := [] } := by kernel_rfl
theorem leq_body (F : Fns) (N : Nat) (fl fl' c : Bool) (xs ys : List AV) (i : Int) (KN : St → Res) : zBy F 56 0 N (leqS fl fl' c xs ys i) (brk (zCt F 56 0 N 0) KN) =
 bif decide (i < (xs.length : Int)) then bif decide (0 ≤ i) then zOp xs[Int.toNat i]? fun x => zAg x fun cs => zCo cs fun v r => zIn .i64 v fun n => zCo r fun v r => zIn .i64 v fun n_1 => zNi r (bif decide (0 ≤ i) then zOp ys[Int.toNat i]? fun x => zAg x fun cs => zCo cs fun v r => zIn .i64 v fun n_2 => zCo r fun v r => zIn .i64 v fun n_3 => zNi r (bif !(n == n_2 && (n_1 == n_3 && true)) then some (AV.bool false, []) else KN { nt := 26, t := [(0, AV.sl 2 fl xs), (1, AV.sl 2 fl' ys), (4, AV.bool false), (5, AV.int .i64 (IntKind.wrap .i64 (i + 1))), (10, AV.bool c), (14, AV.bool (decide (i < (xs.length : Int)))), (25, AV.bool !(n == n_2 && (n_1 == n_3 && true)))], b := [], r := [], g := [], rd := [], wr := [] }) else none) else none else some (AV.bool true, []) := by kernel_rfl
theorem leq_body0 (F : Fns) (N : Nat) (a b : Nat) (fl fl' c : Bool) (KN : St → Res) : zBy F 56 0 N (leqS0 a b fl fl' c) (brk (zCt F 56 0 N 0) KN) =
 some (AV.bool true, []) := by kernel_rfl
theorem leq_loop (F : Fns) (N : Nat) (fl fl' c : Bool) (l l' : List (Int × Int)) (hl : l.length = l'.length) (hb : l.length < 4611686018427387904) : ∀ (dd i m : Nat) (st : St), i + dd = l.length → dd < m → st.clean (zDe 56 0) = leqS fl fl' c (l.map brV) (l'.map brV) i →
  loopA (zBy F 56 0 N) (zDe 56 0) (zCt F 56 0 N 0) m st = some (.bool (decide (l.drop i = l'.drop i)), []) := by
 intro dd
 induction dd with
 | zero =>
  intro i m st hi hm hst
  obtain ⟨m, rfl⟩ : ∃ m', m = m' + 1 := ⟨m - 1, by omega⟩
  have h1 : l.drop i = [] := List.drop_eq_nil_of_le (by omega)
  have h2 : l'.drop i = [] := List.drop_eq_nil_of_le (by omega)
  rw [loopA_succ, hst, leq_body, List.length_map, decide_eq_false (by omega), h1, h2]
  rfl
 | succ dd ih =>
  intro i m st hi hm hst
  obtain ⟨m, rfl⟩ : ∃ m', m = m' + 1 := ⟨m - 1, by omega⟩
  have hlt : i < l.length := by omega
  have hlt' : i < l'.length := by omega
  rw [loopA_succ, hst, leq_body, List.length_map, decide_eq_true (show (i : Int) < l.length by omega), decide_eq_true (show (0 : Int) ≤ i by omega), getBr l i hlt, getBr l' i hlt', List.drop_eq_getElem_cons hlt, List.drop_eq_getElem_cons hlt']
  simp only [cond_true, zOp, zAg, zCo, zIn, if_true, zNi]
  rw [wrap_small (n := (i : Int) + 1) (by omega) (by omega)]
  by_cases hc : l[i] = l'[i]
  ·rw [hc]
   simp only [beq_self_eq_true, Bool.true_and, Bool.not_true, cond_false]
   refine (ih (i + 1) m _ (by omega) (by omega) (by kernel_rfl)).trans ?_
   have : decide (l.drop (i + 1) = l'.drop (i + 1)) = decide (l'[i] :: l.drop (i + 1) = l'[i] :: l'.drop (i + 1)) := by
    rw [decide_eq_decide]
    simp only [List.cons.injEq, true_and]
   rw [this]
  ·have : ((l[i]).1 == (l'[i]).1 && ((l[i]).2 == (l'[i]).2 && true)) = false := by
    by_cases h1 : (l[i]).1 = (l'[i]).1
    ·have h2 : (l[i]).2 ≠ (l'[i]).2 := fun h2 => hc (Prod.ext h1 h2)
     simp [h1, h2]
    ·simp [h1]
   rw [this, decide_eq_false (fun h => hc (List.cons.inj h).1)]
   rfl
theorem leq_nil (F : Fns) (N m a b : Nat) (fl fl' c : Bool) (st : St) (h : st.clean (zDe 56 0) = leqS0 a b fl fl' c) : loopA (zBy F 56 0 N) (zDe 56 0) (zCt F 56 0 N 0) (m + 1) st = some (.bool true, []) := by rw [loopA_succ, h, leq_body0]
theorem e22 (k : Nat) (fl fl' : Bool) (l l' : List (Int × Int)) (hk : l.length + 3 ≤ k) (hb : l.length < 4611686018427387904) : evF pr k 56 [.sl 2 fl (l.map brV), .sl 2 fl' (l'.map brV)] [] = some (.bool (decide (l = l')), []) := by
 obtain ⟨k, rfl⟩ : ∃ m, k = m + 1 := ⟨k - 1, by omega⟩
 rw [ev_step _ _ _ _ (by kernel_rfl), leq_tree, List.length_map, List.length_map]
 by_cases h : l.length = l'.length
 ·rw [show (((l.length : Nat) : Int) != ((l'.length : Nat) : Int)) = false by simp [h]]
  exact leq_loop (evF pr k) k fl fl' false l l' h hb l.length 0 k _ (Nat.zero_add _) (by omega) (by kernel_rfl)
 ·rw [show (((l.length : Nat) : Int) != ((l'.length : Nat) : Int)) = true by simp only [bne_iff_ne, ne_eq]; omega, decide_eq_false (fun e => h (by rw [e]))]
  rfl
theorem leq_nils (k a b : Nat) (fl fl' : Bool) : evF pr (k + 2) 56 [.sl a fl [], .sl b fl' []] [] = some (.bool true, []) := by
 rw [ev_step _ _ _ _ (by kernel_rfl), leq_tree, show ((((([] : List AV).length : Nat) : Int)) != ((([] : List AV).length : Nat) : Int)) = false from rfl, cond_false]
 exact leq_nil _ _ _ a b fl fl' false _ (by kernel_rfl)
def IsL (v : AV) (l : List (Int × Int)) : Prop := (∃ fl, v = .sl 2 fl (l.map brV)) ∨ (l = [] ∧ ∃ a fl, v = .sl a fl [])
theorem IsL.slB (l : List (Int × Int)) : IsL (slB l) l := by
 unfold AM.YtnhfjkckgicidaaGreat.slB
 split
 ·rename_i h; exact .inr ⟨h, _, _, rfl⟩
 ·exact .inl ⟨_, rfl⟩
theorem e22' (k : Nat) {v v' : AV} {l l' : List (Int × Int)} (hv : IsL v l) (hv' : IsL v' l') (hk : l.length + 3 ≤ k) (hb : l.length < 4611686018427387904) : evF pr k 56 [v, v'] [] = some (.bool (decide (l = l')), []) := by
 rcases hv with ⟨fl, rfl⟩ | ⟨rfl, a, fl, rfl⟩
 ·rcases hv' with ⟨fl', rfl⟩ | ⟨rfl, a', fl', rfl⟩
  ·exact e22 k fl fl' l l' hk hb
  ·cases l with
   | nil =>
    obtain ⟨k, rfl⟩ : ∃ m, k = m + 2 := ⟨k - 2, by omega⟩
    exact leq_nils k 2 a' fl fl'
   | cons b r =>
    obtain ⟨k, rfl⟩ : ∃ m, k = m + 1 := ⟨k - 1, by omega⟩
    rw [ev_step _ _ _ _ (by kernel_rfl), leq_tree, List.length_map]
    rw [show ((((b :: r).length : Nat) : Int) != ((([] : List AV).length : Nat) : Int)) = true by simp only [bne_iff_ne, ne_eq, List.length_cons, List.length_nil]; omega]
    rfl
 ·rcases hv' with ⟨fl', rfl⟩ | ⟨rfl, a', fl', rfl⟩
  ·cases l' with
   | nil =>
    obtain ⟨k, rfl⟩ : ∃ m, k = m + 2 := ⟨k - 2, by simp at hk; omega⟩
    exact leq_nils k a 2 fl fl'
   | cons b r =>
    obtain ⟨k, rfl⟩ : ∃ m, k = m + 1 := ⟨k - 1, by omega⟩
    rw [ev_step _ _ _ _ (by kernel_rfl), leq_tree, List.length_map]
    rw [show (((([] : List AV).length : Nat) : Int) != (((b :: r).length : Nat) : Int)) = true by simp only [bne_iff_ne, ne_eq, List.length_cons, List.length_nil]; omega]
    rfl
  ·obtain ⟨k, rfl⟩ : ∃ m, k = m + 2 := ⟨k - 2, by simp at hk; omega⟩
   exact leq_nils k a a' fl fl'
end Go.AM.YtnhfjkckgicidaaGreat
