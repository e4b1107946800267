/- A part of the proof: machine and program. -/
import Derived.Test.YtpdifkaeiecdpaaAm17
import Derived.WalkKit
import Derived.ProofKit
import Derived.OpenShut
import Derived.ShutString
import Derived.ChangeOld
import Derived.Below
import Derived.Carry
import Derived.SizedLaws
import Derived.KernelRfl
import Derived.Test.YtpdifkaeiecdpaaProg
set_option linter.unusedVariables false
set_option linter.unusedSimpArgs false
namespace Go.AM
open Go.RowKit Go.Lib Go.ChangeShapes Go.WideShapes
section
variable [Reg]
def tileB (P : Program) : Nat → List Field → Nat → Bool
  | o, [], n => o == n
  | o, f :: r, n => f.offset == o && tileB P (o + P.cellsOf f.type) r n
/-- The kinds of a type's cells. -/
def kindsOf (P : Program) : Nat → TypeId → List CK
  | 0, _ => []
  | n + 1, t => match P.underlying t with
    | some .bool => [.bool]
    | some (.int k) => [.int k]
    | some .string => [.str]
    | some (.slice e) => [.sl e]
    | some (.struct fs) => (fs.toList.map (·.type)).flatMap (kindsOf P n)
    | _ => []
def regB (P : Program) (n : Nat) (e : TypeId) : Bool := match Reg.ent e with | some en => decide (en.ks = kindsOf P n e) && decide (P.cellsOf e = en.ks.length) | none => false
/-- Types whose values are read whole. -/
def plainT (P : Program) : Nat → TypeId → Bool
  | 0, _ => false
  | n + 1, t => match P.underlying t with
    | some .bool => P.cellsOf t == 1
    | some (.int _) => P.cellsOf t == 1
    | some .string => P.cellsOf t == 1
    | some (.slice e) => P.cellsOf t == 1 && (P.cellsOf e != 0 && (plainT P n e && regB P n e))
    | some (.struct fs) => tileB P 0 fs.toList (P.cellsOf t) && fs.toList.all (fun f => plainT P n f.type)
    | _ => false

mutual
/-- Cells of a type. -/
def Wt (P : Program) : Nat → TypeId → List AV → Prop
  | 0, _, _ => False
  | n + 1, t, cs => match P.underlying t with
    | some .bool => ∃ b, cs = [.bool b]
    | some (.int k) => ∃ m, cs = [.int k m] ∧ (Lit.int k m).wf = true
    | some .string => ∃ l, cs = [.str l] ∧ l.length ≤ reachBytes
    | some (.slice e) => ∃ xs : List (R e), cs = [.sl e false xs] ∧ xs.length * P.bytesOf e ≤ reachBytes ∧ ∀ y ∈ xs, Wt P n e (cel e y)
    | some (.struct fs) => WtFs P n (fs.toList.map (·.type)) cs
    | _ => False
def WtFs (P : Program) : Nat → List TypeId → List AV → Prop
  | _, [], cs => cs = []
  | n, t :: ts, cs => ∃ a b, cs = a ++ b ∧ a.length = P.cellsOf t ∧ Wt P n t a ∧ WtFs P n ts b
end
/-- A value of a type. -/
def WtV (P : Program) (n : Nat) (t : TypeId) (x : AV) : Prop := Wt P n t x.cells ∧ ((∃ l, x = .agg l) ↔ ∃ fs, P.underlying t = some (.struct fs))

def Reps (w : World) (D : Dead) (avs : List AV) (cs : List Value) : Prop := ∀ (i : Nat) (c : AV) (v : Value), avs[i]? = some c → cs[i]? = some v → RepD w D c v ∧ c.cell1 = true

omit [Reg] in
theorem exists_list {α : Type} {n : Nat} {p : Nat → α → Prop} (h : ∀ i, i < n → ∃ x, p i x) : ∃ xs : List α, xs.length = n ∧ ∀ (i : Nat) (x : α), xs[i]? = some x → p i x := by
  induction n with
  | zero => exact ⟨[], rfl, by simp⟩
  | succ n ih =>
    obtain ⟨xs, h1, h2⟩ := ih fun i hi => h i (by omega)
    obtain ⟨x, hx⟩ := h n (by omega)
    refine ⟨xs ++ [x], by simp [h1], fun i y hy => ?_⟩
    by_cases hi : i < n
    · rw [List.getElem?_append_left (by omega)] at hy
      exact h2 i y hy
    · by_cases e : i = n
      · subst e
        rw [List.getElem?_append_right (by omega)] at hy
        simp [h1] at hy
        subst hy
        exact hx
      · rw [List.getElem?_append_right (by omega)] at hy
        have : i - xs.length ≠ 0 := by omega
        simp [this] at hy

theorem Reps.append {w : World} {D : Dead} {a b : List AV} {x y : List Value} (hl : a.length = x.length) (h1 : Reps w D a x) (h2 : Reps w D b y) : Reps w D (a ++ b) (x ++ y) := by
  intro i c v hi hj
  by_cases h : i < a.length
  · rw [List.getElem?_append_left h] at hi
    rw [List.getElem?_append_left (by omega)] at hj
    exact h1 i c v hi hj
  · rw [List.getElem?_append_right (by omega)] at hi
    rw [List.getElem?_append_right (by omega), ← hl] at hj
    exact h2 _ c v hi hj

/-- All that stands is dead. -/
def oldD (w : World) : Dead := fun b _ => b < w.heap.size

section
variable {H : Type} {enc : TypeId × Value → H} {P : Program} {W : World} {spare : Nat → Bool} {held : Bool}

theorem ups_append : ∀ (a b : List CK) (x : HL Reg.T a) (y : HL Reg.T b), ∃ z : HL Reg.T (a ++ b), ups (a ++ b) z = ups a x ++ ups b y
  | [], b, x, y => ⟨y, rfl⟩
  | k :: r, b, x, y => by
    obtain ⟨z, hz⟩ := ups_append r b x.2 y
    exact ⟨(x.1, z), by simp only [List.cons_append, ups, hz]⟩
mutual
theorem Wt.ups : ∀ {n : Nat} {t : TypeId} {avs : List AV}, Wt P n t avs → ∃ x : HL Reg.T (kindsOf P n t), AM.ups _ x = avs
  | 0, t, avs, h => by simp [Wt] at h
  | n + 1, t, avs, h => by
    unfold Wt at h
    split at h
    · rename_i hu
      obtain ⟨b, rfl⟩ := h
      rw [show kindsOf P (n + 1) t = [.bool] by simp only [kindsOf, hu]]
      exact ⟨(b, ()), rfl⟩
    · rename_i k hu
      obtain ⟨m, rfl, _⟩ := h
      rw [show kindsOf P (n + 1) t = [.int k] by simp only [kindsOf, hu]]
      exact ⟨(m, ()), rfl⟩
    · rename_i hu
      obtain ⟨l, rfl, _⟩ := h
      rw [show kindsOf P (n + 1) t = [.str] by simp only [kindsOf, hu]]
      exact ⟨(l, ()), rfl⟩
    · rename_i e hu
      obtain ⟨xs, rfl, _⟩ := h
      rw [show kindsOf P (n + 1) t = [.sl e] by simp only [kindsOf, hu]]
      exact ⟨(xs, ()), rfl⟩
    · rename_i fs hu
      rw [show kindsOf P (n + 1) t = (fs.toList.map (·.type)).flatMap (kindsOf P n) by simp only [kindsOf, hu]]
      exact WtFs.ups h
    · exact h.elim
theorem WtFs.ups : ∀ {n : Nat} {ts : List TypeId} {avs : List AV}, WtFs P n ts avs → ∃ x : HL Reg.T (ts.flatMap (kindsOf P n)), AM.ups _ x = avs
  | n, [], avs, h => by
    simp only [WtFs] at h
    subst h
    exact ⟨(), rfl⟩
  | n, t :: ts, avs, h => by
    simp only [WtFs] at h
    obtain ⟨a, b, rfl, _, h1, h2⟩ := h
    obtain ⟨x, rfl⟩ := Wt.ups h1
    obtain ⟨y, rfl⟩ := WtFs.ups h2
    obtain ⟨z, hz⟩ := ups_append _ _ x y
    exact ⟨z, hz⟩
end
theorem Wt.cel {n : Nat} {e : TypeId} {avs : List AV} (hr : regB P n e = true) (h : Wt P n e avs) : ∃ y : R e, cel e y = avs := by
  unfold regB at hr
  split at hr
  · rename_i en he
    simp only [Bool.and_eq_true, decide_eq_true_eq] at hr
    obtain ⟨x, hx⟩ := h.ups
    have key : ∀ (ks : List CK) (hk : en.ks = ks) (x : HL Reg.T ks), AM.ups ks x = avs → ∃ y : R e, AM.cel e y = avs := fun ks hk x hx => by
      subst hk
      refine ⟨en.of x, ?_⟩
      unfold AM.cel
      rw [he]
      simp only
      rw [en.h, hx]
    exact key _ hr.1 x hx
  · simp at hr
theorem regB_sz {n : Nat} {e : TypeId} (hr : regB P n e = true) : szR e = P.cellsOf e := by
  unfold regB at hr
  unfold szR
  split at hr
  · rename_i en he
    simp only [Bool.and_eq_true, decide_eq_true_eq] at hr
    rw [he]
    exact hr.2.symm
  · simp at hr
theorem reps_one {w : World} {D : Dead} {c : AV} {v : Value} (h : RepD w D c v) (h1 : c.cell1 = true) : Reps w D [c] [v] := by
  intro i c' v' hi hj
  cases i with
  | zero => simp at hi hj; subst hi; subst hj; exact ⟨h, h1⟩
  | succ i => simp at hi

theorem trod_fields {n fuel : Nat} (ih : ∀ (t : TypeId) (cs : List Value) (x : DataW H × List MemPlace), plainT P n t = true → DataW.trod enc P W 0 spare held fuel t cs = some x → (∀ m ∈ x.1.weights P t, m ≤ reachBytes) →
      ∃ avs, avs.length = cs.length ∧ avs.length = P.cellsOf t ∧ Wt P n t avs ∧ Reps W (oldD W) avs cs) {cs : List Value} :
    ∀ (l : List Field) (o : Nat), tileB P o l cs.length = true → (∀ f ∈ l, plainT P n f.type = true ∧ ∃ y, DataW.trod enc P W 0 spare held fuel f.type ((cs.drop f.offset).take (P.cellsOf f.type)) = some y ∧ ∀ m ∈ y.1.weights P f.type, m ≤ reachBytes) →
      ∃ avs, avs.length = (cs.drop o).length ∧ WtFs P n (l.map (·.type)) avs ∧ Reps W (oldD W) avs (cs.drop o)
  | [], o, ht, _ => by
    simp only [tileB, beq_iff_eq] at ht
    refine ⟨[], by simp [ht], by simp [WtFs], by intro i c v hi; simp at hi⟩
  | f :: r, o, ht, hf => by
    simp only [tileB, Bool.and_eq_true, beq_iff_eq] at ht
    obtain ⟨ho, ht⟩ := ht
    obtain ⟨hp, y, hy, hw⟩ := hf f (List.mem_cons_self ..)
    rw [ho] at hy
    obtain ⟨a, a1, a2, a3, a4⟩ := ih _ _ _ hp hy hw
    obtain ⟨b, b1, b2, b3⟩ := trod_fields ih r (o + P.cellsOf f.type) ht fun g hg => hf g (List.mem_cons_of_mem _ hg)
    have e : cs.drop o = (cs.drop o).take (P.cellsOf f.type) ++ cs.drop (o + P.cellsOf f.type) := by
      rw [← List.drop_drop]
      exact (List.take_append_drop _ _).symm
    refine ⟨a ++ b, by rw [e]; simp only [List.length_append]; rw [a1, b1], ?_, ?_⟩
    · simp only [List.map_cons, WtFs]
      exact ⟨a, b, rfl, a2, a3, b2⟩
    · rw [e]
      exact Reps.append a1 a4 b3

omit [Reg] in
theorem weightsAll_mem {e : TypeId} : ∀ {l : List (DataW H)} {d : DataW H}, d ∈ l → ∀ m ∈ d.weights P e, m ∈ DataW.weightsAll P e l
  | [], d, h, _, _ => by simp at h
  | x :: r, d, h, m, hm => by
    simp only [DataW.weightsAll, List.mem_append]
    rcases List.mem_cons.1 h with e1 | e1
    · subst e1; exact .inl hm
    · exact .inr (weightsAll_mem e1 m hm)

theorem trod_rep : ∀ (n : Nat) (fuel : Nat) (t : TypeId) (cs : List Value) (x : DataW H × List MemPlace), plainT P n t = true → DataW.trod enc P W 0 spare held fuel t cs = some x → (∀ m ∈ x.1.weights P t, m ≤ reachBytes) →
    ∃ avs, avs.length = cs.length ∧ avs.length = P.cellsOf t ∧ Wt P n t avs ∧ Reps W (oldD W) avs cs := by
  intro n
  induction n with
  | zero => intro fuel t cs x hp; simp [plainT] at hp
  | succ n ih =>
    intro fuel t cs x hp h hw
    unfold plainT at hp
    split at hp
    · rename_i hu
      obtain ⟨b, rfl, rfl⟩ := DataW.trod_bool hu h
      exact ⟨[.bool b], rfl, by simpa using (beq_iff_eq.1 hp).symm, by unfold Wt; rw [hu]; exact ⟨b, rfl⟩, reps_one (.bool b) rfl⟩
    · rename_i k hu
      obtain ⟨m, rfl, rfl, hm⟩ := DataW.trod_int hu h
      exact ⟨[.int k m], rfl, by simpa using (beq_iff_eq.1 hp).symm, by unfold Wt; rw [hu]; exact ⟨m, rfl, hm⟩, reps_one (.int k m) rfl⟩
    · rename_i hu
      obtain ⟨s, rfl, rfl, hm⟩ := DataW.trod_string hu h
      have hl : s.data.toList.length ≤ reachBytes := hw _ (by simp [DataW.weights])
      exact ⟨[.str s.data.toList], rfl, by simpa using (beq_iff_eq.1 hp).symm, by unfold Wt; rw [hu]; exact ⟨_, rfl, hl⟩, reps_one (.str _ s rfl) rfl⟩
    · rename_i e hu
      simp only [Bool.and_eq_true, beq_iff_eq, bne_iff_ne, ne_eq] at hp
      obtain ⟨hp1, hp2, hp3, hp4⟩ := hp
      rcases DataW.trod_slice hu h with ⟨rfl, rfl⟩ | ⟨a, len, cap, elems, rest, n', rfl, rfl, rfl, hb, hl, hm, hlen, hel, _, _⟩
      · exact ⟨[.sl e false []], rfl, by simpa using hp1.symm, by unfold Wt; rw [hu]; exact ⟨[], rfl, by simp, by simp⟩, reps_one (.slN _ _ _ _ (by simp)) rfl⟩
      · have hw' : ∀ m, m ∈ ((elems.map (·.1)).length * P.bytesOf e + (rest.map (·.1)).length * P.bytesOf e) :: (DataW.weightsAll P e (elems.map (·.1)) ++ DataW.weightsAll P e (rest.map (·.1))) → m ≤ reachBytes := by
          intro m hm
          refine hw m ?_
          simp only [DataW.weights, hu]
          rw [Nat.add_mul]
          exact hm
        have hel' : ∀ i, i < len → ∃ y : R e, Wt P n e (cel e y) ∧ ∃ cs', W.cells? 0 (a.add (i * P.cellsOf e)) (P.cellsOf e) = some cs' ∧ (cel e y).length = cs'.length ∧ Reps W (oldD W) (cel e y) cs' := by
          intro i hi
          have h1 := hel i hi
          have hlt : i < elems.length := by omega
          rw [List.getElem?_eq_getElem hlt, Option.bind_eq_some_iff] at h1
          obtain ⟨cs', hcs, hy⟩ := h1
          obtain ⟨avs, a1, a2, a3, a4⟩ := ih n' e cs' elems[i] hp3 hy (fun m hm => hw' m (List.mem_cons_of_mem _ (List.mem_append.2 (.inl (weightsAll_mem (List.mem_map_of_mem (List.getElem_mem hlt)) m hm)))))
          obtain ⟨y, rfl⟩ := a3.cel hp4
          exact ⟨y, a3, cs', hcs, a1, a4⟩
        obtain ⟨xs, hxl, hxs⟩ := exists_list hel'
        have hbytes : xs.length * P.bytesOf e ≤ reachBytes := by
          have := hw' _ (List.mem_cons_self ..)
          simp only [List.length_map] at this
          rw [hxl]
          rw [hlen] at this
          omega
        refine ⟨[.sl e false xs], rfl, by simpa using hp1.symm, ?_, reps_one ?_ rfl⟩
        · unfold Wt
          rw [hu]
          refine ⟨xs, rfl, hbytes, fun x hx => ?_⟩
          obtain ⟨i, hi⟩ := List.getElem?_of_mem hx
          exact (hxs i x hi).1
        · cases hx0 : xs with
          | nil =>
            rw [hx0] at hxl
            simp at hxl
            subst hxl
            exact .slN _ _ _ _ (by simp)
          | cons x0 xr =>
            have hpos : 0 < len := by rw [← hxl, hx0]; simp
            have hspot : a.spot = none := by
              obtain ⟨_, _, cs', hcs, _⟩ := hel' 0 hpos
              obtain ⟨_, q2, q3⟩ := World.cells?_some hcs
              have q4 := q3 0 (by omega)
              rw [Nat.zero_mul] at q4
              have e0 : (a.add 0).add 0 = a := by simp [Addr.add]
              rw [e0, List.getElem?_eq_getElem (show 0 < cs'.length by omega)] at q4
              unfold World.cell? at q4
              split at q4
              · split at q4
                · simp at q4
                · rename_i hs; simpa using hs
              · simp at q4
            obtain ⟨b, off, spot⟩ := a
            simp only at hspot
            subst hspot
            rw [← hx0]
            have hsz := regB_sz hp4
            have hcell : ∀ (q : Nat) (c : AV), (flat e xs)[q]? = some c → ∃ v, W.cell? ⟨b, off + q, none⟩ = some v ∧ RepD W (oldD W) c v ∧ b < W.heap.size := by
              intro q c hq
              have hpos2 : 0 < szR e := by rw [hsz]; omega
              have hqlt : q < xs.length * szR e := by rw [← flat_len]; exact (List.getElem?_eq_some_iff.1 hq).1
              have hi : q / szR e < xs.length := Nat.div_lt_of_lt_mul (by rw [Nat.mul_comm]; exact hqlt)
              have hj : q % szR e < szR e := Nat.mod_lt _ hpos2
              have hxi := List.getElem?_eq_getElem hi
              have hfl := flat_get e xs (q / szR e) (q % szR e) _ hxi hj
              have hdm : q / szR e * szR e + q % szR e = q := by rw [Nat.mul_comm]; exact Nat.div_add_mod q (szR e)
              rw [hdm, hq] at hfl
              obtain ⟨_, cs', hcs, hlc, hR⟩ := hxs (q / szR e) _ hxi
              obtain ⟨_, q2, q3⟩ := World.cells?_some hcs
              have hjlt' : q % szR e < cs'.length := by rw [← hlc, cel_len]; exact hj
              have q4 := q3 (q % szR e) (by rw [← hsz]; exact hj)
              have ea : ((⟨b, off, none⟩ : Addr).add (q / szR e * P.cellsOf e)).add (q % szR e) = ⟨b, off + q, none⟩ := by rw [addr_add, addr_add, Nat.add_assoc, ← hsz, hdm]
              rw [ea, List.getElem?_eq_getElem hjlt'] at q4
              obtain ⟨r1, r2⟩ := hR (q % szR e) c cs'[q % szR e] hfl.symm (List.getElem?_eq_getElem hjlt')
              refine ⟨_, q4, r1, ?_⟩
              unfold World.cell? at q4
              split at q4
              · rename_i hh; exact (Array.getElem?_eq_some_iff.1 hh).1
              · simp at q4
            have hxl' : len = xs.length := hxl.symm
            rw [hxl']
            refine .sl _ _ _ b off cap (fun q => (W.cell? ⟨b, off + q, none⟩).getD Go.undef) (by omega) (by simp) (fun q c hq => ?_) (fun q c hq => ?_)
            · obtain ⟨v, q1, q2, q4⟩ := hcell q c hq
              exact ⟨q4, by rw [q1]; rfl⟩
            · obtain ⟨v, q1, q2, q4⟩ := hcell q c hq
              simp only [q1, Option.getD_some]
              exact q2
    · rename_i fs hu
      simp only [Bool.and_eq_true, List.all_eq_true] at hp
      obtain ⟨hp1, hp2⟩ := hp
      obtain ⟨xs, n', rfl, rfl, hl, hxl, hf⟩ := DataW.trod_struct hu h
      obtain ⟨avs, a1, a2, a3⟩ := trod_fields (fun t cs x => ih n' t cs x) (cs := cs) fs.toList 0 (by rw [hl]; exact hp1) (fun f hfm => by
        refine ⟨hp2 f hfm, ?_⟩
        obtain ⟨i, hi⟩ := List.getElem?_of_mem hfm
        have hi' : fs[i]? = some f := by simpa using hi
        have hlt : i < xs.length := by rw [hxl]; exact (Array.getElem?_eq_some_iff.1 hi').1
        refine ⟨xs[i], by rw [hf i f hi', List.getElem?_eq_getElem hlt], fun m hm => hw m ?_⟩
        simp only [DataW.weights, hu]
        exact DataW.weights_mem_each (j := i) (t := f.type) (d := xs[i].1) (by simp [hi']) (by simp [hlt]) m hm)
      simp only [List.drop_zero] at a1 a3
      exact ⟨avs, a1, by rw [a1, hl], by unfold Wt; rw [hu]; exact a2, a3⟩
    · simp at hp


/-- The arguments. -/
def WtArgs (P : Program) (n : Nat) : List TypeId → List AV → Prop
  | [], avs => avs = []
  | t :: ts, avs => ∃ x r, avs = x :: r ∧ WtV P n t x ∧ WtArgs P n ts r
variable {base : Nat}
theorem value_rep {n : Nat} {t : TypeId} {v : Value} {d : DataW H} {ps : List MemPlace} {γ : Gh} {h : Heap} {u : List Nat} (hp : plainT P n t = true) (hv : Value.okWide P W .any base t v) (hd : DataW.Trod enc P W 0 spare held t v d ps) (hw : ∀ m ∈ d.weights P t, m ≤ reachBytes) :
    ∃ x, WtV P n t x ∧ RepB γ h u W (oldD W) x v := by
  obtain ⟨fuel, hf⟩ := hd
  obtain ⟨avs, a1, a2, a3, a4⟩ := trod_rep n fuel t _ _ hp hf hw
  cases n with
  | zero => simp [plainT] at hp
  | succ n =>
    have one : ∀ (c : AV), avs = [c] → (∀ cs, v ≠ .agg cs) → RepD W (oldD W) c v := by
      intro c e hne
      subst e
      have : v.cells = #[v] := by cases v <;> first | rfl | exact absurd rfl (hne _)
      rw [this] at a4
      exact (a4 0 c v rfl rfl).1
    have h3 := a3
    unfold Wt at a3
    split at a3
    · rename_i hu
      obtain ⟨b, e⟩ := a3
      refine ⟨.bool b, ⟨by have q := h3; rw [e] at q; exact q, by simp [hu]⟩, (one _ e ?_).c.b⟩
      obtain ⟨_, rfl⟩ := okWide_bool hu hv
      simp
    · rename_i k hu
      obtain ⟨m, e, hm⟩ := a3
      refine ⟨.int k m, ⟨by have q := h3; rw [e] at q; exact q, by simp [hu]⟩, (one _ e ?_).c.b⟩
      obtain ⟨_, rfl⟩ := okWide_int hu hv
      simp
    · rename_i hu
      obtain ⟨l, e, hl⟩ := a3
      refine ⟨.str l, ⟨by have q := h3; rw [e] at q; exact q, by simp [hu]⟩, (one _ e ?_).c.b⟩
      obtain ⟨_, rfl⟩ := okWide_string hu hv
      simp
    · rename_i e' hu
      obtain ⟨xs, e, h1, h2⟩ := a3
      refine ⟨.sl _ false xs, ⟨by have q := h3; rw [e] at q; exact q, by simp [hu]⟩, (one _ e ?_).c.b⟩
      obtain ⟨_, _, _, rfl⟩ := okWide_slice hu hv
      simp
    · rename_i fs hu
      refine ⟨.agg avs, ⟨h3, by simp [hu]⟩, ?_⟩
      have hv' := hv
      unfold Value.okWide at hv'
      rw [hu] at hv'
      obtain ⟨cs, rfl, hcs, _⟩ := hv'
      refine ⟨cs, rfl, by simpa [Value.cells] using a1.symm, fun i c v hi hj => ?_⟩
      obtain ⟨r1, r2⟩ := a4 i c v hi (by simpa [Value.cells] using hj)
      exact ⟨r1.c, .inr r2⟩
    · exact a3.elim
theorem args_rep {n : Nat} {γ : Gh} {h : Heap} {u : List Nat} : ∀ {ts : List TypeId} {vs : List Value} {ds : List (DataW H)} {ps : List MemPlace}, ts.all (plainT P n) = true → (∀ (j : Nat) t v, ts[j]? = some t → vs[j]? = some v → Value.okWide P W .any base t v) →
    DataW.TrodAll enc P W 0 spare held ts vs ds ps → (∀ m ∈ DataW.weightsEach P ts ds, m ≤ reachBytes) → ∃ avs, WtArgs P n ts avs ∧ avs.length = vs.length ∧ ∀ (i : Nat) (x : AV) (v : Value), avs[i]? = some x → vs[i]? = some v → RepB γ h u W (oldD W) x v
  | [], vs, ds, ps, _, _, hd, _ => by
    obtain ⟨rfl, rfl, rfl⟩ := trodAll_nil hd
    exact ⟨[], rfl, rfl, by simp⟩
  | t :: ts, vs, ds, ps, hp, hv, hd, hw => by
    obtain ⟨v, vs', d, ds', p, q, rfl, rfl, rfl, h1, h2⟩ := trodAll_cons hd
    simp only [List.all_cons, Bool.and_eq_true] at hp
    simp only [DataW.weightsEach, List.mem_append] at hw
    obtain ⟨x, hx, hr⟩ := value_rep (γ := γ) (h := h) (u := u) hp.1 (hv 0 t v rfl rfl) h1 (fun m hm => hw m (.inl hm))
    obtain ⟨r, hr1, hr2, hr3⟩ := args_rep hp.2 (fun j t v ht hv' => hv (j + 1) t v (by simpa using ht) (by simpa using hv')) h2 (fun m hm => hw m (.inr hm))
    refine ⟨x :: r, ⟨x, r, rfl, hx, hr1⟩, by simp [hr2], fun i y u hi hj => ?_⟩
    cases i with
    | zero => simp at hi hj; subst hi; subst hj; exact hr
    | succ i => exact hr3 i y u (by simpa using hi) (by simpa using hj)

/-- What a law does, from what its machine answers. -/
theorem law_calls {f n : Nat} {g : Over} (hg : OverOk P f g) {ts : List TypeId} (hts : ts.all (plainT P n) = true) {args : Array Value} {ds : List (DataW H)} {ps : List MemPlace} (hv : ∀ (j : Nat) t v, ts[j]? = some t → args[j]? = some v → Value.okWide P W .any base t v)
    (hA : DataW.TrodAll enc P W 0 spare held ts args.toList ds ps) (hw : (DataW.weightsEach P ts ds).all (· ≤ reachBytes) = true) (law : ∀ avs, WtArgs P n ts avs → (g avs []).val = some (.bool true, [])) :
    Calls P f args W fun e W' => e = .returned (.bool true) ∧ Below W.heap.size W W' := by
  let c : Ctx := ⟨W, oldD W, ⟨fun _ => (0, 0), fun _ => none⟩, []⟩
  obtain ⟨avs, h1, h2, h3⟩ := args_rep (γ := c.γ) (h := heap0 []) (u := keys (heap0 [])) hts (fun j t v ht hj => hv j t v ht (by simpa using hj)) hA (fun m hm => by simpa using List.all_eq_true.1 hw m hm)
  obtain ⟨_, hc⟩ := hg avs [] _ _ (law avs h1)
  have hp : Pre c avs [] args := ⟨rfl, List.nodup_nil, rfl, ⟨fun k cs e => (nomatch e), fun k t xs e => (nomatch e), fun b k e => (nomatch e), fun b k e => (nomatch e), fun k e => absurd rfl e⟩, fun b o h => h, by simpa using h2.symm, fun i v cv hi hj => h3 i v cv hi (by simpa using hj)⟩
  refine (hc c args hp).mono fun e W' hpost => ?_
  obtain ⟨cv, γ, D', rfl, hpost⟩ := hpost
  obtain ⟨_, hR, hF⟩ := hpost rfl rfl List.nodup_nil
  have : cv = .bool true := by cases (show RepD W' D' (.bool true) cv from hR); rfl
  subst this
  exact ⟨rfl, hF.os, hF.tape, hF.output, hF.size, fun b hb => hF.block b hb rfl⟩
end
end
end Go.AM
namespace Go.AM.Ytpdifkaeiecdpaa
structure T30 where -- counterfoillaw05.Act
  kind : Int
  at_ : Int
  n : Int
  data : List UInt8
  keep : List (Bool)
  deriving DecidableEq, Inhabited
structure T66 where -- counterfoillaw06.Act
  kind : Int
  n : Int
  data : List UInt8
  keep : List (Bool)
  deriving DecidableEq, Inhabited
structure T77 where -- disk.put
  at_ : Int
  s : List UInt8
  deriving DecidableEq, Inhabited
structure T98 where -- [2]int
  a0 : Int
  a1 : Int
  deriving DecidableEq, Inhabited
structure T44 where -- counterfoilref05.Disk
  firm : List (List UInt8)
  at_ : List (Int)
  what : List (List UInt8)
  left : Int
  gone : Bool
  deriving DecidableEq, Inhabited
structure T63 where -- counterfoillaw06.kept
  state : List UInt8
  recs : List (List UInt8)
  deriving DecidableEq, Inhabited
def types : List (Nat × Type) := [(3, Int), (4, Bool), (5, Int), (9, List UInt8), (30, T30), (66, T66), (77, T77), (98, T98), (44, T44), (63, T63)]
abbrev R0 (t : Nat) : Type := typOf types t
def ent3 : Ent R0 3 := ⟨false, [.int .i64], fun x => (x, ()), fun x => x.1, fun _ => rfl⟩
def ent4 : Ent R0 4 := ⟨false, [.bool], fun x => (x, ()), fun x => x.1, fun _ => rfl⟩
def ent5 : Ent R0 5 := ⟨false, [.int .u8], fun x => (x, ()), fun x => x.1, fun _ => rfl⟩
def ent9 : Ent R0 9 := ⟨false, [.str], fun x => (x, ()), fun x => x.1, fun _ => rfl⟩
def ent30 : Ent R0 30 := ⟨true, [.int .i64, .int .i64, .int .i64, .str, .sl 4], fun (x : T30) => (x.kind, x.at_, x.n, x.data, x.keep, ()), fun x => (⟨x.1, x.2.1, x.2.2.1, x.2.2.2.1, x.2.2.2.2.1⟩ : T30), fun _ => rfl⟩
def ent66 : Ent R0 66 := ⟨true, [.int .i64, .int .i64, .str, .sl 4], fun (x : T66) => (x.kind, x.n, x.data, x.keep, ()), fun x => (⟨x.1, x.2.1, x.2.2.1, x.2.2.2.1⟩ : T66), fun _ => rfl⟩
def ent77 : Ent R0 77 := ⟨true, [.int .i64, .str], fun (x : T77) => (x.at_, x.s, ()), fun x => (⟨x.1, x.2.1⟩ : T77), fun _ => rfl⟩
def ent98 : Ent R0 98 := ⟨true, [.int .i64, .int .i64], fun (x : T98) => (x.a0, x.a1, ()), fun x => (⟨x.1, x.2.1⟩ : T98), fun _ => rfl⟩
def ent44 : Ent R0 44 := ⟨true, [.sl 9, .sl 3, .sl 9, .int .i64, .bool], fun (x : T44) => (x.firm, x.at_, x.what, x.left, x.gone, ()), fun x => (⟨x.1, x.2.1, x.2.2.1, x.2.2.2.1, x.2.2.2.2.1⟩ : T44), fun _ => rfl⟩
def ent63 : Ent R0 63 := ⟨true, [.str, .sl 9], fun (x : T63) => (x.state, x.recs, ()), fun x => (⟨x.1, x.2.1⟩ : T63), fun _ => rfl⟩
instance reg : Reg := ⟨R0, fun t => entOf t [⟨3, ent3⟩, ⟨4, ent4⟩, ⟨5, ent5⟩, ⟨9, ent9⟩, ⟨30, ent30⟩, ⟨66, ent66⟩, ⟨77, ent77⟩, ⟨98, ent98⟩, ⟨44, ent44⟩, ⟨63, ent63⟩]⟩
end Go.AM.Ytpdifkaeiecdpaa
namespace Go.AM
section
variable [Reg]
def fnOkB (tb : Tb) (fx : Fx) : Bool :=
  !(fx.fn.name == "runtime.NumGoroutine") && (match fx.fn.body with | some c => codeOkB tb c | none => true)
theorem FnOk.of {P : Program} {tb : Tb} {f : Nat} {fx : Fx} (hm : P.follows .mixedOrders = true) (h1 : P.funcs[f]? = some fx.fn) (h2 : fnOkB tb fx = true) : FnOk P tb f fx := by
  simp only [fnOkB, Bool.and_eq_true, Bool.not_eq_true'] at h2
  refine ⟨h1, h2.1, fun c hc => ?_⟩
  rw [hc] at h2
  exact codeOkB_sound hm h2.2
end
end Go.AM
namespace Go.AM.Ytpdifkaeiecdpaa
open Go.Proofs
noncomputable def tb : Tb := [
  (3, ⟨.int .i64, 1, 8, .int .i64 0⟩),
  (4, ⟨.bool, 1, 1, .bool false⟩),
  (5, ⟨.int .u8, 1, 1, .int .u8 0⟩),
  (9, ⟨.str, 1, 16, .str []⟩),
  (20, ⟨.iface, 1, 16, .nili⟩),
  (22, ⟨.sl 30, 1, 24, .nils⟩),
  (23, ⟨.sl 4, 1, 24, .nils⟩),
  (24, ⟨.ptr, 1, 8, .nilp⟩),
  (27, ⟨.int .i64, 1, 8, .int .i64 0⟩),
  (30, ⟨.struct [(0, 3), (1, 3), (2, 3), (3, 9), (4, 23)], 5, 64, .agg [.int .i64 0, .int .i64 0, .int .i64 0, .str [], .nils]⟩),
  (33, ⟨.sl 9, 1, 24, .nils⟩),
  (34, ⟨.arr 6 33, 6, 144, .agg [.nils, .nils, .nils, .nils, .nils, .nils]⟩),
  (39, ⟨.sl 24, 1, 24, .nils⟩),
  (42, ⟨.sl 3, 1, 24, .nils⟩),
  (44, ⟨.struct [(0, 33), (1, 42), (2, 33), (3, 3), (4, 4)], 5, 88, .agg [.nils, .nils, .nils, .int .i64 0, .bool false]⟩),
  (54, ⟨.sl 66, 1, 24, .nils⟩),
  (57, ⟨.ptr, 1, 8, .nilp⟩),
  (59, ⟨.iface, 1, 16, .nili⟩),
  (63, ⟨.struct [(0, 9), (1, 33)], 2, 40, .agg [.str [], .nils]⟩),
  (66, ⟨.struct [(0, 3), (1, 3), (2, 9), (3, 23)], 4, 56, .agg [.int .i64 0, .int .i64 0, .str [], .nils]⟩),
  (71, ⟨.struct [(0, 3), (1, 4), (2, 4)], 3, 16, .agg [.int .i64 0, .bool false, .bool false]⟩),
  (72, ⟨.sl 77, 1, 24, .nils⟩),
  (74, ⟨.struct [(0, 71), (3, 33), (4, 72)], 5, 64, .agg [.int .i64 0, .bool false, .bool false, .nils, .nils]⟩),
  (77, ⟨.struct [(0, 3), (1, 9)], 2, 24, .agg [.int .i64 0, .str []]⟩),
  (78, ⟨.int .u64, 1, 8, .int .u64 0⟩),
  (87, ⟨.struct [(0, 3), (1, 3), (2, 3), (3, 3)], 4, 32, .agg [.int .i64 0, .int .i64 0, .int .i64 0, .int .i64 0]⟩),
  (89, ⟨.struct [(0, 87), (4, 24), (5, 3), (6, 3), (7, 3), (8, 59)], 9, 80, .agg [.int .i64 0, .int .i64 0, .int .i64 0, .int .i64 0, .nilp, .int .i64 0, .int .i64 0, .int .i64 0, .nili]⟩),
  (93, ⟨.other, 1, 8, .nilfn⟩),
  (98, ⟨.arr 2 3, 2, 16, .agg [.int .i64 0, .int .i64 0]⟩),
  (106, ⟨.sl 5, 1, 24, .nils⟩),
  (115, ⟨.ptr, 1, 8, .nilp⟩),
  (117, ⟨.struct [(0, 9), (1, 59)], 2, 32, .agg [.str [], .nili]⟩),
  (120, ⟨.sl 98, 1, 24, .nils⟩),
  (128, ⟨.int .u64, 1, 8, .int .u64 0⟩),
  (152, ⟨.sl 59, 1, 24, .nils⟩)
]
theorem tb_all : TbAll Try.prog tb :=
  ⟨by kernel_rfl, ⟨by kernel_rfl, ⟨by kernel_rfl, ⟨by kernel_rfl, ⟨by kernel_rfl, ⟨by kernel_rfl, ⟨by kernel_rfl, ⟨by kernel_rfl, ⟨by kernel_rfl, ⟨by kernel_rfl, ⟨by kernel_rfl, ⟨by kernel_rfl, ⟨by kernel_rfl, ⟨by kernel_rfl, ⟨by kernel_rfl, ⟨by kernel_rfl, ⟨by kernel_rfl, ⟨by kernel_rfl, ⟨by kernel_rfl, ⟨by kernel_rfl, ⟨by kernel_rfl, ⟨by kernel_rfl, ⟨by kernel_rfl, ⟨by kernel_rfl, ⟨by kernel_rfl, ⟨by kernel_rfl, ⟨by kernel_rfl, ⟨by kernel_rfl, ⟨by kernel_rfl, ⟨by kernel_rfl, ⟨by kernel_rfl, ⟨by kernel_rfl, ⟨by kernel_rfl, ⟨by kernel_rfl, ⟨by kernel_rfl, trivial⟩⟩⟩⟩⟩⟩⟩⟩⟩⟩⟩⟩⟩⟩⟩⟩⟩⟩⟩⟩⟩⟩⟩⟩⟩⟩⟩⟩⟩⟩⟩⟩⟩⟩⟩
theorem tb_ok : TbOk Try.prog tb := TbOk.of_all tb_all
def rs : List (Nat × Nat) := [(33, 9), (72, 77)]
def rb : List (Nat × List (Nat × Nat)) := [(74, [(3, 9), (4, 77)]), (34, [(0, 9), (1, 9), (2, 9), (3, 9), (4, 9), (5, 9)])]
theorem follows : Try.prog.follows .mixedOrders = true := rfl
noncomputable def fx3 : Fx := ⟨Try.f3, [0, 1, 2, 6, 7, 8, 9, 10, 11, 12, 13, 14, 15, 16, 17, 18, 19, 20, 22, 25, 28, 37, 59, 60, 61, 70, 87, 100, 129, 143, 144, 154, 155, 156, 157, 172], [(7, ([6, 9, 10, 11, 12, 13, 14, 15, 16, 17, 18, 19, 20, 22, 25, 28, 37, 59, 60, 61, 70, 87, 100, 129, 143, 144, 154, 155, 156, 157, 172], [])), (14, ([0, 6, 8, 10, 11, 12, 13, 14, 15, 16, 17, 18, 19, 20, 22, 25, 28, 37, 59, 61, 70, 87, 100, 129, 143, 144, 154, 155, 156, 157, 172], [])), (22, ([0, 6, 8, 10, 11, 12, 14, 15, 16, 17, 18, 19, 20, 22, 25, 28, 37, 59, 60, 61, 70, 87, 100, 129, 143, 144, 154, 155, 156, 157, 172], [])), (32, ([0, 1, 2, 6, 8, 10, 11, 12, 13, 14, 15, 16, 17, 18, 19, 20, 22, 25, 28, 37, 59, 60, 61, 70, 87, 100, 129, 144, 154, 155, 156, 157, 172], [])), (37, ([0, 1, 2, 6, 8, 10, 11, 12, 13, 14, 15, 16, 17, 22, 25, 28, 37, 59, 60, 61, 70, 87, 100, 129, 144, 157, 172], []))], [(20, [0, 6, 8, 10, 11, 12, 13, 14, 15, 16, 17, 18, 19, 20, 22, 25, 28, 37, 59, 61, 70, 87, 100, 129, 143, 144, 154, 155, 156, 157, 172]), (27, [0, 6, 8, 10, 11, 12, 16, 17, 18, 19, 20, 22, 25, 28, 37, 59, 60, 61, 70, 87, 100, 143, 144, 154, 155, 156, 157, 172])], [], ⟨[], rs, rb⟩, [(19, 10, 0, 6), (29, 14, 1, 6), (36, 17, 0, 6)]⟩
theorem ok3 : FnOk Try.prog tb 3 fx3 := FnOk.of follows Try.func3 (by kernel_rfl)
noncomputable def fx4 : Fx := ⟨Try.f4, [0, 1, 4, 5, 6, 7, 8, 9, 11, 12, 13, 14, 15, 16, 17, 18, 19, 20, 21, 22, 23, 24, 25, 38, 46, 52, 53, 54, 55, 83, 91, 119, 128, 136, 161, 176, 177, 226], [(6, ([4, 11, 12, 13, 14, 15, 16, 17, 18, 19, 20, 21, 22, 23, 24, 25, 38, 46, 52, 53, 54, 55, 83, 91, 119, 128, 136, 161, 176, 177, 226], [])), (9, ([4, 11, 12, 13, 14, 15, 16, 17, 18, 19, 20, 21, 22, 23, 24, 25, 38, 46, 55, 83, 91, 119, 128, 136, 161, 176, 177, 226], [])), (16, ([4, 9, 11, 13, 14, 15, 16, 17, 18, 19, 20, 21, 22, 23, 24, 25, 38, 46, 52, 53, 54, 55, 83, 91, 119, 128, 136, 161, 176, 177, 226], [(8, 4, false)])), (26, ([4, 8, 9, 11, 12, 13, 15, 16, 17, 18, 19, 20, 21, 22, 23, 24, 25, 38, 46, 52, 53, 54, 55, 83, 91, 119, 128, 136, 161, 176, 177, 226], [])), (32, ([1, 4, 8, 9, 11, 12, 13, 14, 17, 18, 19, 20, 21, 22, 23, 24, 25, 38, 46, 52, 53, 54, 55, 83, 91, 119, 128, 136, 161, 176, 177, 226], [])), (36, ([0, 1, 4, 8, 9, 11, 12, 13, 14, 16, 17, 18, 19, 20, 21, 22, 23, 24, 25, 38, 46, 52, 53, 54, 55, 83, 91, 119, 128, 136, 161, 177, 226], []))], [], [], ⟨[], rs, rb⟩, []⟩
theorem ok4 : FnOk Try.prog tb 4 fx4 := FnOk.of follows Try.func4 (by kernel_rfl)
noncomputable def fx5 : Fx := ⟨Try.f5, [0, 1, 2, 6, 7, 8, 10, 11, 12, 15, 26, 37, 51, 77], [(10, ([51, 77], []))], [], [], ⟨[], rs, rb⟩, []⟩
theorem ok5 : FnOk Try.prog tb 5 fx5 := FnOk.of follows Try.func5 (by kernel_rfl)
noncomputable def fx6 : Fx := ⟨Try.f6, [0, 1, 4, 5, 6, 7, 8, 11, 17, 29, 36, 37, 53, 58, 79], [(9, ([8, 29, 36, 37, 53, 58, 79], []))], [], [], ⟨[], rs, rb⟩, []⟩
theorem ok6 : FnOk Try.prog tb 6 fx6 := FnOk.of follows Try.func6 (by kernel_rfl)
noncomputable def fx7 : Fx := ⟨Try.f7, [0, 2, 3, 4, 5, 6, 7, 8, 9, 10, 18, 26, 36, 39, 52, 53, 59, 60, 70, 115], [(5, ([6, 7, 8, 9, 10, 26, 36, 39, 52, 53, 59, 60, 70, 115], []))], [], [], ⟨[], rs, rb⟩, []⟩
theorem ok7 : FnOk Try.prog tb 7 fx7 := FnOk.of follows Try.func7 (by kernel_rfl)
noncomputable def fx8 : Fx := ⟨Try.f8, [0, 1, 4, 5, 7, 8, 9, 10, 11, 12, 13, 14, 15, 16, 17, 49, 55, 64, 77, 85, 94, 123, 126, 148], [(13, ([11, 12, 85, 94, 123], [])), (22, ([14, 15, 16, 17, 126, 148], []))], [], [], ⟨[], rs, rb⟩, []⟩
theorem ok8 : FnOk Try.prog tb 8 fx8 := FnOk.of follows Try.func8 (by kernel_rfl)
noncomputable def fx9 : Fx := ⟨Try.f9, [0, 1, 2, 6, 7, 8, 9, 10, 13, 14, 15, 16, 17, 18, 19, 20, 22, 23, 24, 49, 55, 77, 79, 96, 113, 115, 126], [(9, ([0, 1, 6, 13, 17, 18, 19, 20, 22, 23, 24, 49, 55, 77, 79, 96, 113, 115, 126], []))], [], [], ⟨[], rs, rb⟩, []⟩
theorem ok9 : FnOk Try.prog tb 9 fx9 := FnOk.of follows Try.func9 (by kernel_rfl)
noncomputable def fx10 : Fx := ⟨Try.f10, [0, 2, 3, 9, 12, 13, 14], [(5, ([14], []))], [], [], ⟨[], rs, rb⟩, []⟩
theorem ok10 : FnOk Try.prog tb 10 fx10 := FnOk.of follows Try.func10 (by kernel_rfl)
noncomputable def fx11 : Fx := ⟨Try.f11, [0, 1, 2, 3, 16], [], [], [], ⟨[], rs, rb⟩, []⟩
theorem ok11 : FnOk Try.prog tb 11 fx11 := FnOk.of follows Try.func11 (by kernel_rfl)
noncomputable def fx12 : Fx := ⟨Try.f12, [0, 1, 2, 6, 7, 10, 22, 26], [], [], [], ⟨[], rs, rb⟩, []⟩
theorem ok12 : FnOk Try.prog tb 12 fx12 := FnOk.of follows Try.func12 (by kernel_rfl)
noncomputable def fx13 : Fx := ⟨Try.f13, [0, 2, 4, 13, 17, 18, 19, 20], [(4, ([4, 20], []))], [], [], ⟨[], rs, rb⟩, []⟩
theorem ok13 : FnOk Try.prog tb 13 fx13 := FnOk.of follows Try.func13 (by kernel_rfl)
noncomputable def fx14 : Fx := ⟨Try.f14, [0, 2, 4], [], [], [], ⟨[], rs, rb⟩, []⟩
theorem ok14 : FnOk Try.prog tb 14 fx14 := FnOk.of follows Try.func14 (by kernel_rfl)
noncomputable def fx15 : Fx := ⟨Try.f15, [0, 1, 4, 5, 6, 7, 10, 29, 41], [(6, ([29, 41], []))], [], [], ⟨[], rs, rb⟩, []⟩
theorem ok15 : FnOk Try.prog tb 15 fx15 := FnOk.of follows Try.func15 (by kernel_rfl)
noncomputable def fx16 : Fx := ⟨Try.f16, [0, 1, 4, 5, 7, 11, 12, 13, 14, 27], [(2, ([4, 5, 14, 27], []))], [], [], ⟨[], rs, rb⟩, []⟩
theorem ok16 : FnOk Try.prog tb 16 fx16 := FnOk.of follows Try.func16 (by kernel_rfl)
noncomputable def fx17 : Fx := ⟨Try.f17, [0, 1, 2], [], [], [], ⟨[], rs, rb⟩, []⟩
theorem ok17 : FnOk Try.prog tb 17 fx17 := FnOk.of follows Try.func17 (by kernel_rfl)
noncomputable def fx18 : Fx := ⟨Try.f18, [0, 1, 2, 4, 5, 6, 7, 8, 9, 10, 11, 12, 13, 14, 15, 17, 18, 30, 55, 65], [], [], [], ⟨[], rs, rb⟩, []⟩
theorem ok18 : FnOk Try.prog tb 18 fx18 := FnOk.of follows Try.func18 (by kernel_rfl)
noncomputable def fx19 : Fx := ⟨Try.f19, [0, 1, 5], [], [], [], ⟨[], rs, rb⟩, []⟩
theorem ok19 : FnOk Try.prog tb 19 fx19 := FnOk.of follows Try.func19 (by kernel_rfl)
noncomputable def fx20 : Fx := ⟨Try.f20, [0, 2], [], [], [], ⟨[], rs, rb⟩, []⟩
theorem ok20 : FnOk Try.prog tb 20 fx20 := FnOk.of follows Try.func20 (by kernel_rfl)
noncomputable def fx21 : Fx := ⟨Try.f21, [0, 2, 4], [], [], [], ⟨[], rs, rb⟩, []⟩
theorem ok21 : FnOk Try.prog tb 21 fx21 := FnOk.of follows Try.func21 (by kernel_rfl)
noncomputable def fx22 : Fx := ⟨Try.f22, [0, 2, 3, 4, 11, 15], [(5, ([15], []))], [], [], ⟨[(22, 1)], rs, rb⟩, []⟩
theorem ok22 : FnOk Try.prog tb 22 fx22 := FnOk.of follows Try.func22 (by kernel_rfl)
noncomputable def fx23 : Fx := ⟨Try.f23, [0, 1, 2, 4, 5, 6, 7, 15, 24, 34, 43], [(7, ([34, 43], []))], [], [], ⟨[], rs, rb⟩, []⟩
theorem ok23 : FnOk Try.prog tb 23 fx23 := FnOk.of follows Try.func23 (by kernel_rfl)
noncomputable def fx24 : Fx := ⟨Try.f24, [0, 1, 4, 5], [], [], [], ⟨[], rs, rb⟩, []⟩
theorem ok24 : FnOk Try.prog tb 24 fx24 := FnOk.of follows Try.func24 (by kernel_rfl)
noncomputable def fx25 : Fx := ⟨Try.f25, [0, 1, 4, 5, 6, 7, 8, 9, 10, 11, 12, 13, 14, 15, 16, 36, 39, 51, 52, 70, 98], [(7, ([0, 4, 5, 6, 7, 9, 10, 11, 12, 13, 14, 15, 16, 36, 39, 52, 70, 98], [])), (16, ([0, 1, 4, 5, 6, 7, 9, 10, 11, 12, 15, 16, 36, 39, 51, 52, 70, 98], []))], [], [], ⟨[], rs, rb⟩, []⟩
theorem ok25 : FnOk Try.prog tb 25 fx25 := FnOk.of follows Try.func25 (by kernel_rfl)
noncomputable def fx26 : Fx := ⟨Try.f26, [0, 1, 4, 5, 32], [(2, ([4, 32], []))], [(2, [4])], [], ⟨[], rs, rb⟩, []⟩
theorem ok26 : FnOk Try.prog tb 26 fx26 := FnOk.of follows Try.func26 (by kernel_rfl)
noncomputable def fx27 : Fx := ⟨Try.f27, [0, 2, 16], [], [], [], ⟨[], rs, rb⟩, []⟩
theorem ok27 : FnOk Try.prog tb 27 fx27 := FnOk.of follows Try.func27 (by kernel_rfl)
noncomputable def fx28 : Fx := ⟨Try.f28, [0, 2, 4], [], [], [], ⟨[], rs, rb⟩, []⟩
theorem ok28 : FnOk Try.prog tb 28 fx28 := FnOk.of follows Try.func28 (by kernel_rfl)
noncomputable def fx29 : Fx := ⟨Try.f29, [1, 2, 4, 5, 6, 7, 8, 10, 47, 66], [], [], [], ⟨[], rs, rb⟩, []⟩
theorem ok29 : FnOk Try.prog tb 29 fx29 := FnOk.of follows Try.func29 (by kernel_rfl)
noncomputable def fx30 : Fx := ⟨Try.f30, [1, 2, 3, 6], [], [], [], ⟨[], rs, rb⟩, []⟩
theorem ok30 : FnOk Try.prog tb 30 fx30 := FnOk.of follows Try.func30 (by kernel_rfl)
noncomputable def fx31 : Fx := ⟨Try.f31, [0, 1, 4, 5, 6, 7, 8, 9, 11, 39, 83], [], [], [], ⟨[], rs, rb⟩, []⟩
theorem ok31 : FnOk Try.prog tb 31 fx31 := FnOk.of follows Try.func31 (by kernel_rfl)
noncomputable def fx32 : Fx := ⟨Try.f32, [0, 1, 2, 3, 4, 31], [], [], [], ⟨[], rs, rb⟩, []⟩
theorem ok32 : FnOk Try.prog tb 32 fx32 := FnOk.of follows Try.func32 (by kernel_rfl)
noncomputable def fx34 : Fx := ⟨Try.f34, [0, 2, 13, 20], [], [], [], ⟨[], rs, rb⟩, []⟩
theorem ok34 : FnOk Try.prog tb 34 fx34 := FnOk.of follows Try.func34 (by kernel_rfl)
noncomputable def fx35 : Fx := ⟨Try.f35, [0, 1, 2, 3, 4, 5, 6, 7, 15, 25, 31], [(9, ([31], [(5, 4, false)]))], [], [], ⟨[(18, 8), (21, 4)], rs, rb⟩, []⟩
theorem ok35 : FnOk Try.prog tb 35 fx35 := FnOk.of follows Try.func35 (by kernel_rfl)
noncomputable def fx36 : Fx := ⟨Try.f36, [0, 1, 2, 4, 8], [], [], [], ⟨[], rs, rb⟩, []⟩
theorem ok36 : FnOk Try.prog tb 36 fx36 := FnOk.of follows Try.func36 (by kernel_rfl)
noncomputable def fx37 : Fx := ⟨Try.f37, [0, 1, 2, 4, 5, 12, 24], [(3, ([12, 24], []))], [], [], ⟨[(7, 8)], rs, rb⟩, []⟩
theorem ok37 : FnOk Try.prog tb 37 fx37 := FnOk.of follows Try.func37 (by kernel_rfl)
noncomputable def fx38 : Fx := ⟨Try.f38, [0, 1, 2, 3, 6, 7, 8, 16, 26, 30, 40], [], [], [], ⟨[(33, 8), (36, 4)], rs, rb⟩, []⟩
theorem ok38 : FnOk Try.prog tb 38 fx38 := FnOk.of follows Try.func38 (by kernel_rfl)
noncomputable def fx39 : Fx := ⟨Try.f39, [0, 2, 5], [(1, ([5], []))], [], [], ⟨[], rs, rb⟩, []⟩
theorem ok39 : FnOk Try.prog tb 39 fx39 := FnOk.of follows Try.func39 (by kernel_rfl)
noncomputable def fx40 : Fx := ⟨Try.f40, [0, 1, 4, 6], [], [], [], ⟨[], rs, rb⟩, []⟩
theorem ok40 : FnOk Try.prog tb 40 fx40 := FnOk.of follows Try.func40 (by kernel_rfl)
noncomputable def fx41 : Fx := ⟨Try.f41, [0, 1, 4, 5, 6, 8, 9, 10, 32], [], [], [], ⟨[], rs, rb⟩, []⟩
theorem ok41 : FnOk Try.prog tb 41 fx41 := FnOk.of follows Try.func41 (by kernel_rfl)
noncomputable def fx42 : Fx := ⟨Try.f42, [0, 1, 2, 6, 7, 8, 9, 12, 13, 14], [(3, ([6, 8, 9, 14], []))], [], [], ⟨[], rs, rb⟩, []⟩
theorem ok42 : FnOk Try.prog tb 42 fx42 := FnOk.of follows Try.func42 (by kernel_rfl)
noncomputable def fx44 : Fx := ⟨Try.f44, [1, 2, 3, 4, 6, 7, 8, 65], [], [], [], ⟨[], rs, rb⟩, []⟩
theorem ok44 : FnOk Try.prog tb 44 fx44 := FnOk.of follows Try.func44 (by kernel_rfl)
noncomputable def fx45 : Fx := ⟨Try.f45, [0, 2], [], [], [], ⟨[], rs, rb⟩, []⟩
theorem ok45 : FnOk Try.prog tb 45 fx45 := FnOk.of follows Try.func45 (by kernel_rfl)
noncomputable def fx46 : Fx := ⟨Try.f46, [0, 1, 2, 3, 4, 10, 11, 16, 24, 30], [], [], [], ⟨[], rs, rb⟩, []⟩
theorem ok46 : FnOk Try.prog tb 46 fx46 := FnOk.of follows Try.func46 (by kernel_rfl)
noncomputable def fx47 : Fx := ⟨Try.f47, [0, 1, 4, 5, 7, 8, 13, 14, 15, 16], [(3, ([0, 1, 4, 7, 8, 16], []))], [], [], ⟨[], rs, rb⟩, []⟩
theorem ok47 : FnOk Try.prog tb 47 fx47 := FnOk.of follows Try.func47 (by kernel_rfl)
noncomputable def fx48 : Fx := ⟨Try.f48, [0, 1, 2, 3, 4, 5, 12, 13, 14, 15, 16, 17, 18, 22, 23, 24, 45, 50, 60, 70, 83], [(3, ([12, 14, 15, 16, 17, 18, 24, 45, 50, 60, 70, 83], []))], [], [], ⟨[], rs, rb⟩, []⟩
theorem ok48 : FnOk Try.prog tb 48 fx48 := FnOk.of follows Try.func48 (by kernel_rfl)
noncomputable def fx50 : Fx := ⟨Try.f50, [0, 1, 4, 5], [], [], [], ⟨[], rs, rb⟩, []⟩
theorem ok50 : FnOk Try.prog tb 50 fx50 := FnOk.of follows Try.func50 (by kernel_rfl)
noncomputable def fx51 : Fx := ⟨Try.f51, [0, 1, 4, 7], [], [], [], ⟨[], rs, rb⟩, []⟩
theorem ok51 : FnOk Try.prog tb 51 fx51 := FnOk.of follows Try.func51 (by kernel_rfl)
noncomputable def fx52 : Fx := ⟨Try.f52, [0, 4], [], [], [], ⟨[], rs, rb⟩, []⟩
theorem ok52 : FnOk Try.prog tb 52 fx52 := FnOk.of follows Try.func52 (by kernel_rfl)
noncomputable def fx53 : Fx := ⟨Try.f53, [0, 1, 4, 5, 10, 14, 25], [(4, ([4, 10, 14, 25], []))], [], [], ⟨[], rs, rb⟩, []⟩
theorem ok53 : FnOk Try.prog tb 53 fx53 := FnOk.of follows Try.func53 (by kernel_rfl)
noncomputable def fx55 : Fx := ⟨Try.f55, [0, 2, 4], [], [], [], ⟨[], rs, rb⟩, []⟩
theorem ok55 : FnOk Try.prog tb 55 fx55 := FnOk.of follows Try.func55 (by kernel_rfl)
noncomputable def fx62 : Fx := ⟨Try.f62, [0, 1, 2, 3, 4, 5], [], [], [], ⟨[(9, 1), (14, 1), (19, 1)], rs, rb⟩, []⟩
theorem ok62 : FnOk Try.prog tb 62 fx62 := FnOk.of follows Try.func62 (by kernel_rfl)
noncomputable def fx62o : Fx := ⟨Try.f62, [0, 1, 2, 3, 4, 5], [], [], [0, 1, 2], ⟨[(9, 1), (14, 1), (19, 1)], rs, rb⟩, []⟩
theorem ok62o : FnOk Try.prog tb 62 fx62o := FnOk.of follows Try.func62 (by kernel_rfl)
noncomputable def fx63 : Fx := ⟨Try.f63, [0, 1, 2, 3, 6, 11], [], [], [], ⟨[], rs, rb⟩, []⟩
theorem ok63 : FnOk Try.prog tb 63 fx63 := FnOk.of follows Try.func63 (by kernel_rfl)
noncomputable def fx63o : Fx := ⟨Try.f63, [0, 1, 2, 3, 6, 11], [], [], [], ⟨[], rs, rb⟩, []⟩
theorem ok63o : FnOk Try.prog tb 63 fx63o := FnOk.of follows Try.func63 (by kernel_rfl)
noncomputable def fx64 : Fx := ⟨Try.f64, [0, 1, 2, 6, 7, 8, 9, 11, 12, 13, 14, 15, 19, 22, 23, 24, 25, 36, 44, 45, 46, 51], [(6, ([0, 1, 2, 6, 7, 11, 12, 13, 14, 15, 19, 25, 36, 44, 45, 46, 51], [(8, 3, false)])), (14, ([0, 1, 2, 6, 7, 11, 12, 13, 14, 15, 19, 22, 23, 24, 25, 36, 46, 51], []))], [], [], ⟨[], rs, rb⟩, []⟩
theorem ok64 : FnOk Try.prog tb 64 fx64 := FnOk.of follows Try.func64 (by kernel_rfl)
noncomputable def fx66 : Fx := ⟨Try.f66, [0, 1, 4, 5, 6, 7, 13, 26, 30, 31, 32], [(7, ([4, 5, 7, 13, 26, 32], []))], [(1, [4, 5, 6, 7, 26, 30, 31, 32]), (3, [4, 5, 6, 7, 13, 30, 31, 32])], [], ⟨[(28, 1)], rs, rb⟩, []⟩
theorem ok66 : FnOk Try.prog tb 66 fx66 := FnOk.of follows Try.func66 (by kernel_rfl)
noncomputable def fx67 : Fx := ⟨Try.f67, [0, 1, 2, 6, 7, 20], [], [(1, [6, 7])], [], ⟨[], rs, rb⟩, []⟩
theorem ok67 : FnOk Try.prog tb 67 fx67 := FnOk.of follows Try.func67 (by kernel_rfl)
noncomputable def fx68 : Fx := ⟨Try.f68, [0, 1, 4, 5, 11], [], [], [], ⟨[], rs, rb⟩, []⟩
theorem ok68 : FnOk Try.prog tb 68 fx68 := FnOk.of follows Try.func68 (by kernel_rfl)
noncomputable def fx74 : Fx := ⟨Try.f74, [0, 1, 4, 5, 6, 7, 8, 9, 16, 29], [], [], [], ⟨[], rs, rb⟩, []⟩
theorem ok74 : FnOk Try.prog tb 74 fx74 := FnOk.of follows Try.func74 (by kernel_rfl)
noncomputable def fx75 : Fx := ⟨Try.f75, [0, 1, 4, 5, 7, 14, 15, 16, 17], [(3, ([1, 4, 7, 17], []))], [], [], ⟨[], rs, rb⟩, []⟩
theorem ok75 : FnOk Try.prog tb 75 fx75 := FnOk.of follows Try.func75 (by kernel_rfl)
noncomputable def fx76 : Fx := ⟨Try.f76, [], [], [], [], ⟨[], rs, rb⟩, []⟩
theorem ok76 : FnOk Try.prog tb 76 fx76 := FnOk.of follows Try.func76 (by kernel_rfl)
noncomputable def fx77 : Fx := ⟨Try.f77, [0, 1, 2, 6, 7, 8, 9, 10, 12, 19, 30, 31, 33, 34, 38, 40, 41, 43, 44, 45, 46, 52], [(1, ([6, 7, 8, 9, 10, 12, 19, 30, 31, 33, 34, 38, 40, 41, 43, 44, 45, 46, 52], [])), (17, ([0, 6, 7, 8, 9, 10, 12, 19, 30, 31, 33, 34, 38, 40, 41, 46, 52], []))], [], [], ⟨[], rs, rb⟩, []⟩
theorem ok77 : FnOk Try.prog tb 77 fx77 := FnOk.of follows Try.func77 (by kernel_rfl)
noncomputable def fx80 : Fx := ⟨Try.f80, [0, 2, 3, 4, 5, 13, 15, 16, 17, 28], [(5, ([2, 3, 5, 13, 17, 28], []))], [], [], ⟨[], rs, rb⟩, []⟩
theorem ok80 : FnOk Try.prog tb 80 fx80 := FnOk.of follows Try.func80 (by kernel_rfl)
end Go.AM.Ytpdifkaeiecdpaa
