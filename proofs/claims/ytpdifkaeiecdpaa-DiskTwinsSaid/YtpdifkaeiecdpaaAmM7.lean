/- A law's row: what its arguments are as the machine has them; what it answers. -/
import Derived.Test.YtpdifkaeiecdpaaAmM6
import Derived.WalkKit
import Derived.ProofKit
import Derived.OpenShut
import Derived.ShutString
import Derived.ChangeOld
import Derived.Below
import Derived.Carry
import Derived.SizedLaws
set_option linter.unusedVariables false
set_option linter.unusedSimpArgs false
namespace Go.AM
open Go.RowKit Go.Lib Go.ChangeShapes Go.WideShapes
section
variable [Reg]
def tileB (P : Program) : Nat → List Field → Nat → Bool
  | o, [], n => o == n
  | o, f :: r, n => f.offset == o && tileB P (o + P.cellsOf f.type) r n
/-- The kinds of a type's cells. -/
def kindsOf (P : Program) : Nat → TypeId → List CK
  | 0, _ => []
  | n + 1, t => match P.underlying t with
    | some .bool => [.bool]
    | some (.int k) => [.int k]
    | some .string => [.str]
    | some (.slice e) => [.sl e]
    | some (.struct fs) => (fs.toList.map (·.type)).flatMap (kindsOf P n)
    | _ => []
def regB (P : Program) (n : Nat) (e : TypeId) : Bool := match Reg.ent e with | some en => decide (en.ks = kindsOf P n e) && decide (P.cellsOf e = en.ks.length) | none => false
/-- Types whose values are read whole. -/
def plainT (P : Program) : Nat → TypeId → Bool
  | 0, _ => false
  | n + 1, t => match P.underlying t with
    | some .bool => P.cellsOf t == 1
    | some (.int _) => P.cellsOf t == 1
    | some .string => P.cellsOf t == 1
    | some (.slice e) => P.cellsOf t == 1 && (P.cellsOf e != 0 && (plainT P n e && regB P n e))
    | some (.struct fs) => tileB P 0 fs.toList (P.cellsOf t) && fs.toList.all (fun f => plainT P n f.type)
    | _ => false

mutual
/-- Cells of a type. -/
def Wt (P : Program) : Nat → TypeId → List AV → Prop
  | 0, _, _ => False
  | n + 1, t, cs => match P.underlying t with
    | some .bool => ∃ b, cs = [.bool b]
    | some (.int k) => ∃ m, cs = [.int k m] ∧ (Lit.int k m).wf = true
    | some .string => ∃ l, cs = [.str l] ∧ l.length ≤ reachBytes
    | some (.slice e) => ∃ xs : List (R e), cs = [.sl e false xs] ∧ xs.length * P.bytesOf e ≤ reachBytes ∧ ∀ y ∈ xs, Wt P n e (cel e y)
    | some (.struct fs) => WtFs P n (fs.toList.map (·.type)) cs
    | _ => False
def WtFs (P : Program) : Nat → List TypeId → List AV → Prop
  | _, [], cs => cs = []
  | n, t :: ts, cs => ∃ a b, cs = a ++ b ∧ a.length = P.cellsOf t ∧ Wt P n t a ∧ WtFs P n ts b
end
/-- A value of a type. -/
def WtV (P : Program) (n : Nat) (t : TypeId) (x : AV) : Prop := Wt P n t x.cells ∧ ((∃ l, x = .agg l) ↔ ∃ fs, P.underlying t = some (.struct fs))

def Reps (w : World) (D : Dead) (avs : List AV) (cs : List Value) : Prop := ∀ (i : Nat) (c : AV) (v : Value), avs[i]? = some c → cs[i]? = some v → RepD w D c v ∧ c.cell1 = true

omit [Reg] in
theorem exists_list {α : Type} {n : Nat} {p : Nat → α → Prop} (h : ∀ i, i < n → ∃ x, p i x) : ∃ xs : List α, xs.length = n ∧ ∀ (i : Nat) (x : α), xs[i]? = some x → p i x := by
  induction n with
  | zero => exact ⟨[], rfl, by simp⟩
  | succ n ih =>
    obtain ⟨xs, h1, h2⟩ := ih fun i hi => h i (by omega)
    obtain ⟨x, hx⟩ := h n (by omega)
    refine ⟨xs ++ [x], by simp [h1], fun i y hy => ?_⟩
    by_cases hi : i < n
    · rw [List.getElem?_append_left (by omega)] at hy
      exact h2 i y hy
    · by_cases e : i = n
      · subst e
        rw [List.getElem?_append_right (by omega)] at hy
        simp [h1] at hy
        subst hy
        exact hx
      · rw [List.getElem?_append_right (by omega)] at hy
        have : i - xs.length ≠ 0 := by omega
        simp [this] at hy

theorem Reps.append {w : World} {D : Dead} {a b : List AV} {x y : List Value} (hl : a.length = x.length) (h1 : Reps w D a x) (h2 : Reps w D b y) : Reps w D (a ++ b) (x ++ y) := by
  intro i c v hi hj
  by_cases h : i < a.length
  · rw [List.getElem?_append_left h] at hi
    rw [List.getElem?_append_left (by omega)] at hj
    exact h1 i c v hi hj
  · rw [List.getElem?_append_right (by omega)] at hi
    rw [List.getElem?_append_right (by omega), ← hl] at hj
    exact h2 _ c v hi hj

/-- All that stands is dead. -/
def oldD (w : World) : Dead := fun b _ => b < w.heap.size

section
variable {H : Type} {enc : TypeId × Value → H} {P : Program} {W : World} {spare : Nat → Bool} {held : Bool}

theorem ups_append : ∀ (a b : List CK) (x : HL Reg.T a) (y : HL Reg.T b), ∃ z : HL Reg.T (a ++ b), ups (a ++ b) z = ups a x ++ ups b y
  | [], b, x, y => ⟨y, rfl⟩
  | k :: r, b, x, y => by
    obtain ⟨z, hz⟩ := ups_append r b x.2 y
    exact ⟨(x.1, z), by simp only [List.cons_append, ups, hz]⟩
mutual
theorem Wt.ups : ∀ {n : Nat} {t : TypeId} {avs : List AV}, Wt P n t avs → ∃ x : HL Reg.T (kindsOf P n t), AM.ups _ x = avs
  | 0, t, avs, h => by simp [Wt] at h
  | n + 1, t, avs, h => by
    unfold Wt at h
    split at h
    · rename_i hu
      obtain ⟨b, rfl⟩ := h
      rw [show kindsOf P (n + 1) t = [.bool] by simp only [kindsOf, hu]]
      exact ⟨(b, ()), rfl⟩
    · rename_i k hu
      obtain ⟨m, rfl, _⟩ := h
      rw [show kindsOf P (n + 1) t = [.int k] by simp only [kindsOf, hu]]
      exact ⟨(m, ()), rfl⟩
    · rename_i hu
      obtain ⟨l, rfl, _⟩ := h
      rw [show kindsOf P (n + 1) t = [.str] by simp only [kindsOf, hu]]
      exact ⟨(l, ()), rfl⟩
    · rename_i e hu
      obtain ⟨xs, rfl, _⟩ := h
      rw [show kindsOf P (n + 1) t = [.sl e] by simp only [kindsOf, hu]]
      exact ⟨(xs, ()), rfl⟩
    · rename_i fs hu
      rw [show kindsOf P (n + 1) t = (fs.toList.map (·.type)).flatMap (kindsOf P n) by simp only [kindsOf, hu]]
      exact WtFs.ups h
    · exact h.elim
theorem WtFs.ups : ∀ {n : Nat} {ts : List TypeId} {avs : List AV}, WtFs P n ts avs → ∃ x : HL Reg.T (ts.flatMap (kindsOf P n)), AM.ups _ x = avs
  | n, [], avs, h => by
    simp only [WtFs] at h
    subst h
    exact ⟨(), rfl⟩
  | n, t :: ts, avs, h => by
    simp only [WtFs] at h
    obtain ⟨a, b, rfl, _, h1, h2⟩ := h
    obtain ⟨x, rfl⟩ := Wt.ups h1
    obtain ⟨y, rfl⟩ := WtFs.ups h2
    obtain ⟨z, hz⟩ := ups_append _ _ x y
    exact ⟨z, hz⟩
end
theorem Wt.cel {n : Nat} {e : TypeId} {avs : List AV} (hr : regB P n e = true) (h : Wt P n e avs) : ∃ y : R e, cel e y = avs := by
  unfold regB at hr
  split at hr
  · rename_i en he
    simp only [Bool.and_eq_true, decide_eq_true_eq] at hr
    obtain ⟨x, hx⟩ := h.ups
    have key : ∀ (ks : List CK) (hk : en.ks = ks) (x : HL Reg.T ks), AM.ups ks x = avs → ∃ y : R e, AM.cel e y = avs := fun ks hk x hx => by
      subst hk
      refine ⟨en.of x, ?_⟩
      unfold AM.cel
      rw [he]
      simp only
      rw [en.h, hx]
    exact key _ hr.1 x hx
  · simp at hr
theorem regB_sz {n : Nat} {e : TypeId} (hr : regB P n e = true) : szR e = P.cellsOf e := by
  unfold regB at hr
  unfold szR
  split at hr
  · rename_i en he
    simp only [Bool.and_eq_true, decide_eq_true_eq] at hr
    rw [he]
    exact hr.2.symm
  · simp at hr
theorem reps_one {w : World} {D : Dead} {c : AV} {v : Value} (h : RepD w D c v) (h1 : c.cell1 = true) : Reps w D [c] [v] := by
  intro i c' v' hi hj
  cases i with
  | zero => simp at hi hj; subst hi; subst hj; exact ⟨h, h1⟩
  | succ i => simp at hi

theorem trod_fields {n fuel : Nat} (ih : ∀ (t : TypeId) (cs : List Value) (x : DataW H × List MemPlace), plainT P n t = true → DataW.trod enc P W 0 spare held fuel t cs = some x → (∀ m ∈ x.1.weights P t, m ≤ reachBytes) →
      ∃ avs, avs.length = cs.length ∧ avs.length = P.cellsOf t ∧ Wt P n t avs ∧ Reps W (oldD W) avs cs) {cs : List Value} :
    ∀ (l : List Field) (o : Nat), tileB P o l cs.length = true → (∀ f ∈ l, plainT P n f.type = true ∧ ∃ y, DataW.trod enc P W 0 spare held fuel f.type ((cs.drop f.offset).take (P.cellsOf f.type)) = some y ∧ ∀ m ∈ y.1.weights P f.type, m ≤ reachBytes) →
      ∃ avs, avs.length = (cs.drop o).length ∧ WtFs P n (l.map (·.type)) avs ∧ Reps W (oldD W) avs (cs.drop o)
  | [], o, ht, _ => by
    simp only [tileB, beq_iff_eq] at ht
    refine ⟨[], by simp [ht], by simp [WtFs], by intro i c v hi; simp at hi⟩
  | f :: r, o, ht, hf => by
    simp only [tileB, Bool.and_eq_true, beq_iff_eq] at ht
    obtain ⟨ho, ht⟩ := ht
    obtain ⟨hp, y, hy, hw⟩ := hf f (List.mem_cons_self ..)
    rw [ho] at hy
    obtain ⟨a, a1, a2, a3, a4⟩ := ih _ _ _ hp hy hw
    obtain ⟨b, b1, b2, b3⟩ := trod_fields ih r (o + P.cellsOf f.type) ht fun g hg => hf g (List.mem_cons_of_mem _ hg)
    have e : cs.drop o = (cs.drop o).take (P.cellsOf f.type) ++ cs.drop (o + P.cellsOf f.type) := by
      rw [← List.drop_drop]
      exact (List.take_append_drop _ _).symm
    refine ⟨a ++ b, by rw [e]; simp only [List.length_append]; rw [a1, b1], ?_, ?_⟩
    · simp only [List.map_cons, WtFs]
      exact ⟨a, b, rfl, a2, a3, b2⟩
    · rw [e]
      exact Reps.append a1 a4 b3

omit [Reg] in
theorem weightsAll_mem {e : TypeId} : ∀ {l : List (DataW H)} {d : DataW H}, d ∈ l → ∀ m ∈ d.weights P e, m ∈ DataW.weightsAll P e l
  | [], d, h, _, _ => by simp at h
  | x :: r, d, h, m, hm => by
    simp only [DataW.weightsAll, List.mem_append]
    rcases List.mem_cons.1 h with e1 | e1
    · subst e1; exact .inl hm
    · exact .inr (weightsAll_mem e1 m hm)

theorem trod_rep : ∀ (n : Nat) (fuel : Nat) (t : TypeId) (cs : List Value) (x : DataW H × List MemPlace), plainT P n t = true → DataW.trod enc P W 0 spare held fuel t cs = some x → (∀ m ∈ x.1.weights P t, m ≤ reachBytes) →
    ∃ avs, avs.length = cs.length ∧ avs.length = P.cellsOf t ∧ Wt P n t avs ∧ Reps W (oldD W) avs cs := by
  intro n
  induction n with
  | zero => intro fuel t cs x hp; simp [plainT] at hp
  | succ n ih =>
    intro fuel t cs x hp h hw
    unfold plainT at hp
    split at hp
    · rename_i hu
      obtain ⟨b, rfl, rfl⟩ := DataW.trod_bool hu h
      exact ⟨[.bool b], rfl, by simpa using (beq_iff_eq.1 hp).symm, by unfold Wt; rw [hu]; exact ⟨b, rfl⟩, reps_one (.bool b) rfl⟩
    · rename_i k hu
      obtain ⟨m, rfl, rfl, hm⟩ := DataW.trod_int hu h
      exact ⟨[.int k m], rfl, by simpa using (beq_iff_eq.1 hp).symm, by unfold Wt; rw [hu]; exact ⟨m, rfl, hm⟩, reps_one (.int k m) rfl⟩
    · rename_i hu
      obtain ⟨s, rfl, rfl, hm⟩ := DataW.trod_string hu h
      have hl : s.data.toList.length ≤ reachBytes := hw _ (by simp [DataW.weights])
      exact ⟨[.str s.data.toList], rfl, by simpa using (beq_iff_eq.1 hp).symm, by unfold Wt; rw [hu]; exact ⟨_, rfl, hl⟩, reps_one (.str _ s rfl) rfl⟩
    · rename_i e hu
      simp only [Bool.and_eq_true, beq_iff_eq, bne_iff_ne, ne_eq] at hp
      obtain ⟨hp1, hp2, hp3, hp4⟩ := hp
      rcases DataW.trod_slice hu h with ⟨rfl, rfl⟩ | ⟨a, len, cap, elems, rest, n', rfl, rfl, rfl, hb, hl, hm, hlen, hel, _, _⟩
      · exact ⟨[.sl e false []], rfl, by simpa using hp1.symm, by unfold Wt; rw [hu]; exact ⟨[], rfl, by simp, by simp⟩, reps_one (.slN _ _ _ _ (by simp)) rfl⟩
      · have hw' : ∀ m, m ∈ ((elems.map (·.1)).length * P.bytesOf e + (rest.map (·.1)).length * P.bytesOf e) :: (DataW.weightsAll P e (elems.map (·.1)) ++ DataW.weightsAll P e (rest.map (·.1))) → m ≤ reachBytes := by
          intro m hm
          refine hw m ?_
          simp only [DataW.weights, hu]
          rw [Nat.add_mul]
          exact hm
        have hel' : ∀ i, i < len → ∃ y : R e, Wt P n e (cel e y) ∧ ∃ cs', W.cells? 0 (a.add (i * P.cellsOf e)) (P.cellsOf e) = some cs' ∧ (cel e y).length = cs'.length ∧ Reps W (oldD W) (cel e y) cs' := by
          intro i hi
          have h1 := hel i hi
          have hlt : i < elems.length := by omega
          rw [List.getElem?_eq_getElem hlt, Option.bind_eq_some_iff] at h1
          obtain ⟨cs', hcs, hy⟩ := h1
          obtain ⟨avs, a1, a2, a3, a4⟩ := ih n' e cs' elems[i] hp3 hy (fun m hm => hw' m (List.mem_cons_of_mem _ (List.mem_append.2 (.inl (weightsAll_mem (List.mem_map_of_mem (List.getElem_mem hlt)) m hm)))))
          obtain ⟨y, rfl⟩ := a3.cel hp4
          exact ⟨y, a3, cs', hcs, a1, a4⟩
        obtain ⟨xs, hxl, hxs⟩ := exists_list hel'
        have hbytes : xs.length * P.bytesOf e ≤ reachBytes := by
          have := hw' _ (List.mem_cons_self ..)
          simp only [List.length_map] at this
          rw [hxl]
          rw [hlen] at this
          omega
        refine ⟨[.sl e false xs], rfl, by simpa using hp1.symm, ?_, reps_one ?_ rfl⟩
        · unfold Wt
          rw [hu]
          refine ⟨xs, rfl, hbytes, fun x hx => ?_⟩
          obtain ⟨i, hi⟩ := List.getElem?_of_mem hx
          exact (hxs i x hi).1
        · cases hx0 : xs with
          | nil =>
            rw [hx0] at hxl
            simp at hxl
            subst hxl
            exact .slN _ _ _ _ (by simp)
          | cons x0 xr =>
            have hpos : 0 < len := by rw [← hxl, hx0]; simp
            have hspot : a.spot = none := by
              obtain ⟨_, _, cs', hcs, _⟩ := hel' 0 hpos
              obtain ⟨_, q2, q3⟩ := World.cells?_some hcs
              have q4 := q3 0 (by omega)
              rw [Nat.zero_mul] at q4
              have e0 : (a.add 0).add 0 = a := by simp [Addr.add]
              rw [e0, List.getElem?_eq_getElem (show 0 < cs'.length by omega)] at q4
              unfold World.cell? at q4
              split at q4
              · split at q4
                · simp at q4
                · rename_i hs; simpa using hs
              · simp at q4
            obtain ⟨b, off, spot⟩ := a
            simp only at hspot
            subst hspot
            rw [← hx0]
            have hsz := regB_sz hp4
            have hcell : ∀ (q : Nat) (c : AV), (flat e xs)[q]? = some c → ∃ v, W.cell? ⟨b, off + q, none⟩ = some v ∧ RepD W (oldD W) c v ∧ b < W.heap.size := by
              intro q c hq
              have hpos2 : 0 < szR e := by rw [hsz]; omega
              have hqlt : q < xs.length * szR e := by rw [← flat_len]; exact (List.getElem?_eq_some_iff.1 hq).1
              have hi : q / szR e < xs.length := Nat.div_lt_of_lt_mul (by rw [Nat.mul_comm]; exact hqlt)
              have hj : q % szR e < szR e := Nat.mod_lt _ hpos2
              have hxi := List.getElem?_eq_getElem hi
              have hfl := flat_get e xs (q / szR e) (q % szR e) _ hxi hj
              have hdm : q / szR e * szR e + q % szR e = q := by rw [Nat.mul_comm]; exact Nat.div_add_mod q (szR e)
              rw [hdm, hq] at hfl
              obtain ⟨_, cs', hcs, hlc, hR⟩ := hxs (q / szR e) _ hxi
              obtain ⟨_, q2, q3⟩ := World.cells?_some hcs
              have hjlt' : q % szR e < cs'.length := by rw [← hlc, cel_len]; exact hj
              have q4 := q3 (q % szR e) (by rw [← hsz]; exact hj)
              have ea : ((⟨b, off, none⟩ : Addr).add (q / szR e * P.cellsOf e)).add (q % szR e) = ⟨b, off + q, none⟩ := by rw [addr_add, addr_add, Nat.add_assoc, ← hsz, hdm]
              rw [ea, List.getElem?_eq_getElem hjlt'] at q4
              obtain ⟨r1, r2⟩ := hR (q % szR e) c cs'[q % szR e] hfl.symm (List.getElem?_eq_getElem hjlt')
              refine ⟨_, q4, r1, ?_⟩
              unfold World.cell? at q4
              split at q4
              · rename_i hh; exact (Array.getElem?_eq_some_iff.1 hh).1
              · simp at q4
            have hxl' : len = xs.length := hxl.symm
            rw [hxl']
            refine .sl _ _ _ b off cap (fun q => (W.cell? ⟨b, off + q, none⟩).getD Go.undef) (by omega) (by simp) (fun q c hq => ?_) (fun q c hq => ?_)
            · obtain ⟨v, q1, q2, q4⟩ := hcell q c hq
              exact ⟨q4, by rw [q1]; rfl⟩
            · obtain ⟨v, q1, q2, q4⟩ := hcell q c hq
              simp only [q1, Option.getD_some]
              exact q2
    · rename_i fs hu
      simp only [Bool.and_eq_true, List.all_eq_true] at hp
      obtain ⟨hp1, hp2⟩ := hp
      obtain ⟨xs, n', rfl, rfl, hl, hxl, hf⟩ := DataW.trod_struct hu h
      obtain ⟨avs, a1, a2, a3⟩ := trod_fields (fun t cs x => ih n' t cs x) (cs := cs) fs.toList 0 (by rw [hl]; exact hp1) (fun f hfm => by
        refine ⟨hp2 f hfm, ?_⟩
        obtain ⟨i, hi⟩ := List.getElem?_of_mem hfm
        have hi' : fs[i]? = some f := by simpa using hi
        have hlt : i < xs.length := by rw [hxl]; exact (Array.getElem?_eq_some_iff.1 hi').1
        refine ⟨xs[i], by rw [hf i f hi', List.getElem?_eq_getElem hlt], fun m hm => hw m ?_⟩
        simp only [DataW.weights, hu]
        exact DataW.weights_mem_each (j := i) (t := f.type) (d := xs[i].1) (by simp [hi']) (by simp [hlt]) m hm)
      simp only [List.drop_zero] at a1 a3
      exact ⟨avs, a1, by rw [a1, hl], by unfold Wt; rw [hu]; exact a2, a3⟩
    · simp at hp


/-- The arguments. -/
def WtArgs (P : Program) (n : Nat) : List TypeId → List AV → Prop
  | [], avs => avs = []
  | t :: ts, avs => ∃ x r, avs = x :: r ∧ WtV P n t x ∧ WtArgs P n ts r
variable {base : Nat}
theorem value_rep {n : Nat} {t : TypeId} {v : Value} {d : DataW H} {ps : List MemPlace} {γ : Gh} {h : Heap} {u : List Nat} (hp : plainT P n t = true) (hv : Value.okWide P W .any base t v) (hd : DataW.Trod enc P W 0 spare held t v d ps) (hw : ∀ m ∈ d.weights P t, m ≤ reachBytes) :
    ∃ x, WtV P n t x ∧ RepB γ h u W (oldD W) x v := by
  obtain ⟨fuel, hf⟩ := hd
  obtain ⟨avs, a1, a2, a3, a4⟩ := trod_rep n fuel t _ _ hp hf hw
  cases n with
  | zero => simp [plainT] at hp
  | succ n =>
    have one : ∀ (c : AV), avs = [c] → (∀ cs, v ≠ .agg cs) → RepD W (oldD W) c v := by
      intro c e hne
      subst e
      have : v.cells = #[v] := by cases v <;> first | rfl | exact absurd rfl (hne _)
      rw [this] at a4
      exact (a4 0 c v rfl rfl).1
    have h3 := a3
    unfold Wt at a3
    split at a3
    · rename_i hu
      obtain ⟨b, e⟩ := a3
      refine ⟨.bool b, ⟨by have q := h3; rw [e] at q; exact q, by simp [hu]⟩, (one _ e ?_).c.b⟩
      obtain ⟨_, rfl⟩ := okWide_bool hu hv
      simp
    · rename_i k hu
      obtain ⟨m, e, hm⟩ := a3
      refine ⟨.int k m, ⟨by have q := h3; rw [e] at q; exact q, by simp [hu]⟩, (one _ e ?_).c.b⟩
      obtain ⟨_, rfl⟩ := okWide_int hu hv
      simp
    · rename_i hu
      obtain ⟨l, e, hl⟩ := a3
      refine ⟨.str l, ⟨by have q := h3; rw [e] at q; exact q, by simp [hu]⟩, (one _ e ?_).c.b⟩
      obtain ⟨_, rfl⟩ := okWide_string hu hv
      simp
    · rename_i e' hu
      obtain ⟨xs, e, h1, h2⟩ := a3
      refine ⟨.sl _ false xs, ⟨by have q := h3; rw [e] at q; exact q, by simp [hu]⟩, (one _ e ?_).c.b⟩
      obtain ⟨_, _, _, rfl⟩ := okWide_slice hu hv
      simp
    · rename_i fs hu
      refine ⟨.agg avs, ⟨h3, by simp [hu]⟩, ?_⟩
      have hv' := hv
      unfold Value.okWide at hv'
      rw [hu] at hv'
      obtain ⟨cs, rfl, hcs, _⟩ := hv'
      refine ⟨cs, rfl, by simpa [Value.cells] using a1.symm, fun i c v hi hj => ?_⟩
      obtain ⟨r1, r2⟩ := a4 i c v hi (by simpa [Value.cells] using hj)
      exact ⟨r1.c, .inr r2⟩
    · exact a3.elim
theorem args_rep {n : Nat} {γ : Gh} {h : Heap} {u : List Nat} : ∀ {ts : List TypeId} {vs : List Value} {ds : List (DataW H)} {ps : List MemPlace}, ts.all (plainT P n) = true → (∀ (j : Nat) t v, ts[j]? = some t → vs[j]? = some v → Value.okWide P W .any base t v) →
    DataW.TrodAll enc P W 0 spare held ts vs ds ps → (∀ m ∈ DataW.weightsEach P ts ds, m ≤ reachBytes) → ∃ avs, WtArgs P n ts avs ∧ avs.length = vs.length ∧ ∀ (i : Nat) (x : AV) (v : Value), avs[i]? = some x → vs[i]? = some v → RepB γ h u W (oldD W) x v
  | [], vs, ds, ps, _, _, hd, _ => by
    obtain ⟨rfl, rfl, rfl⟩ := trodAll_nil hd
    exact ⟨[], rfl, rfl, by simp⟩
  | t :: ts, vs, ds, ps, hp, hv, hd, hw => by
    obtain ⟨v, vs', d, ds', p, q, rfl, rfl, rfl, h1, h2⟩ := trodAll_cons hd
    simp only [List.all_cons, Bool.and_eq_true] at hp
    simp only [DataW.weightsEach, List.mem_append] at hw
    obtain ⟨x, hx, hr⟩ := value_rep (γ := γ) (h := h) (u := u) hp.1 (hv 0 t v rfl rfl) h1 (fun m hm => hw m (.inl hm))
    obtain ⟨r, hr1, hr2, hr3⟩ := args_rep hp.2 (fun j t v ht hv' => hv (j + 1) t v (by simpa using ht) (by simpa using hv')) h2 (fun m hm => hw m (.inr hm))
    refine ⟨x :: r, ⟨x, r, rfl, hx, hr1⟩, by simp [hr2], fun i y u hi hj => ?_⟩
    cases i with
    | zero => simp at hi hj; subst hi; subst hj; exact hr
    | succ i => exact hr3 i y u (by simpa using hi) (by simpa using hj)

/-- What a law does, from what its machine answers. -/
theorem law_calls {f n : Nat} {g : Over} (hg : OverOk P f g) {ts : List TypeId} (hts : ts.all (plainT P n) = true) {args : Array Value} {ds : List (DataW H)} {ps : List MemPlace} (hv : ∀ (j : Nat) t v, ts[j]? = some t → args[j]? = some v → Value.okWide P W .any base t v)
    (hA : DataW.TrodAll enc P W 0 spare held ts args.toList ds ps) (hw : (DataW.weightsEach P ts ds).all (· ≤ reachBytes) = true) (law : ∀ avs, WtArgs P n ts avs → (g avs []).val = some (.bool true, [])) :
    Calls P f args W fun e W' => e = .returned (.bool true) ∧ Below W.heap.size W W' := by
  let c : Ctx := ⟨W, oldD W, ⟨fun _ => (0, 0), fun _ => none⟩, []⟩
  obtain ⟨avs, h1, h2, h3⟩ := args_rep (γ := c.γ) (h := heap0 []) (u := keys (heap0 [])) hts (fun j t v ht hj => hv j t v ht (by simpa using hj)) hA (fun m hm => by simpa using List.all_eq_true.1 hw m hm)
  obtain ⟨_, hc⟩ := hg avs [] _ _ (law avs h1)
  have hp : Pre c avs [] args := ⟨rfl, List.nodup_nil, rfl, ⟨fun k cs e => (nomatch e), fun k t xs e => (nomatch e), fun b k e => (nomatch e), fun b k e => (nomatch e), fun k e => absurd rfl e⟩, fun b o h => h, by simpa using h2.symm, fun i v cv hi hj => h3 i v cv hi (by simpa using hj)⟩
  refine (hc c args hp).mono fun e W' hpost => ?_
  obtain ⟨cv, γ, D', rfl, hpost⟩ := hpost
  obtain ⟨_, hR, hF⟩ := hpost rfl rfl List.nodup_nil
  have : cv = .bool true := by cases (show RepD W' D' (.bool true) cv from hR); rfl
  subst this
  exact ⟨rfl, hF.os, hF.tape, hF.output, hF.size, fun b hb => hF.block b hb rfl⟩
end
end
end Go.AM
