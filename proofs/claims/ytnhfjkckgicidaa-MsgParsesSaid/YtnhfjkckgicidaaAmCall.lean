/- Soundness: a call of a Go function. -/
import Derived.Test.YtnhfjkckgicidaaAmStep
set_option linter.unusedVariables false
set_option linter.unusedSimpArgs false
namespace Go.AM
open Go.RowKit Go.Lib

/-- A result. -/
def RepR (w : World) (D : Dead) : AV → Value → Prop
  | .tup vs, v => ∃ arr : Array Value, v = .tuple arr ∧ arr.size = vs.length ∧ ∀ (i : Nat) (c : AV) (cv : Value), vs[i]? = some c → arr[i]? = some cv → RepD w D c cv
  | a, v => RepD w D a v

def ArgRep (w : World) (D : Dead) (B : Nat → Nat) : AV → Value → Prop
  | .ptr n _ off, cv => cv = .pointer (some ⟨B n, off, none⟩)
  | v, cv => RepD w D v cv

def ArgsRep (w : World) (D : Dead) (B : Nat → Nat) (vs : List AV) (args : Array Value) : Prop :=
  args.size = vs.length ∧ ∀ (i : Nat) (v : AV) (cv : Value), vs[i]? = some v → args[i]? = some cv → ArgRep w D B v cv

def BoxRep (w : World) (D : Dead) (B : Nat → Nat) (bs : Boxes) : Prop :=
  ∀ (n : Nat) (cs : List AV), bs[n]? = some cs → ∃ vs E, w.heap[B n]? = some (.cells vs E (0, 0)) ∧ vs.size = cs.length ∧ ∀ (i : Nat) (c : AV) (v : Value), cs[i]? = some c → vs[i]? = some v → RepD w D c v ∧ c.cell1 = true

structure After (w w' : World) (D D' : Dead) (B : Nat → Nat) (nb : Nat) : Prop where
  os : w'.os = w.os
  tape : w'.tape = w.tape
  output : w'.output = w.output
  size : w.heap.size ≤ w'.heap.size
  block : ∀ b, b < w.heap.size → (∀ n, n < nb → b ≠ B n) → w'.heap[b]? = w.heap[b]?
  d1 : ∀ b o, D b o → D' b o
  d2 : ∀ b o, b < w.heap.size → D' b o → D b o
  d3 : ∀ b o, D' b o → b < w'.heap.size

def Post (w : World) (D : Dead) (B : Nat → Nat) (nb : Nat) (r : AV) (bs' : Boxes) (e : Ending) (w' : World) : Prop :=
  ∃ cv D', e = .returned cv ∧ RepR w' D' r cv ∧ BoxRep w' D' B bs' ∧ bs'.length = nb ∧ After w w' D D' B nb

/-- What a function's machine answers is what the function does. -/
def SoundF (P : Program) (F : Fns) : Prop :=
  ∀ f vs bs r bs', F f vs bs = some (r, bs') →
    (∃ fn, P.funcs[f]? = some fn ∧ (fn.name == "runtime.NumGoroutine") = false ∧ fn.body.isNone = false) ∧
    ∀ (w : World) (D : Dead) (B : Nat → Nat) (args : Array Value), (∀ b o, D b o → b < w.heap.size) → ArgsRep w D B vs args → BoxRep w D B bs →
      (∀ m n, m < bs.length → n < bs.length → B m = B n → m = n) → (∀ n, n < bs.length → ∀ o, ¬ D (B n) o) → Calls P f args w (Post w D B bs.length r bs')

theorem asInt_some {k : IntKind} {v : AV} {K : Int → Res} {r : AV × Boxes} (h : asInt k v K = some r) : ∃ n, v = .int k n ∧ K n = some r := by
  unfold asInt at h
  split at h
  · split at h
    · rename_i e; subst e; exact ⟨_, rfl, h⟩
    · simp at h
  · simp at h
theorem shCell_some {s : Sh} {v : AV} {K : AV → Res} {r : AV × Boxes} (h : shCell s v K = some r) : K v = some r := by
  unfold shCell at h
  split at h
  · obtain ⟨n, e, h'⟩ := asInt_some h; subst e; exact h'
  · unfold asBool at h; split at h <;> first | exact h | simp at h
  · unfold asStr at h; split at h <;> first | exact h | simp at h
  · unfold asSl at h; split at h <;> first | exact h | simp at h
  · exact h
theorem shCells_some : ∀ {l : List Sh} {cs : List AV} {K : List AV → Res} {r : AV × Boxes}, shCells l cs K = some r → K cs = some r
  | [], cs, K, r, h => by
    unfold shCells asNil at h
    split at h <;> first | exact h | simp at h
  | s :: l, cs, K, r, h => by
    unfold shCells asCons at h
    split at h
    · have h1 := shCell_some h
      exact shCells_some (K := fun vs => K (_ :: vs)) h1
    · simp at h
theorem shVal_some {s : Sh} {v : AV} {K : AV → Res} {r : AV × Boxes} (h : shVal s v K = some r) : K v = some r := by
  unfold shVal at h
  split at h
  · unfold asAgg at h
    split at h
    · exact shCells_some (K := fun cs => K (.agg cs)) h
    · simp at h
  · exact shCell_some h
theorem shVals_some : ∀ {l : List Sh} {cs : List AV} {K : List AV → Res} {r : AV × Boxes}, shVals l cs K = some r → K cs = some r
  | [], cs, K, r, h => by
    unfold shVals asNil at h
    split at h <;> first | exact h | simp at h
  | s :: l, cs, K, r, h => by
    unfold shVals asCons at h
    split at h
    · have h1 := shVal_some h
      exact shVals_some (K := fun vs => K (_ :: vs)) h1
    · simp at h
theorem shRes_some {s : Sh} {v : AV} {K : AV → Res} {r : AV × Boxes} (h : shRes s v K = some r) : K v = some r := by
  unfold shRes at h
  split at h
  · unfold asTup at h
    split at h
    · exact shVals_some (K := fun cs => K (.tup cs)) h
    · simp at h
  · exact shVal_some h
theorem shBoxes_some : ∀ {bs l : Boxes} {K : Boxes → Res} {r : AV × Boxes}, shBoxes bs l K = some r → K l = some r ∧ l.length = bs.length
  | [], l, K, r, h => by
    unfold shBoxes asNil at h
    split at h
    · exact ⟨h, rfl⟩
    · simp at h
  | b :: bs, l, K, r, h => by
    unfold shBoxes asCons at h
    split at h
    · have h1 := shCells_some h
      obtain ⟨h2, h3⟩ := shBoxes_some (K := fun vs => K (_ :: vs)) h1
      exact ⟨h2, by simp [h3]⟩
    · simp at h

theorem pass_spec {st : St} : ∀ {args vs : List AV} {ks : List Nat} {n : Nat}, st.pass n args = some (vs, ks) →
    vs.length = args.length ∧ ks.Nodup ∧ ∀ (i : Nat) (v : AV), vs[i]? = some v → ∃ x, args[i]? = some x ∧ ((∃ k g off m, x = .ptr k g off ∧ v = .ptr m 0 off ∧ n ≤ m ∧ ks[m - n]? = some k) ∨ (x.dat = some v ∧ ∀ k g off, x ≠ .ptr k g off))
  | [], vs, ks, n, h => by
    simp only [St.pass, Option.some.injEq, Prod.mk.injEq] at h
    obtain ⟨rfl, rfl⟩ := h
    simp
  | x :: r, vs, ks, n, h => by
    unfold St.pass at h
    split at h
    · rename_i e; cases e
    · rename_i k g off r' e
      simp only [List.cons.injEq] at e
      obtain ⟨rfl, rfl⟩ := e
      split at h
      · rename_i vs' ks' hp
        split at h
        · simp at h
        · rename_i hnc
          simp only [Option.some.injEq, Prod.mk.injEq] at h
          obtain ⟨rfl, rfl⟩ := h
          obtain ⟨h1, h2, h3⟩ := pass_spec hp
          refine ⟨by simp [h1], List.nodup_cons.2 ⟨by simpa using hnc, h2⟩, fun i v hi => ?_⟩
          cases i with
          | zero =>
            simp at hi
            subst hi
            exact ⟨_, rfl, .inl ⟨k, g, off, n, rfl, rfl, Nat.le_refl _, by simp⟩⟩
          | succ i =>
            simp only [List.getElem?_cons_succ] at hi
            obtain ⟨y, hy, hc⟩ := h3 i v hi
            refine ⟨y, by simpa using hy, hc.imp ?_ id⟩
            rintro ⟨k', g', off', m, e1, e2, e3, e4⟩
            refine ⟨k', g', off', m, e1, e2, by omega, ?_⟩
            have : m - n = (m - (n + 1)) + 1 := by omega
            rw [this, List.getElem?_cons_succ]
            exact e4
      · simp at h
    · rename_i v' r' hne e
      simp only [List.cons.injEq] at e
      obtain ⟨rfl, rfl⟩ := e
      split at h
      · rename_i a vs' ks' hd hp
        simp only [Option.some.injEq, Prod.mk.injEq] at h
        obtain ⟨rfl, rfl⟩ := h
        obtain ⟨h1, h2, h3⟩ := pass_spec hp
        refine ⟨by simp [h1], h2, fun i v hi => ?_⟩
        cases i with
        | zero =>
          simp at hi
          subst hi
          exact ⟨_, rfl, .inr ⟨hd, fun k g off e => hne k g off e⟩⟩
        | succ i =>
          simp only [List.getElem?_cons_succ] at hi
          obtain ⟨y, hy, hc⟩ := h3 i v hi
          exact ⟨y, by simpa using hy, hc⟩
      · simp at h

theorem boxesAt_spec {st : St} : ∀ {ks : List Nat} {bs : Boxes}, st.boxesAt ks = some bs → bs.length = ks.length ∧ ∀ (n : Nat) (k : Nat) (c : List AV), ks[n]? = some k → bs[n]? = some c → ∃ cs, find k st.b = some cs ∧ datAll (cs.map st.cur) = some c
  | [], bs, h => by
    simp only [St.boxesAt, Option.some.injEq] at h
    subst h
    simp
  | k :: r, bs, h => by
    simp only [St.boxesAt] at h
    split at h
    · rename_i cs l hk hl
      split at h
      · rename_i c hc
        simp only [Option.some.injEq] at h
        subst h
        obtain ⟨h1, h2⟩ := boxesAt_spec hl
        refine ⟨by simp [h1], fun n k' c' hn hc' => ?_⟩
        cases n with
        | zero =>
          simp at hn hc'
          subst hn
          subst hc'
          exact ⟨cs, hk, hc⟩
        | succ n => exact h2 n k' c' (by simpa using hn) (by simpa using hc')
      · simp at h
    · simp at h

theorem putBoxes_find : ∀ {ks : List Nat} {bs : Boxes} {b : List (Nat × List AV)}, ks.Nodup → bs.length = ks.length → (∀ (n k : Nat) (c : List AV), ks[n]? = some k → bs[n]? = some c → find k (putBoxes b ks bs) = some c) ∧ (∀ k, k ∉ ks → find k (putBoxes b ks bs) = find k b)
  | [], bs, b, _, hl => by
    have : bs = [] := List.eq_nil_of_length_eq_zero (by simpa using hl)
    subst this
    simp [putBoxes]
  | k :: ks, [], b, _, hl => by simp at hl
  | k :: ks, c :: bs, b, hn, hl => by
    obtain ⟨h1, h2⟩ := List.nodup_cons.1 hn
    obtain ⟨h3, h4⟩ := putBoxes_find (ks := ks) (bs := bs) (b := put k c b) h2 (by simpa using hl)
    refine ⟨fun n k' c' hk hc => ?_, fun k' hk => ?_⟩
    · cases n with
      | zero =>
        simp at hk hc
        subst hk
        subst hc
        show find k (putBoxes (put k c b) ks bs) = some c
        rw [h4 k h1, find_put_same]
      | succ n => exact h3 n k' c' (by simpa using hk) (by simpa using hc)
    · simp only [List.mem_cons, not_or] at hk
      show find k' (putBoxes (put k c b) ks bs) = find k' b
      rw [h4 k' hk.2, find_put_ne hk.1]

section
variable {P : Program} {c : Ctx} {γ : Gh} {D D' : Dead} {st : St} {a : Act} {w w' : World} {tb : Tb}

theorem RepR.v {r : AV} {cv : Value} (h : RepR w D r cv) : RepV γ w D st r cv := by
  cases r <;> first | exact h | (cases (show RepD w D _ cv from h); done) | exact .of h

/-- Behind a call. -/
theorem Inv.afterCall (h : Inv c γ D st a w) {ks : List Nat} (hnd : ks.Nodup) (hks : ∀ k ∈ ks, ∃ cs, find k st.b = some cs) {bs' : Boxes} (hl : bs'.length = ks.length) (hb : BoxRep w' D' (fun n => γ.bx (ks.getD n 0)) bs') (ha : After w w' D D' (fun n => γ.bx (ks.getD n 0)) ks.length) (wr : List Nat) :
    Inv c γ D' { st with b := putBoxes st.b ks bs', wr := wr } a w' := by
  have hown : ∀ n, n < ks.length → γ.own (γ.bx (ks.getD n 0)) = some (0, ks.getD n 0) := by
    intro n hn
    have hm : ks.getD n 0 ∈ ks := by simp [List.getD, List.getElem?_eq_getElem hn]
    obtain ⟨cs, hcs⟩ := hks _ hm
    exact (h.bx _ _ hcs).1
  have hblk : ∀ b, b < w.heap.size → (∀ k ∈ ks, γ.own b ≠ some (0, k)) → w'.heap[b]? = w.heap[b]? := by
    intro b hlt hne
    refine ha.block b hlt fun n hn e => ?_
    have hm : ks.getD n 0 ∈ ks := by simp [List.getD, List.getElem?_eq_getElem hn]
    exact hne _ hm (by rw [e]; exact hown n hn)
  have hp : Pres D w w' := by
    intro b o hD
    have hlt := h.dlt b o hD
    have : w'.heap[b]? = w.heap[b]? := hblk b hlt (fun k _ e => h.live b k (.inl e) o hD)
    exact World.cell?_of_block (a := ⟨b, o, none⟩) this
  have hg : ∀ k, St.gen { st with b := putBoxes st.b ks bs', wr := wr } k = st.gen k := fun _ => rfl
  have hV : ∀ {av : AV} {v : Value}, RepV γ w D st av v → RepV γ w' D' { st with b := putBoxes st.b ks bs', wr := wr } av v := by
    intro av v hv
    refine RepV.mono (st := st) (st' := { st with b := putBoxes st.b ks bs', wr := wr }) hp ha.d1 (fun k => Nat.le_of_eq (hg k).symm) (fun k' _ => ⟨rfl, rfl, fun xs hx => ⟨xs, hx, rfl⟩, fun s xs v => ?_⟩) hv
    rintro ⟨A, cap, e, hc⟩
    refine ⟨A, cap, e, hc.imp id ?_⟩
    rintro ⟨hA, ho', q1, q2, q4⟩
    have hlt := (h.own _ _ ho').1
    have hbk : w'.heap[γ.tp k']? = w.heap[γ.tp k']? := hblk _ hlt (fun k _ e => by rw [ho'] at e; simp at e)
    exact ⟨hA, ho', q1, fun o hlt' => ⟨by rw [World.cell?_of_block (a := ⟨γ.tp k', o, none⟩) hbk]; exact (q2 o hlt').1, by rw [World.frozen?_of_block (a := ⟨γ.tp k', o, none⟩) hbk]; exact (q2 o hlt').2⟩, fun o hD => q4 o (ha.d2 _ _ hlt hD)⟩
  obtain ⟨hp1, hp2⟩ := putBoxes_find (b := st.b) hnd hl
  refine ⟨h.nt, h.dfr, fun t => hV (h.tm t), fun k cs hk => ?_, fun k xs hk => ?_, fun b q hq => ⟨Nat.lt_of_lt_of_le (h.own b q hq).1 ha.size, (h.own b q hq).2⟩, fun b k ho o hD => ?_, ?_, fun b o hlt => ?_, ha.d3, h.pk⟩
  · simp only at hk
    by_cases hm : k ∈ ks
    · obtain ⟨n, hn, rfl⟩ := List.getElem_of_mem hm
      have hn' : n < bs'.length := by omega
      have e := hp1 n ks[n] bs'[n] (List.getElem?_eq_getElem hn) (List.getElem?_eq_getElem hn')
      rw [hk] at e
      simp only [Option.some.injEq] at e
      subst e
      obtain ⟨vs, E, q1, q2, q3⟩ := hb n _ (List.getElem?_eq_getElem hn')
      have eg : ks.getD n 0 = ks[n] := by simp [List.getD, List.getElem?_eq_getElem hn]
      simp only [eg] at q1
      have ho := hown n hn
      rw [eg] at ho
      exact ⟨ho, vs, E, q1, q2, fun i c v hi hj => ⟨.of (q3 i c v hi hj).1, .inr (q3 i c v hi hj).2⟩⟩
    · rw [hp2 k hm] at hk
      obtain ⟨q1, vs, E, q2, q3, q4⟩ := h.bx k cs hk
      have hlt := (h.own _ _ q1).1
      exact ⟨q1, vs, E, (hblk _ hlt (fun k' hk' e => by rw [q1] at e; simp at e; subst e; exact hm hk')).trans q2, q3, fun i c v hi hj => ⟨hV (q4 i c v hi hj).1, (q4 i c v hi hj).2⟩⟩
  · obtain ⟨q1, vs, E, q2, q3, q4⟩ := h.rw k xs hk
    have hlt := (h.own _ _ q1).1
    exact ⟨q1, vs, E, (hblk _ hlt (fun k' _ e => by rw [q1] at e; simp at e)).trans q2, q3, fun i c v hi hj => ⟨(q4 i c v hi hj).1.mono hp ha.d1, (q4 i c v hi hj).2⟩⟩
  · have hlt : b < w.heap.size := by rcases ho with ho | ho <;> exact (h.own b _ ho).1
    exact h.live b k ho o (ha.d2 b o hlt hD)
  · refine ⟨ha.os.trans h.fr.os, ha.tape.trans h.fr.tape, ha.output.trans h.fr.output, Nat.le_trans h.fr.size ha.size, fun b hlt hn => ?_⟩
    have hlt' := Nat.lt_of_lt_of_le hlt h.fr.size
    refine (hblk b hlt' (fun k _ e => ?_)).trans (h.fr.block b hlt hn)
    rcases (h.own b _ e).2 with hh | hh
    · omega
    · exact hn hh.1
  · have hlt' := Nat.lt_of_lt_of_le hlt h.fr.size
    exact ⟨fun hD => (h.dold b o hlt).1 (ha.d2 b o hlt' hD), fun hD => ha.d1 b o ((h.dold b o hlt).2 hD)⟩

end
end Go.AM
