/- Soundness, operation by operation (8): chains that grow. -/
import Derived.Test.YtnhfjkckgicidaaAmOps7
import Derived.Deep.Upon
import Derived.Deep.MidRow
import Derived.Lib.AppendStr
set_option linter.unusedVariables false
set_option linter.unusedSimpArgs false
namespace Go.AM
open Go.RowKit
section
variable {P : Program} {c : Ctx} {γ : Gh} {D D' : Dead} {st : St} {a : Act} {w w' : World} {tb : Tb}

theorem gen_putg (st : St) (k n k' : Nat) : St.gen { st with g := AM.put k n st.g } k' = if k' = k then n else st.gen k' := by
  unfold St.gen
  simp only
  by_cases e : k' = k
  · subst e
    simp [find_put_same]
  · simp [find_put_ne e, e]

/-- The elements in a row that is longer. -/
def RowIn (w : World) (D : Dead) (s : Nat) (xs : List AV) (vs : Array Value) : Prop :=
  (∀ (i : Nat) (e : AV), xs[i]? = some e → e.cells.length = s) ∧ xs.length * s ≤ vs.size ∧
  ∀ (i : Nat) (e : AV) (j : Nat) (c : AV) (v : Value), xs[i]? = some e → e.cells[j]? = some c → vs[i * s + j]? = some v → c.cell1 = true ∧ RepD w D c v

theorem idx_lt {s : Nat} {xs : List AV} (hs : ∀ (i : Nat) (e : AV), xs[i]? = some e → e.cells.length = s) {i : Nat} {e : AV} {j : Nat} {c : AV} (hi : xs[i]? = some e) (hj : e.cells[j]? = some c) : i * s + j < xs.length * s := by
  have h1 : i < xs.length := (List.getElem?_eq_some_iff.1 hi).1
  have h2 : j < s := by rw [← hs i e hi]; exact (List.getElem?_eq_some_iff.1 hj).1
  calc i * s + j < i * s + s := by omega
    _ = (i + 1) * s := by rw [Nat.add_mul]; simp
    _ ≤ xs.length * s := Nat.mul_le_mul_right _ h1

/-- A new block under the key k. -/
theorem Inv.newTip (h : Inv c γ D st a w) (k : Nat) {s : Nat} {zs : List AV} {vs : Array Value} {E cap : Nat} {fr : Nat × Nat} (hr : RowIn w D s zs vs) (hsz : vs.size = cap * s) (hlc : zs.length ≤ cap) (hb : Below w.heap.size w w') (hsize : w'.heap.size = w.heap.size + 1)
    (hblk : w'.heap[w.heap.size]? = some (.cells vs E fr)) (hfr : ∀ o, o < cap * s → w'.frozen? ⟨w.heap.size, o, none⟩ = false) :
    ∃ γ' D', Inv c γ' D' { st with g := AM.put k (st.gen k + 1) st.g } a w' ∧ RepV γ' w' D' { st with g := AM.put k (st.gen k + 1) st.g } (.tip k (st.gen k + 1) s zs) (.slice (some ⟨w.heap.size, 0, none⟩) zs.length cap) := by
  have h0 : Inv c γ (deadNew D w.heap.size (zs.length * s)) st a w' :=
    h.grow hb (fun b o hd => .inl hd) (fun b o hlt hd => hd.resolve_right (fun hh => by omega)) (fun b o hd => by
      rw [hsize]
      rcases hd with hd | ⟨rfl, _⟩
      · have := h.dlt b o hd; omega
      · omega)
  refine ⟨{ γ with tp := fun k' => if k' = k then w.heap.size else γ.tp k', own := fun b => if b = w.heap.size then some (2, k) else γ.own b }, deadNew D w.heap.size (zs.length * s), ?_, ?_⟩
  · have hV : ∀ {av : AV} {v : Value}, RepV γ w' (deadNew D w.heap.size (zs.length * s)) st av v →
        RepV { γ with tp := fun k' => if k' = k then w.heap.size else γ.tp k', own := fun b => if b = w.heap.size then some (2, k) else γ.own b } w' (deadNew D w.heap.size (zs.length * s)) { st with g := AM.put k (st.gen k + 1) st.g } av v := by
      intro av v hv
      refine RepV.mono (fun _ _ _ => rfl) (fun _ _ hd => hd) (fun k' => ?_) (fun k' hk' => ?_) hv
      · rw [gen_putg]
        split
        · rename_i e; subst e; omega
        · exact Nat.le_refl _
      · have hne : k' ≠ k := by
          intro e
          subst e
          rw [gen_putg, if_pos rfl] at hk'
          omega
        refine ⟨rfl, rfl, fun xs hx => ⟨xs, hx, rfl⟩, fun s' xs v => ?_⟩
        rintro ⟨A, cap', e, hc⟩
        refine ⟨A, cap', e, hc.imp id ?_⟩
        rintro ⟨hA, ho, q1, q2, q4⟩
        have hlt : γ.tp k' < w.heap.size := (h.own _ _ ho).1
        simp only [hne, if_false, show ¬ γ.tp k' = w.heap.size by omega]
        exact ⟨hA, ho, q1, q2, q4⟩
    refine ⟨h0.nt, h0.dfr, fun t => hV (h0.tm t), fun k' cs hk => ?_, fun k' xs hk => ?_, fun b q hq => ?_, fun b k' ho o hd => ?_, h0.fr, h0.dold, h0.dlt, h0.pk⟩
    · obtain ⟨q1, vs', E', q2, q3, q4⟩ := h0.bx k' cs hk
      have hlt : γ.bx k' < w.heap.size := (h.own _ _ q1).1
      refine ⟨by simp only [show ¬ γ.bx k' = w.heap.size by omega, if_false]; exact q1, vs', E', q2, q3, fun i c v hi hj => ⟨hV (q4 i c v hi hj).1, (q4 i c v hi hj).2⟩⟩
    · obtain ⟨q1, q2⟩ := h0.rw k' xs hk
      have hlt : γ.rw k' < w.heap.size := (h.own _ _ q1).1
      exact ⟨by simp only [show ¬ γ.rw k' = w.heap.size by omega, if_false]; exact q1, q2⟩
    · simp only at hq
      split at hq
      · rename_i e
        subst e
        exact ⟨by omega, .inl h.fr.size⟩
      · exact h0.own b q hq
    · simp only at ho
      split at ho
      · simp at ho
      · exact h0.live b k' ho o hd
  · have hp : Pres D w w' := h.pres hb
    refine ⟨by rw [gen_putg, if_pos rfl]; exact Nat.le_refl _, ?_, fun _ => ⟨_, cap, rfl, .inr ⟨by simp, by simp, hlc, fun o ho => ⟨?_, ?_⟩, fun o hd => ?_⟩⟩⟩
    · refine .sl s false zs w.heap.size 0 cap (fun i j => vs.getD (i * s + j) Go.undef) hlc (by simp) hr.1 (fun i e j c hi hj => ?_) (fun i e j c hi hj => ?_)
      · have hlt := idx_lt hr.1 hi hj
        have hlt' : i * s + j < vs.size := Nat.lt_of_lt_of_le hlt hr.2.1
        refine ⟨(hr.2.2 i e j c vs[i * s + j] hi hj (Array.getElem?_eq_getElem hlt')).1, .inr ⟨rfl, by omega⟩, ?_⟩
        rw [Nat.zero_add, cell_of_block hblk]
        simp [hlt']
      · have hlt' : i * s + j < vs.size := Nat.lt_of_lt_of_le (idx_lt hr.1 hi hj) hr.2.1
        have e1 : vs.getD (i * s + j) Go.undef = vs[i * s + j] := by simp [hlt']
        simp only [e1]
        exact (hr.2.2 i e j c vs[i * s + j] hi hj (Array.getElem?_eq_getElem hlt')).2.mono hp (fun b o hd => .inl hd)
    · simp only [if_true]
      rw [cell_of_block hblk, Array.getElem?_eq_getElem (by rw [hsz]; exact ho)]
      rfl
    · simp only [if_true]
      exact hfr o ho
    · simp only [if_true] at hd
      rcases hd with hd | ⟨_, hd⟩
      · have := h.dlt _ _ hd; omega
      · exact hd

/-- A chain that is not written to: it goes on. -/
theorem Inv.sameTip (h : Inv c γ D st a w) (k : Nat) {s : Nat} {zs : List AV} {v : Value} (hr : RepD w D (.sl s false zs) v) (ht : TipOk γ w D k s zs v) :
    Inv c γ D { st with g := AM.put k (st.gen k + 1) st.g } a w ∧ RepV γ w D { st with g := AM.put k (st.gen k + 1) st.g } (.tip k (st.gen k + 1) s zs) v := by
  have hV : ∀ {av : AV} {v : Value}, RepV γ w D st av v → RepV γ w D { st with g := AM.put k (st.gen k + 1) st.g } av v := by
    intro av v hv
    refine RepV.mono (st := st) (st' := { st with g := AM.put k (st.gen k + 1) st.g }) (fun _ _ _ => rfl) (fun _ _ hd => hd) (fun k' => ?_) (fun k' hk' => ⟨rfl, rfl, fun xs hx => ⟨xs, hx, rfl⟩, fun _ _ _ hh => hh⟩) hv
    rw [gen_putg]
    split
    · rename_i e; subst e; omega
    · exact Nat.le_refl _
  refine ⟨⟨h.nt, h.dfr, fun t => hV (h.tm t), fun k' cs hk => ?_, h.rw, h.own, h.live, h.fr, h.dold, h.dlt, h.pk⟩, by rw [gen_putg, if_pos rfl]; exact Nat.le_refl _, hr, fun _ => ht⟩
  obtain ⟨q1, vs', E', q2, q3, q4⟩ := h.bx k' cs hk
  exact ⟨q1, vs', E', q2, q3, fun i c v hi hj => ⟨hV (q4 i c v hi hj).1, (q4 i c v hi hj).2⟩⟩

theorem setCells_below (b o : Nat) (vs : List Value) (w : World) : (w.setCells b o vs).os = w.os ∧ (w.setCells b o vs).tape = w.tape ∧ (w.setCells b o vs).output = w.output ∧ (w.setCells b o vs).heap.size = w.heap.size := by
  induction vs generalizing o w with
  | nil => exact ⟨rfl, rfl, rfl, rfl⟩
  | cons v r ih =>
    obtain ⟨h1, h2, h3, h4⟩ := ih (o + 1) (w.setCell ⟨b, o, none⟩ v)
    refine ⟨h1.trans rfl, h2.trans rfl, h3.trans rfl, h4.trans ?_⟩
    simp [World.setCell]

/-- A chain that is written to behind its end. -/
theorem Inv.roomTip (h : Inv c γ D st a w) (k : Nat) {s : Nat} {xs ys : List AV} {cap : Nat} {news : List Value} (ho : γ.own (γ.tp k) = some (2, k)) (hx : RepD w D (.sl s false xs) (.slice (some ⟨γ.tp k, 0, none⟩) xs.length cap))
    (hc : ∀ o, o < cap * s → (w.cell? ⟨γ.tp k, o, none⟩).isSome = true ∧ w.frozen? ⟨γ.tp k, o, none⟩ = false) (hd : ∀ o, D (γ.tp k) o → o < xs.length * s) (hroom : xs.length + ys.length ≤ cap) (hn : news.length = ys.length * s)
    (hys : ∀ (i : Nat) (e : AV), ys[i]? = some e → e.cells.length = s) (hnew : ∀ (i : Nat) (e : AV) (j : Nat) (c : AV) (v : Value), ys[i]? = some e → e.cells[j]? = some c → news[i * s + j]? = some v → c.cell1 = true ∧ RepD w D c v) (hne : xs ≠ [] ∨ ys ≠ []) :
    ∃ D', Inv c γ D' { st with g := AM.put k (st.gen k + 1) st.g } a (w.setCells (γ.tp k) (xs.length * s) news) ∧
      RepV γ (w.setCells (γ.tp k) (xs.length * s) news) D' { st with g := AM.put k (st.gen k + 1) st.g } (.tip k (st.gen k + 1) s (xs ++ ys)) (.slice (some ⟨γ.tp k, 0, none⟩) (xs.length + ys.length) cap) := by
  obtain ⟨e1, e2, e3, e4⟩ := setCells_below (γ.tp k) (xs.length * s) news w
  have hlt : γ.tp k < w.heap.size := (h.own _ _ ho).1
  have hother : ∀ b, b ≠ γ.tp k → (w.setCells (γ.tp k) (xs.length * s) news).heap[b]? = w.heap[b]? := by
    intro b hb
    by_cases hlt' : b < w.heap.size
    · exact World.heap_setCells_other w _ _ _ hlt' hb
    · rw [Array.getElem?_eq_none (by rw [e4]; omega), Array.getElem?_eq_none (by omega)]
  have hp : Pres D w (w.setCells (γ.tp k) (xs.length * s) news) := by
    intro b o hD
    refine World.cell?_setCells_out _ _ _ _ _ (fun hb _ => .inl ?_)
    simp only at hb
    subst hb
    exact hd o hD
  let D' : Dead := fun b o => D b o ∨ (b = γ.tp k ∧ o < (xs.length + ys.length) * s)
  have hmul : xs.length * s + ys.length * s = (xs.length + ys.length) * s := (Nat.add_mul _ _ _).symm
  have hcap : (xs.length + ys.length) * s ≤ cap * s := Nat.mul_le_mul_right _ hroom
  have hV : ∀ {av : AV} {v : Value}, RepV γ w D st av v → RepV γ (w.setCells (γ.tp k) (xs.length * s) news) D' { st with g := AM.put k (st.gen k + 1) st.g } av v := by
    intro av v hv
    refine RepV.mono hp (fun _ _ hd => .inl hd) (fun k' => ?_) (fun k' hk' => ?_) hv
    · rw [gen_putg]
      split
      · rename_i e; subst e; omega
      · exact Nat.le_refl _
    · have hne' : k' ≠ k := by
        intro e
        subst e
        rw [gen_putg, if_pos rfl] at hk'
        omega
      refine ⟨rfl, rfl, fun xs hx => ⟨xs, hx, rfl⟩, fun s' xs' v => ?_⟩
      rintro ⟨A, cap', e, hc'⟩
      refine ⟨A, cap', e, hc'.imp id ?_⟩
      rintro ⟨hA, ho', q1, q2, q4⟩
      have hb : γ.tp k' ≠ γ.tp k := by
        intro e
        rw [e, ho] at ho'
        simp at ho'
        exact hne' ho'.symm
      refine ⟨hA, ho', q1, fun o hlt' => ⟨?_, ?_⟩, fun o hD => ?_⟩
      · rw [World.cell?_of_block (a := ⟨γ.tp k', o, none⟩) (hother _ hb)]; exact (q2 o hlt').1
      · rw [World.frozen?_of_block (a := ⟨γ.tp k', o, none⟩) (hother _ hb)]; exact (q2 o hlt').2
      · rcases hD with hD | ⟨e, _⟩
        · exact q4 o hD
        · exact absurd e hb
  have hnb : ∀ b k', (γ.own b = some (0, k') ∨ γ.own b = some (1, k')) → b ≠ γ.tp k := by
    intro b k' hh e
    subst e
    rw [ho] at hh
    simp at hh
  refine ⟨D', ⟨h.nt, h.dfr, fun t => hV (h.tm t), fun k' cs hk => ?_, fun k' zs hk => ?_, fun b q hq => ⟨by rw [e4]; exact (h.own b q hq).1, (h.own b q hq).2⟩, fun b k' hh o hD => ?_, ?_, fun b o hb => ?_, fun b o hD => ?_, h.pk⟩, ?_⟩
  · obtain ⟨q1, vs', E', q2, q3, q4⟩ := h.bx k' cs hk
    exact ⟨q1, vs', E', (hother _ (hnb _ _ (.inl q1))).trans q2, q3, fun i c v hi hj => ⟨hV (q4 i c v hi hj).1, (q4 i c v hi hj).2⟩⟩
  · obtain ⟨q1, vs', E', q2, q3, q4⟩ := h.rw k' zs hk
    exact ⟨q1, vs', E', (hother _ (hnb _ _ (.inr q1))).trans q2, q3, fun i c v hi hj => ⟨(q4 i c v hi hj).1.mono hp (fun _ _ hd => .inl hd), (q4 i c v hi hj).2⟩⟩
  · rcases hD with hD | ⟨e, _⟩
    · exact h.live b k' hh o hD
    · exact hnb b k' hh e
  · refine ⟨e1.trans h.fr.os, e2.trans h.fr.tape, e3.trans h.fr.output, by rw [e4]; exact h.fr.size, fun b hb hn => ?_⟩
    refine (hother b ?_).trans (h.fr.block b hb hn)
    intro e
    subst e
    rcases (h.own _ _ ho).2 with hh | hh
    · omega
    · exact absurd hh.2 (by simp)
  · refine ⟨fun hD => ?_, fun hD => .inl ((h.dold b o hb).2 hD)⟩
    rcases hD with hD | ⟨e, _⟩
    · exact (h.dold b o hb).1 hD
    · subst e
      rcases (h.own _ _ ho).2 with hh | hh
      · omega
      · exact absurd hh.2 (by simp)
  · rw [e4]
    rcases hD with hD | ⟨e, _⟩
    · exact h.dlt b o hD
    · subst e; exact hlt
  · have hlen : (xs ++ ys).length = xs.length + ys.length := by simp
    refine ⟨by rw [gen_putg, if_pos rfl]; exact Nat.le_refl _, ?_, fun _ => ⟨_, cap, by rw [hlen], .inr ⟨rfl, ho, by rw [hlen]; exact hroom, fun o hlt' => ⟨World.isSome_setCells _ _ _ _ _ (hc o hlt').1, by rw [World.frozen?_setCells]; exact (hc o hlt').2⟩, fun o hD => ?_⟩⟩⟩
    · rw [← hlen]
      have hxs : ∀ (i : Nat) (e : AV), xs[i]? = some e → e.cells.length = s ∧ ∀ (j : Nat) (c : AV), e.cells[j]? = some c → c.cell1 = true ∧ D (γ.tp k) (i * s + j) ∧ ∃ v, w.cell? ⟨γ.tp k, i * s + j, none⟩ = some v ∧ RepD w D c v := by
        intro i e hi
        obtain ⟨A, cap', ev, _, _, h3⟩ := inv_sl hx
        rcases h3 with h3 | ⟨b, o, f, hA, hE⟩
        · subst h3; simp at hi
        · simp only [Value.slice.injEq] at ev
          obtain ⟨ev1, _, _⟩ := ev
          rw [← ev1] at hA
          simp only [Option.some.injEq, Addr.mk.injEq] at hA
          obtain ⟨rfl, rfl, _⟩ := hA
          refine ⟨hE.1 i e hi, fun j c hj => ?_⟩
          obtain ⟨q1, q2, q3⟩ := hE.2.1 i e j c hi hj
          rw [Nat.zero_add] at q2 q3
          exact ⟨q1, q2, _, q3, hE.2.2 i e j c hi hj⟩
      have hcell : ∀ (i : Nat) (e : AV) (j : Nat) (c : AV), (xs ++ ys)[i]? = some e → e.cells[j]? = some c → c.cell1 = true ∧ D' (γ.tp k) (i * s + j) ∧ ∃ v, (w.setCells (γ.tp k) (xs.length * s) news).cell? ⟨γ.tp k, i * s + j, none⟩ = some v ∧ RepD (w.setCells (γ.tp k) (xs.length * s) news) D' c v := by
        intro i e j c hi hj
        rw [List.getElem?_append] at hi
        split at hi
        · rename_i hi'
          obtain ⟨_, q⟩ := hxs i e hi
          obtain ⟨q1, q2, v, q3, q4⟩ := q j c hj
          exact ⟨q1, .inl q2, v, (hp _ _ q2).trans q3, q4.mono hp (fun _ _ hd => .inl hd)⟩
        · rename_i hi'
          have hjlt := idx_lt hys hi hj
          have hidx : i * s + j = xs.length * s + ((i - xs.length) * s + j) := by
            have : i * s = xs.length * s + (i - xs.length) * s := by rw [← Nat.add_mul]; congr 1; omega
            omega
          have hjn : (i - xs.length) * s + j < news.length := by rw [hn]; exact hjlt
          obtain ⟨q1, q2⟩ := hnew _ e j c news[(i - xs.length) * s + j] hi hj (List.getElem?_eq_getElem hjn)
          refine ⟨q1, .inr ⟨rfl, by rw [hidx, ← hmul]; omega⟩, news[(i - xs.length) * s + j], ?_, q2.mono hp (fun _ _ hd => .inl hd)⟩
          rw [hidx]
          exact World.cell?_setCells_in _ _ _ _ (fun j' hj' => (hc _ (by rw [hn] at hj'; omega)).1) _ hjn
      refine .sl s false (xs ++ ys) (γ.tp k) 0 cap (fun i j => ((w.setCells (γ.tp k) (xs.length * s) news).cell? ⟨γ.tp k, i * s + j, none⟩).getD Go.undef) (by rw [hlen]; exact hroom) (by simp) (fun i e hi => ?_) (fun i e j c hi hj => ?_) (fun i e j c hi hj => ?_)
      · rw [List.getElem?_append] at hi
        split at hi
        · exact (hxs i e hi).1
        · exact hys _ e hi
      · obtain ⟨q1, q2, v, q3, q4⟩ := hcell i e j c hi hj
        rw [Nat.zero_add, q3]
        exact ⟨q1, q2, rfl⟩
      · obtain ⟨q1, q2, v, q3, q4⟩ := hcell i e j c hi hj
        simp only [q3, Option.getD_some]
        exact q4
    · rw [hlen]
      rcases hD with hD | ⟨_, hD⟩
      · have := hd o hD; omega
      · exact hD

end
end Go.AM
