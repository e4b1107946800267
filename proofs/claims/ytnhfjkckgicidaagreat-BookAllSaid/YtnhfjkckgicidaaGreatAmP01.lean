/- Soundness, operation by operation (8): chains that grow. -/
import Derived.Test.YtnhfjkckgicidaaGreatAmP00
import Derived.Deep.Upon
import Derived.Deep.MidRow
import Derived.Lib.AppendStr
import Derived.Lib.ConvBytes
import Derived.Laws.BytesArg
import Derived.Orders
import Derived.LoopN
set_option linter.unusedVariables false
set_option linter.unusedSimpArgs false
namespace Go.AM
open Go.RowKit
section
variable {P : Program} {c : Ctx} {γ : Gh} {D D' : Dead} {st : St} {a : Act} {w w' : World} {tb : Tb}
theorem gen_putg (st : St) (k n k' : Nat) : St.gen { st with g := AM.put k n st.g } k' = if k' = k then n else st.gen k' := by
 unfold St.gen
 simp only
 by_cases e : k' = k
 ·subst e
  simp [find_put_same]
 ·simp [find_put_ne e, e]
def RowIn (w : World) (D : Dead) (s : Nat) (xs : List AV) (vs : Array Value) : Prop :=
 (∀ (i : Nat) (e : AV), xs[i]? = some e → e.cells.length = s) ∧ xs.length * s ≤ vs.size ∧
 ∀ (i : Nat) (e : AV) (j : Nat) (c : AV) (v : Value), xs[i]? = some e → e.cells[j]? = some c → vs[i * s + j]? = some v → c.cell1 = true ∧ RepD w D c v
theorem idx_lt {s : Nat} {xs : List AV} (hs : ∀ (i : Nat) (e : AV), xs[i]? = some e → e.cells.length = s) {i : Nat} {e : AV} {j : Nat} {c : AV} (hi : xs[i]? = some e) (hj : e.cells[j]? = some c) : i * s + j < xs.length * s := by
 have h1 : i < xs.length := (List.getElem?_eq_some_iff.1 hi).1
 have h2 : j < s := by rw [← hs i e hi]; exact (List.getElem?_eq_some_iff.1 hj).1
 calc i * s + j < i * s + s := by omega
  _ = (i + 1) * s := by rw [Nat.add_mul]; simp
  _ ≤ xs.length * s := Nat.mul_le_mul_right _ h1
theorem Inv.newTip (h : Inv c γ D st a w) (k : Nat) {s : Nat} {zs : List AV} {vs : Array Value} {E cap : Nat} {fr : Nat × Nat} (hr : RowIn w D s zs vs) (hsz : vs.size = cap * s) (hlc : zs.length ≤ cap) (hb : Below w.heap.size w w') (hsize : w'.heap.size = w.heap.size + 1)
  (hblk : w'.heap[w.heap.size]? = some (.cells vs E fr)) (hfr : ∀ o, o < cap * s → w'.frozen? ⟨w.heap.size, o, none⟩ = false) :
  ∃ γ' D', Inv c γ' D' { st with g := AM.put k (st.gen k + 1) st.g } a w' ∧ RepV γ' w' D' { st with g := AM.put k (st.gen k + 1) st.g } (.tip k (st.gen k + 1) s zs) (.slice (some ⟨w.heap.size, 0, none⟩) zs.length cap) := by
 have h0 : Inv c γ (deadNew D w.heap.size (zs.length * s)) st a w' :=
  h.grow hb (fun b o hd => .inl hd) (fun b o hlt hd => hd.resolve_right (fun hh => by omega)) (fun b o hd => by
   rw [hsize]
   rcases hd with hd | ⟨rfl, _⟩
   ·have := h.dlt b o hd; omega
   ·omega)
 refine ⟨{ γ with tp := fun k' => if k' = k then w.heap.size else γ.tp k', own := fun b => if b = w.heap.size then some (2, k) else γ.own b }, deadNew D w.heap.size (zs.length * s), ?_, ?_⟩
 ·have hV : ∀ {av : AV} {v : Value}, RepV γ w' (deadNew D w.heap.size (zs.length * s)) st av v →
    RepV { γ with tp := fun k' => if k' = k then w.heap.size else γ.tp k', own := fun b => if b = w.heap.size then some (2, k) else γ.own b } w' (deadNew D w.heap.size (zs.length * s)) { st with g := AM.put k (st.gen k + 1) st.g } av v := by
   intro av v hv
   refine RepV.mono (fun _ _ _ => rfl) (fun _ _ hd => hd) (fun k' => ?_) (fun k' hk' => ?_) hv
   ·rw [gen_putg]
    split
    ·rename_i e; subst e; omega
    ·exact Nat.le_refl _
   ·have hne : k' ≠ k := by
     intro e
     subst e
     rw [gen_putg, if_pos rfl] at hk'
     omega
    refine ⟨rfl, rfl, fun xs hx => ⟨xs, hx, rfl⟩, fun s' xs v => ?_⟩
    rintro ⟨A, cap', e, hc⟩
    refine ⟨A, cap', e, hc.imp id ?_⟩
    rintro ⟨hA, ho, q1, q2, q4⟩
    have hlt : γ.tp k' < w.heap.size := (h.own _ _ ho).1
    simp only [hne, if_false, show ¬ γ.tp k' = w.heap.size by omega]
    exact ⟨hA, ho, q1, q2, q4⟩
  refine ⟨h0.nt, h0.dfr, fun t => hV (h0.tm t), fun k' cs hk => ?_, fun k' xs hk => ?_, fun b q hq => ?_, fun b k' ho o hd => ?_, h0.fr, h0.dold, h0.dlt, h0.pk⟩
  ·obtain ⟨q1, vs', E', q2, q3, q4⟩ := h0.bx k' cs hk
   have hlt : γ.bx k' < w.heap.size := (h.own _ _ q1).1
   refine ⟨by simp only [show ¬ γ.bx k' = w.heap.size by omega, if_false]; exact q1, vs', E', q2, q3, fun i c v hi hj => ⟨hV (q4 i c v hi hj).1, (q4 i c v hi hj).2⟩⟩
  ·obtain ⟨q1, q2⟩ := h0.rw k' xs hk
   have hlt : γ.rw k' < w.heap.size := (h.own _ _ q1).1
   exact ⟨by simp only [show ¬ γ.rw k' = w.heap.size by omega, if_false]; exact q1, q2⟩
  ·simp only at hq
   split at hq
   ·rename_i e
    subst e
    exact ⟨by omega, .inl h.fr.size⟩
   ·exact h0.own b q hq
  ·simp only at ho
   split at ho
   ·simp at ho
   ·exact h0.live b k' ho o hd
 ·have hp : Pres D w w' := h.pres hb
  refine ⟨by rw [gen_putg, if_pos rfl]; exact Nat.le_refl _, ?_, fun _ => ⟨_, cap, rfl, .inr ⟨by simp, by simp, hlc, fun o ho => ⟨?_, ?_⟩, fun o hd => ?_⟩⟩⟩
  ·refine .sl s false zs w.heap.size 0 cap (fun i j => vs.getD (i * s + j) Go.undef) hlc (by simp) hr.1 (fun i e j c hi hj => ?_) (fun i e j c hi hj => ?_)
   ·have hlt := idx_lt hr.1 hi hj
    have hlt' : i * s + j < vs.size := Nat.lt_of_lt_of_le hlt hr.2.1
    refine ⟨(hr.2.2 i e j c vs[i * s + j] hi hj (Array.getElem?_eq_getElem hlt')).1, .inr ⟨rfl, by omega⟩, ?_⟩
    rw [Nat.zero_add, cell_of_block hblk]
    simp [hlt']
   ·have hlt' : i * s + j < vs.size := Nat.lt_of_lt_of_le (idx_lt hr.1 hi hj) hr.2.1
    have e1 : vs.getD (i * s + j) Go.undef = vs[i * s + j] := by simp [hlt']
    simp only [e1]
    exact (hr.2.2 i e j c vs[i * s + j] hi hj (Array.getElem?_eq_getElem hlt')).2.mono hp (fun b o hd => .inl hd)
  ·simp only [if_true]
   rw [cell_of_block hblk, Array.getElem?_eq_getElem (by rw [hsz]; exact ho)]
   rfl
  ·simp only [if_true]
   exact hfr o ho
  ·simp only [if_true] at hd
   rcases hd with hd | ⟨_, hd⟩
   ·have := h.dlt _ _ hd; omega
   ·exact hd
theorem Inv.sameTip (h : Inv c γ D st a w) (k : Nat) {s : Nat} {zs : List AV} {v : Value} (hr : RepD w D (.sl s false zs) v) (ht : TipOk γ w D k s zs v) :
  Inv c γ D { st with g := AM.put k (st.gen k + 1) st.g } a w ∧ RepV γ w D { st with g := AM.put k (st.gen k + 1) st.g } (.tip k (st.gen k + 1) s zs) v := by
 have hV : ∀ {av : AV} {v : Value}, RepV γ w D st av v → RepV γ w D { st with g := AM.put k (st.gen k + 1) st.g } av v := by
  intro av v hv
  refine RepV.mono (st := st) (st' := { st with g := AM.put k (st.gen k + 1) st.g }) (fun _ _ _ => rfl) (fun _ _ hd => hd) (fun k' => ?_) (fun k' hk' => ⟨rfl, rfl, fun xs hx => ⟨xs, hx, rfl⟩, fun _ _ _ hh => hh⟩) hv
  rw [gen_putg]
  split
  ·rename_i e; subst e; omega
  ·exact Nat.le_refl _
 refine ⟨⟨h.nt, h.dfr, fun t => hV (h.tm t), fun k' cs hk => ?_, h.rw, h.own, h.live, h.fr, h.dold, h.dlt, h.pk⟩, by rw [gen_putg, if_pos rfl]; exact Nat.le_refl _, hr, fun _ => ht⟩
 obtain ⟨q1, vs', E', q2, q3, q4⟩ := h.bx k' cs hk
 exact ⟨q1, vs', E', q2, q3, fun i c v hi hj => ⟨hV (q4 i c v hi hj).1, (q4 i c v hi hj).2⟩⟩
theorem setCells_below (b o : Nat) (vs : List Value) (w : World) : (w.setCells b o vs).os = w.os ∧ (w.setCells b o vs).tape = w.tape ∧ (w.setCells b o vs).output = w.output ∧ (w.setCells b o vs).heap.size = w.heap.size := by
 induction vs generalizing o w with
 | nil => exact ⟨rfl, rfl, rfl, rfl⟩
 | cons v r ih =>
  obtain ⟨h1, h2, h3, h4⟩ := ih (o + 1) (w.setCell ⟨b, o, none⟩ v)
  refine ⟨h1.trans rfl, h2.trans rfl, h3.trans rfl, h4.trans ?_⟩
  simp [World.setCell]
theorem Inv.roomTip (h : Inv c γ D st a w) (k : Nat) {s : Nat} {xs ys : List AV} {cap : Nat} {news : List Value} (ho : γ.own (γ.tp k) = some (2, k)) (hx : RepD w D (.sl s false xs) (.slice (some ⟨γ.tp k, 0, none⟩) xs.length cap))
  (hc : ∀ o, o < cap * s → (w.cell? ⟨γ.tp k, o, none⟩).isSome = true ∧ w.frozen? ⟨γ.tp k, o, none⟩ = false) (hd : ∀ o, D (γ.tp k) o → o < xs.length * s) (hroom : xs.length + ys.length ≤ cap) (hn : news.length = ys.length * s)
  (hys : ∀ (i : Nat) (e : AV), ys[i]? = some e → e.cells.length = s) (hnew : ∀ (i : Nat) (e : AV) (j : Nat) (c : AV) (v : Value), ys[i]? = some e → e.cells[j]? = some c → news[i * s + j]? = some v → c.cell1 = true ∧ RepD w D c v) (hne : xs ≠ [] ∨ ys ≠ []) :
  ∃ D', Inv c γ D' { st with g := AM.put k (st.gen k + 1) st.g } a (w.setCells (γ.tp k) (xs.length * s) news) ∧
   RepV γ (w.setCells (γ.tp k) (xs.length * s) news) D' { st with g := AM.put k (st.gen k + 1) st.g } (.tip k (st.gen k + 1) s (xs ++ ys)) (.slice (some ⟨γ.tp k, 0, none⟩) (xs.length + ys.length) cap) := by
 obtain ⟨e1, e2, e3, e4⟩ := setCells_below (γ.tp k) (xs.length * s) news w
 have hlt : γ.tp k < w.heap.size := (h.own _ _ ho).1
 have hother : ∀ b, b ≠ γ.tp k → (w.setCells (γ.tp k) (xs.length * s) news).heap[b]? = w.heap[b]? := by
  intro b hb
  by_cases hlt' : b < w.heap.size
  ·exact World.heap_setCells_other w _ _ _ hlt' hb
  ·rw [Array.getElem?_eq_none (by rw [e4]; omega), Array.getElem?_eq_none (by omega)]
 have hp : Pres D w (w.setCells (γ.tp k) (xs.length * s) news) := by
  intro b o hD
  refine World.cell?_setCells_out _ _ _ _ _ (fun hb _ => .inl ?_)
  simp only at hb
  subst hb
  exact hd o hD
 let D' : Dead := fun b o => D b o ∨ (b = γ.tp k ∧ o < (xs.length + ys.length) * s)
 have hmul : xs.length * s + ys.length * s = (xs.length + ys.length) * s := (Nat.add_mul _ _ _).symm
 have hcap : (xs.length + ys.length) * s ≤ cap * s := Nat.mul_le_mul_right _ hroom
 have hV : ∀ {av : AV} {v : Value}, RepV γ w D st av v → RepV γ (w.setCells (γ.tp k) (xs.length * s) news) D' { st with g := AM.put k (st.gen k + 1) st.g } av v := by
  intro av v hv
  refine RepV.mono hp (fun _ _ hd => .inl hd) (fun k' => ?_) (fun k' hk' => ?_) hv
  ·rw [gen_putg]
   split
   ·rename_i e; subst e; omega
   ·exact Nat.le_refl _
  ·have hne' : k' ≠ k := by
    intro e
    subst e
    rw [gen_putg, if_pos rfl] at hk'
    omega
   refine ⟨rfl, rfl, fun xs hx => ⟨xs, hx, rfl⟩, fun s' xs' v => ?_⟩
   rintro ⟨A, cap', e, hc'⟩
   refine ⟨A, cap', e, hc'.imp id ?_⟩
   rintro ⟨hA, ho', q1, q2, q4⟩
   have hb : γ.tp k' ≠ γ.tp k := by
    intro e
    rw [e, ho] at ho'
    simp at ho'
    exact hne' ho'.symm
   refine ⟨hA, ho', q1, fun o hlt' => ⟨?_, ?_⟩, fun o hD => ?_⟩
   ·rw [World.cell?_of_block (a := ⟨γ.tp k', o, none⟩) (hother _ hb)]; exact (q2 o hlt').1
   ·rw [World.frozen?_of_block (a := ⟨γ.tp k', o, none⟩) (hother _ hb)]; exact (q2 o hlt').2
   ·rcases hD with hD | ⟨e, _⟩
    ·exact q4 o hD
    ·exact absurd e hb
 have hnb : ∀ b k', (γ.own b = some (0, k') ∨ γ.own b = some (1, k')) → b ≠ γ.tp k := by
  intro b k' hh e
  subst e
  rw [ho] at hh
  simp at hh
 refine ⟨D', ⟨h.nt, h.dfr, fun t => hV (h.tm t), fun k' cs hk => ?_, fun k' zs hk => ?_, fun b q hq => ⟨by rw [e4]; exact (h.own b q hq).1, (h.own b q hq).2⟩, fun b k' hh o hD => ?_, ?_, fun b o hb => ?_, fun b o hD => ?_, h.pk⟩, ?_⟩
 ·obtain ⟨q1, vs', E', q2, q3, q4⟩ := h.bx k' cs hk
  exact ⟨q1, vs', E', (hother _ (hnb _ _ (.inl q1))).trans q2, q3, fun i c v hi hj => ⟨hV (q4 i c v hi hj).1, (q4 i c v hi hj).2⟩⟩
 ·obtain ⟨q1, vs', E', q2, q3, q4⟩ := h.rw k' zs hk
  exact ⟨q1, vs', E', (hother _ (hnb _ _ (.inr q1))).trans q2, q3, fun i c v hi hj => ⟨(q4 i c v hi hj).1.mono hp (fun _ _ hd => .inl hd), (q4 i c v hi hj).2⟩⟩
 ·rcases hD with hD | ⟨e, _⟩
  ·exact h.live b k' hh o hD
  ·exact hnb b k' hh e
 ·refine ⟨e1.trans h.fr.os, e2.trans h.fr.tape, e3.trans h.fr.output, by rw [e4]; exact h.fr.size, fun b hb hn => ?_⟩
  refine (hother b ?_).trans (h.fr.block b hb hn)
  intro e
  subst e
  rcases (h.own _ _ ho).2 with hh | hh
  ·omega
  ·exact absurd hh.2 (by simp)
 ·refine ⟨fun hD => ?_, fun hD => .inl ((h.dold b o hb).2 hD)⟩
  rcases hD with hD | ⟨e, _⟩
  ·exact (h.dold b o hb).1 hD
  ·subst e
   rcases (h.own _ _ ho).2 with hh | hh
   ·omega
   ·exact absurd hh.2 (by simp)
 ·rw [e4]
  rcases hD with hD | ⟨e, _⟩
  ·exact h.dlt b o hD
  ·subst e; exact hlt
 ·have hlen : (xs ++ ys).length = xs.length + ys.length := by simp
  refine ⟨by rw [gen_putg, if_pos rfl]; exact Nat.le_refl _, ?_, fun _ => ⟨_, cap, by rw [hlen], .inr ⟨rfl, ho, by rw [hlen]; exact hroom, fun o hlt' => ⟨World.isSome_setCells _ _ _ _ _ (hc o hlt').1, by rw [World.frozen?_setCells]; exact (hc o hlt').2⟩, fun o hD => ?_⟩⟩⟩
  ·rw [← hlen]
   have hxs : ∀ (i : Nat) (e : AV), xs[i]? = some e → e.cells.length = s ∧ ∀ (j : Nat) (c : AV), e.cells[j]? = some c → c.cell1 = true ∧ D (γ.tp k) (i * s + j) ∧ ∃ v, w.cell? ⟨γ.tp k, i * s + j, none⟩ = some v ∧ RepD w D c v := by
    intro i e hi
    obtain ⟨A, cap', ev, _, _, h3⟩ := inv_sl hx
    rcases h3 with h3 | ⟨b, o, f, hA, hE⟩
    ·subst h3; simp at hi
    ·simp only [Value.slice.injEq] at ev
     obtain ⟨ev1, _, _⟩ := ev
     rw [← ev1] at hA
     simp only [Option.some.injEq, Addr.mk.injEq] at hA
     obtain ⟨rfl, rfl, _⟩ := hA
     refine ⟨hE.1 i e hi, fun j c hj => ?_⟩
     obtain ⟨q1, q2, q3⟩ := hE.2.1 i e j c hi hj
     rw [Nat.zero_add] at q2 q3
     exact ⟨q1, q2, _, q3, hE.2.2 i e j c hi hj⟩
   have hcell : ∀ (i : Nat) (e : AV) (j : Nat) (c : AV), (xs ++ ys)[i]? = some e → e.cells[j]? = some c → c.cell1 = true ∧ D' (γ.tp k) (i * s + j) ∧ ∃ v, (w.setCells (γ.tp k) (xs.length * s) news).cell? ⟨γ.tp k, i * s + j, none⟩ = some v ∧ RepD (w.setCells (γ.tp k) (xs.length * s) news) D' c v := by
    intro i e j c hi hj
    rw [List.getElem?_append] at hi
    split at hi
    ·rename_i hi'
     obtain ⟨_, q⟩ := hxs i e hi
     obtain ⟨q1, q2, v, q3, q4⟩ := q j c hj
     exact ⟨q1, .inl q2, v, (hp _ _ q2).trans q3, q4.mono hp (fun _ _ hd => .inl hd)⟩
    ·rename_i hi'
     have hjlt := idx_lt hys hi hj
     have hidx : i * s + j = xs.length * s + ((i - xs.length) * s + j) := by
      have : i * s = xs.length * s + (i - xs.length) * s := by rw [← Nat.add_mul]; congr 1; omega
      omega
     have hjn : (i - xs.length) * s + j < news.length := by rw [hn]; exact hjlt
     obtain ⟨q1, q2⟩ := hnew _ e j c news[(i - xs.length) * s + j] hi hj (List.getElem?_eq_getElem hjn)
     refine ⟨q1, .inr ⟨rfl, by rw [hidx, ← hmul]; omega⟩, news[(i - xs.length) * s + j], ?_, q2.mono hp (fun _ _ hd => .inl hd)⟩
     rw [hidx]
     exact World.cell?_setCells_in _ _ _ _ (fun j' hj' => (hc _ (by rw [hn] at hj'; omega)).1) _ hjn
   refine .sl s false (xs ++ ys) (γ.tp k) 0 cap (fun i j => ((w.setCells (γ.tp k) (xs.length * s) news).cell? ⟨γ.tp k, i * s + j, none⟩).getD Go.undef) (by rw [hlen]; exact hroom) (by simp) (fun i e hi => ?_) (fun i e j c hi hj => ?_) (fun i e j c hi hj => ?_)
   ·rw [List.getElem?_append] at hi
    split at hi
    ·exact (hxs i e hi).1
    ·exact hys _ e hi
   ·obtain ⟨q1, q2, v, q3, q4⟩ := hcell i e j c hi hj
    rw [Nat.zero_add, q3]
    exact ⟨q1, q2, rfl⟩
   ·obtain ⟨q1, q2, v, q3, q4⟩ := hcell i e j c hi hj
    simp only [q3, Option.getD_some]
    exact q4
  ·rw [hlen]
   rcases hD with hD | ⟨_, hD⟩
   ·have := hd o hD; omega
   ·exact hD
end
open Go.RowKit Go.Lib
section
variable {P : Program} {c : Ctx} {γ : Gh} {D D' : Dead} {st : St} {a : Act} {w w' : World} {tb : Tb}
theorem run_app_room {t u e ty : Nat} {i : TypeInfo} {du : TypeDesc} (hu : P.underlying t = some (.slice e)) (hi : P.info? e = some i) (hdu : P.underlying u = some du) (hni : ∀ k, du ≠ .int k) {A : Option Addr} {n cap m : Nat} {Y : Value} (hl : (Builtin.lenOf Y).run P w = .ok m w)
  (hY : (Builtin.firstCells i.size m Y).run P w = .ok #[] w) (hroom : n + m ≤ cap) : (Builtin.append_ #[t, u] ty #[.slice A n cap, Y]).run P w = .ok (.slice A (n + m) cap) w := by
 have hz : (match du with | .int _ => true | _ => false) = false := by cases du <;> first | rfl | exact absurd rfl (hni _)
 cases A with
 | none => simp [Builtin.append_, run_underlying' w hu, run_underlying' w hdu, sizeOf, run_typeInfo' w hi, hz, hl, hroom, hY]
 | some b => simp [Builtin.append_, run_underlying' w hu, run_underlying' w hdu, sizeOf, run_typeInfo' w hi, hz, hl, hroom, hY, storeCells]
theorem run_app_room' {t u e ty : Nat} {i : TypeInfo} {du : TypeDesc} (hu : P.underlying t = some (.slice e)) (hi : P.info? e = some i) (hdu : P.underlying u = some du) (hni : ∀ k, du ≠ .int k) {b n cap m : Nat} {Y : Value} {news : List Value} (hl : (Builtin.lenOf Y).run P w = .ok m w)
  (hY : (Builtin.firstCells i.size m Y).run P w = .ok news.toArray w) (hroom : n + m ≤ cap) (h1 : ∀ v ∈ news, v.oneCell' = true) (hc : ∀ j, j < news.length → (w.cell? ⟨b, n * i.size + j, none⟩).isSome = true) (hf : ∀ j, j < news.length → w.frozen? ⟨b, n * i.size + j, none⟩ = false) :
  (Builtin.append_ #[t, u] ty #[.slice (some ⟨b, 0, none⟩) n cap, Y]).run P w = .ok (.slice (some ⟨b, 0, none⟩) (n + m) cap) (w.setCells b (n * i.size) news) := by
 have hz : (match du with | .int _ => true | _ => false) = false := by cases du <;> first | rfl | exact absurd rfl (hni _)
 have hst := run_storeCells_cells (P := P) b (n * i.size) news 0 w (by simpa using hc) (by simpa using hf) h1
 simp only [Nat.add_zero] at hst
 simp [Builtin.append_, run_underlying' w hu, run_underlying' w hdu, sizeOf, run_typeInfo' w hi, hz, hl, hroom, hY, addr_add, hst]
theorem run_app_grow {t u e ty : Nat} {i : TypeInfo} {z : Value} {du : TypeDesc} (hu : P.underlying t = some (.slice e)) (hi : P.info? e = some i) (hzv : i.zero = some z) (hdu : P.underlying u = some du) (hni : ∀ k, du ≠ .int k) {A : Option Addr} {n cap m : Nat} {Y : Value} {olds news : List Value} (hl : (Builtin.lenOf Y).run P w = .ok m w)
  (hY : (Builtin.firstCells i.size m Y).run P w.drew = .ok news.toArray w.drew) (hX : (Builtin.firstCells i.size n (.slice A n cap)).run P w.drew = .ok olds.toArray w.drew) (hg : cap < n + m) (h63 : n + m ≤ 4611686018427387904) (hb : (n + m) * i.bytes ≤ 140737488355328) :
  (Builtin.append_ #[t, u] ty #[.slice A n cap, Y]).run P w = .ok (.slice (some ⟨w.heap.size, 0, none⟩) (n + m) (grownCap w (n + m) cap e)) (w.drew.alloc (.cells (olds.toArray ++ news.toArray ++ Builtin.zeroCells z.cells (grownCap w (n + m) cap e - (n + m))) e)) := by
 have hz : (match du with | .int _ => true | _ => false) = false := by cases du <;> first | rfl | exact absurd rfl (hni _)
 have hn : ¬ (n + m ≤ cap) := by omega
 have h63' : ¬ (9223372036854775807 < ((n : Int) + (m : Int))) := by omega
 have h48' : ¬ (281474976710656 < Builtin.nextslicecap (n + m) cap * i.bytes) := by have := growslice_fits hg hb; omega
 simp [Builtin.append_, run_underlying' w hu, run_underlying' w hdu, sizeOf, run_typeInfo' w hi, zeroValue, typeInfo, hi, hzv, hz, hl, hn, h63', h48', Question.forced, hY, hX, newRow, grownCap]
 congr 2
 apply Array.ext'
 simp [List.append_assoc]
def flatF (s n : Nat) (f : Nat → Nat → Value) : List Value := (List.range (n * s)).map fun q => f (q / s) (q % s)
theorem flatF_len (s n : Nat) (f : Nat → Nat → Value) : (flatF s n f).length = n * s := by simp [flatF]
theorem flatF_get {s n : Nat} (f : Nat → Nat → Value) {i j : Nat} (hj : j < s) (hlt : i * s + j < n * s) : (flatF s n f)[i * s + j]? = some (f i j) := by
 have h1 : (i * s + j) / s = i := by rw [Nat.mul_comm, Nat.mul_add_div (by omega), Nat.div_eq_of_lt hj]; rfl
 have h2 : (i * s + j) % s = j := by rw [Nat.mul_comm, Nat.mul_add_mod, Nat.mod_eq_of_lt hj]
 simp [flatF, hlt, h1, h2]
theorem load_flat {b o s : Nat} {xs : List AV} {f : Nat → Nat → Value} (hs : ∀ (i : Nat) (e : AV), xs[i]? = some e → e.cells.length = s) (hf : ∀ (i : Nat) (e : AV) (j : Nat) (c : AV), xs[i]? = some e → e.cells[j]? = some c → w.cell? ⟨b, o + (i * s + j), none⟩ = some (f i j)) :
  (loadCells ⟨b, o, none⟩ (xs.length * s)).run P w = .ok (flatF s xs.length f).toArray w := by
 refine run_loadCells w _ _ (fun q => f (q / s) (q % s)) fun q hq => ?_
 have hs0 : 0 < s := by
  rcases Nat.eq_zero_or_pos s with h | h
  ·subst h; simp at hq
  ·exact h
 have hi : q / s < xs.length := by rw [Nat.div_lt_iff_lt_mul hs0]; exact hq
 have hj : q % s < s := Nat.mod_lt _ hs0
 have he := hs (q / s) xs[q / s] (List.getElem?_eq_getElem hi)
 have hq' : q / s * s + q % s = q := by rw [Nat.mul_comm]; exact Nat.div_add_mod q s
 have := hf (q / s) xs[q / s] (q % s) (xs[q / s].cells[q % s]'(by omega)) (List.getElem?_eq_getElem hi) (List.getElem?_eq_getElem (by omega))
 rw [hq'] at this
 rw [addr_add]
 exact this
theorem src_sound (hT : TbOk P tb) (h : Inv c γ D st a w) {u : Nat} {Y : AV} {V : Value} (hy : RepV γ w D st Y V) (cy : st.isCur Y) {s : Nat} {ys : List AV} (hsrc : srcA tb st u Y = some (s, ys)) :
  ∃ (du : TypeDesc) (news : List Value), P.underlying u = some du ∧ (∀ k, du ≠ .int k) ∧ (Builtin.lenOf V).run P w = .ok ys.length w ∧ (Builtin.firstCells s ys.length V).run P w = .ok news.toArray w ∧ (Builtin.firstCells s ys.length V).run P w.drew = .ok news.toArray w.drew ∧
   (∀ (i : Nat) (e : AV), ys[i]? = some e → e.cells.length = s) ∧ news.length = ys.length * s ∧ (∀ v ∈ news, v.oneCell' = true) ∧
   ∀ (i : Nat) (e : AV) (j : Nat) (c : AV) (v : Value), ys[i]? = some e → e.cells[j]? = some c → news[i * s + j]? = some v → c.cell1 = true ∧ RepD w D c v := by
 unfold srcA at hsrc
 split at hsrc
 ·simp at hsrc
 rename_i tu htu
 have ht := hT _ _ htu
 split at hsrc
 ·rename_i e hk
  obtain ⟨A, cap, rfl, hlc, h3⟩ := inv_elems h hy cy hsrc
  refine ⟨.slice e, ?_⟩
  rcases h3 with rfl | ⟨b, o, rfl, hs, f, hf⟩
  ·refine ⟨[], ty_sl ht hk, by simp, by simp [Builtin.lenOf], ?_, ?_, by simp, by simp, by simp, by simp⟩
   ·cases A with
    | none => simp [Builtin.firstCells]
    | some x => simp [Builtin.firstCells, loadCells, loadCellsFrom]
   ·cases A with
    | none => simp [Builtin.firstCells]
    | some x => simp [Builtin.firstCells, loadCells, loadCellsFrom]
  ·refine ⟨flatF s ys.length f, ty_sl ht hk, by simp, by simp [Builtin.lenOf], ?_, ?_, hs, flatF_len _ _ _, fun v hv => ?_, fun i e j c v hi hj hv => ?_⟩
   ·exact load_flat hs (fun i e j c hi hj => (hf i e j c hi hj).2.1)
   ·exact load_flat (w := w.drew) hs (fun i e j c hi hj => (hf i e j c hi hj).2.1)
   ·obtain ⟨q, hq, rfl⟩ := List.mem_map.1 hv
    have hq' : q < ys.length * s := by simpa using hq
    have hs0 : 0 < s := by
     rcases Nat.eq_zero_or_pos s with hh | hh
     ·subst hh; simp at hq'
     ·exact hh
    have hi : q / s < ys.length := by rw [Nat.div_lt_iff_lt_mul hs0]; exact hq'
    have hj : q % s < s := Nat.mod_lt _ hs0
    have he := hs (q / s) ys[q / s] (List.getElem?_eq_getElem hi)
    obtain ⟨q1, _, q3⟩ := hf (q / s) ys[q / s] (q % s) (ys[q / s].cells[q % s]'(by omega)) (List.getElem?_eq_getElem hi) (List.getElem?_eq_getElem (by omega))
    exact q3.one q1
   ·have hjs : j < s := by rw [← hs i e hi]; exact (List.getElem?_eq_some_iff.1 hj).1
    rw [flatF_get f hjs (idx_lt hs hi hj)] at hv
    simp only [Option.some.injEq] at hv
    subst hv
    obtain ⟨q1, _, q3⟩ := hf i e j c hi hj
    exact ⟨q1, q3⟩
 ·rename_i l hk
  simp only [Option.some.injEq, Prod.mk.injEq] at hsrc
  obtain ⟨rfl, rfl⟩ := hsrc
  obtain ⟨sb, rfl, hs⟩ := inv_str hy
  have hsz : sb.size = l.length := by rw [← hs, Array.length_toList]; rfl
  have hlen : (ofBytes l).length = sb.size := by simp [ofBytes, hsz]
  refine ⟨.string, strCells sb, ty_str ht hk, by simp, by simp [Builtin.lenOf, hlen], ?_, ?_, fun i e hi => ?_, by rw [strCells_length, hlen]; simp, strCells_oneCell sb, fun i e j c v hi hj hv => ?_⟩
  ·rw [hlen]; exact run_firstCells_string w 1 sb
  ·rw [hlen]; exact run_firstCells_string w.drew 1 sb
  ·simp [ofBytes] at hi
   obtain ⟨b, _, rfl⟩ := hi
   rfl
  ·simp only [ofBytes, List.getElem?_map, Option.map_eq_some_iff] at hi
   obtain ⟨b, hb, rfl⟩ := hi
   cases j with
   | zero =>
    simp [AV.cells] at hj
    subst hj
    simp only [strCells, hs, Nat.mul_one, Nat.add_zero, List.getElem?_map, hb, Option.map_some, Option.some.injEq] at hv
    subst hv
    exact ⟨rfl, .int _ _⟩
   | succ j => simp [AV.cells] at hj
 ·simp at hsrc
end
section
variable {P : Program} {c : Ctx} {γ : Gh} {D D' : Dead} {st : St} {a : Act} {w w' : World} {tb : Tb}
theorem drew_below (w : World) : Below w.heap.size w w.drew := ⟨rfl, rfl, rfl, Nat.le_refl _, fun _ _ => rfl⟩
theorem gives_chain {o : Oper} {k : Nat} {v : AV} {cv : Value} {γ' : Gh} (h : Inv c γ' D' { st with g := AM.put k (st.gen k + 1) st.g } a w') (hv : RepV γ' w' D' { st with g := AM.put k (st.gen k + 1) st.g } v cv) (hr : (execOp a.eval o).run P w = .ok (.value cv) w') :
  Gives P c o a w (({ st with g := AM.put k (st.gen k + 1) st.g } : St).put o.dst v) :=
 ⟨cv, w', .inl hr, γ', D', h.put hv o.dst⟩
theorem sound_append_core (hT : TbOk P tb) {o : Oper} (h : Inv c γ D st a w) {t u : Nat} {x y : Operand} (ho : o.op = .call { callee := .builtin .append, args := #[x, y], argTypes := #[t, u] }) {ti te : TI} {e : Nat} (hti : find t tb = some ti) (hk : ti.k = .sl e) (hte : find e tb = some te)
  {ys : List AV} (hsrc : srcA tb st u (st.ev y) = some (te.sz, ys)) (hsz : te.sz ≠ 0) (hzl : te.z.cells.length = te.sz) {z : AV} (hz : te.z.dat = some z) {k : Nat} {xs : List AV} (hR : RepD w D (.sl te.sz false xs) (a.eval x)) (hTip : TipOk γ w D k te.sz xs (a.eval x))
  (hfit : (xs.length + ys.length) * te.bytes ≤ 140737488355328) (h63 : xs.length + ys.length ≤ 4611686018427387904) : Gives P c o a w (({ st with g := AM.put k (st.gen k + 1) st.g } : St).put o.dst (.tip k (st.gen k + 1) te.sz (xs ++ ys))) := by
 have hu := ty_sl (hT _ _ hti) hk
 obtain ⟨ie, zv, hie, hzv, hs, hby, hzr⟩ := ty_zero' (hT _ _ hte) hz
 obtain ⟨du, news, hdu, hni, hl, hY, hYd, hys, hnl, hn1, hnew⟩ := src_sound hT h (h.ev y) (st.ev_isCur y) hsrc
 obtain ⟨A, cap, ev, hcase⟩ := hTip
 have hlc : xs.length ≤ cap := by
  rcases hcase with hh | ⟨_, _, hh, _⟩ <;> omega
 have hexec : ∀ {cv : Value} {w' : World}, (Builtin.append_ #[t, u] o.type #[a.eval x, a.eval y]).run P w = .ok cv w' → (execOp a.eval o).run P w = .ok (.value cv) w' := by
  intro cv w' hh
  simp [execOp, ho, resolve, invoke, builtin, hh]
 have hlen : (xs ++ ys).length = xs.length + ys.length := by simp
 by_cases hroom : xs.length + ys.length ≤ cap
 ·by_cases hy0 : ys = []
  ·subst hy0
   have hn0 : news = [] := List.eq_nil_of_length_eq_zero (by rw [hnl]; simp)
   subst hn0
   have hrun := run_app_room (ty := o.type) hu hie hdu hni (A := A) (n := xs.length) (cap := cap) hl (by rw [hs]; exact hY) hroom
   rw [ev] at hR
   obtain ⟨i1, i2⟩ := h.sameTip k (s := te.sz) (zs := xs) hR ⟨A, cap, rfl, hcase⟩
   refine gives_chain (cv := .slice A (xs.length + ([] : List AV).length) cap) i1 ?_ (hexec (by rw [ev]; exact hrun))
   simp only [List.append_nil, List.length_nil, Nat.add_zero]
   exact i2
  ·have hm : 0 < ys.length := List.length_pos_iff.2 hy0
   rcases hcase with hh | ⟨hA, hown, _, hc, hd⟩
   ·omega
   ·subst hA
    have hmul : xs.length * te.sz + ys.length * te.sz ≤ cap * te.sz := by rw [← Nat.add_mul]; exact Nat.mul_le_mul_right _ hroom
    have hrun := run_app_room' (ty := o.type) hu hie hdu hni (b := γ.tp k) (n := xs.length) (cap := cap) (news := news) hl (by rw [hs]; exact hY) hroom hn1 (fun j hj => by rw [hs]; exact (hc _ (by omega)).1) (fun j hj => by rw [hs]; exact (hc _ (by omega)).2)
    rw [hs] at hrun
    rw [ev] at hR
    obtain ⟨D', i1, i2⟩ := h.roomTip k (ys := ys) hown hR hc hd hroom hnl hys hnew (.inr hy0)
    exact gives_chain i1 i2 (hexec (by rw [ev]; exact hrun))
 ·have hg : cap < xs.length + ys.length := by omega
  obtain ⟨olds, hol, holds, hX⟩ : ∃ olds : List Value, olds.length = xs.length * te.sz ∧
    (∀ (i : Nat) (e : AV) (j : Nat) (c : AV) (v : Value), xs[i]? = some e → e.cells[j]? = some c → olds[i * te.sz + j]? = some v → c.cell1 = true ∧ RepD w D c v) ∧ (Builtin.firstCells te.sz xs.length (.slice A xs.length cap)).run P w.drew = .ok olds.toArray w.drew := by
   rw [ev] at hR
   obtain ⟨A', cap', ev', _, _, h3⟩ := inv_sl hR
   simp only [Value.slice.injEq] at ev'
   obtain ⟨rfl, _, rfl⟩ := ev'
   rcases h3 with rfl | ⟨b, o', f, rfl, hE⟩
   ·refine ⟨[], by simp, by simp, ?_⟩
    cases A with
    | none => simp [Builtin.firstCells]
    | some q => simp [Builtin.firstCells, loadCells, loadCellsFrom]
   ·refine ⟨flatF te.sz xs.length f, flatF_len _ _ _, fun i e j c v hi hj hv => ?_, load_flat (w := w.drew) hE.1 (fun i e j c hi hj => (hE.2.1 i e j c hi hj).2.2)⟩
    have hjs : j < te.sz := by rw [← hE.1 i e hi]; exact (List.getElem?_eq_some_iff.1 hj).1
    rw [flatF_get f hjs (idx_lt hE.1 hi hj)] at hv
    simp only [Option.some.injEq] at hv
    subst hv
    exact ⟨(hE.2.1 i e j c hi hj).1, hE.2.2 i e j c hi hj⟩
  have hrun := run_app_grow (ty := o.type) hu hie hzv hdu hni (A := A) (n := xs.length) (cap := cap) (olds := olds) (news := news) hl (by rw [hs]; exact hYd) (by rw [hs]; exact hX) hg h63 (by rw [hby]; exact hfit)
  have hge := grownCap_ge w (xs.length + ys.length) cap e
  have hzc : zv.cells.size = te.sz := by
   have := (hzr γ w D st).cells.1
   rw [this, dat_cells_len hz, hzl]
  have hxs : ∀ (i : Nat) (e : AV), xs[i]? = some e → e.cells.length = te.sz := by
   intro i e' hi
   obtain ⟨A', cap', _, _, _, h3⟩ := inv_sl hR
   rcases h3 with rfl | ⟨b, o', f, _, hE⟩
   ·simp at hi
   ·exact hE.1 i e' hi
  have hIn : RowIn w D te.sz (xs ++ ys) (olds.toArray ++ news.toArray ++ Builtin.zeroCells zv.cells (grownCap w (xs.length + ys.length) cap e - (xs.length + ys.length))) := by
   have hmul : xs.length * te.sz + ys.length * te.sz = (xs.length + ys.length) * te.sz := (Nat.add_mul _ _ _).symm
   refine ⟨fun i e' hi => ?_, ?_, fun i e' j c' v hi hj hv => ?_⟩
   ·rw [List.getElem?_append] at hi
    split at hi
    ·exact hxs i e' hi
    ·exact hys _ e' hi
   ·simp only [Array.size_append, List.size_toArray, hol, hnl, hlen]
    omega
   ·rw [List.getElem?_append] at hi
    split at hi
    ·have hlt := idx_lt hxs hi hj
     have : olds[i * te.sz + j]? = some v := by
      rw [← hv, Array.getElem?_append_left (by simp [hol]; omega), Array.getElem?_append_left (by simp [hol]; omega)]
      simp
     exact holds i e' j c' v hi hj this
    ·rename_i hi'
     have hjlt := idx_lt hys hi hj
     have hidx : i * te.sz + j = xs.length * te.sz + ((i - xs.length) * te.sz + j) := by
      have : i * te.sz = xs.length * te.sz + (i - xs.length) * te.sz := by rw [← Nat.add_mul]; congr 1; omega
      omega
     have : news[(i - xs.length) * te.sz + j]? = some v := by
      rw [← hv, hidx, Array.getElem?_append_left (by simp [hol, hnl]; omega), Array.getElem?_append_right (by simp [hol])]
      simp [hol]
     exact hnew _ e' j c' v hi hj this
  have hvs : (olds.toArray ++ news.toArray ++ Builtin.zeroCells zv.cells (grownCap w (xs.length + ys.length) cap e - (xs.length + ys.length))).size = grownCap w (xs.length + ys.length) cap e * te.sz := by
   simp only [Array.size_append, List.size_toArray, size_zeroCells, hol, hnl, hzc, ← Nat.add_mul]
   congr 1
   omega
  have hbl : Below w.heap.size w (w.drew.alloc (.cells (olds.toArray ++ news.toArray ++ Builtin.zeroCells zv.cells (grownCap w (xs.length + ys.length) cap e - (xs.length + ys.length))) e)) := (drew_below w).alloc (Nat.le_refl _) _
  obtain ⟨γ', D', i1, i2⟩ := h.newTip k (E := e) (fr := (0, 0)) hIn hvs (by rw [hlen]; exact hge) hbl (by simp) (heap_alloc_new w.drew _) (fun o' ho' => by
   generalize olds.toArray ++ news.toArray ++ Builtin.zeroCells zv.cells (grownCap w (xs.length + ys.length) cap e - (xs.length + ys.length)) = VS
   have hh : (w.drew.alloc (.cells VS e)).heap[w.heap.size]? = some (.cells VS e (0, 0)) := heap_alloc_new w.drew _
   unfold World.frozen?
   simp only [hh]
   simp)
  rw [hlen] at i2
  exact gives_chain i1 i2 (hexec (by rw [ev]; exact hrun))
theorem sound_append (hT : TbOk P tb) {o : Oper} (h : Inv c γ D st a w) {t u : Nat} {x y : Operand} (ho : o.op = .call { callee := .builtin .append, args := #[x, y], argTypes := #[t, u] }) {ti te : TI} {e : Nat} (hti : find t tb = some ti) (hk : ti.k = .sl e) (hte : find e tb = some te)
  {sy : Nat} {ys : List AV} (hsrc : srcA tb st u (st.ev y) = some (sy, ys)) {d : Nat} {v : AV} {g : List (Nat × Nat)} (hv : appendA st d te (st.ev x) ys sy = some (v, g)) : Gives P c o a w (({ st with g := g } : St).put o.dst v) := by
 have hx := h.ev x
 have cx := st.ev_isCur x
 generalize st.ev x = X at hx hv cx
 unfold appendA at hv
 split at hv
 ·rename_i hc
  obtain ⟨rfl, hsz, hzl, hzd⟩ := hc
  obtain ⟨z, hz⟩ := Option.isSome_iff_exists.1 hzd
  split at hv
  ·rename_i s xs
   split at hv
   ·rename_i hc2
    obtain ⟨hs, hfit, h63⟩ := hc2
    simp only [Option.some.injEq, Prod.mk.injEq] at hv
    obtain ⟨rfl, rfl⟩ := hv
    obtain ⟨A, cap, ev, h1, h2, h3⟩ := inv_sl (show RepD w D _ _ from hx)
    have hR : RepD w D (.sl te.sz false xs) (a.eval x) := by
     rw [ev]
     refine mk_sl h1 (by simp) ?_
     rcases hs with rfl | rfl
     ·exact h3
     ·exact .inl rfl
    exact sound_append_core hT h ho hti hk hte hsrc hsz hzl hz hR ⟨A, cap, ev, .inl (h2 rfl)⟩ (of_decide_eq_true hfit) h63
   ·simp at hv
  ·rename_i k g' s xs
   split at hv
   ·rename_i hc2
    obtain ⟨rfl, hfit, h63⟩ := hc2
    simp only [Option.some.injEq, Prod.mk.injEq] at hv
    obtain ⟨rfl, rfl⟩ := hv
    exact sound_append_core hT h ho hti hk hte hsrc hsz hzl hz hx.2.1 (hx.2.2 cx) (of_decide_eq_true hfit) h63
   ·simp at hv
  ·simp at hv
 ·simp at hv
end
section
variable {P : Program} {c : Ctx} {γ : Gh} {D D' : Dead} {st : St} {a : Act} {w w' : World} {tb : Tb}
theorem isU8_sound (hT : TbOk P tb) {e : Nat} (h : isU8 tb e = true) : P.underlying e = some (.int .u8) := by
 unfold isU8 at h
 split at h
 ·rename_i te hte
  split at h
  ·rename_i hk
   exact ty_int (hT _ _ hte) hk
  ·simp at h
 ·simp at h
theorem bytesOf_spec : ∀ {xs : List AV} {l : List UInt8}, bytesOf xs = some l → ∃ ns : List Int, xs = ns.map (fun n => AV.int .u8 n) ∧ l = ns.map fun n => UInt8.ofNat n.toNat
 | [], l, h => by simp [bytesOf] at h; subst h; exact ⟨[], rfl, rfl⟩
 | x :: r, l, h => by
  unfold bytesOf at h
  split at h <;> try (simp at h; done)
  ·rename_i e; cases e
  rename_i n r' e
  simp only [List.cons.injEq] at e
  obtain ⟨rfl, rfl⟩ := e
  split at h
  ·rename_i l' hl
   simp only [Option.some.injEq] at h
   subst h
   obtain ⟨ns, rfl, rfl⟩ := bytesOf_spec hl
   exact ⟨n :: ns, rfl, rfl⟩
  ·simp at h
theorem sound_convert (hT : TbOk P tb) {o : Oper} (h : Inv c γ D st a w) {s d : Nat} {x : Operand} (ho : o.op = .convert s d x) {ts td : TI} (hts : find s tb = some ts) (htd : find d tb = some td) {st' : St} (hv : convertA tb st ts td o.dst (st.ev x) = some st') : Gives P c o a w st' := by
 have hx := h.ev x
 have cx := st.ev_isCur x
 obtain ⟨is, ds, _, hus, _⟩ := tyOf.parts (hT _ _ hts)
 have hd := hT _ _ htd
 generalize st.ev x = X at hx hv cx
 unfold convertA at hv
 split at hv
 ·rename_i k k' n hk
  simp only [Option.some.injEq] at hv
  subst hv
  have ex := inv_int hx
  refine gives_put h (cv := .int k (k.wrap n)) (.of (.int _ _)) ?_
  simp [execOp, ho, ex, convert, run_underlying' w hus, run_underlying' w (ty_int hd hk), Conv.intToInt]
 ·rename_i l hk
  simp only [Option.some.injEq] at hv
  subst hv
  obtain ⟨sb, ex, hs⟩ := inv_str hx
  refine gives_put h hx ?_
  simp [execOp, ho, ex, convert, run_underlying' w hus, run_underlying' w (ty_str hd hk)]
 ·rename_i hk _
  split at hv
  ·rename_i e hks
   split at hv
   ·rename_i hu8
    split at hv
    ·rename_i sz xs he
     split at hv
     ·rename_i l hl
      simp only [Option.some.injEq] at hv
      subst hv
      obtain ⟨A, cap, ev, hlc, h3⟩ := inv_elems h hx cx he
      have hse := ty_sl (hT _ _ hts) hks
      obtain ⟨ns, hns, hl'⟩ := bytesOf_spec hl
      have hrun : (convert s d (a.eval x)).run P w = .ok (.string (strOfNums ns)) w := by
       rw [ev]
       rcases h3 with rfl | ⟨b, o', rfl, hs, f, hf⟩
       ·have : ns = [] := by cases ns <;> simp at hns ⊢
        subst this
        cases A with
        | none => exact run_convert_bytes_nil w s e hse (isU8_sound hT hu8) _ _ d (ty_str hd hk)
        | some q =>
         rw [run_convert_bytes_string w s d e _ _ _ hse (isU8_sound hT hu8) (ty_str hd hk)]
         simp [Conv.bytesToString, loadCells, loadCellsFrom]
         rfl
       ·have hlen : xs.length = ns.length := by rw [hns]; simp
        rw [hlen]
        refine run_convert_bytes_arg w s e hse (isU8_sound hT hu8) b o' ns.length cap ns rfl (fun i hi => ?_) d (ty_str hd hk)
        have hxi : xs[i]? = some (.int .u8 ns[i]) := by rw [hns]; simp [hi]
        have hs1 : sz = 1 := (hs i _ hxi).symm
        subst hs1
        obtain ⟨_, q2, q3⟩ := hf i _ 0 (.int .u8 ns[i]) hxi rfl
        rw [Nat.mul_one, Nat.add_zero] at q2
        rw [q2]
        have q4 := inv_int (γ := γ) (st := st) (.of q3)
        rw [q4]
        simp [hi]
      refine gives_put h (cv := .string (strOfNums ns)) (.of (.str _ _ ?_)) (by simp [execOp, ho, hrun])
      rw [hl']
      simp [strOfNums]
     ·simp at hv
    ·simp at hv
   ·simp at hv
  ·simp at hv
 ·rename_i e l hk
  split at hv
  ·rename_i dd hdst
   split at hv
   ·rename_i hc
    obtain ⟨hu8, h63⟩ := hc
    simp only [Option.some.injEq] at hv
    subst hv
    obtain ⟨sb, ex, hs⟩ := inv_str hx
    have hsz : sb.size = l.length := by rw [← hs, Array.length_toList]; rfl
    have hlen : (ofBytes l).length = sb.size := by simp [ofBytes, hsz]
    have hrun := Go.Lib.run_convert_string_bytes (P := P) w s d e sb hus (ty_sl hd hk) (isU8_sound hT hu8)
    have hge := grownCap_ge w sb.size 0 e
    have hbs : (bytesCells w e sb).size = grownCap w sb.size 0 e * 1 := by
     have : sb.data.size = sb.size := rfl
     simp [bytesCells, this]
     omega
    have hcellb : ∀ (i : Nat) (b : UInt8), l[i]? = some b → (bytesCells w e sb)[i]? = some (Value.int .u8 b.toNat) := by
     intro i b hb
     have hi : i < l.length := (List.getElem?_eq_some_iff.1 hb).1
     have hi' : i < sb.data.size := by have : sb.data.size = sb.size := rfl; omega
     have hb' : sb.data[i]? = some b := by rw [← Array.getElem?_toList, hs]; exact hb
     rw [Array.getElem?_eq_getElem hi'] at hb'
     simp only [Option.some.injEq] at hb'
     unfold bytesCells
     rw [Array.getElem?_append_left (by simpa using hi'), Array.getElem?_map, Array.getElem?_eq_getElem hi', hb']
     rfl
    have hIn : RowIn w D 1 (ofBytes l) (bytesCells w e sb) := by
     refine ⟨fun i e' hi => ?_, by rw [hlen, hbs]; omega, fun i e' j c' v hi hj hv => ?_⟩
     ·simp [ofBytes] at hi
      obtain ⟨b, _, rfl⟩ := hi
      rfl
     ·simp only [ofBytes, List.getElem?_map, Option.map_eq_some_iff] at hi
      obtain ⟨b, hb, rfl⟩ := hi
      cases j with
      | zero =>
       simp [AV.cells] at hj
       subst hj
       rw [Nat.mul_one, Nat.add_zero, hcellb i b hb] at hv
       simp only [Option.some.injEq] at hv
       subst hv
       exact ⟨rfl, .int _ _⟩
      | succ j => simp [AV.cells] at hj
    have hbl : Below w.heap.size w (bytesWorld w e sb) := ⟨rfl, rfl, rfl, by rw [bytesWorld_size]; omega, fun k hk => bytesWorld_at_old w e sb k hk⟩
    obtain ⟨γ', D', i1, i2⟩ := h.newTip dd (E := e) hIn hbs (by rw [hlen]; exact hge) hbl (bytesWorld_size w e sb) (bytesWorld_at_new w e sb) (fun o' ho' => by
     have hh := bytesWorld_at_new w e sb
     unfold World.frozen?
     simp only [hh]
     have : ¬ (bytesCells w e sb).size ≤ o' := by rw [hbs]; omega
     simp [this])
    rw [hlen] at i2
    rw [← hdst]
    exact gives_chain i1 i2 (by simp [execOp, ho, ex, hrun])
   ·simp at hv
  ·simp at hv
 ·simp at hv
end
section
variable {P : Program} {c : Ctx} {γ : Gh} {D D' : Dead} {st : St} {a : Act} {w w' : World} {tb : Tb}
theorem gen_putg' (st : St) (k n k' : Nat) (b : List (Nat × List AV)) (r : List (Nat × List AV)) : St.gen { st with b := b, r := r, g := AM.put k n st.g } k' = if k' = k then n else st.gen k' := gen_putg st k n k'
theorem Inv.newBox (h : Inv c γ D st a w) (d : Nat) (hd6 : d < 1000000) {cs : List AV} {vs : Array Value} (E : Nat) (hn : vs.size = cs.length) (hR : ∀ (i : Nat) (c : AV) (v : Value), cs[i]? = some c → vs[i]? = some v → RepV γ w D st c v ∧ (c = .undef ∨ c.cell1 = true)) :
  ∃ γ', γ'.bx d = w.heap.size ∧ Inv c γ' D { st with b := AM.put d cs st.b, g := AM.put d (st.gen d + 1) st.g } a (w.alloc (.cells vs E)) := by
 have hb := below_alloc w (.cells vs E)
 have h0 : Inv c γ D st a (w.alloc (.cells vs E)) := h.grow hb (fun _ _ hd => hd) (fun _ _ _ hd => hd) (fun b o hd => Nat.lt_of_lt_of_le (h.dlt b o hd) hb.size)
 have hp : Pres D w (w.alloc (.cells vs E)) := h.pres hb
 refine ⟨{ γ with bx := fun k => if k = d then w.heap.size else γ.bx k, own := fun b => if b = w.heap.size then some (0, d) else γ.own b }, by simp, ?_⟩
 have hV : ∀ {av : AV} {v : Value}, RepV γ (w.alloc (.cells vs E)) D st av v →
   RepV { γ with bx := fun k => if k = d then w.heap.size else γ.bx k, own := fun b => if b = w.heap.size then some (0, d) else γ.own b } (w.alloc (.cells vs E)) D { st with b := AM.put d cs st.b, g := AM.put d (st.gen d + 1) st.g } av v := by
  intro av v hv
  refine RepV.mono (st := st) (st' := { st with b := AM.put d cs st.b, g := AM.put d (st.gen d + 1) st.g }) (fun _ _ _ => rfl) (fun _ _ hd => hd) (fun k' => ?_) (fun k' hk' => ?_) hv
  ·rw [gen_putg' st d _ k' _ st.r]
   split
   ·rename_i e; subst e; omega
   ·exact Nat.le_refl _
  ·have hne : k' ≠ d := by
    intro e
    subst e
    rw [gen_putg' st k' _ k' _ st.r, if_pos rfl] at hk'
    omega
   refine ⟨by simp [hne], rfl, fun xs hx => ⟨xs, hx, rfl⟩, fun s' xs v => ?_⟩
   rintro ⟨A, cap', e, hc⟩
   refine ⟨A, cap', e, hc.imp id ?_⟩
   rintro ⟨hA, ho, q1, q2, q4⟩
   have hlt : γ.tp k' < w.heap.size := (h.own _ _ ho).1
   simp only [show ¬ γ.tp k' = w.heap.size by omega, if_false]
   exact ⟨hA, ho, q1, q2, q4⟩
 have hV0 : ∀ {av : AV} {v : Value}, RepV γ w D st av v → RepV γ (w.alloc (.cells vs E)) D st av v := fun {av v} hv =>
  RepV.mono hp (fun _ _ hd => hd) (fun _ => Nat.le_refl _) (fun k _ => ⟨rfl, rfl, fun xs hx => ⟨xs, hx, rfl⟩, fun s xs v => by
   rintro ⟨A, cap, e, hc⟩
   refine ⟨A, cap, e, hc.imp id ?_⟩
   rintro ⟨hA, ho, q1, q2, q4⟩
   have hbk := hb.block _ (h.own _ _ ho).1
   exact ⟨hA, ho, q1, fun o hlt' => ⟨by rw [World.cell?_of_block (a := ⟨γ.tp k, o, none⟩) hbk]; exact (q2 o hlt').1, by rw [World.frozen?_of_block (a := ⟨γ.tp k, o, none⟩) hbk]; exact (q2 o hlt').2⟩, q4⟩⟩) hv
 refine ⟨h0.nt, h0.dfr, fun t => hV (h0.tm t), fun k cs' hk => ?_, fun k xs hk => ?_, fun b q hq => ?_, fun b k ho o hd => ?_, h0.fr, h0.dold, h0.dlt, fun n hn => by simp only [show ¬ 1000000 + n = d by omega, if_false]; exact h.pk n hn⟩
 ·simp only at hk
  by_cases e : k = d
  ·subst e
   rw [find_put_same] at hk
   simp only [Option.some.injEq] at hk
   subst hk
   refine ⟨by simp, vs, E, by simpa using heap_alloc_new w (.cells vs E), hn, fun i c v hi hj => ⟨hV (hV0 (hR i c v hi hj).1), (hR i c v hi hj).2⟩⟩
  ·rw [find_put_ne e] at hk
   obtain ⟨q1, vs', E', q2, q3, q4⟩ := h0.bx k cs' hk
   have hlt : γ.bx k < w.heap.size := (h.own _ _ q1).1
   refine ⟨by simp only [e, if_false, show ¬ γ.bx k = w.heap.size by omega]; exact q1, vs', E', by simp only [e, if_false]; exact q2, q3, fun i c v hi hj => ⟨hV (q4 i c v hi hj).1, (q4 i c v hi hj).2⟩⟩
 ·obtain ⟨q1, q2⟩ := h0.rw k xs hk
  have hlt : γ.rw k < w.heap.size := (h.own _ _ q1).1
  exact ⟨by simp only [show ¬ γ.rw k = w.heap.size by omega, if_false]; exact q1, q2⟩
 ·simp only at hq
  split at hq
  ·rename_i e
   subst e
   exact ⟨by simp, .inl h.fr.size⟩
  ·exact h0.own b q hq
 ·simp only at ho
  split at ho
  ·rename_i e
   subst e
   have := h.dlt _ _ hd
   omega
  ·exact h0.live b k ho o hd
theorem RepV.one {av : AV} {v : Value} (h : RepV γ w D st av v) (hc : st.isCur av) (h1 : av.cell1 = true) : v.oneCell' = true := by
 cases av <;> first | (simp [AV.cell1] at h1; done) | skip
 case ptr k g off => rw [h.2 hc]; rfl
 case tip k g s xs => exact h.2.1.one rfl
 all_goals exact RepD.one (w := w) (D := D) h rfl
theorem one_cells {v : Value} (h : v.oneCell' = true) : v.cells = #[v] := by cases v <;> first | rfl | simp [Value.oneCell'] at h
theorem RepV.cells {av : AV} {v : Value} (h : RepV γ w D st av v) (hc : st.isCur av) (h1 : (∃ cs, av = .agg cs) ∨ av.cell1 = true) :
  v.cells.size = av.cells.length ∧ (∀ (i : Nat) (c : AV) (u : Value), av.cells[i]? = some c → v.cells[i]? = some u → RepV γ w D st c u ∧ (c = .undef ∨ c.cell1 = true)) ∧ ∀ u ∈ v.cells, u.oneCell' = true := by
 rcases h1 with ⟨cs, rfl⟩ | h1
 ·obtain ⟨vs, rfl, hn, hc1, hh⟩ := inv_agg h
  refine ⟨hn, fun i c u hi hj => ⟨.of (hh i c u hi hj), .inr (hc1 c (List.mem_of_getElem? hi))⟩, fun u hu => ?_⟩
  obtain ⟨i, hi, rfl⟩ := Array.getElem_of_mem (show u ∈ vs from hu)
  have hlt : i < cs.length := by rw [← hn]; exact hi
  exact (hh i cs[i] vs[i] (List.getElem?_eq_getElem hlt) (Array.getElem?_eq_getElem hi)).one (hc1 _ (List.getElem_mem hlt))
 ·have ho := h.one hc h1
  have e1 := one_cells ho
  have e2 : av.cells = [av] := by cases av <;> first | rfl | simp [AV.cell1] at h1
  rw [e1, e2]
  refine ⟨rfl, fun i c u hi hj => ?_, fun u hu => by simp at hu; subst hu; exact ho⟩
  cases i with
  | zero => simp at hi hj; subst hi; subst hj; exact ⟨h, .inr h1⟩
  | succ i => simp at hi
theorem sound_newBox {o : Oper} (h : Inv c γ D st a w) {v : AV} {cv : Value} {E : Nat} (hv : RepV γ w D st v cv) (hcur : st.isCur v) {st' : St} (hs : AM.newBox st o.dst v = some st') (hrun : (execOp a.eval o).run P w = .ok (.value (.pointer (some ⟨w.heap.size, 0, none⟩))) (w.alloc (.cells cv.cells E))) : Gives P c o a w st' := by
 unfold AM.newBox at hs
 split at hs
 ·simp at hs
 rename_i d hd
 split at hs
 ·rename_i h12
  simp only [Bool.and_eq_true, decide_eq_true_eq] at h12
  obtain ⟨h1, h6⟩ := h12
  simp only [Option.some.injEq] at hs
  subst hs
  obtain ⟨q1, q2, _⟩ := hv.cells hcur (by
   cases v <;> first | exact .inl ⟨_, rfl⟩ | exact .inr h1)
  obtain ⟨γ', e1, h'⟩ := h.newBox d h6 E q1 q2
  refine ⟨_, _, .inl hrun, γ', D, h'.put (v := .ptr d (st.gen d + 1) 0) ⟨by rw [gen_putg' st d _ d _ st.r, if_pos rfl]; exact Nat.le_refl _, fun _ => by rw [e1]⟩ o.dst⟩
 ·simp at hs
theorem sound_alloc (hT : TbOk P tb) {o : Oper} (h : Inv c γ D st a w) {e : Nat} (ho : o.op = .alloc e) {ti : TI} (hti : find e tb = some ti) {st' : St} (hs : AM.newBox st o.dst ti.z = some st') : Gives P c o a w st' := by
 have hz : ti.z ≠ .undef := by
  intro e
  unfold AM.newBox at hs
  rw [e] at hs
  split at hs <;> simp [AV.boxable, AV.cell1] at hs
 obtain ⟨zv, hzr, hze⟩ := ty_zero (hT _ _ hti) hz w
 have hR : RepV γ w D st ti.z zv := by rw [← hze]; exact RepV.ofVal zv
 refine sound_newBox h hR (by rw [← hze]; exact ofVal_isCur st zv) hs (E := e) ?_
 simp [execOp, ho, Instr.alloc, hzr, newVar, newRow]
theorem sound_box {o : Oper} (h : Inv c γ D st a w) {e : Nat} {x : Operand} (ho : o.op = .box e x) {st' : St} (hs : AM.newBox st o.dst (st.ev x) = some st') : Gives P c o a w st' := by
 refine sound_newBox h (h.ev x) (st.ev_isCur x) hs (E := e) ?_
 simp [execOp, ho, Instr.box, newVar, newRow]
theorem Inv.setBox (h : Inv c γ D st a w) {k : Nat} {cs : List AV} (hk : find k st.b = some cs) {cs' : List AV} {vs' : Array Value} (hn : vs'.size = cs'.length) (hR : ∀ (i : Nat) (c : AV) (v : Value), cs'[i]? = some c → vs'[i]? = some v → RepV γ w D st c v ∧ (c = .undef ∨ c.cell1 = true)) :
  Inv c γ D { st with b := AM.put k cs' st.b } a (w.setRow (γ.bx k) vs') := by
 obtain ⟨ho, vs, E, hblk, _, _⟩ := h.bx k cs hk
 have hp : Pres D w (w.setRow (γ.bx k) vs') := by
  intro b o hD
  refine cell_setRow_other w _ _ _ ?_
  intro e
  simp only at e
  subst e
  exact h.live _ k (.inl ho) o hD
 have hV : ∀ {av : AV} {v : Value}, RepV γ w D st av v → RepV γ (w.setRow (γ.bx k) vs') D { st with b := AM.put k cs' st.b } av v := by
  intro av v hv
  refine RepV.mono (st := st) (st' := { st with b := AM.put k cs' st.b }) hp (fun _ _ hd => hd) (fun _ => Nat.le_refl _) (fun k' _ => ⟨rfl, rfl, fun xs hx => ⟨xs, hx, rfl⟩, fun s xs v => ?_⟩) hv
  rintro ⟨A, cap, e, hc⟩
  refine ⟨A, cap, e, hc.imp id ?_⟩
  rintro ⟨hA, ho', q1, q2, q4⟩
  have hne : γ.tp k' ≠ γ.bx k := by
   intro e
   rw [e, ho] at ho'
   simp at ho'
  have hbk := setRow_other w (γ.bx k) (γ.tp k') vs' hne
  exact ⟨hA, ho', q1, fun o hlt' => ⟨by rw [World.cell?_of_block (a := ⟨γ.tp k', o, none⟩) hbk]; exact (q2 o hlt').1, by rw [World.frozen?_of_block (a := ⟨γ.tp k', o, none⟩) hbk]; exact (q2 o hlt').2⟩, q4⟩
 refine ⟨h.nt, h.dfr, fun t => hV (h.tm t), fun k' cs'' hk' => ?_, fun k' xs hk' => ?_, fun b q hq => by rw [setRow_size]; exact h.own b q hq, h.live, ?_, h.dold, fun b o hD => by rw [setRow_size]; exact h.dlt b o hD, h.pk⟩
 ·simp only at hk'
  by_cases e : k' = k
  ·subst e
   rw [find_put_same] at hk'
   simp only [Option.some.injEq] at hk'
   subst hk'
   exact ⟨ho, vs', E, setRow_heap w _ vs vs' E _ hblk, hn, fun i c v hi hj => ⟨hV (hR i c v hi hj).1, (hR i c v hi hj).2⟩⟩
  ·rw [find_put_ne e] at hk'
   obtain ⟨q1, vs'', E', q2, q3, q4⟩ := h.bx k' cs'' hk'
   have hne : γ.bx k' ≠ γ.bx k := by
    intro e'
    rw [e', ho] at q1
    simp at q1
    exact e q1.symm
   exact ⟨q1, vs'', E', (setRow_other w _ _ vs' hne).trans q2, q3, fun i c v hi hj => ⟨hV (q4 i c v hi hj).1, (q4 i c v hi hj).2⟩⟩
 ·obtain ⟨q1, vs'', E', q2, q3, q4⟩ := h.rw k' xs hk'
  have hne : γ.rw k' ≠ γ.bx k := by
   intro e'
   rw [e', ho] at q1
   simp at q1
  exact ⟨q1, vs'', E', (setRow_other w _ _ vs' hne).trans q2, q3, fun i c v hi hj => ⟨(q4 i c v hi hj).1.mono hp (fun _ _ hd => hd), (q4 i c v hi hj).2⟩⟩
 ·refine ⟨h.fr.os, h.fr.tape, h.fr.output, by rw [setRow_size]; exact h.fr.size, fun b hb hn' => ?_⟩
  refine (setRow_other w _ b vs' ?_).trans (h.fr.block b hb hn')
  intro e
  subst e
  rcases (h.own _ _ ho).2 with hh | hh
  ·omega
  ·exact hn' hh.1
end
section
variable {P : Program} {c : Ctx} {γ : Gh} {D D' : Dead} {st : St} {a : Act} {w w' : World} {tb : Tb}
theorem gives_skip {o : Oper} {st' : St} {γ' : Gh} (hd : o.dst = none) (h : Inv c γ' D' st' a w') (hr : (execOp a.eval o).run P w = .ok .skip w') : Gives P c o a w st' :=
 ⟨Go.undef, w', .inr ⟨hr, rfl⟩, γ', D', by rw [hd]; exact h⟩
theorem take_set (cur : Array Value) (o : Nat) (vs : List Value) (h : o + vs.length ≤ cur.size) (j : Nat) : ((cur.toList.take o ++ vs ++ cur.toList.drop (o + vs.length)).toArray)[j]? = if o ≤ j ∧ j < o + vs.length then vs[j - o]? else cur[j]? := by
 have hl : (cur.toList.take o).length = o := by rw [List.length_take, Array.length_toList]; omega
 simp only [List.getElem?_toArray]
 by_cases h1 : j < o
 ·have h2 : ¬ (o ≤ j ∧ j < o + vs.length) := by omega
  rw [if_neg h2, List.append_assoc, List.getElem?_append_left (by omega), List.getElem?_take, if_pos h1, Array.getElem?_toList]
 ·by_cases h2 : j < o + vs.length
  ·have h3 : o ≤ j ∧ j < o + vs.length := by omega
   rw [if_pos h3, List.append_assoc, List.getElem?_append_right (by omega), hl, List.getElem?_append_left (by omega)]
  ·have h3 : ¬ (o ≤ j ∧ j < o + vs.length) := by omega
   have hl2 : (cur.toList.take o ++ vs).length = o + vs.length := by rw [List.length_append, hl]
   rw [if_neg h3, List.getElem?_append_right (by omega), hl2, List.getElem?_drop, Array.getElem?_toList]
   congr 1
   omega
theorem Inv.setRw (h : Inv c γ D st a w) {k : Nat} {xs : List AV} (hk : find k st.r = some xs) {i : Nat} {v : AV} {cv : Value} (hi : i < xs.length) (hv : RepD w D v cv) (h1 : v.cell1 = true) :
  ∃ vs, w.heap[γ.rw k]? = some (.cells vs ((w.heap[γ.rw k]?.elim 0 fun | .cells _ E _ => E | _ => 0)) (0, 0)) ∧ i < vs.size ∧ Inv c γ D { st with r := AM.put k (xs.set i v) st.r } a (w.setRow (γ.rw k) (vs.setIfInBounds i cv)) := by
 obtain ⟨ho, vs, E, hblk, hsz, hR⟩ := h.rw k xs hk
 refine ⟨vs, by simp [hblk], by omega, ?_⟩
 have hp : Pres D w (w.setRow (γ.rw k) (vs.setIfInBounds i cv)) := by
  intro b o hD
  refine cell_setRow_other w _ _ _ ?_
  intro e
  simp only at e
  subst e
  exact h.live _ k (.inr ho) o hD
 have hV : ∀ {av : AV} {v' : Value}, RepV γ w D st av v' → RepV γ (w.setRow (γ.rw k) (vs.setIfInBounds i cv)) D { st with r := AM.put k (xs.set i v) st.r } av v' := by
  intro av v' hv'
  refine RepV.mono (st := st) (st' := { st with r := AM.put k (xs.set i v) st.r }) hp (fun _ _ hd => hd) (fun _ => Nat.le_refl _) (fun k' _ => ⟨rfl, rfl, fun zs hz => ?_, fun s zs v'' => ?_⟩) hv'
  ·simp only at hz
   by_cases e : k' = k
   ·subst e
    rw [find_put_same] at hz
    simp only [Option.some.injEq] at hz
    exact ⟨xs, hk, by rw [← hz]; simp⟩
   ·rw [find_put_ne e] at hz
    exact ⟨zs, hz, rfl⟩
  ·rintro ⟨A, cap, e, hc⟩
   refine ⟨A, cap, e, hc.imp id ?_⟩
   rintro ⟨hA, ho', q1, q2, q4⟩
   have hne : γ.tp k' ≠ γ.rw k := by
    intro e
    rw [e, ho] at ho'
    simp at ho'
   have hbk := setRow_other w (γ.rw k) (γ.tp k') (vs.setIfInBounds i cv) hne
   exact ⟨hA, ho', q1, fun o hlt' => ⟨by rw [World.cell?_of_block (a := ⟨γ.tp k', o, none⟩) hbk]; exact (q2 o hlt').1, by rw [World.frozen?_of_block (a := ⟨γ.tp k', o, none⟩) hbk]; exact (q2 o hlt').2⟩, q4⟩
 refine ⟨h.nt, h.dfr, fun t => hV (h.tm t), fun k' cs'' hk' => ?_, fun k' zs hk' => ?_, fun b q hq => by rw [setRow_size]; exact h.own b q hq, h.live, ?_, h.dold, fun b o hD => by rw [setRow_size]; exact h.dlt b o hD, h.pk⟩
 ·obtain ⟨q1, vs'', E', q2, q3, q4⟩ := h.bx k' cs'' hk'
  have hne : γ.bx k' ≠ γ.rw k := by
   intro e'
   rw [e', ho] at q1
   simp at q1
  exact ⟨q1, vs'', E', (setRow_other w _ _ _ hne).trans q2, q3, fun i c v hi hj => ⟨hV (q4 i c v hi hj).1, (q4 i c v hi hj).2⟩⟩
 ·simp only at hk'
  by_cases e : k' = k
  ·subst e
   rw [find_put_same] at hk'
   simp only [Option.some.injEq] at hk'
   subst hk'
   refine ⟨ho, _, E, setRow_heap w _ vs _ E _ hblk, by simp [hsz], fun i' c' v' hi' hj' => ?_⟩
   rw [List.getElem?_set] at hi'
   rw [Array.getElem?_setIfInBounds] at hj'
   split at hi'
   ·rename_i e1
    subst e1
    have e2 : c' = v := by simpa [hi] using hi'.symm
    have e3 : v' = cv := by simpa [show i < vs.size by omega] using hj'.symm
    subst e2
    subst e3
    exact ⟨hv.mono hp (fun _ _ hd => hd), h1⟩
   ·rename_i e1
    rw [if_neg e1] at hj'
    obtain ⟨q1, q2⟩ := hR i' c' v' hi' hj'
    exact ⟨q1.mono hp (fun _ _ hd => hd), q2⟩
  ·rw [find_put_ne e] at hk'
   obtain ⟨q1, vs'', E', q2, q3, q4⟩ := h.rw k' zs hk'
   have hne : γ.rw k' ≠ γ.rw k := by
    intro e'
    rw [e', ho] at q1
    simp at q1
    exact e q1.symm
   exact ⟨q1, vs'', E', (setRow_other w _ _ _ hne).trans q2, q3, fun i c v hi hj => ⟨(q4 i c v hi hj).1.mono hp (fun _ _ hd => hd), (q4 i c v hi hj).2⟩⟩
 ·refine ⟨h.fr.os, h.fr.tape, h.fr.output, by rw [setRow_size]; exact h.fr.size, fun b hb hn' => ?_⟩
  refine (setRow_other w _ b _ ?_).trans (h.fr.block b hb hn')
  intro e
  subst e
  rcases (h.own _ _ ho).2 with hh | hh
  ·omega
  ·exact absurd hh.2 (by simp)
theorem sound_store (hT : TbOk P tb) {o : Oper} (h : Inv c γ D st a w) {t : Nat} {x y : Operand} (ho : o.op = .store t x y) (hd : o.dst = none) {st' : St} (hv : storeA tb st t (st.ev x) (st.ev y) = some st') : Gives P c o a w st' := by
 have hx := h.ev x
 have cx := st.ev_isCur x
 have hy := h.ev y
 have cy := st.ev_isCur y
 generalize st.ev x = X at hx hv cx
 generalize st.ev y = Y at hy hv cy
 unfold storeA at hv
 split at hv
 ·simp at hv
 rename_i ti hti
 have ht := hT _ _ hti
 split at hv
 ·rename_i k g off
  split at hv
  ·rename_i cs hk
   obtain ⟨hown, vs, E, hblk, hsz, hR⟩ := h.bx k cs hk
   have core : (∃ l, Y = .agg l) ∨ Y.cell1 = true → Y.cells.length = ti.sz → off + Y.cells.length ≤ cs.length → Gives P c o a w { st with b := AM.put k (setCells cs off Y.cells) st.b } := by
    intro h1 hl hle
    obtain ⟨q1, q2, q3⟩ := hy.cells cy h1
    have hvl : (a.eval y).cells.toList.length = Y.cells.length := by rw [Array.length_toList]; exact q1
    have hrun : (storeVar t ⟨γ.bx k, off, none⟩ (a.eval y)).run P w = .ok () (w.setRow (γ.bx k) (vs.toList.take (off + 0) ++ (a.eval y).cells.toList ++ vs.toList.drop (off + 0 + (a.eval y).cells.toList.length)).toArray) := by
     unfold storeVar
     simp only [Sem.run_bind, ty_size ht, Result.andThen_ok]
     rw [if_neg (by rw [q1, hl]; simp)]
     exact run_storeCells_at (P := P) (γ.bx k) off E (a.eval y).cells.toList 0 vs w hblk (by rw [hvl]; omega) (fun v hv => q3 v (by simpa using hv))
    refine gives_skip (γ' := γ) (D' := D) hd ?_ (w' := w.setRow (γ.bx k) (vs.toList.take (off + 0) ++ (a.eval y).cells.toList ++ vs.toList.drop (off + 0 + (a.eval y).cells.toList.length)).toArray) ?_
    ·refine h.setBox hk ?_ (fun i c' v' hi hj => ?_)
     ·rw [setCells_len]
      simp only [List.size_toArray, List.length_append, List.length_take, List.length_drop, hvl, Array.length_toList]
      omega
     ·rw [setCells_get _ _ _ _ hle] at hi
      rw [Nat.add_zero, take_set vs off _ (by rw [hvl]; omega), hvl] at hj
      split at hi
      ·rename_i hc
       rw [if_pos hc, Array.getElem?_toList] at hj
       exact q2 _ _ _ hi hj
      ·rename_i hc
       rw [if_neg hc] at hj
       exact hR _ _ _ hi hj
    ·simp [execOp, ho, inv_ptr hx cx, Instr.storeAt, Instr.sureAddr, hrun]
   split at hv
   ·rename_i l
    split at hv
    ·rename_i hc
     simp only [Option.some.injEq] at hv
     subst hv
     exact core (.inl ⟨_, rfl⟩) hc.1 hc.2
    ·simp at hv
   ·split at hv
    ·rename_i hc
     obtain ⟨c1, c2, c3⟩ := hc
     simp only [Option.some.injEq] at hv
     subst hv
     have e2 : Y.cells = [Y] := by cases Y <;> first | rfl | simp [AV.cell1] at c1
     have := core (.inr c1) (by rw [e2]; simp [c2]) (by rw [e2]; simp; omega)
     rw [e2] at this
     exact this
    ·simp at hv
  ·simp at hv
 ·rename_i k g i
  split at hv
  ·rename_i hs1
   split at hv
   ·rename_i xs v hk hdat
    split at hv
    ·rename_i hc
     obtain ⟨c1, c2⟩ := hc
     simp only [Option.some.injEq] at hv
     subst hv
     have hD := hy.dat hdat
     obtain ⟨vs, hblk, hlt, h'⟩ := h.setRw hk c2 hD c1
     generalize (w.heap[γ.rw k]?.elim 0 fun | .cells _ E _ => E | _ => 0) = E0 at hblk
     have hone := hD.one c1
     refine gives_skip hd h' ?_
     have hcell : w.cell? ⟨γ.rw k, i, none⟩ = some vs[i] := by rw [cell_of_block hblk, Array.getElem?_eq_getElem hlt]
     have hfro : w.frozen? ⟨γ.rw k, i, none⟩ = false := by
      unfold World.frozen?
      simp only [hblk]
      simp
     have hst : (store ((⟨γ.rw k, i, none⟩ : Addr).add 0) (a.eval y)).run P w = .ok () (w.setRow (γ.rw k) (vs.setIfInBounds i (a.eval y))) := by
      rw [addr_add, Nat.add_zero, run_store P w _ _ _ hone, hcell]
      simp [hfro, setCell_eq_setRow w (γ.rw k) i vs _ (0, 0) (a.eval y) hblk]
     have hcl : (a.eval y).cells = #[a.eval y] := one_cells hone
     simp [execOp, ho, hx.2 cx, Instr.storeAt, Instr.sureAddr, storeVar, ty_size ht, hs1, hcl, storeCells, hst]
    ·simp at hv
   ·simp at hv
  ·simp at hv
 ·simp at hv
end
section
variable {P : Program} {c : Ctx} {γ : Gh} {D D' : Dead} {st : St} {a : Act} {w w' : World} {tb : Tb}
theorem run_make {t e : Nat} {i : TypeInfo} {z : Value} (hu : P.underlying t = some (.slice e)) (hi : P.info? e = some i) (hz : i.zero = some z) (n : Nat) (kl kc : IntKind) (h63 : n ≤ 9223372036854775807) (hb : n * i.bytes ≤ 140737488355328) :
  (Instr.makeSlice t (.int kl n) (.int kc n)).run P w = .ok (.slice (some ⟨w.heap.size, 0, none⟩) n n) (w.alloc (.cells ((Array.range (n * i.size)).map (z.cells[· % z.cells.size]!)) e)) := by
 have hw : IntKind.i64.wrap (n : Int) = n := IntWalk.i64_in _ (by omega)
 have hnn : ¬ ((n : Int) < 0) := by omega
 have hmul : (i.bytes : Int) * (n : Int) ≤ 140737488355328 := by
  have h1 : ((n * i.bytes : Nat) : Int) = (i.bytes : Int) * (n : Int) := by rw [Int.natCast_mul, Int.mul_comm]
  rw [← h1]
  generalize n * i.bytes = q at hb
  omega
 have hbig : ¬ (281474976710656 < (i.bytes : Int) * (n : Int)) := by omega
 have hlt : ¬ ((n : Int) > (n : Int)) := by omega
 simp [Instr.makeSlice, run_underlying' w hu, Go.asInt, asIntOf, run_typeInfo' w hi, hw, hnn, hbig, sizeOf, zeroValue, hz, newRow]
 by_cases h0 : n * i.size = 0
 ·simp [h0, show Array.range 0 = (#[] : Array Nat) from rfl]
 ·simp [h0]
theorem Inv.newRw (h : Inv c γ D st a w) (d : Nat) {xs : List AV} {vs : Array Value} (E : Nat) (hn : vs.size = xs.length) (hR : ∀ (i : Nat) (c : AV) (v : Value), xs[i]? = some c → vs[i]? = some v → RepD w D c v ∧ c.cell1 = true) :
  ∃ γ', γ'.rw d = w.heap.size ∧ Inv c γ' D { st with r := AM.put d xs st.r, g := AM.put d (st.gen d + 1) st.g } a (w.alloc (.cells vs E)) := by
 have hb := below_alloc w (.cells vs E)
 have h0 : Inv c γ D st a (w.alloc (.cells vs E)) := h.grow hb (fun _ _ hd => hd) (fun _ _ _ hd => hd) (fun b o hd => Nat.lt_of_lt_of_le (h.dlt b o hd) hb.size)
 have hp : Pres D w (w.alloc (.cells vs E)) := h.pres hb
 refine ⟨{ γ with rw := fun k => if k = d then w.heap.size else γ.rw k, own := fun b => if b = w.heap.size then some (1, d) else γ.own b }, by simp, ?_⟩
 have hV : ∀ {av : AV} {v : Value}, RepV γ (w.alloc (.cells vs E)) D st av v →
   RepV { γ with rw := fun k => if k = d then w.heap.size else γ.rw k, own := fun b => if b = w.heap.size then some (1, d) else γ.own b } (w.alloc (.cells vs E)) D { st with r := AM.put d xs st.r, g := AM.put d (st.gen d + 1) st.g } av v := by
  intro av v hv
  refine RepV.mono (st := st) (st' := { st with r := AM.put d xs st.r, g := AM.put d (st.gen d + 1) st.g }) (fun _ _ _ => rfl) (fun _ _ hd => hd) (fun k' => ?_) (fun k' hk' => ?_) hv
  ·rw [gen_putg' st d _ k' st.b _]
   split
   ·rename_i e; subst e; omega
   ·exact Nat.le_refl _
  ·have hne : k' ≠ d := by
    intro e
    subst e
    rw [gen_putg' st k' _ k' st.b _, if_pos rfl] at hk'
    omega
   refine ⟨rfl, by simp [hne], fun zs hz => ⟨zs, by simp only at hz; rw [find_put_ne hne] at hz; exact hz, rfl⟩, fun s' zs v => ?_⟩
   rintro ⟨A, cap', e, hc⟩
   refine ⟨A, cap', e, hc.imp id ?_⟩
   rintro ⟨hA, ho, q1, q2, q4⟩
   have hlt : γ.tp k' < w.heap.size := (h.own _ _ ho).1
   simp only [show ¬ γ.tp k' = w.heap.size by omega, if_false]
   exact ⟨hA, ho, q1, q2, q4⟩
 refine ⟨h0.nt, h0.dfr, fun t => hV (h0.tm t), fun k cs' hk => ?_, fun k zs hk => ?_, fun b q hq => ?_, fun b k ho o hd => ?_, h0.fr, h0.dold, h0.dlt, h0.pk⟩
 ·obtain ⟨q1, vs', E', q2, q3, q4⟩ := h0.bx k cs' hk
  have hlt : γ.bx k < w.heap.size := (h.own _ _ q1).1
  refine ⟨by simp only [show ¬ γ.bx k = w.heap.size by omega, if_false]; exact q1, vs', E', q2, q3, fun i c v hi hj => ⟨hV (q4 i c v hi hj).1, (q4 i c v hi hj).2⟩⟩
 ·simp only at hk
  by_cases e : k = d
  ·subst e
   rw [find_put_same] at hk
   simp only [Option.some.injEq] at hk
   subst hk
   refine ⟨by simp, vs, E, by simpa using heap_alloc_new w (.cells vs E), hn, fun i c v hi hj => ⟨(hR i c v hi hj).1.mono hp (fun _ _ hd => hd), (hR i c v hi hj).2⟩⟩
  ·rw [find_put_ne e] at hk
   obtain ⟨q1, vs', E', q2, q3, q4⟩ := h0.rw k zs hk
   have hlt : γ.rw k < w.heap.size := (h.own _ _ q1).1
   exact ⟨by simp only [e, if_false, show ¬ γ.rw k = w.heap.size by omega]; exact q1, vs', E', by simp only [e, if_false]; exact q2, q3, q4⟩
 ·simp only at hq
  split at hq
  ·rename_i e
   subst e
   exact ⟨by simp, .inl h.fr.size⟩
  ·exact h0.own b q hq
 ·simp only at ho
  split at ho
  ·rename_i e
   subst e
   have := h.dlt _ _ hd
   omega
  ·exact h0.live b k ho o hd
theorem sound_make_data (hT : TbOk P tb) {o : Oper} (h : Inv c γ D st a w) {t : Nat} {l m : Operand} (ho : o.op = .makeSlice t l m) {ti te : TI} {e : Nat} (hti : find t tb = some ti) (hk : ti.k = .sl e) (hte : find e tb = some te) {kl kc : IntKind} {n : Int} (hl : st.ev l = .int kl n) (hm : st.ev m = .int kc n) (h0 : 0 ≤ n) (h63 : n ≤ 9223372036854775807)
  (hb : n.toNat * te.bytes ≤ 140737488355328) (hzl : te.z.cells.length = te.sz) {z : AV} (hz : te.z.dat = some z) : Gives P c o a w (st.put o.dst (.sl te.sz true (List.replicate n.toNat z))) := by
 have hu := ty_sl (hT _ _ hti) hk
 obtain ⟨ie, zv, hie, hzv, hs, hby, hzr⟩ := ty_zero' (hT _ _ hte) hz
 have hzl' : z.cells.length = te.sz := by rw [dat_cells_len hz, hzl]
 have el := inv_int (hl ▸ h.ev l)
 have em := inv_int (hm ▸ h.ev m)
 have hn : (n.toNat : Int) = n := Int.toNat_of_nonneg h0
 have hrun := run_make (P := P) (w := w) hu hie hzv n.toNat kl kc (by omega) (by rw [hby]; exact hb)
 rw [hn, hs] at hrun
 have hrow := zeroRow (w := w) (D := D) (hzr γ w D st).cells hzl' n.toNat
 refine gives_alloc h (hrow.rep h e) ?_
 rw [List.length_replicate]
 simp [execOp, ho, el, em, hrun]
theorem sound_make_row (hT : TbOk P tb) {o : Oper} (h : Inv c γ D st a w) {t : Nat} {l m : Operand} (ho : o.op = .makeSlice t l m) {ti te : TI} {e : Nat} (hti : find t tb = some ti) (hk : ti.k = .sl e) (hte : find e tb = some te) {kl kc : IntKind} {n : Int} (hl : st.ev l = .int kl n) (hm : st.ev m = .int kc n) (h0 : 0 ≤ n) (h63 : n ≤ 9223372036854775807)
  (hb : n.toNat * te.bytes ≤ 140737488355328) {z : AV} (hz : te.z.dat = some z) (hz1 : z.cell1 = true) (hs1 : te.sz = 1) {d : Nat} :
  Gives P c o a w (({ st with r := AM.put d (List.replicate n.toNat z) st.r, g := AM.put d (st.gen d + 1) st.g } : St).put o.dst (.row d (st.gen d + 1))) := by
 have hu := ty_sl (hT _ _ hti) hk
 obtain ⟨ie, zv, hie, hzv, hs, hby, hzr⟩ := ty_zero' (hT _ _ hte) hz
 have el := inv_int (hl ▸ h.ev l)
 have em := inv_int (hm ▸ h.ev m)
 have hn : (n.toNat : Int) = n := Int.toNat_of_nonneg h0
 have hrun := run_make (P := P) (w := w) hu hie hzv n.toNat kl kc (by omega) (by rw [hby]; exact hb)
 rw [hn, hs, hs1, Nat.mul_one] at hrun
 have hc1 : z.cells = [z] := by cases z <;> first | rfl | simp [AV.cell1] at hz1
 have hrow := zeroRow (w := w) (D := D) (s := 1) (hzr γ w D st).cells (by rw [hc1]; rfl) n.toNat
 rw [Nat.mul_one] at hrow
 obtain ⟨γ', e1, h'⟩ := h.newRw d (vs := (Array.range n.toNat).map (zv.cells[· % zv.cells.size]!)) (xs := List.replicate n.toNat z) e (by simp) (fun i c' v hi hj => by
  have hcc : c' = z := by
   rw [List.getElem?_replicate] at hi
   split at hi <;> simp at hi
   exact hi.symm
  subst hcc
  have := hrow.2.2 i c' 0 c' v hi (by rw [hc1]; rfl) (by rw [Nat.mul_one, Nat.add_zero]; exact hj)
  exact ⟨this.2, this.1⟩)
 refine ⟨_, _, .inl (by simp [execOp, ho, el, em, hrun]; rfl), γ', D, h'.put (v := .row d (st.gen d + 1)) ⟨by rw [gen_putg' st d _ d st.b _, if_pos rfl]; exact Nat.le_refl _, fun _ xs hx => ?_⟩ o.dst⟩
 simp only at hx
 rw [find_put_same] at hx
 simp only [Option.some.injEq] at hx
 subst hx
 rw [e1, List.length_replicate]
theorem sound_newArr (hT : TbOk P tb) {o : Oper} (h : Inv c γ D st a w) {e : Nat} (ho : o.op = .alloc e) {ti : TI} (hti : find e tb = some ti) {st' : St} (hs : AM.newArr st o.dst ti.z = some st') : Gives P c o a w st' := by
 unfold AM.newArr at hs
 split at hs
 ·rename_i d cs hd hz0
  simp only [Option.some.injEq] at hs
  subst hs
  obtain ⟨zv, hzr, hze⟩ := ty_zero (hT _ _ hti) (by rw [hz0]; simp) w
  have hR : RepV γ w D st (.agg cs) zv := by rw [← hz0, ← hze]; exact RepV.ofVal zv
  obtain ⟨vs, rfl, hn, hc1, hh⟩ := inv_agg (γ := γ) (st := st) hR
  obtain ⟨γ', e1, h'⟩ := h.newRw d (vs := vs) (xs := cs) e hn (fun i c' v hi hj => ⟨hh i c' v hi hj, hc1 c' (List.mem_of_getElem? hi)⟩)
  rw [← hd]
  refine ⟨_, _, .inl (by simp [execOp, ho, Instr.alloc, hzr, newVar, newRow, Value.cells]; rfl), γ', D, h'.put (v := .rowp d (st.gen d + 1) 0) ⟨by rw [gen_putg' st d _ d st.b _, if_pos rfl]; exact Nat.le_refl _, fun _ => by rw [e1]⟩ o.dst⟩
 ·simp at hs
end
section
variable {P : Program} {c : Ctx} {γ : Gh} {D D' : Dead} {st : St} {a : Act} {w w' : World} {tb : Tb}
theorem not_iface {t : Nat} {ti : TI} (h : tyOf P t = some ti) (hk : ti.k ≠ .other) : ∃ d, P.underlying t = some d ∧ ∀ ms, d ≠ .interface ms := by
 obtain ⟨i, d, _, hd, hk', _⟩ := tyOf.parts h
 refine ⟨d, hd, fun ms e => ?_⟩
 subst e
 simp [kindOf] at hk'
 exact hk hk'.symm
theorem map_one {α β : Type} {f : α → β} {l : List α} {y : β} (h : l.map f = [y]) : ∃ x, l = [x] ∧ f x = y := by
 match l, h with
 | [x], h => exact ⟨x, rfl, by simpa using h⟩
theorem map_two {α β : Type} {f : α → β} {l : List α} {y z : β} (h : l.map f = [y, z]) : ∃ x u, l = [x, u] ∧ f x = y ∧ f u = z := by
 rcases l with _ | ⟨x, _ | ⟨u, _ | ⟨v, r⟩⟩⟩
 ·simp at h
 ·simp at h
 ·simp at h; exact ⟨x, u, rfl, h⟩
 ·simp at h
theorem builtinA_sound (hT : TbOk P tb) {o : Oper} (h : Inv c γ D st a w) {b : Builtin} {args : Array Operand} {ts : Array Nat} (ho : o.op = .call { callee := .builtin b, args := args, argTypes := ts }) {st' : St}
  (hs : builtinA tb st o.dst b ts.toList (args.toList.map st.ev) = some st') : Gives P c o a w st' := by
 obtain ⟨args⟩ := args
 obtain ⟨ts⟩ := ts
 simp only at hs
 generalize hA : args.map st.ev = A at hs
 unfold builtinA at hs
 split at hs
 ·obtain ⟨x, rfl, rfl⟩ := map_one hA
  split at hs
  ·rename_i v hv
   simp only [Option.some.injEq] at hs
   subst hs
   exact sound_len hT h ho hv
  ·simp at hs
 ·obtain ⟨x, y, rfl, e1, e2⟩ := map_two hA
  simp only [Option.some.injEq] at hs
  subst hs
  exact sound_min h ho e1 e2
 ·obtain ⟨x, y, rfl, e1, e2⟩ := map_two hA
  simp only [Option.some.injEq] at hs
  subst hs
  exact sound_max h ho e1 e2
 ·obtain ⟨x, y, rfl, rfl, rfl⟩ := map_two hA
  split at hs
  ·rename_i d e sz by_ z sy ys hd hti hsrc
   split at hs
   ·rename_i te hte
    split at hs
    ·rename_i v g hv
     simp only [Option.some.injEq] at hs
     subst hs
     exact sound_append hT h ho hti rfl hte hsrc hv
    ·simp at hs
   ·simp at hs
  ·simp at hs
 ·simp at hs
theorem stepA_sound (hT : TbOk P tb) {draw : Bool} {o : Oper} (h : Inv c γ D st a w) {st' : St} (hs : stepA tb draw st o = some st') : Gives P c o a w st' := by
 unfold stepA at hs
 split at hs
 ·rename_i x ho
  simp only [Option.some.injEq] at hs
  subst hs
  exact sound_move h x (.inl ho)
 ·rename_i x ho
  simp only [Option.some.injEq] at hs
  subst hs
  exact sound_move h x (.inr ho)
 ·rename_i x y z ho
  split at hs
  ·rename_i t hx
   simp only [Option.some.injEq] at hs
   subst hs
   exact sound_pick h ho hx
  ·simp at hs
 ·rename_i e ho
  split at hs
  ·simp at hs
  ·split at hs
   ·rename_i ti hti
    cases hai : arrInt tb ti with
    | true => rw [hai] at hs; exact sound_newArr hT h ho hti hs
    | false => rw [hai] at hs; exact sound_alloc hT h ho hti hs
   ·simp at hs
 ·rename_i e x ho
  split at hs
  ·simp at hs
  ·exact sound_box h ho hs
 ·rename_i t ps ho
  split at hs
  ·rename_i fs sz by_ z hti
   split at hs
   ·rename_i z' hz
    split at hs
    ·rename_i cs hf
     simp only [Option.some.injEq] at hs
     subst hs
     exact sound_build hT h ho hti rfl rfl hz hf
    ·simp at hs
   ·simp at hs
  ·simp at hs
 ·rename_i t n ps ho
  split at hs
  ·rename_i e sz by_ z hti
   split at hs
   ·rename_i te hte
    split at hs
    ·rename_i hc
     obtain ⟨c1, c2, c3, c4⟩ := hc
     split at hs
     ·rename_i zz hz
      split at hs
      ·rename_i xs hf
       simp only [Option.some.injEq] at hs
       subst hs
       exact sound_buildSlice hT h ho hti rfl hte c1 c2 c3 hz hf c4
      ·simp at hs
     ·simp at hs
    ·simp at hs
   ·simp at hs
  ·simp at hs
 ·rename_i t x ho
  split at hs
  ·rename_i v rd hv
   simp only [Option.some.injEq] at hs
   subst hs
   exact sound_load hT h ho hv
  ·simp at hs
 ·rename_i t x y ho
  split at hs
  ·rename_i hd
   exact sound_store hT h ho hd hs
  ·simp at hs
 ·rename_i x ho
  exact sound_nilCheck h ho hs
 ·rename_i op t x y u ho
  split at hs
  ·rename_i v hv
   simp only [Option.some.injEq] at hs
   subst hs
   exact sound_binOp hT h ho hv
  ·simp at hs
 ·rename_i op t x ho
  split at hs
  ·rename_i v hv
   simp only [Option.some.injEq] at hs
   subst hs
   exact sound_unOp h ho hv
  ·simp at hs
 ·rename_i s d x ho
  split at hs
  ·rename_i ts td hts htd
   exact sound_convert hT h ho hts htd hs
  ·simp at hs
 ·rename_i t x ho
  split at hs
  ·rename_i ti v hti hv
   split at hs
   ·simp at hs
   ·rename_i hk
    simp only [Option.some.injEq] at hs
    subst hs
    exact sound_makeInterface h ho hv (not_iface (hT _ _ hti) hk)
  ·simp at hs
 ·rename_i t l m ho
  split at hs
  ·rename_i e sz by_ z kl n kc n' hti hl hm
   split at hs
   ·rename_i te hte
    split at hs
    ·rename_i hc
     obtain ⟨rfl, c1, c2, c3⟩ := hc
     split at hs
     ·rename_i zz hz
      split at hs
      ·split at hs
       ·rename_i hzl
        simp only [Option.some.injEq] at hs
        subst hs
        exact sound_make_data hT h ho hti rfl hte hl hm c1 c2 (of_decide_eq_true c3) hzl hz
       ·simp at hs
      ·split at hs
       ·rename_i d hd
        split at hs
        ·rename_i hc2
         simp only [Option.some.injEq] at hs
         subst hs
         rw [← hd]
         exact sound_make_row hT h ho hti rfl hte hl hm c1 c2 (of_decide_eq_true c3) hz hc2.2 hc2.1
        ·simp at hs
       ·simp at hs
     ·simp at hs
    ·simp at hs
   ·simp at hs
  ·simp at hs
 ·rename_i t x lo hi mx ho
  split at hs
  ·rename_i v hv
   simp only [Option.some.injEq] at hs
   subst hs
   exact sound_slice hT h ho hv
  ·simp at hs
 ·rename_i s x f ho
  split at hs
  ·rename_i fs sz by_ z hti
   split at hs
   ·rename_i off ft k g o' hf hx
    simp only [Option.some.injEq] at hs
    subst hs
    exact (sound_fieldAddr hT h ho hti rfl hf).1 _ _ _ hx
   ·rename_i off ft s' el j hf hx
    simp only [Option.some.injEq] at hs
    subst hs
    exact (sound_fieldAddr hT h ho hti rfl hf).2 _ _ _ hx
   ·simp at hs
  ·simp at hs
 ·rename_i s x f ho
  split at hs
  ·rename_i fs sz by_ z cs hti hx
   split at hs
   ·rename_i off t hf
    split at hs
    ·rename_i tf htf
     split at hs
     ·rename_i v hp
      simp only [Option.some.injEq] at hs
      subst hs
      exact sound_field hT h ho hti rfl hf hx htf hp
     ·simp at hs
    ·simp at hs
   ·simp at hs
  ·simp at hs
 ·rename_i t x i ho
  split at hs
  ·rename_i k n hi
   split at hs
   ·rename_i v hv
    simp only [Option.some.injEq] at hs
    subst hs
    exact sound_indexAddr hT h ho hi hv
   ·simp at hs
  ·simp at hs
 ·rename_i t x i ho
  split at hs
  ·rename_i sz by_ z s k n hti hx hi
   split at hs
   ·rename_i h0
    split at hs
    ·rename_i b hb
     simp only [Option.some.injEq] at hs
     subst hs
     exact sound_index_str h ho (ty_str (hT _ _ hti) rfl) hx hi h0 hb
    ·simp at hs
   ·simp at hs
  ·rename_i n e sz by_ z cs k m hti hx hi
   split at hs
   ·rename_i hc
    split at hs
    ·rename_i te hte
     split at hs
     ·rename_i v hp
      simp only [Option.some.injEq] at hs
      subst hs
      exact sound_index_arr hT h ho (ty_arr (hT _ _ hti) rfl) hte hx hi hc.1 hc.2 hp
     ·simp at hs
    ·simp at hs
   ·simp at hs
  ·simp at hs
 ·rename_i x i ho
  split at hs
  ·rename_i vs hx
   split at hs
   ·rename_i v hv
    simp only [Option.some.injEq] at hs
    subst hs
    exact sound_extract h ho hx hv
   ·simp at hs
  ·simp at hs
 ·rename_i cl ho
  split at hs
  ·rename_i b hb
   obtain ⟨callee, args, ts⟩ := cl
   simp only at hb hs
   subst hb
   exact builtinA_sound hT h ho hs
  ·simp at hs
 ·simp at hs
end
def RepR (w : World) (D : Dead) : AV → Value → Prop
 | .tup vs, v => ∃ arr : Array Value, v = .tuple arr ∧ arr.size = vs.length ∧ ∀ (i : Nat) (c : AV) (cv : Value), vs[i]? = some c → arr[i]? = some cv → RepD w D c cv
 | a, v => RepD w D a v
def ArgRep (w : World) (D : Dead) (B : Nat → Nat) : AV → Value → Prop
 | .ptr n _ off, cv => cv = .pointer (some ⟨B n, off, none⟩)
 | v, cv => RepD w D v cv
def ArgsRep (w : World) (D : Dead) (B : Nat → Nat) (vs : List AV) (args : Array Value) : Prop :=
 args.size = vs.length ∧ ∀ (i : Nat) (v : AV) (cv : Value), vs[i]? = some v → args[i]? = some cv → ArgRep w D B v cv
def BoxRep (w : World) (D : Dead) (B : Nat → Nat) (bs : Boxes) : Prop :=
 ∀ (n : Nat) (cs : List AV), bs[n]? = some cs → ∃ vs E, w.heap[B n]? = some (.cells vs E (0, 0)) ∧ vs.size = cs.length ∧ ∀ (i : Nat) (c : AV) (v : Value), cs[i]? = some c → vs[i]? = some v → RepD w D c v ∧ c.cell1 = true
structure After (w w' : World) (D D' : Dead) (B : Nat → Nat) (nb : Nat) : Prop where
 os : w'.os = w.os
 tape : w'.tape = w.tape
 output : w'.output = w.output
 size : w.heap.size ≤ w'.heap.size
 block : ∀ b, b < w.heap.size → (∀ n, n < nb → b ≠ B n) → w'.heap[b]? = w.heap[b]?
 d1 : ∀ b o, D b o → D' b o
 d2 : ∀ b o, b < w.heap.size → D' b o → D b o
 d3 : ∀ b o, D' b o → b < w'.heap.size
def Post (w : World) (D : Dead) (B : Nat → Nat) (nb : Nat) (r : AV) (bs' : Boxes) (e : Ending) (w' : World) : Prop :=
 ∃ cv D', e = .returned cv ∧ RepR w' D' r cv ∧ BoxRep w' D' B bs' ∧ bs'.length = nb ∧ After w w' D D' B nb
def SoundF (P : Program) (F : Fns) : Prop :=
 ∀ f vs bs r bs', F f vs bs = some (r, bs') →
  (∃ fn, P.funcs[f]? = some fn ∧ (fn.name == "runtime.NumGoroutine") = false ∧ fn.body.isNone = false) ∧
  ∀ (w : World) (D : Dead) (B : Nat → Nat) (args : Array Value), (∀ b o, D b o → b < w.heap.size) → ArgsRep w D B vs args → BoxRep w D B bs →
   (∀ m n, m < bs.length → n < bs.length → B m = B n → m = n) → (∀ n, n < bs.length → ∀ o, ¬ D (B n) o) → Calls P f args w (Post w D B bs.length r bs')
theorem asInt_some {k : IntKind} {v : AV} {K : Int → Res} {r : AV × Boxes} (h : zIn k v K = some r) : ∃ n, v = .int k n ∧ K n = some r := by
 unfold zIn at h
 split at h
 ·split at h
  ·rename_i e; subst e; exact ⟨_, rfl, h⟩
  ·simp at h
 ·simp at h
theorem shCell_some {s : Sh} {v : AV} {K : AV → Res} {r : AV × Boxes} (h : shCell s v K = some r) : K v = some r := by
 unfold shCell at h
 split at h
 ·obtain ⟨n, e, h'⟩ := asInt_some h; subst e; exact h'
 ·unfold zBo at h; split at h <;> first | exact h | simp at h
 ·unfold zSt at h; split at h <;> first | exact h | simp at h
 ·unfold asSl at h; split at h <;> first | exact h | simp at h
 ·unfold asRp at h
  split at h
  ·split at h
   ·rename_i e; subst e; exact h
   ·simp at h
  ·simp at h
 ·exact h
theorem shCells_some : ∀ {l : List Sh} {cs : List AV} {K : List AV → Res} {r : AV × Boxes}, shCells l cs K = some r → K cs = some r
 | [], cs, K, r, h => by
  unfold shCells zNi at h
  split at h <;> first | exact h | simp at h
 | s :: l, cs, K, r, h => by
  unfold shCells zCo at h
  split at h
  ·have h1 := shCell_some h
   exact shCells_some (K := fun vs => K (_ :: vs)) h1
  ·simp at h
theorem shVal_some {s : Sh} {v : AV} {K : AV → Res} {r : AV × Boxes} (h : shVal s v K = some r) : K v = some r := by
 unfold shVal at h
 split at h
 ·unfold zAg at h
  split at h
  ·exact shCells_some (K := fun cs => K (.agg cs)) h
  ·simp at h
 ·exact shCell_some h
theorem shVals_some : ∀ {l : List Sh} {cs : List AV} {K : List AV → Res} {r : AV × Boxes}, shVals l cs K = some r → K cs = some r
 | [], cs, K, r, h => by
  unfold shVals zNi at h
  split at h <;> first | exact h | simp at h
 | s :: l, cs, K, r, h => by
  unfold shVals zCo at h
  split at h
  ·have h1 := shVal_some h
   exact shVals_some (K := fun vs => K (_ :: vs)) h1
  ·simp at h
theorem shRes_some {s : Sh} {v : AV} {K : AV → Res} {r : AV × Boxes} (h : shRes s v K = some r) : K v = some r := by
 unfold shRes at h
 split at h
 ·unfold zTu at h
  split at h
  ·exact shVals_some (K := fun cs => K (.tup cs)) h
  ·simp at h
 ·exact shVal_some h
theorem shBoxes_some : ∀ {bs l : Boxes} {K : Boxes → Res} {r : AV × Boxes}, shBoxes bs l K = some r → K l = some r ∧ l.length = bs.length
 | [], l, K, r, h => by
  unfold shBoxes zNi at h
  split at h
  ·exact ⟨h, rfl⟩
  ·simp at h
 | b :: bs, l, K, r, h => by
  unfold shBoxes zCo at h
  split at h
  ·have h1 := shCells_some h
   obtain ⟨h2, h3⟩ := shBoxes_some (K := fun vs => K (_ :: vs)) h1
   exact ⟨h2, by simp [h3]⟩
  ·simp at h
theorem pass_spec {st : St} : ∀ {args vs : List AV} {ks : List Nat} {n : Nat}, st.pass n args = some (vs, ks) →
  vs.length = args.length ∧ ks.Nodup ∧ ∀ (i : Nat) (v : AV), vs[i]? = some v → ∃ x, args[i]? = some x ∧ ((∃ k g off m, x = .ptr k g off ∧ v = .ptr m 0 off ∧ n ≤ m ∧ ks[m - n]? = some k) ∨ (x.dat = some v ∧ ∀ k g off, x ≠ .ptr k g off))
 | [], vs, ks, n, h => by
  simp only [St.pass, Option.some.injEq, Prod.mk.injEq] at h
  obtain ⟨rfl, rfl⟩ := h
  simp
 | x :: r, vs, ks, n, h => by
  unfold St.pass at h
  split at h
  ·rename_i e; cases e
  ·rename_i k g off r' e
   simp only [List.cons.injEq] at e
   obtain ⟨rfl, rfl⟩ := e
   split at h
   ·rename_i vs' ks' hp
    split at h
    ·simp at h
    ·rename_i hnc
     simp only [Option.some.injEq, Prod.mk.injEq] at h
     obtain ⟨rfl, rfl⟩ := h
     obtain ⟨h1, h2, h3⟩ := pass_spec hp
     refine ⟨by simp [h1], List.nodup_cons.2 ⟨by simpa using hnc, h2⟩, fun i v hi => ?_⟩
     cases i with
     | zero =>
      simp at hi
      subst hi
      exact ⟨_, rfl, .inl ⟨k, g, off, n, rfl, rfl, Nat.le_refl _, by simp⟩⟩
     | succ i =>
      simp only [List.getElem?_cons_succ] at hi
      obtain ⟨y, hy, hc⟩ := h3 i v hi
      refine ⟨y, by simpa using hy, hc.imp ?_ id⟩
      rintro ⟨k', g', off', m, e1, e2, e3, e4⟩
      refine ⟨k', g', off', m, e1, e2, by omega, ?_⟩
      have : m - n = (m - (n + 1)) + 1 := by omega
      rw [this, List.getElem?_cons_succ]
      exact e4
   ·simp at h
  ·rename_i v' r' hne e
   simp only [List.cons.injEq] at e
   obtain ⟨rfl, rfl⟩ := e
   split at h
   ·rename_i a vs' ks' hd hp
    simp only [Option.some.injEq, Prod.mk.injEq] at h
    obtain ⟨rfl, rfl⟩ := h
    obtain ⟨h1, h2, h3⟩ := pass_spec hp
    refine ⟨by simp [h1], h2, fun i v hi => ?_⟩
    cases i with
    | zero =>
     simp at hi
     subst hi
     exact ⟨_, rfl, .inr ⟨hd, fun k g off e => hne k g off e⟩⟩
    | succ i =>
     simp only [List.getElem?_cons_succ] at hi
     obtain ⟨y, hy, hc⟩ := h3 i v hi
     exact ⟨y, by simpa using hy, hc⟩
   ·simp at h
theorem boxesAt_spec {st : St} : ∀ {ks : List Nat} {bs : Boxes}, st.boxesAt ks = some bs → bs.length = ks.length ∧ ∀ (n : Nat) (k : Nat) (c : List AV), ks[n]? = some k → bs[n]? = some c → ∃ cs, find k st.b = some cs ∧ datAll (cs.map st.cur) = some c
 | [], bs, h => by
  simp only [St.boxesAt, Option.some.injEq] at h
  subst h
  simp
 | k :: r, bs, h => by
  simp only [St.boxesAt] at h
  split at h
  ·rename_i cs l hk hl
   split at h
   ·rename_i c hc
    simp only [Option.some.injEq] at h
    subst h
    obtain ⟨h1, h2⟩ := boxesAt_spec hl
    refine ⟨by simp [h1], fun n k' c' hn hc' => ?_⟩
    cases n with
    | zero =>
     simp at hn hc'
     subst hn
     subst hc'
     exact ⟨cs, hk, hc⟩
    | succ n => exact h2 n k' c' (by simpa using hn) (by simpa using hc')
   ·simp at h
  ·simp at h
theorem putBoxes_find : ∀ {ks : List Nat} {bs : Boxes} {b : List (Nat × List AV)}, ks.Nodup → bs.length = ks.length → (∀ (n k : Nat) (c : List AV), ks[n]? = some k → bs[n]? = some c → find k (putBoxes b ks bs) = some c) ∧ (∀ k, k ∉ ks → find k (putBoxes b ks bs) = find k b)
 | [], bs, b, _, hl => by
  have : bs = [] := List.eq_nil_of_length_eq_zero (by simpa using hl)
  subst this
  simp [putBoxes]
 | k :: ks, [], b, _, hl => by simp at hl
 | k :: ks, c :: bs, b, hn, hl => by
  obtain ⟨h1, h2⟩ := List.nodup_cons.1 hn
  obtain ⟨h3, h4⟩ := putBoxes_find (ks := ks) (bs := bs) (b := put k c b) h2 (by simpa using hl)
  refine ⟨fun n k' c' hk hc => ?_, fun k' hk => ?_⟩
  ·cases n with
   | zero =>
    simp at hk hc
    subst hk
    subst hc
    show find k (putBoxes (put k c b) ks bs) = some c
    rw [h4 k h1, find_put_same]
   | succ n => exact h3 n k' c' (by simpa using hk) (by simpa using hc)
  ·simp only [List.mem_cons, not_or] at hk
   show find k' (putBoxes (put k c b) ks bs) = find k' b
   rw [h4 k' hk.2, find_put_ne hk.1]
section
variable {P : Program} {c : Ctx} {γ : Gh} {D D' : Dead} {st : St} {a : Act} {w w' : World} {tb : Tb}
theorem RepR.v {r : AV} {cv : Value} (h : RepR w D r cv) : RepV γ w D st r cv := by
 cases r <;> first | exact h | (cases (show RepD w D _ cv from h); done) | exact .of h
theorem Inv.afterCall (h : Inv c γ D st a w) {ks : List Nat} (hnd : ks.Nodup) (hks : ∀ k ∈ ks, ∃ cs, find k st.b = some cs) {bs' : Boxes} (hl : bs'.length = ks.length) (hb : BoxRep w' D' (fun n => γ.bx (ks.getD n 0)) bs') (ha : After w w' D D' (fun n => γ.bx (ks.getD n 0)) ks.length) (wr : List Nat) :
  Inv c γ D' { st with b := putBoxes st.b ks bs', wr := wr } a w' := by
 have hown : ∀ n, n < ks.length → γ.own (γ.bx (ks.getD n 0)) = some (0, ks.getD n 0) := by
  intro n hn
  have hm : ks.getD n 0 ∈ ks := by simp [List.getD, List.getElem?_eq_getElem hn]
  obtain ⟨cs, hcs⟩ := hks _ hm
  exact (h.bx _ _ hcs).1
 have hblk : ∀ b, b < w.heap.size → (∀ k ∈ ks, γ.own b ≠ some (0, k)) → w'.heap[b]? = w.heap[b]? := by
  intro b hlt hne
  refine ha.block b hlt fun n hn e => ?_
  have hm : ks.getD n 0 ∈ ks := by simp [List.getD, List.getElem?_eq_getElem hn]
  exact hne _ hm (by rw [e]; exact hown n hn)
 have hp : Pres D w w' := by
  intro b o hD
  have hlt := h.dlt b o hD
  have : w'.heap[b]? = w.heap[b]? := hblk b hlt (fun k _ e => h.live b k (.inl e) o hD)
  exact World.cell?_of_block (a := ⟨b, o, none⟩) this
 have hg : ∀ k, St.gen { st with b := putBoxes st.b ks bs', wr := wr } k = st.gen k := fun _ => rfl
 have hV : ∀ {av : AV} {v : Value}, RepV γ w D st av v → RepV γ w' D' { st with b := putBoxes st.b ks bs', wr := wr } av v := by
  intro av v hv
  refine RepV.mono (st := st) (st' := { st with b := putBoxes st.b ks bs', wr := wr }) hp ha.d1 (fun k => Nat.le_of_eq (hg k).symm) (fun k' _ => ⟨rfl, rfl, fun xs hx => ⟨xs, hx, rfl⟩, fun s xs v => ?_⟩) hv
  rintro ⟨A, cap, e, hc⟩
  refine ⟨A, cap, e, hc.imp id ?_⟩
  rintro ⟨hA, ho', q1, q2, q4⟩
  have hlt := (h.own _ _ ho').1
  have hbk : w'.heap[γ.tp k']? = w.heap[γ.tp k']? := hblk _ hlt (fun k _ e => by rw [ho'] at e; simp at e)
  exact ⟨hA, ho', q1, fun o hlt' => ⟨by rw [World.cell?_of_block (a := ⟨γ.tp k', o, none⟩) hbk]; exact (q2 o hlt').1, by rw [World.frozen?_of_block (a := ⟨γ.tp k', o, none⟩) hbk]; exact (q2 o hlt').2⟩, fun o hD => q4 o (ha.d2 _ _ hlt hD)⟩
 obtain ⟨hp1, hp2⟩ := putBoxes_find (b := st.b) hnd hl
 refine ⟨h.nt, h.dfr, fun t => hV (h.tm t), fun k cs hk => ?_, fun k xs hk => ?_, fun b q hq => ⟨Nat.lt_of_lt_of_le (h.own b q hq).1 ha.size, (h.own b q hq).2⟩, fun b k ho o hD => ?_, ?_, fun b o hlt => ?_, ha.d3, h.pk⟩
 ·simp only at hk
  by_cases hm : k ∈ ks
  ·obtain ⟨n, hn, rfl⟩ := List.getElem_of_mem hm
   have hn' : n < bs'.length := by omega
   have e := hp1 n ks[n] bs'[n] (List.getElem?_eq_getElem hn) (List.getElem?_eq_getElem hn')
   rw [hk] at e
   simp only [Option.some.injEq] at e
   subst e
   obtain ⟨vs, E, q1, q2, q3⟩ := hb n _ (List.getElem?_eq_getElem hn')
   have eg : ks.getD n 0 = ks[n] := by simp [List.getD, List.getElem?_eq_getElem hn]
   simp only [eg] at q1
   have ho := hown n hn
   rw [eg] at ho
   exact ⟨ho, vs, E, q1, q2, fun i c v hi hj => ⟨.of (q3 i c v hi hj).1, .inr (q3 i c v hi hj).2⟩⟩
  ·rw [hp2 k hm] at hk
   obtain ⟨q1, vs, E, q2, q3, q4⟩ := h.bx k cs hk
   have hlt := (h.own _ _ q1).1
   exact ⟨q1, vs, E, (hblk _ hlt (fun k' hk' e => by rw [q1] at e; simp at e; subst e; exact hm hk')).trans q2, q3, fun i c v hi hj => ⟨hV (q4 i c v hi hj).1, (q4 i c v hi hj).2⟩⟩
 ·obtain ⟨q1, vs, E, q2, q3, q4⟩ := h.rw k xs hk
  have hlt := (h.own _ _ q1).1
  exact ⟨q1, vs, E, (hblk _ hlt (fun k' _ e => by rw [q1] at e; simp at e)).trans q2, q3, fun i c v hi hj => ⟨(q4 i c v hi hj).1.mono hp ha.d1, (q4 i c v hi hj).2⟩⟩
 ·have hlt : b < w.heap.size := by rcases ho with ho | ho <;> exact (h.own b _ ho).1
  exact h.live b k ho o (ha.d2 b o hlt hD)
 ·refine ⟨ha.os.trans h.fr.os, ha.tape.trans h.fr.tape, ha.output.trans h.fr.output, Nat.le_trans h.fr.size ha.size, fun b hlt hn => ?_⟩
  have hlt' := Nat.lt_of_lt_of_le hlt h.fr.size
  refine (hblk b hlt' (fun k _ e => ?_)).trans (h.fr.block b hlt hn)
  rcases (h.own b _ e).2 with hh | hh
  ·omega
  ·exact hn hh.1
 ·have hlt' := Nat.lt_of_lt_of_le hlt h.fr.size
  exact ⟨fun hD => (h.dold b o hlt).1 (ha.d2 b o hlt' hD), fun hD => ha.d1 b o ((h.dold b o hlt).2 hD)⟩
end
def callD (F : Fns) (draw : Bool) (st : St) (dst : Option Nat) (f : AV) (args : List AV) : Option St :=
 match f with
 | .fn n =>
  (match st.pass 0 args with
  | some (vs, ks) =>
   (match st.boxesAt ks with
   | some bs =>
    if !draw || disj ks st.rd then
     (match F n vs bs with
     | some (v, bs') => if bs'.length = bs.length ∧ (draw = true → curBx st bs' = true ∧ curAt ({ st with b := putBoxes st.b ks bs', wr := ks ++ st.wr }.put dst v) dst = true) then some ({ st with b := putBoxes st.b ks bs', wr := ks ++ st.wr }.put dst v) else none
     | none => none)
    else none
   | none => none)
  | none => none)
 | _ => none
theorem callK_D {F : Fns} {sh : List (Nat × Sh)} {draw : Bool} {st : St} {dst : Option Nat} {ty : Nat} {f : AV} {args : List AV} {K : St → Res} {r : AV × Boxes} (h : callK F sh draw st dst ty f args K = some r) :
  ∃ st', callD F draw st dst f args = some st' ∧ K st' = some r := by
 unfold callK at h
 unfold callD
 split at h
 ·split at h
  ·rename_i vs ks hp
   simp only [hp]
   split at h
   ·rename_i bs hb
    simp only [hb]
    split at h
    ·rename_i hd
     simp only [hd, if_true]
     unfold zRe at h
     split at h
     ·rename_i v bs' hF
      simp only [hF]
      have h1 := shRes_some h
      obtain ⟨h2, h3⟩ := shBoxes_some h1
      cases draw
      ·exact ⟨_, by rw [if_pos ⟨h3, by simp⟩], h2⟩
      ·cases hc : (curBx st bs' && curAt ({ st with b := putBoxes st.b ks bs', wr := ks ++ st.wr }.put dst v) dst)
       ·rw [hc] at h2; simp at h2
       ·rw [hc] at h2
        simp only [Bool.and_eq_true] at hc
        exact ⟨_, by rw [if_pos ⟨h3, fun _ => hc⟩], h2⟩
     ·simp at h
    ·simp at h
   ·simp at h
  ·simp at h
 ·simp at h
def stepD (E : Ev) (draw : Bool) (st : St) (o : Oper) : Option St :=
 match o.op with
 | .call { callee := .value f, args, .. } => callD E.F draw st o.dst (st.ev f) (args.toList.map st.ev)
 | _ => (match stepA E.tb draw st o with
  | some st' => bif draw then (bif isBump E.tb o then (bif keepsPtr st' st.t && keepsPtrB st' st.b then some st'.canon else none) else (bif curAt st' o.dst then some st' else none)) else some st'
  | none => none)
theorem ask1_spec {c : Bool} {st' : St} {x : Option AV} {sh : Sh} {f : AV → St} {e : AV} (h : ask1 c st' = some (true, x, sh, f)) (he : x = some e) : c = true ∧ f e = st' := by
 simp only [ask1, Option.some.injEq, Prod.mk.injEq] at h
 obtain ⟨h1, _, _, h4⟩ := h
 exact ⟨h1, by rw [← h4]⟩
theorem sliceU_spec {tb : Tb} {t : Nat} {x : AV} {lo hi mx : Option AV} {v : AV} (h : sliceU tb t x lo hi mx = some (true, v)) : sliceA tb t x lo hi mx = some v := by
 unfold sliceU at h
 unfold sliceA
 split at h
 ·simp at h
 rename_i ti hti
 try simp only [hti]
 split at h
 ·rename_i s l hk hlo
  try simp only [hk, hlo]
  split at h
  ·rename_i hh hm
   simp only [Option.some.injEq, Prod.mk.injEq, decide_eq_true_eq] at h
   try simp only [hm, h.1, and_self, if_true, h.2]
  ·simp at h
 ·rename_i e x l hk hlo
  try simp only [hk, hlo]
  split at h
  ·rename_i s xs te hx hte
   try simp only [hx, hte]
   have key : ∀ (h' m : Int) (b : Bool), (match subU s xs l h' m b with | (c, v) => some (decide (s = te.sz ∨ xs = []) && c, v)) = some (true, v) → (s = te.sz ∨ xs = []) ∧ subA s xs l h' m b = some v := by
    intro h' m b hh
    simp only [subU, Option.some.injEq, Prod.mk.injEq, Bool.and_eq_true, decide_eq_true_eq] at hh
    obtain ⟨⟨h1, h2⟩, h3⟩ := hh
    refine ⟨h1, ?_⟩
    unfold subA
    rw [if_pos h2, h3]
   split at h
   ·split at h
    ·rename_i h' hh
     obtain ⟨k1, k2⟩ := key _ _ _ h
     try simp only [k1, if_true, hh, k2]
    ·simp at h
   ·split at h
    ·obtain ⟨k1, k2⟩ := key _ _ _ h
     try simp only [k1, if_true, k2]
    ·simp at h
   ·simp at h
  ·simp at h
 ·simp at h
theorem stepU_spec {tb : Tb} {draw : Bool} {st : St} {o : Oper} {x : Option AV} {sh : Sh} {f : AV → St} {e : AV} (h : stepU tb draw st o = some (true, x, sh, f)) (he : x = some e) : stepA tb draw st o = some (f e) := by
 unfold stepU at h
 split at h
 ·rename_i t a i ho
  unfold stepA
  try simp only [ho]
  unfold indexAddrU at h
  split at h
  ·rename_i k n e' sz by_ z hi hti
   try simp only [hi, indexAddrA, hti]
   split at h
   ·rename_i ti s full xs hte hx
    try simp only [hte, hx]
    simp only [Option.some.injEq, Prod.mk.injEq, Bool.and_eq_true, decide_eq_true_eq] at h
    obtain ⟨h1, h2, _, h4⟩ := h
    rw [← h2] at he
    try simp only [h1, and_self, if_true, he, ← h4]
   ·rename_i ti k' g' s xs hte hx
    try simp only [hte, hx]
    simp only [Option.some.injEq, Prod.mk.injEq, Bool.and_eq_true, decide_eq_true_eq] at h
    obtain ⟨h1, h2, _, h4⟩ := h
    rw [← h2] at he
    try simp only [h1, and_self, if_true, he, ← h4]
   ·rename_i ti k' g' hte hx
    try simp only [hte, hx]
    split at h
    ·rename_i xs hr
     obtain ⟨h1, h2⟩ := ask1_spec h he
     simp only [Bool.and_eq_true, decide_eq_true_eq] at h1
     try simp only [h1.1, h1.2, hr, if_true, h2, and_self]
    ·simp at h
   ·simp at h
  ·rename_i k i n e' sz by_ z hi hti
   try simp only [hi, indexAddrA, hti]
   split at h
   ·rename_i ti k' g' off hte hx
    obtain ⟨h1, h2⟩ := ask1_spec h he
    simp only [decide_eq_true_eq] at h1
    try simp only [hte, hx, h1, and_self, if_true, h2]
   ·rename_i ti s e'' off hte hx
    obtain ⟨h1, h2⟩ := ask1_spec h he
    simp only [decide_eq_true_eq] at h1
    try simp only [hte, hx, h1, and_self, if_true, h2]
   ·rename_i ti k' g' off hte hx
    obtain ⟨h1, h2⟩ := ask1_spec h he
    simp only [decide_eq_true_eq] at h1
    try simp only [hte, hx, h1, and_self, if_true, h2]
   ·simp at h
  ·simp at h
 ·rename_i t a ho
  unfold stepA
  try simp only [ho]
  unfold loadU at h
  split at h
  ·rename_i ti k g off hti hx
   cases hag : ti.isAgg with
   | true => rw [hag] at h; simp at h
   | false =>
    rw [hag] at h
    simp only [cond_false] at h
    split at h
    ·rename_i cs hcs
     simp only [Option.some.injEq, Prod.mk.injEq] at h
     obtain ⟨h1, h2, _, h4⟩ := h
     rw [← h2] at he
     simp only [loadA, hti, hx, partOf, hag, hcs]
     rw [if_pos h1]
     simp only [Bool.false_eq_true, if_false, he, ← h4]
    ·simp at h
  ·rename_i ti k g i hti hx
   cases hag : ti.isAgg with
   | true => rw [hag] at h; simp at h
   | false =>
    rw [hag] at h
    simp only [cond_false] at h
    split at h
    ·rename_i xs hxs
     simp only [Option.some.injEq, Prod.mk.injEq] at h
     obtain ⟨_, h2, _, h4⟩ := h
     rw [← h2] at he
     simp only [loadA, hti, hx, hag, hxs]
     unfold fixO at he
     split at he
     ·rename_i v hv
      split at he
      ·rename_i hf
       simp only [Option.some.injEq] at he
       subst he
       simp only [Bool.not_false, if_true, hv, hf, ← h4]
      ·simp at he
     ·simp at he
    ·simp at h
  ·rename_i ti s l j hti hx
   cases hag : ti.isAgg with
   | true => rw [hag] at h; simp at h
   | false =>
    rw [hag] at h
    simp only [cond_false, Option.some.injEq, Prod.mk.injEq] at h
    obtain ⟨_, h2, _, h4⟩ := h
    rw [← h2] at he
    simp only [loadA, hti, hx, partOf, hag, AV.cells]
    unfold fixO at he
    split at he
    ·rename_i v hv
     split at he
     ·rename_i hf
      simp only [Option.some.injEq] at he
      subst he
      simp only [Bool.false_and, Bool.false_eq_true, if_false, hv, hf, if_true, ← h4]
     ·simp at he
    ·simp at he
  ·simp at h
 ·rename_i t a i ho
  unfold stepA
  try simp only [ho]
  unfold indexU at h
  split at h
  ·rename_i sz by_ z s k n hti hx hi
   try simp only [hti, hx, hi]
   simp only [Option.some.injEq, Prod.mk.injEq, decide_eq_true_eq] at h
   obtain ⟨h1, h2, _, h4⟩ := h
   rw [← h2] at he
   rw [Option.map_eq_some_iff] at he
   obtain ⟨b, hb, rfl⟩ := he
   try simp only [h1, if_true, hb, ← h4]
  ·simp at h
 ·rename_i t a lo hi mx ho
  unfold stepA
  try simp only [ho]
  split at h
  ·rename_i c v hs
   obtain ⟨rfl, h2⟩ := ask1_spec h he
   try simp only [sliceU_spec hs, h2]
  ·simp at h
 ·rename_i op t a b u ho
  unfold stepA
  try simp only [ho]
  split at h
  ·rename_i c v hs
   obtain ⟨rfl, h2⟩ := ask1_spec h he
   have : binA tb op t (st.ev a) (st.ev b) = some v := by
    unfold binU at hs
    split at hs
    ·rename_i l l' e1 e2
     simp only [Option.some.injEq, Prod.mk.injEq, decide_eq_true_eq] at hs
     try simp only [binA, e1, e2, strA, hs.1, if_true, hs.2]
    ·rename_i k a' k' b' e1 e2
     simp only [Option.some.injEq, Prod.mk.injEq, decide_eq_true_eq] at hs
     try simp only [binA, e1, e2, shiftA, show ¬ b' < 0 by omega, if_false, hs.2]
    ·rename_i k a' k' b' e1 e2
     simp only [Option.some.injEq, Prod.mk.injEq, decide_eq_true_eq] at hs
     try simp only [binA, e1, e2, shiftA, show ¬ b' < 0 by omega, if_false, hs.2]
    ·rename_i k a' k' b' e1 e2
     simp only [Option.some.injEq, Prod.mk.injEq, Bool.and_eq_true, decide_eq_true_eq, Bool.not_eq_true', decide_eq_false_iff_not] at hs
     try simp only [binA, e1, e2, intA, hs.1.1, if_true, hs.1.2, if_false, ← hs.2]
    ·rename_i k a' k' b' e1 e2
     simp only [Option.some.injEq, Prod.mk.injEq, Bool.and_eq_true, decide_eq_true_eq, Bool.not_eq_true', decide_eq_false_iff_not] at hs
     try simp only [binA, e1, e2, intA, hs.1.1, if_true, hs.1.2, if_false, ← hs.2]
    ·simp at hs
   try simp only [this, h2]
  ·simp at h
 ·rename_i t l c ho
  unfold stepA
  try simp only [ho]
  unfold makeU at h
  split at h
  ·rename_i e' sz by_ z kl n kc m hti hl hm
   try simp only [hti, hl, hm]
   split at h
   ·rename_i te hte
    try simp only [hte]
    split at h
    ·rename_i zz hz
     try simp only [hz]
     cases draw
     ·simp only [cond_false] at h
      split at h
      ·rename_i d hd
       obtain ⟨h1, h2⟩ := ask1_spec h he
       simp only [Bool.and_eq_true, decide_eq_true_eq] at h1
       rw [if_pos h1.2]
       try simp only [hd, Bool.false_eq_true, if_false]
       rw [if_pos h1.1, h2]
      ·simp at h
     ·simp only [cond_true] at h
      obtain ⟨h1, h2⟩ := ask1_spec h he
      simp only [Bool.and_eq_true, decide_eq_true_eq] at h1
      rw [if_pos h1.2]
      try simp only [if_true]
      rw [if_pos h1.1, h2]
    ·simp at h
   ·simp at h
  ·simp at h
 ·rename_i s d a ho
  unfold stepA
  try simp only [ho]
  unfold convU at h
  split at h
  ·rename_i ts td hs hd
   try simp only [hs, hd]
   split at h
   ·rename_i e' hk hk2
    split at h
    ·rename_i l d' hdst
     obtain ⟨h1, h2⟩ := ask1_spec h he
     simp only [Bool.and_eq_true, decide_eq_true_eq] at h1
     simp only [convertA, hk, *]
     simp only [and_self, if_true]
     try exact congrArg some h2
    ·simp at h
   ·rename_i e' hk hk2
    split at h
    ·rename_i m xs hel
     simp only [Option.some.injEq, Prod.mk.injEq] at h
     obtain ⟨h1, h2, _, h4⟩ := h
     rw [← h2, Option.map_eq_some_iff] at he
     obtain ⟨l, hl, rfl⟩ := he
     rw [← h4]
     have hne : ∀ s, st.ev a ≠ .str s := by
      intro s e
      rw [e] at hel
      simp [St.elems] at hel
     unfold convertA
     split
     ·rename_i k1 k2 n1 e1 e2; rw [hk] at e1; cases e1
     ·rename_i s1 e1 e2; exact absurd e2 (hne s1)
     ·simp only [hk2, h1, if_true, hel, hl]
     ·rename_i e1 s1 e2 e3; rw [hk] at e2; cases e2
     ·rename_i e1 e2 e3 e4; exfalso; simp_all
    ·simp at h
   ·simp at h
  ·simp at h
 ·rename_i t a b ho
  unfold stepA
  try simp only [ho]
  split at h
  ·rename_i hdst
   try simp only [hdst]
   unfold storeU at h
   split at h
   ·rename_i ti k g i u hti hx hv
    split at h
    ·rename_i xs hr
     obtain ⟨h1, h2⟩ := ask1_spec h he
     simp only [Bool.and_eq_true, decide_eq_true_eq] at h1
     unfold storeA
     simp only [hti, hx, hv, hr]
     rw [if_pos h1.1, if_pos h1.2, h2]
    ·simp at h
   ·rename_i ti k g off kd n hti hx hv
    split at h
    ·rename_i cs hcs
     obtain ⟨h1, h2⟩ := ask1_spec h he
     simp only [Bool.and_eq_true, decide_eq_true_eq] at h1
     have hv' : st.ev b = .int kd n := by
      generalize st.ev b = y at hv
      cases y <;> simp [AV.dat] at hv
      obtain ⟨rfl, rfl⟩ := hv
      rfl
     unfold storeA
     simp only [hti, hx, hv', hcs]
     rw [if_pos ⟨rfl, h1.1, h1.2⟩, h2]
    ·simp at h
   ·simp at h
  ·simp at h
 ·rename_i args ts ho
  unfold stepA
  try simp only [ho]
  unfold appendU at h
  split at h
  ·rename_i t u x' y' d hts hargs hdst
   try simp only [hts, hargs, hdst, builtinA]
   split at h
   ·rename_i e' sz by_ z sy ys hti hsrc
    try simp only [hti, hsrc]
    split at h
    ·rename_i te hte
     try simp only [hte]
     split at h
     ·rename_i s xs
      obtain ⟨h1, h2⟩ := ask1_spec h he
      simp only [Bool.and_eq_true, decide_eq_true_eq] at h1
      try simp only [appendA]
      rw [if_pos h1.1]
      try simp only
      rw [if_pos h1.2]
      try simp only [h2]
     ·rename_i k g s xs
      obtain ⟨h1, h2⟩ := ask1_spec h he
      simp only [Bool.and_eq_true, decide_eq_true_eq] at h1
      try simp only [appendA]
      rw [if_pos h1.1]
      try simp only
      rw [if_pos h1.2]
      try simp only [h2]
     ·simp at h
    ·simp at h
   ·simp at h
  ·simp at h
 ·simp at h
theorem stepK_D {E : Ev} {draw : Bool} {st : St} {o : Oper} {K : St → Res} {r : AV × Boxes} (h : stepK E draw st o K = some r) : ∃ st', stepD E draw st o = some st' ∧ K st' = some r := by
 unfold stepK at h
 unfold stepD
 split at h
 ·rename_i f args ts ho
  simp only [ho]
  exact callK_D h
 ·rename_i hno
  have fin : ∀ st', stepA E.tb draw st o = some st' → goOn E.tb draw st o K st' = some r → ∃ st', (match stepA E.tb draw st o with
    | some st' => bif draw then (bif isBump E.tb o then (bif keepsPtr st' st.t && keepsPtrB st' st.b then some st'.canon else none) else (bif curAt st' o.dst then some st' else none)) else some st'
    | none => none) = some st' ∧ K st' = some r := by
   intro st' hs h
   simp only [hs]
   unfold goOn at h
   cases draw
   ·exact ⟨st', rfl, h⟩
   ·cases hd : isBump E.tb o
    ·rw [hd] at h
     cases hk : curAt st' o.dst
     ·rw [hk] at h; simp at h
     ·rw [hk] at h; exact ⟨_, rfl, h⟩
    ·rw [hd] at h
     cases hk : (keepsPtr st' st.t && keepsPtrB st' st.b)
     ·rw [hk] at h; simp at h
     ·rw [hk] at h; exact ⟨_, rfl, h⟩
  split
  ·rename_i e; exact absurd e (hno _ _ _)
  ·split at h
   ·rename_i c x sh f hu
    cases c
    ·simp at h
    ·simp only [cond_true] at h
     unfold zOp at h
     split at h
     ·rename_i e
      exact fin _ (stepU_spec hu rfl) (shVal_some h)
     ·simp at h
   ·split at h
    ·rename_i st' hs
     exact fin _ hs h
    ·simp at h
def opD (E : Ev) (draw : Bool) (ops : Array Oper) (st : St) (o : Oper) : Option St :=
 match guardOf ops o with
 | .bad => none
 | .free => stepD E draw st o
 | .at_ t want => (match st.get t with
  | .bool b => if b = want then stepD E draw (st.put (some t) (.bool b)) o else some ((st.put (some t) (.bool b)).put o.dst (.tup []))
  | .tup [] => some (st.put o.dst (.tup []))
  | _ => none)
def runD (E : Ev) (draw : Bool) (ops : Array Oper) : List Oper → St → Option St
 | [], st => some st
 | o :: r, st => match opD E draw ops st o with
  | some st' => runD E draw ops r st'
  | none => none
theorem runOps_D {E : Ev} {draw : Bool} {ops : Array Oper} {K : St → Res} {r : AV × Boxes} : ∀ {l : List Oper} {st : St}, runOps E draw ops K l st = some r → ∃ st', runD E draw ops l st = some st' ∧ K st' = some r
 | [], st, h => ⟨st, rfl, h⟩
 | o :: l, st, h => by
  unfold runOps at h
  unfold runD opD
  split at h
  ·simp at h
  ·rename_i hg
   obtain ⟨st', h1, h2⟩ := stepK_D h
   simp only [hg, h1]
   exact runOps_D h2
  ·rename_i t hg
   split at h
   ·rename_i b hb
    simp only [hg, hb]
    cases b
    ·simp only [Bool.false_eq_true, if_false]
     exact runOps_D h
    ·obtain ⟨st', h1, h2⟩ := stepK_D h
     simp only [if_true, h1]
     exact runOps_D h2
   ·rename_i hb
    simp only [hg, hb]
    exact runOps_D h
   ·simp at h
  ·rename_i t hg
   split at h
   ·rename_i b hb
    simp only [hg, hb]
    cases b
    ·obtain ⟨st', h1, h2⟩ := stepK_D h
     simp only [if_true, h1]
     exact runOps_D h2
    ·simp only [Bool.true_eq_false, if_false]
     exact runOps_D h
   ·rename_i hb
    simp only [hg, hb]
    exact runOps_D h
   ·simp at h
section
variable {P : Program} {c : Ctx} {γ : Gh} {D D' : Dead} {st : St} {a : Act} {w w' : World} {tb : Tb}
theorem call_sound {F : Fns} (hF : SoundF P F) {o : Oper} (h : Inv c γ D st a w) {f : Operand} {args : Array Operand} {ts : Array Nat} (ho : o.op = .call { callee := .value f, args := args, argTypes := ts }) {draw : Bool} {st' : St}
  (hs : callD F draw st o.dst (st.ev f) (args.toList.map st.ev) = some st') {next : Act → World → Prop} {Q : Exit → Act → World → Prop} (hn : ∀ cv w' γ' D', Inv c γ' D' st' (a.put o.dst cv) w' → next (a.put o.dst cv) w') : o.wp P a w next Q := by
 unfold callD at hs
 split at hs
 ·rename_i n hf
  split at hs
  ·rename_i vs ks hp
   split at hs
   ·rename_i bs hb
    split at hs
    ·split at hs
     ·rename_i v bs' hr
      split at hs
      ·rename_i hlen
       replace hlen := hlen.1
       simp only [Option.some.injEq] at hs
       subst hs
       obtain ⟨⟨fn, f1, f2, f3⟩, hcall⟩ := hF _ _ _ _ _ hr
       have hv : a.eval f = .func (.func n) #[] #[] := inv_fn (hf ▸ h.ev f)
       obtain ⟨p1, p2, p3⟩ := pass_spec hp
       obtain ⟨b1, b2⟩ := boxesAt_spec hb
       have hown : ∀ n, n < ks.length → γ.own (γ.bx (ks.getD n 0)) = some (0, ks.getD n 0) := by
        intro n hn
        have hn' : n < bs.length := by omega
        obtain ⟨cs, hcs, _⟩ := b2 n ks[n] bs[n] (List.getElem?_eq_getElem hn) (List.getElem?_eq_getElem hn')
        have eg : ks.getD n 0 = ks[n] := by simp [List.getD, List.getElem?_eq_getElem hn]
        rw [eg]
        exact (h.bx _ _ hcs).1
       have hargs : ArgsRep w D (fun n => γ.bx (ks.getD n 0)) vs (args.map a.eval) := by
        refine ⟨by simp [p1], fun i v cv hi hj => ?_⟩
        obtain ⟨x, hx, hc⟩ := p3 i v hi
        simp only [List.getElem?_map, Array.getElem?_toList, Array.getElem?_map] at hx hj
        cases ha : args[i]? with
        | none => rw [ha] at hx; simp at hx
        | some y =>
         rw [ha] at hx hj
         simp only [Option.map_some, Option.some.injEq] at hx hj
         subst hj
         have hev := h.ev y
         have hcur := st.ev_isCur y
         rw [hx] at hev hcur
         rcases hc with ⟨k, g, off, m, rfl, rfl, _, e4⟩ | ⟨hd, _⟩
         ·have := inv_ptr hev hcur
          simp only [Nat.sub_zero] at e4
          show a.eval y = _
          rw [this]
          simp only [List.getD, e4, Option.getD_some]
         ·have := hev.dat hd
          cases v <;> first | exact this | (cases x <;> simp [AV.dat] at hd)
       have hbox : BoxRep w D (fun n => γ.bx (ks.getD n 0)) bs := by
        intro m cs hm
        have hlt : m < bs.length := (List.getElem?_eq_some_iff.1 hm).1
        have hlt' : m < ks.length := by omega
        obtain ⟨cs0, hk0, hd0⟩ := b2 m ks[m] cs (List.getElem?_eq_getElem hlt') hm
        obtain ⟨_, vs', E, q2, q3, q4⟩ := h.bx _ _ hk0
        obtain ⟨l1, l2⟩ := datAll_spec hd0
        have eg : ks.getD m 0 = ks[m] := by simp [List.getD, List.getElem?_eq_getElem hlt']
        refine ⟨vs', E, by simpa only [eg] using q2, by simp at l1; omega, fun i c' v' hi hj => ?_⟩
        cases hc0 : cs0[i]? with
        | none =>
         have : cs0.length ≤ i := List.getElem?_eq_none_iff.1 hc0
         have h2 : i < cs.length := (List.getElem?_eq_some_iff.1 hi).1
         simp at l1
         omega
        | some c0 =>
         obtain ⟨d, hd, hd'⟩ := l2 i (st.cur c0) (by simp [List.getElem?_map, hc0])
         rw [hi] at hd
         simp only [Option.some.injEq] at hd
         subst hd
         obtain ⟨q5, q6⟩ := q4 i c0 v' hc0 hj
         refine ⟨q5.cur.dat hd', ?_⟩
         rcases cur_cell1 (st := st) q6 with e | e
         ·rw [e] at hd'; simp [AV.dat] at hd'
         ·exact dat_cell1 hd' e
       have hC := hcall w D _ (args.map a.eval) h.dlt hargs hbox (by
        intro m k hm hk e
        have e1 := hown m (by omega)
        have e2 := hown k (by omega)
        have e : γ.bx (ks.getD m 0) = γ.bx (ks.getD k 0) := e
        rw [e, e2] at e1
        simp only [Option.some.injEq, Prod.mk.injEq, true_and] at e1
        have hm' : m < ks.length := by omega
        have hk' : k < ks.length := by omega
        have em : ks.getD m 0 = ks[m] := by simp [List.getD, List.getElem?_eq_getElem hm']
        have ek : ks.getD k 0 = ks[k] := by simp [List.getD, List.getElem?_eq_getElem hk']
        rw [em, ek] at e1
        exact ((List.getElem_inj p2).1 e1).symm) (by
        intro m hm o'
        exact h.live _ _ (.inl (hown m (by omega))) o')
       unfold Oper.wp
       have hrun : (execOp a.eval o).run P w = .ok (.enter n (args.map a.eval)) w := by
        have f2' : ¬ fn.name = "runtime.NumGoroutine" := by simpa using f2
        have f3' : ¬ fn.body = none := by intro e; simp [e] at f3
        simp [execOp, ho, resolve, hv, Deferred.ofValue, invoke, callFunc, f1, f2', f3']
       rw [hrun, Oper.upon_enter]
       refine hC.mono fun e w' hp => ?_
       obtain ⟨cv, D', rfl, hR, hB, hL, hA⟩ := hp
       refine hn _ _ γ D' ?_
       rw [b1] at hA
       have hI := h.afterCall p2 (fun k hk => by
        obtain ⟨m, hm, rfl⟩ := List.getElem_of_mem hk
        obtain ⟨cs, hcs, _⟩ := b2 m ks[m] (bs[m]'(by omega)) (List.getElem?_eq_getElem hm) (List.getElem?_eq_getElem (by omega))
        exact ⟨cs, hcs⟩) (by omega) hB hA (ks ++ st.wr)
       exact hI.put hR.v o.dst
      ·simp at hs
     ·simp at hs
    ·simp at hs
   ·simp at hs
  ·simp at hs
 ·simp at hs
end
theorem find_curT (st : St) (k : Nat) : ∀ l : List (Nat × AV), find k (curT st l) = (find k l).map st.cur
 | [] => rfl
 | (m, v) :: r => by
  simp only [curT, find]
  split
  ·rfl
  ·exact find_curT st k r
theorem find_curB (st : St) (k : Nat) : ∀ l : List (Nat × List AV), find k (curB st l) = (find k l).map (·.map st.cur)
 | [] => rfl
 | (m, v) :: r => by
  simp only [curB, find]
  split
  ·rfl
  ·exact find_curB st k r
theorem St.get_canon (st : St) (t : Nat) : st.canon.get t = st.cur (st.get t) := by
 unfold St.canon St.get
 simp only [find_curT]
 cases find t st.t <;> rfl
section
variable {P : Program} {c : Ctx} {γ : Gh} {D D' : Dead} {st : St} {a : Act} {w w' : World} {tb : Tb}
theorem Inv.canon (h : Inv c γ D st a w) : Inv c γ D st.canon a w := by
 have hg : ∀ k, st.canon.gen k = st.gen k := fun _ => rfl
 have hr : st.canon.r = st.r := rfl
 refine ⟨h.nt, h.dfr, fun t => ?_, fun k cs hk => ?_, h.rw, h.own, h.live, h.fr, h.dold, h.dlt, h.pk⟩
 ·rw [St.get_canon]
  exact RepV.st (st := st) hg hr (h.tm t).cur
 ·have hk' : (find k st.b).map (·.map st.cur) = some cs := by rw [← find_curB]; exact hk
  cases hc : find k st.b with
  | none => rw [hc] at hk'; simp at hk'
  | some cs0 =>
   rw [hc] at hk'
   simp only [Option.map_some, Option.some.injEq] at hk'
   subst hk'
   obtain ⟨h1, vs, E, h2, h3, h4⟩ := h.bx k cs0 hc
   refine ⟨h1, vs, E, h2, by simpa using h3, fun i c v hi hj => ?_⟩
   rw [List.getElem?_map] at hi
   cases hc0 : cs0[i]? with
   | none => rw [hc0] at hi; simp at hi
   | some c0 =>
    rw [hc0] at hi
    simp only [Option.map_some, Option.some.injEq] at hi
    subst hi
    obtain ⟨q1, q2⟩ := h4 i c0 v hc0 hj
    exact ⟨RepV.st (st := st) hg hr q1.cur, cur_cell1 q2⟩
theorem Inv.reput (h : Inv c γ D st a w) {t : Nat} {b : Bool} (hb : st.get t = .bool b) : Inv c γ D (st.put (some t) (.bool b)) a w ∧ a.tmps[t]? = some (.bool b) := by
 have hv := h.tm t
 rw [hb] at hv
 have e := inv_bool hv
 have e' : a.tmps[t]? = some (.bool b) := by
  rw [Array.getD_eq_getD_getElem?] at e
  cases ht : a.tmps[t]? with
  | none => rw [ht] at e; simp [Go.undef] at e
  | some v => rw [ht] at e; simpa using e
 have hp := h.put (v := .bool b) (cv := .bool b) (.of (.bool b)) (some t)
 have : a.put (some t) (.bool b) = a := by
  obtain ⟨tm, df⟩ := a
  simp only [Act.put, Act.mk.injEq, and_true]
  apply Array.ext_getElem?
  intro i
  rw [Array.getElem?_setIfInBounds]
  split
  ·rename_i e2
   subst e2
   split
   ·exact e'.symm
   ·rename_i hlt
    have : t < tm.size := (Array.getElem?_eq_some_iff.1 e').1
    omega
  ·rfl
 rw [this] at hp
 exact ⟨hp, e'⟩
structure EvOk (P : Program) (E : Ev) : Prop where
 F : SoundF P E.F
 tb : TbOk P E.tb
theorem stepD_sound {E : Ev} (hE : EvOk P E) {draw : Bool} {o : Oper} (h : Inv c γ D st a w) {st' : St} (hs : stepD E draw st o = some st') {next : Act → World → Prop} {Q : Exit → Act → World → Prop}
  (hn : ∀ cv w' γ' D', Inv c γ' D' st' (a.put o.dst cv) w' → next (a.put o.dst cv) w') : o.wp P a w next Q := by
 unfold stepD at hs
 split at hs
 ·rename_i f args ts ho
  exact call_sound hE.F h ho hs hn
 ·split at hs
  ·rename_i s1 h1
   obtain ⟨cv, w', hr, γ', D', hI⟩ := stepA_sound hE.tb h h1
   have hI' : Inv c γ' D' st' (a.put o.dst cv) w' := by
    cases draw
    ·simp only [cond_false, Option.some.injEq] at hs
     exact hs ▸ hI
    ·cases hd : isBump E.tb o
     ·rw [hd] at hs
      cases hk : curAt s1 o.dst
      ·rw [hk] at hs; simp at hs
      ·rw [hk] at hs
       simp only [cond_true, cond_false, Option.some.injEq] at hs
       exact hs ▸ hI
     ·rw [hd] at hs
      cases hk : (keepsPtr s1 st.t && keepsPtrB s1 st.b)
      ·rw [hk] at hs; simp at hs
      ·rw [hk] at hs
       simp only [cond_true, Option.some.injEq] at hs
       exact hs ▸ hI.canon
   unfold Oper.wp
   rcases hr with hr | ⟨hr, rfl⟩
   ·rw [hr, Oper.upon_value]
    exact hn _ _ _ _ hI'
   ·rw [hr, Oper.upon_skip]
    exact hn _ _ _ _ hI'
  ·simp at hs
theorem guardOf_free {ops : Array Oper} {o : Oper} (h : guardOf ops o = .free) (y : Nat → Option Bool) : Region.wanted o y = true := by
 unfold guardOf at h
 unfold Region.wanted
 split at h
 ·rename_i e; simp [e]
 ·split at h <;> simp at h
theorem guardOf_at {ops : Array Oper} {o : Oper} {t : Nat} {want : Bool} (h : guardOf ops o = .at_ t want) {tm : Array Value} {b : Bool} (hb : tm[t]? = some (.bool b)) : Region.wanted o (yielded ops tm) = decide (b = want) := by
 unfold guardOf at h
 unfold Region.wanted
 split at h
 ·simp at h
 ·rename_i j w' e
  split at h
  ·rename_i t' e'
   simp only [Gd.at_.injEq] at h
   obtain ⟨rfl, rfl⟩ := h
   simp only [e, yielded, e', Option.bind_some, hb]
   cases b <;> cases w' <;> rfl
  ·simp at h
theorem guardOf_none {ops : Array Oper} {o : Oper} {t : Nat} {want : Bool} (h : guardOf ops o = .at_ t want) {tm : Array Value} (hb : ∀ b, tm[t]? ≠ some (.bool b)) : Region.wanted o (yielded ops tm) = false := by
 unfold guardOf at h
 unfold Region.wanted
 split at h
 ·simp at h
 ·rename_i j w' e
  split at h
  ·rename_i t' e'
   simp only [Gd.at_.injEq] at h
   obtain ⟨rfl, rfl⟩ := h
   have hy : yielded ops tm j = none := by
    have hu : yielded ops tm j = (match ((ops[j]?).bind (·.dst)).bind (tm[·]?) with | some (.bool b) => some b | _ => none) := rfl
    rw [hu, e', Option.bind_some]
    cases hh : tm[t']? with
    | none => rfl
    | some v => cases v <;> first | rfl | exact absurd hh (hb _)
   simp [e, hy]
  ·simp at h
theorem wpOps_sound {E : Ev} (hE : EvOk P E) {draw : Bool} {ops : Array Oper} {Q : Exit → Act → World → Prop} {st' : St} (hq : ∀ γ' D' a' w', Inv c γ' D' st' a' w' → Q .normal a' w') :
  ∀ (l : List Nat) (γ : Gh) (D : Dead) (st : St) (a : Act) (w : World), Inv c γ D st a w → runD E draw ops (l.filterMap (ops[·]?)) st = some st' → wpOps P ops Q l a w
 | [], γ, D, st, a, w, h, hs => by
  simp only [List.filterMap_nil, runD, Option.some.injEq] at hs
  subst hs
  exact hq _ _ _ _ h
 | i :: l, γ, D, st, a, w, h, hs => by
  unfold wpOps
  cases ho : ops[i]? with
  | none =>
   rw [List.filterMap_cons_none ho] at hs
   exact wpOps_sound hE hq l γ D st a w h hs
  | some o =>
   rw [List.filterMap_cons_some ho] at hs
   simp only [runD] at hs
   simp only
   split at hs
   ·rename_i s1 h1
    have hnext : ∀ cv w' γ' D', Inv c γ' D' s1 (a.put o.dst cv) w' → wpOps P ops Q l (a.put o.dst cv) w' := fun cv w' γ' D' hI => wpOps_sound hE hq l γ' D' s1 _ w' hI hs
    unfold opD at h1
    split at h1
    ·simp at h1
    ·rename_i hg
     rw [if_pos (guardOf_free hg _)]
     exact .inl (stepD_sound hE h h1 hnext)
    ·rename_i t want hg
     split at h1
     ·rename_i b hb
      obtain ⟨hp, ht⟩ := h.reput hb
      rw [guardOf_at hg ht]
      split at h1
      ·rename_i e
       rw [decide_eq_true e, if_pos rfl]
       exact .inl (stepD_sound hE hp h1 hnext)
      ·rename_i e
       rw [decide_eq_false e, if_neg (by simp)]
       simp only [Option.some.injEq] at h1
       subst h1
       exact hnext _ _ γ D (hp.put (v := .tup []) (show RepV _ _ _ _ (.tup []) Go.undef from ⟨#[], rfl, rfl, by simp⟩) o.dst)
     ·rename_i hb
      have hv := h.tm t
      rw [hb] at hv
      obtain ⟨arr, e1, e2, _⟩ := hv
      have e3 : arr = #[] := by simpa using e2
      subst e3
      rw [guardOf_none hg (tm := a.tmps) (by
       intro b e4
       rw [Array.getD_eq_getD_getElem?, e4] at e1
       simp at e1), if_neg (by simp)]
      simp only [Option.some.injEq] at h1
      subst h1
      exact hnext _ _ γ D (h.put (v := .tup []) (show RepV _ _ _ _ (.tup []) Go.undef from ⟨#[], rfl, rfl, by simp⟩) o.dst)
     ·simp at h1
   ·simp at hs
theorem range_filterMap (ops : Array Oper) : (List.range ops.size).filterMap (ops[·]?) = ops.toList := by
 have h : (List.range ops.size).map (fun i : Nat => ops[i]?) = ops.toList.map some := by
  apply List.ext_getElem?
  intro i
  by_cases h : i < ops.size
  ·simp [h]
  ·simp [h]
 have h2 : ∀ l : List Nat, l.filterMap (ops[·]?) = (l.map (fun i : Nat => ops[i]?)).filterMap id := fun l => by simp [List.filterMap_map]
 rw [h2, h]
 simp [List.filterMap_map]
end
theorem find_without {α : Type} (dead : List Nat) (k : Nat) : ∀ l : List (Nat × α), find k (without dead l) = if dead.contains k then none else find k l
 | [] => by simp [without, find]
 | (m, v) :: r => by
  simp only [without]
  split
  ·rename_i hm
   rw [find_without dead k r]
   simp only [find]
   split
   ·rfl
   ·rename_i hk
    split
    ·rename_i e; subst e; exact absurd hm hk
    ·rfl
  ·rename_i hm
   simp only [find]
   split
   ·rename_i e
    subst e
    rw [if_neg hm]
   ·exact find_without dead k r
theorem find_normT (st : St) (kp : List Nat) (k : Nat) : ∀ l : List (Nat × AV), find k (normT st kp l) = if kp.contains k then (find k l).map st.norm else none
 | [] => by simp [normT, find]
 | (m, v) :: r => by
  simp only [normT]
  split
  ·rename_i hm
   simp only [find]
   split
   ·rename_i e
    subst e
    rw [if_pos hm]
    rfl
   ·exact find_normT st kp k r
  ·rename_i hm
   rw [find_normT st kp k r]
   simp only [find]
   split
   ·rename_i hk
    split
    ·rename_i e; subst e; exact absurd hk hm
    ·rfl
   ·rfl
theorem find_normB (st : St) (k : Nat) : ∀ l : List (Nat × List AV), find k (normB st l) = (find k l).map (·.map st.norm)
 | [] => rfl
 | (m, v) :: r => by
  simp only [normB, find]
  split
  ·rfl
  ·exact find_normB st k r
section
variable {P : Program} {c : Ctx} {γ : Gh} {D D' : Dead} {st : St} {a : Act} {w w' : World} {tb : Tb}
theorem RepV.norm {kp : List Nat} {v : AV} {cv : Value} (h : RepV γ w D st v cv) : RepV γ w D (st.fin kp) (st.norm v) cv := by
 have hc := st.cur_isCur v
 have hv := h.cur
 unfold St.norm
 generalize st.cur v = u at *
 cases u with
 | tip k g s xs => exact ⟨Nat.le_refl _, hv.2.1, fun _ => hv.2.2 hc⟩
 | ptr k g off => exact ⟨Nat.le_refl _, fun _ => hv.2 hc⟩
 | row k g => exact ⟨Nat.le_refl _, fun _ => hv.2 hc⟩
 | rowp k g i => exact ⟨Nat.le_refl _, fun _ => hv.2 hc⟩
 | _ => exact hv
theorem norm_cell1 {v : AV} (h : v = .undef ∨ v.cell1 = true) : st.norm v = .undef ∨ (st.norm v).cell1 = true := by
 have := cur_cell1 (st := st) h
 unfold St.norm
 generalize st.cur v = u at *
 cases u <;> first | exact this | (simp [AV.cell1] at this ⊢)
theorem Inv.fin (h : Inv c γ D st a w) (kp : List Nat) : Inv c γ D (st.fin kp) a w := by
 refine ⟨h.nt, h.dfr, fun t => ?_, fun k cs hk => ?_, h.rw, h.own, h.live, h.fr, h.dold, h.dlt, h.pk⟩
 ·have e : (st.fin kp).get t = match (if kp.contains t then (find t st.t).map st.norm else none) with | some v => v | none => .undef := by
   unfold St.get St.fin
   simp only [find_normT]
   rfl
  rw [e]
  split
  ·rename_i v hv
   split at hv
   ·have hg : st.get t = match find t st.t with | some v => v | none => .undef := rfl
    have ht := h.tm t
    rw [hg] at ht
    cases hf : find t st.t with
    | none => rw [hf] at hv; simp at hv
    | some u =>
     rw [hf] at hv ht
     simp only [Option.map_some, Option.some.injEq] at hv
     subst hv
     exact RepV.norm ht
   ·simp at hv
  ·trivial
 ·have hk' : (find k st.b).map (·.map st.norm) = some cs := by rw [← find_normB]; exact hk
  cases hc : find k st.b with
  | none => rw [hc] at hk'; simp at hk'
  | some cs0 =>
   rw [hc] at hk'
   simp only [Option.map_some, Option.some.injEq] at hk'
   subst hk'
   obtain ⟨h1, vs, E, h2, h3, h4⟩ := h.bx k cs0 hc
   refine ⟨h1, vs, E, h2, by simpa using h3, fun i c v hi hj => ?_⟩
   rw [List.getElem?_map] at hi
   cases hc0 : cs0[i]? with
   | none => rw [hc0] at hi; simp at hi
   | some c0 =>
    rw [hc0] at hi
    simp only [Option.map_some, Option.some.injEq] at hi
    subst hi
    obtain ⟨q1, q2⟩ := h4 i c0 v hc0 hj
    exact ⟨q1.norm, norm_cell1 q2⟩
theorem Inv.clean (h : Inv c γ D st a w) (dead : List Nat) : Inv c γ D (st.clean dead) a w := by
 have hV : ∀ {av : AV} {v : Value}, RepV γ w D st av v → RepV γ w D (st.clean dead) av v := fun {av v} hv =>
  RepV.mono (st := st) (st' := st.clean dead) (w := w) (w' := w) (fun _ _ _ => rfl) (fun _ _ hd => hd) (fun _ => Nat.le_refl _) (fun k _ => ⟨rfl, rfl, fun xs hx => by
   have : find k (without dead st.r) = some xs := hx
   rw [find_without] at this
   split at this
   ·simp at this
   ·exact ⟨xs, this, rfl⟩, fun _ _ _ hh => hh⟩) hv
 refine ⟨h.nt, h.dfr, fun t => ?_, fun k cs hk => ?_, fun k xs hk => ?_, h.own, h.live, h.fr, h.dold, h.dlt, h.pk⟩
 ·have e : (st.clean dead).get t = match (if dead.contains t then none else find t st.t) with | some v => v | none => .undef := by
   unfold St.get St.clean
   simp only [find_without]
   rfl
  rw [e]
  split
  ·rename_i v hv
   split at hv
   ·simp at hv
   ·have ht := h.tm t
    have hg : st.get t = match find t st.t with | some v => v | none => .undef := rfl
    rw [hg, hv] at ht
    exact hV ht
  ·trivial
 ·have hk' : find k (without dead st.b) = some cs := hk
  rw [find_without] at hk'
  split at hk'
  ·simp at hk'
  ·obtain ⟨q1, vs, E, q2, q3, q4⟩ := h.bx k cs hk'
   exact ⟨q1, vs, E, q2, q3, fun i c v hi hj => ⟨hV (q4 i c v hi hj).1, (q4 i c v hi hj).2⟩⟩
 ·have hk' : find k (without dead st.r) = some xs := hk
  rw [find_without] at hk'
  split at hk'
  ·simp at hk'
  ·exact h.rw k xs hk'
theorem Inv.drawn (h : Inv c γ D st a w) (n : Nat) : Inv c γ D st a { w with drawn := n } := by
 have hV : ∀ {av : AV} {v : Value}, RepV γ w D st av v → RepV γ { w with drawn := n } D st av v := fun {av v} hv =>
  RepV.mono (w := w) (w' := { w with drawn := n }) (fun _ _ _ => rfl) (fun _ _ hd => hd) (fun _ => Nat.le_refl _) (fun k _ => ⟨rfl, rfl, fun xs hx => ⟨xs, hx, rfl⟩, fun _ _ _ hh => hh⟩) hv
 refine ⟨h.nt, h.dfr, fun t => hV (h.tm t), fun k cs hk => ?_, fun k xs hk => ?_, h.own, h.live, ⟨h.fr.os, h.fr.tape, h.fr.output, h.fr.size, h.fr.block⟩, h.dold, h.dlt, h.pk⟩
 ·obtain ⟨q1, vs, E, q2, q3, q4⟩ := h.bx k cs hk
  exact ⟨q1, vs, E, q2, q3, fun i c v hi hj => ⟨hV (q4 i c v hi hj).1, (q4 i c v hi hj).2⟩⟩
 ·obtain ⟨q1, vs, E, q2, q3, q4⟩ := h.rw k xs hk
  exact ⟨q1, vs, E, q2, q3, fun i c v hi hj => ⟨RepD.mono (w := w) (w' := { w with drawn := n }) (fun _ _ _ => rfl) (fun _ _ hd => hd) (q4 i c v hi hj).1, (q4 i c v hi hj).2⟩⟩
def DrawOk (P : Program) (tb : Tb) (ops : Array Oper) : Prop :=
 ∀ (E : Ev), E.tb = tb → ∀ (t : Nat) (st st' : St), runD E true ops ops.toList st.canon = some st' →
  runD E true ops ((Region.schedule (P.follows .mixedOrders) ops t).filterMap (ops[·]?)) st.canon = some st'
def CodeOk (P : Program) (tb : Tb) : Code → Prop
 | .region _ ops true => DrawOk P tb ops
 | .seq a b => CodeOk P tb a ∧ CodeOk P tb b
 | .cond _ a b => CodeOk P tb a ∧ CodeOk P tb b
 | .block _ c => CodeOk P tb c
 | .loop c => CodeOk P tb c
 | _ => True
def loopsOf : Code → List Code
 | .seq a b => loopsOf a ++ loopsOf b
 | .cond _ a b => loopsOf a ++ loopsOf b
 | .block _ c => loopsOf c
 | .loop c => c :: loopsOf c
 | _ => []
def LsOk (E : Ev) (fx : Fx) (cd : Code) : Prop :=
 ∀ c ∈ loopsOf cd, ∀ LS, find (headId c) fx.ls = some LS → ∀ st K r, LS st K = some r → ∃ n, loopA (evC E fx n c) (fx.deadAt c) K n st = some r
def QK (c : Ctx) (K : Ex → St → Res) (r : AV × Boxes) : Exit → Act → World → Prop
 | .normal, a, w => ∃ γ D st, Inv c γ D st a w ∧ K .normal st = some r
 | .exit id, a, w => ∃ γ D st, Inv c γ D st a w ∧ K (.exit id) st = some r
 | .ret, a, w => ∃ γ D st, Inv c γ D st a w ∧ K .ret st = some r
 | _, _, _ => False
theorem evC_sound {E : Ev} (hE : EvOk P E) (fx : Fx) : ∀ (cd : Code), CodeOk P E.tb cd → LsOk E fx cd → ∀ (n : Nat) (K : Ex → St → Res) (r : AV × Boxes) (γ : Gh) (D : Dead) (st : St) (a : Act) (w : World),
  Inv c γ D st a w → evC E fx n cd st K = some r → cd.wp P (QK c K r) a w := by
 intro cd
 induction cd with
 | skip => exact fun _ _ n K r γ D st a w h hs => wp_skip ⟨γ, D, st, h, hs⟩
 | label l => exact fun _ _ n K r γ D st a w h hs => wp_label ⟨γ, D, st, h, hs⟩
 | exit id => exact fun _ _ n K r γ D st a w h hs => wp_exit ⟨γ, D, st, h, hs⟩
 | ret => exact fun _ _ n K r γ D st a w h hs => wp_ret ⟨γ, D, st, h, hs⟩
 | region id ops draw =>
  intro hok _ n K r γ D st a w h hs
  unfold evC at hs
  obtain ⟨st', h1, h2⟩ := runOps_D hs
  have hq : ∀ γ' D' a' w', Inv c γ' D' st' a' w' → QK c K r .normal a' w' := fun γ' D' a' w' hI => by
   unfold joinK at h2
   split at h2
   ·rw [joinA_eq] at h2
    exact ⟨γ', D', _, (hI.fin fx.kp).clean _, h2⟩
   ·exact ⟨γ', D', _, hI.fin fx.kp, h2⟩
  cases draw
  ·simp only [cond_false] at h1
   refine wp_region (wpOps_sound hE (draw := false) hq _ γ D st a w h ?_)
   rw [range_filterMap]
   exact h1
  ·simp only [cond_true] at h1
   refine wp_region_draw fun t => ?_
   exact wpOps_sound hE (draw := true) hq _ γ D st.canon a _ (h.canon.drawn _) (hok E rfl t st st' h1)
 | seq x y ihx ihy =>
  intro hok hls n K r γ D st a w h hs
  unfold evC at hs
  refine wp_seq (wp_mono (ihx hok.1 (fun c hc => hls c (List.mem_append.2 (.inl hc))) n _ r γ D st a w h hs) fun e a' w' hq => ?_)
  cases e with
  | normal => obtain ⟨γ', D', st', hI, hk⟩ := hq; exact ihy hok.2 (fun c hc => hls c (List.mem_append.2 (.inr hc))) n K r γ' D' st' a' w' hI hk
  | exit id => obtain ⟨γ', D', st', hI, hk⟩ := hq; exact ⟨γ', D', st', hI, hk⟩
  | ret => obtain ⟨γ', D', st', hI, hk⟩ := hq; exact ⟨γ', D', st', hI, hk⟩
  | goto l => exact hq.elim
  | panic ch => exact hq.elim
  | outgrown => exact hq.elim
 | cond x y z ihy ihz =>
  intro hok hls n K r γ D st a w h hs
  unfold evC at hs
  split at hs
  ·rename_i t hx
   have e := inv_bool (hx ▸ h.ev x)
   cases t
   ·exact wp_cond_false e (ihz hok.2 (fun c hc => hls c (List.mem_append.2 (.inr hc))) n K r γ D st a w h hs)
   ·exact wp_cond_true e (ihy hok.1 (fun c hc => hls c (List.mem_append.2 (.inl hc))) n K r γ D st a w h hs)
  ·simp at hs
 | block id x ih =>
  intro hok hls n K r γ D st a w h hs
  unfold evC at hs
  refine wp_block (wp_mono (ih hok hls n _ r γ D st a w h hs) fun e a' w' hq => ?_)
  cases e with
  | normal => obtain ⟨γ', D', st', hI, hk⟩ := hq; exact ⟨γ', D', st', hI, hk⟩
  | exit id' =>
   obtain ⟨γ', D', st', hI, hk⟩ := hq
   simp only at hk
   unfold Exit.inBlock
   split at hk
   ·rename_i e; simp only [e, if_true]; exact ⟨γ', D', st', hI, hk⟩
   ·rename_i e; simp only [e, if_false]; exact ⟨γ', D', st', hI, hk⟩
  | ret => obtain ⟨γ', D', st', hI, hk⟩ := hq; exact ⟨γ', D', st', hI, hk⟩
  | goto l => exact hq.elim
  | panic ch => exact hq.elim
  | outgrown => exact hq.elim
 | loop x ih =>
  intro hok hls n K r γ D st a w h hs
  have hls' : LsOk E fx x := fun c hc => hls c (List.mem_cons_of_mem _ hc)
  have key : ∀ (n : Nat) (dead : List Nat) m γ D st a w, Inv c γ D st a w → loopA (evC E fx n x) dead K m st = some r → Code.rounds P x (QK c K r) m a w := by
   intro n dead m
   induction m with
   | zero => intro γ D st a w _ hs; simp [loopA] at hs
   | succ m ihm =>
    intro γ D st a w h hs
    unfold loopA at hs
    rw [rounds_succ]
    refine wp_mono (ih hok hls' n _ r γ D _ a w (h.clean dead) hs) fun e a' w' hq => ?_
    cases e with
    | normal => obtain ⟨γ', D', st', hI, hk⟩ := hq; exact ihm γ' D' st' a' w' hI hk
    | exit id => obtain ⟨γ', D', st', hI, hk⟩ := hq; exact ⟨γ', D', st', hI, hk⟩
    | ret => obtain ⟨γ', D', st', hI, hk⟩ := hq; exact ⟨γ', D', st', hI, hk⟩
    | goto l => exact hq.elim
    | panic ch => exact hq.elim
    | outgrown => exact hq.elim
  unfold evC at hs
  split at hs
  ·rename_i LS hLS
   obtain ⟨m, hm⟩ := hls x (List.mem_cons_self ..) LS hLS st K r hs
   exact wp_loop_rounds m (key m _ m γ D st a w h hm)
  ·exact wp_loop_rounds n (key n _ n γ D st a w h hs)
 | rangeFunc f ps x y ihx ihy => intro _ _ n K r γ D st a w h hs; simp [evC] at hs
 | scope x ih => intro _ _ n K r γ D st a w h hs; simp [evC] at hs
 | goto l => intro _ _ n K r γ D st a w h hs; simp [evC] at hs
 | refuse s => intro _ _ n K r γ D st a w h hs; simp [evC] at hs
end
end Go.AM
