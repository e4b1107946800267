/- Soundness: what comes back from a call; numbers. -/
import Derived.Test.YtpdifkaeiecdpaaAmMV
namespace Go.AM
open Go.RowKit Go.Lib
section
variable [Reg]
section
variable {P : Program} {c : Ctx} {γ γ' γ'' : Gh} {D D' D'' : Dead} {st : St} {a : Act} {w w' w'' : World} {tb : Tb} {H : Hints} {h h' h'' : Heap} {u u' u'' : List Nat}

def rrd0 (j i : Nat) : Nat := 14000000 + j * 128 + i
def heapR (v : AV) (os : List Ob) : Heap := unpack (fun n => n) rid0 0 os ++ rowsVs rrd0 0 (parts v)
def psi (dst : Option Nat) (ks : List Nat) (k : Nat) : Nat := if k < 1000 then bidOf dst ks k else if k < 14000000 then ridOf dst ((k - 1000) / 128) ((k - 1000) % 128) else rrdOf dst ((k - 14000000) / 128) ((k - 14000000) % 128)
section
variable {dst : Option Nat} {ks : List Nat}
omit [Reg] in
theorem psi_bid {m : Nat} (h : m < 1000) : psi dst ks m = bidOf dst ks m := by simp [psi, h]
omit [Reg] in
theorem psi_rid {n i : Nat} (hn : n < 100) (hi : i < 128) : psi dst ks (rid0 n i) = ridOf dst n i := by
  unfold psi rid0
  rw [if_neg (by omega), if_pos (by omega), show (1000 + n * 128 + i - 1000) / 128 = n by omega, show (1000 + n * 128 + i - 1000) % 128 = i by omega]
omit [Reg] in
theorem psi_rrd {n i : Nat} (hi : i < 128) : psi dst ks (rrd0 n i) = rrdOf dst n i := by
  unfold psi rrd0
  rw [if_neg (by omega), if_neg (by omega), show (14000000 + n * 128 + i - 14000000) / 128 = n by omega, show (14000000 + n * 128 + i - 14000000) % 128 = i by omega]
end
section
variable {ψ : Nat → Nat} {bid : Nat → Nat}
theorem in0_ren {r0 r : Nat} {b : AV} (hok : cellOk b = true) (h1 : ∀ m, m < 1000 → ψ m = bid m) (h2 : ψ r0 = r) : in0 bid r b = renC (fun k => some (ψ k)) (in0 (fun n => n) r0 b) := by
  cases b <;> simp only [cellOk] at hok <;> try rfl
  case ptr m off => simp only [in0, renC, ren1, h1 m (blt_iff.1 hok)]
  case vw m t => simp only [in0, renC, ren1, h1 m (blt_iff.1 hok)]
  case sv m t lo n => simp only [in0, renC, ren1, h1 m (blt_iff.1 hok)]
  case ow t xs => simp only [in0, renC, ren1, h2]
  case fn f cs =>
    simp only [in0, renC, List.map_map]
    congr 1
    refine List.map_congr_left fun x hx => ?_
    have := List.all_eq_true.1 hok x hx
    cases x <;> simp only [Bool.false_eq_true] at this <;> try rfl
    rename_i m off
    simp only [Function.comp, ren1, h1 m (blt_iff.1 this)]
theorem inCs_ren {rid0' rid : Nat → Nat} (h1 : ∀ m, m < 1000 → ψ m = bid m) : ∀ (cs : List AV) (n : Nat), (∀ c ∈ cs, cellOk c = true) → (∀ i, i < n + cs.length → ψ (rid0' i) = rid i) → inCs bid rid n cs = (inCs (fun n => n) rid0' n cs).map (renC fun k => some (ψ k))
  | [], n, _, _ => rfl
  | c :: r, n, hok, h2 => by
    simp only [inCs, List.map_cons]
    rw [in0_ren (hok c (by simp)) h1 (h2 n (by simp)), inCs_ren h1 r (n + 1) (fun c hc => hok c (by simp [hc])) (fun i hi => h2 i (by simp; omega))]
theorem rowsCs_ren {rid0' rid : Nat → Nat} : ∀ (cs : List AV) (n : Nat), (∀ i, i < n + cs.length → ψ (rid0' i) = rid i) → rowsCs rid n cs = (rowsCs rid0' n cs).map fun p => (ψ p.1, renO (fun k => some (ψ k)) p.2)
  | [], n, _ => rfl
  | c :: r, n, h2 => by
    have ih := rowsCs_ren (rid0' := rid0') (rid := rid) r (n + 1) (fun i hi => h2 i (by simp; omega))
    unfold rowsCs
    split
    · rename_i t xs
      rw [List.map_cons, ih]
      simp only [renO, h2 n (by simp)]
    · exact ih
theorem unpack_ren {rid : Nat → Nat → Nat} (h1 : ∀ m, m < 1000 → ψ m = bid m) (h2 : ∀ n i, n < 100 → i < 128 → ψ (rid0 n i) = rid n i) : ∀ (os : List Ob) (n : Nat), n + os.length ≤ 100 → os.all objOk = true → unpack bid rid n os = (unpack (fun n => n) rid0 n os).map fun p => (ψ p.1, renO (fun k => some (ψ k)) p.2)
  | [], n, _, _ => rfl
  | o :: r, n, hn, hok => by
    simp only [List.length_cons] at hn
    simp only [List.all_cons, Bool.and_eq_true] at hok
    have ih := unpack_ren h1 h2 r (n + 1) (by omega) hok.2
    have e1 := h1 n (by omega)
    unfold unpack
    split
    · rename_i cs
      have hc := hok.1
      simp only [objOk, cellsOk, Bool.and_eq_true, Nat.ble_eq] at hc
      rw [List.map_cons, List.map_append, ih, inCs_ren (rid0' := rid0 n) h1 cs 0 (List.all_eq_true.1 hc.2) (fun i hi => h2 n i (by omega) (by omega)), rowsCs_ren (rid0' := rid0 n) (rid := rid n) cs 0 (fun i hi => h2 n i (by omega) (by omega))]
      simp only [renO, e1]
    · exact ih
    · rename_i g1 g2
      rw [List.map_cons, ih]
      simp only [e1]
      congr 2
      cases o <;> first | rfl | exact absurd rfl (g1 _) | exact absurd rfl g2
theorem rowsVs_ren {rid : Nat → Nat → Nat} (h2 : ∀ j i, i < 128 → ψ (rrd0 j i) = rid j i) : ∀ (vs : List AV) (j : Nat), (vs.all fun v => cellsOk v.cells) = true → rowsVs rid j vs = (rowsVs rrd0 j vs).map fun p => (ψ p.1, renO (fun k => some (ψ k)) p.2)
  | [], j, _ => rfl
  | v :: r, j, hok => by
    simp only [List.all_cons, Bool.and_eq_true, cellsOk, Nat.ble_eq] at hok
    simp only [rowsVs, List.map_append]
    rw [rowsVs_ren h2 r (j + 1) hok.2, rowsCs_ren (rid0' := rrd0 j) (rid := rid j) v.cells 0 (fun i hi => h2 j i (by omega))]
theorem inV_ren {rid rid0' : Nat → Nat} (h1 : ∀ m, m < 1000 → ψ m = bid m) (h2 : ∀ i, i < 128 → ψ (rid0' i) = rid i) {v : AV} (hok : cellsOk v.cells = true) : inV bid rid v = renB (fun k => some (ψ k)) (inV (fun n => n) rid0' v) := by
  simp only [cellsOk, Bool.and_eq_true, Nat.ble_eq] at hok
  cases v with
  | agg cs =>
    simp only [inV, renB]
    rw [inCs_ren (rid0' := rid0') h1 cs 0 (List.all_eq_true.1 hok.2) (fun i hi => h2 i (by have := hok.1; simp only [AV.cells] at this; omega))]
  | _ =>
    have hc : cellOk _ = true := List.all_eq_true.1 hok.2 _ (List.mem_singleton.2 rfl)
    have e := in0_ren (ψ := ψ) (bid := bid) (r0 := rid0' 0) hc h1 (h2 0 (by omega))
    refine Eq.trans (show inV bid rid _ = in0 bid (rid 0) _ from rfl) (e.trans ?_)
    rfl
theorem inVs_ren {rid : Nat → Nat → Nat} (h1 : ∀ m, m < 1000 → ψ m = bid m) (h2 : ∀ j i, i < 128 → ψ (rrd0 j i) = rid j i) : ∀ (vs : List AV) (j : Nat), (vs.all fun v => cellsOk v.cells) = true → inVs bid rid j vs = (inVs (fun n => n) rrd0 j vs).map (renB fun k => some (ψ k))
  | [], j, _ => rfl
  | v :: r, j, hok => by
    simp only [List.all_cons, Bool.and_eq_true] at hok
    simp only [inVs, List.map_cons]
    rw [inV_ren (rid0' := rrd0 j) h1 (h2 j) hok.1, inVs_ren h1 h2 r (j + 1) hok.2]
theorem inR_ren {rid : Nat → Nat → Nat} (h1 : ∀ m, m < 1000 → ψ m = bid m) (h2 : ∀ j i, i < 128 → ψ (rrd0 j i) = rid j i) {v : AV} (hok : ((parts v).all fun v => cellsOk v.cells) = true) : inR bid rid v = renV (fun k => some (ψ k)) (inR (fun n => n) rrd0 v) := by
  cases v with
  | tup vs =>
    simp only [inR, renV]
    rw [inVs_ren h1 h2 vs 0 hok]
  | _ =>
    have hc : cellsOk (AV.cells _) = true := List.all_eq_true.1 hok _ (List.mem_singleton.2 rfl)
    have e := inV_ren (ψ := ψ) (bid := bid) (rid0' := rrd0 0) h1 (h2 0) hc
    refine Eq.trans (show inR bid rid _ = inV bid (rid 0) _ from rfl) (e.trans ?_)
    rfl
end

theorem ren1_congr {f g : Nat → Option Nat} {x : AV} (hh : ∀ k ∈ x.refsG0, f k = g k) : ren1 f x = ren1 g x := by
  cases x <;> first | rfl | simp only [ren1, hh _ (List.mem_singleton.2 rfl)]
theorem renC_ne {x : AV} (hx : ∀ n cs, x ≠ .fn n cs) : (∀ f, renC f x = ren1 f x) ∧ x.refsG1 = x.refsG0 := by
  cases x <;> first | exact ⟨fun _ => rfl, rfl⟩ | exact absurd rfl (hx _ _)
theorem renB_ne {x : AV} (hx : ∀ cs, x ≠ .agg cs) : ∀ f, renB f x = renC f x := by
  cases x <;> first | exact fun _ => rfl | exact absurd rfl (hx _)
theorem renV_ne {x : AV} (hx : ∀ cs, x ≠ .tup cs) : ∀ f, renV f x = renB f x := by
  cases x <;> first | exact fun _ => rfl | exact absurd rfl (hx _)
theorem RepB.toC' {x : AV} {y : Value} (h1 : RepB γ h u w D x y) (hx : ∀ cs, x ≠ .agg cs) : RepC γ h u w D x y := by
  cases x <;> first | exact h1 | exact absurd rfl (hx _)
theorem renC_congr {f g : Nat → Option Nat} {x : AV} (hh : ∀ k ∈ x.refsG1, f k = g k) : renC f x = renC g x := by
  by_cases hx : ∃ n cs, x = .fn n cs
  · obtain ⟨n, cs, rfl⟩ := hx
    simp only [renC]
    congr 1
    exact List.map_congr_left fun y hy => ren1_congr fun k hk => hh k (List.mem_flatMap.2 ⟨y, hy, hk⟩)
  · obtain ⟨e1, e2⟩ := renC_ne (fun n cs e => hx ⟨n, cs, e⟩)
    rw [e1, e1]
    rw [e2] at hh
    exact ren1_congr hh
theorem renB_congr {f g : Nat → Option Nat} {x : AV} {y : Value} (hx : RepB γ h u w D x y) (hh : ∀ k ∈ u, f k = g k) : renB f x = renB g x := by
  by_cases hc : ∃ cs, x = .agg cs
  · obtain ⟨cs, rfl⟩ := hc
    obtain ⟨vs, _, hn, hv⟩ := hx
    simp only [renB]
    congr 1
    refine List.map_congr_left fun z hz => renC_congr fun k hk => hh k ?_
    obtain ⟨i, hi⟩ := List.getElem?_of_mem hz
    have hlt : i < vs.size := by rw [hn]; exact (List.getElem?_eq_some_iff.1 hi).1
    exact (hv i z _ hi (Array.getElem?_eq_getElem hlt)).1.refs k hk
  · have hne := fun cs e => hc ⟨cs, e⟩
    rw [renB_ne hne, renB_ne hne]
    exact renC_congr fun k hk => hh k ((hx.toC' hne).refs k hk)
theorem renV_congr {f g : Nat → Option Nat} {x : AV} {y : Value} (hx : RepV γ h u w D x y) (hh : ∀ k ∈ u, f k = g k) : renV f x = renV g x := by
  by_cases hc : ∃ cs, x = .tup cs
  · obtain ⟨cs, rfl⟩ := hc
    obtain ⟨vs, _, hn, hv⟩ := hx
    simp only [renV]
    congr 1
    refine List.map_congr_left fun z hz => ?_
    obtain ⟨i, hi⟩ := List.getElem?_of_mem hz
    have hlt : i < vs.size := by rw [hn]; exact (List.getElem?_eq_some_iff.1 hi).1
    exact renB_congr (hv i z _ hi (Array.getElem?_eq_getElem hlt)) hh
  · have hne := fun cs e => hc ⟨cs, e⟩
    rw [renV_ne hne, renV_ne hne]
    exact renB_congr (hx.toB hne) hh

section
variable {dst : Option Nat} {ks : List Nat} {v : AV} {os : List Ob}
theorem backL_eq (hok : objsOk os = true) (hr : resOk v = true) : backL dst ks v os = (heapR v os).map fun p => (psi dst ks p.1, renO (fun k => some (psi dst ks k)) p.2) := by
  simp only [objsOk, Bool.and_eq_true, Nat.ble_eq] at hok
  simp only [backL, heapR, List.map_append]
  simp only [resOk, Bool.and_eq_true] at hr
  rw [unpack_ren (ψ := psi dst ks) (fun m hm => psi_bid hm) (fun n i hn hi => psi_rid hn hi) os 0 (by omega) hok.2, rowsVs_ren (ψ := psi dst ks) (fun j i hi => psi_rrd hi) (parts v) 0 hr.2]
/-- From the callee's numbers to the caller's. -/
def bk (dst : Option Nat) (ks : List Nat) (v : AV) (os : List Ob) (k : Nat) : Option Nat := if k ∈ keys (heapR v os) then some (psi dst ks k) else none
omit [Reg] in
theorem map_inj {α β : Type} {f : α → β} {l : List α} (hn : (l.map f).Nodup) {x y : α} (hx : x ∈ l) (hy : y ∈ l) (e : f x = f y) : x = y := by
  induction l with
  | nil => simp at hx
  | cons z r ih =>
    simp only [List.map_cons, List.nodup_cons] at hn
    rcases List.mem_cons.1 hx with a1 | a1 <;> rcases List.mem_cons.1 hy with b1 | b1
    · rw [a1, b1]
    · exact (hn.1 (List.mem_map.2 ⟨y, b1, by rw [← e, a1]⟩)).elim
    · exact (hn.1 (List.mem_map.2 ⟨x, a1, by rw [e, b1]⟩)).elim
    · exact ih hn.2 a1 b1
theorem keys_backL (hok : objsOk os = true) (hr : resOk v = true) : keys (backL dst ks v os) = (keys (heapR v os)).map (psi dst ks) := by
  rw [backL_eq hok hr]
  simp [keys, Function.comp_def]
theorem ren_back (hok : objsOk os = true) (hr : resOk v = true) (hn : (keys (backL dst ks v os)).Nodup) : Ren (bk dst ks v os) (heapR v os) (backL dst ks v os) (keys (heapR v os)) (keys (backL dst ks v os)) ∧ (keys (heapR v os)).Nodup := by
  have hk := keys_backL (dst := dst) (ks := ks) hok hr
  rw [hk] at hn
  have hn0 : (keys (heapR v os)).Nodup := by
    have gen : ∀ {l : List Nat}, (l.map (psi dst ks)).Nodup → l.Nodup := by
      intro l
      induction l with
      | nil => intro _; exact List.nodup_nil
      | cons x r ih =>
        intro hx
        simp only [List.map_cons, List.nodup_cons] at hx
        exact List.nodup_cons.2 ⟨fun hm => hx.1 (List.mem_map.2 ⟨x, hm, rfl⟩), ih hx.2⟩
    exact gen hn
  have hbk : ∀ {k k'}, bk dst ks v os k = some k' → k ∈ keys (heapR v os) ∧ psi dst ks k = k' := fun {k k'} e => by
    unfold bk at e
    split at e
    · rename_i hm
      simp only [Option.some.injEq] at e
      exact ⟨hm, e⟩
    · simp at e
  refine ⟨⟨fun j k i e1 e2 => ?_, fun k' o' e => ?_, fun k k' e => ?_⟩, hn0⟩
  · obtain ⟨a1, a2⟩ := hbk e1
    obtain ⟨b1, b2⟩ := hbk e2
    exact map_inj hn a1 b1 (a2.trans b2.symm)
  · have hm := find_mem e
    rw [backL_eq hok hr] at hm
    obtain ⟨⟨k, o⟩, h1, h2⟩ := List.mem_map.1 hm
    simp only [Prod.mk.injEq] at h2
    obtain ⟨rfl, rfl⟩ := h2
    have hin : k ∈ keys (heapR v os) := List.mem_map.2 ⟨_, h1, rfl⟩
    refine ⟨k, o, by simp only [bk, if_pos hin], find_of_mem hn0 h1, ?_⟩
    cases o with
    | box cs =>
      refine ⟨_, rfl, by simp, fun i c' d hc hd hu => ?_⟩
      rw [List.getElem?_map, hc] at hd
      simp only [Option.map_some, Option.some.injEq] at hd
      subst hd
      exact .inl (renC_congr fun k hk => by simp only [bk, if_pos (hu k hk)])
    | _ => rfl
  · obtain ⟨a1, a2⟩ := hbk e
    rw [hk, ← a2]
    exact List.mem_map.2 ⟨k, a1, rfl⟩
theorem inR_bk {y : Value} {v0 : AV} (hr : resOk v0 = true) (hx : RepV γ h (keys (heapR v os)) w D (inR (fun n => n) rrd0 v0) y) : renV (bk dst ks v os) (inR (fun n => n) rrd0 v0) = inR (bidOf dst ks) (rrdOf dst) v0 := by
  simp only [resOk, Bool.and_eq_true] at hr
  rw [inR_ren (ψ := psi dst ks) (fun m hm => psi_bid hm) (fun j i hi => psi_rrd hi) hr.2]
  exact renV_congr hx fun k hk => by simp only [bk, if_pos hk]
end
end
end
end Go.AM
