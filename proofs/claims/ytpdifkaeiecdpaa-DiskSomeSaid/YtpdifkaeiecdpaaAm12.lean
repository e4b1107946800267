/- A part of the proof: machine and program. -/
import Derived.Test.YtpdifkaeiecdpaaAm11
import Derived.Laws.Sem
namespace Go.AM
open Go.RowKit Go.Lib
section
variable [Reg]
section
variable {P : Program} {c : Ctx} {γ γ' γ'' : Gh} {D D' D'' : Dead} {st : St} {a : Act} {w w' w'' : World} {tb : Tb} {H : Hints} {h h' h'' : Heap} {u u' u'' : List Nat}

def rrd0 (j i : Nat) : Nat := 14000000 + j * 128 + i
def heapR (v : AV) (os : List Ob) : Heap := unpack (fun n => n) rid0 0 os ++ rowsVs rrd0 0 (parts v)
def psi (dst : Option Nat) (ks : List Nat) (k : Nat) : Nat := if k < 1000 then bidOf dst ks k else if k < 14000000 then ridOf dst ((k - 1000) / 128) ((k - 1000) % 128) else rrdOf dst ((k - 14000000) / 128) ((k - 14000000) % 128)
section
variable {dst : Option Nat} {ks : List Nat}
omit [Reg] in
theorem psi_bid {m : Nat} (h : m < 1000) : psi dst ks m = bidOf dst ks m := by simp [psi, h]
omit [Reg] in
theorem psi_rid {n i : Nat} (hn : n < 100) (hi : i < 128) : psi dst ks (rid0 n i) = ridOf dst n i := by
  unfold psi rid0
  rw [if_neg (by omega), if_pos (by omega), show (1000 + n * 128 + i - 1000) / 128 = n by omega, show (1000 + n * 128 + i - 1000) % 128 = i by omega]
omit [Reg] in
theorem psi_rrd {n i : Nat} (hi : i < 128) : psi dst ks (rrd0 n i) = rrdOf dst n i := by
  unfold psi rrd0
  rw [if_neg (by omega), if_neg (by omega), show (14000000 + n * 128 + i - 14000000) / 128 = n by omega, show (14000000 + n * 128 + i - 14000000) % 128 = i by omega]
end
section
variable {ψ : Nat → Nat} {bid : Nat → Nat}
theorem in0_ren {r0 r : Nat} {b : AV} (hok : cellOk b = true) (h1 : ∀ m, m < 1000 → ψ m = bid m) (h2 : ψ r0 = r) : in0 bid r b = renC (fun k => some (ψ k)) (in0 (fun n => n) r0 b) := by
  cases b <;> simp only [cellOk] at hok <;> try rfl
  case ptr m off => simp only [in0, renC, ren1, h1 m (blt_iff.1 hok)]
  case vw m t => simp only [in0, renC, ren1, h1 m (blt_iff.1 hok)]
  case sv m t lo n => simp only [in0, renC, ren1, h1 m (blt_iff.1 hok)]
  case ow t xs => simp only [in0, renC, ren1, h2]
  case fn f cs =>
    simp only [in0, renC, List.map_map]
    congr 1
    refine List.map_congr_left fun x hx => ?_
    have := List.all_eq_true.1 hok x hx
    cases x <;> simp only [Bool.false_eq_true] at this <;> try rfl
    rename_i m off
    simp only [Function.comp, ren1, h1 m (blt_iff.1 this)]
theorem inCs_ren {rid0' rid : Nat → Nat} (h1 : ∀ m, m < 1000 → ψ m = bid m) : ∀ (cs : List AV) (n : Nat), (∀ c ∈ cs, cellOk c = true) → (∀ i, i < n + cs.length → ψ (rid0' i) = rid i) → inCs bid rid n cs = (inCs (fun n => n) rid0' n cs).map (renC fun k => some (ψ k))
  | [], n, _, _ => rfl
  | c :: r, n, hok, h2 => by
    simp only [inCs, List.map_cons]
    rw [in0_ren (hok c (by simp)) h1 (h2 n (by simp)), inCs_ren h1 r (n + 1) (fun c hc => hok c (by simp [hc])) (fun i hi => h2 i (by simp; omega))]
theorem rowsCs_ren {rid0' rid : Nat → Nat} : ∀ (cs : List AV) (n : Nat), (∀ i, i < n + cs.length → ψ (rid0' i) = rid i) → rowsCs rid n cs = (rowsCs rid0' n cs).map fun p => (ψ p.1, renO (fun k => some (ψ k)) p.2)
  | [], n, _ => rfl
  | c :: r, n, h2 => by
    have ih := rowsCs_ren (rid0' := rid0') (rid := rid) r (n + 1) (fun i hi => h2 i (by simp; omega))
    unfold rowsCs
    split
    · rename_i t xs
      rw [List.map_cons, ih]
      simp only [renO, h2 n (by simp)]
    · exact ih
theorem unpack_ren {rid : Nat → Nat → Nat} (h1 : ∀ m, m < 1000 → ψ m = bid m) (h2 : ∀ n i, n < 100 → i < 128 → ψ (rid0 n i) = rid n i) : ∀ (os : List Ob) (n : Nat), n + os.length ≤ 100 → os.all objOk = true → unpack bid rid n os = (unpack (fun n => n) rid0 n os).map fun p => (ψ p.1, renO (fun k => some (ψ k)) p.2)
  | [], n, _, _ => rfl
  | o :: r, n, hn, hok => by
    simp only [List.length_cons] at hn
    simp only [List.all_cons, Bool.and_eq_true] at hok
    have ih := unpack_ren h1 h2 r (n + 1) (by omega) hok.2
    have e1 := h1 n (by omega)
    unfold unpack
    split
    · rename_i cs
      have hc := hok.1
      simp only [objOk, cellsOk, Bool.and_eq_true, Nat.ble_eq] at hc
      rw [List.map_cons, List.map_append, ih, inCs_ren (rid0' := rid0 n) h1 cs 0 (List.all_eq_true.1 hc.2) (fun i hi => h2 n i (by omega) (by omega)), rowsCs_ren (rid0' := rid0 n) (rid := rid n) cs 0 (fun i hi => h2 n i (by omega) (by omega))]
      simp only [renO, e1]
    · exact ih
    · rename_i g1 g2
      rw [List.map_cons, ih]
      simp only [e1]
      congr 2
      cases o <;> first | rfl | exact absurd rfl (g1 _) | exact absurd rfl g2
theorem rowsVs_ren {rid : Nat → Nat → Nat} (h2 : ∀ j i, i < 128 → ψ (rrd0 j i) = rid j i) : ∀ (vs : List AV) (j : Nat), (vs.all fun v => cellsOk v.cells) = true → rowsVs rid j vs = (rowsVs rrd0 j vs).map fun p => (ψ p.1, renO (fun k => some (ψ k)) p.2)
  | [], j, _ => rfl
  | v :: r, j, hok => by
    simp only [List.all_cons, Bool.and_eq_true, cellsOk, Nat.ble_eq] at hok
    simp only [rowsVs, List.map_append]
    rw [rowsVs_ren h2 r (j + 1) hok.2, rowsCs_ren (rid0' := rrd0 j) (rid := rid j) v.cells 0 (fun i hi => h2 j i (by omega))]
theorem inV_ren {rid rid0' : Nat → Nat} (h1 : ∀ m, m < 1000 → ψ m = bid m) (h2 : ∀ i, i < 128 → ψ (rid0' i) = rid i) {v : AV} (hok : cellsOk v.cells = true) : inV bid rid v = renB (fun k => some (ψ k)) (inV (fun n => n) rid0' v) := by
  simp only [cellsOk, Bool.and_eq_true, Nat.ble_eq] at hok
  cases v with
  | agg cs =>
    simp only [inV, renB]
    rw [inCs_ren (rid0' := rid0') h1 cs 0 (List.all_eq_true.1 hok.2) (fun i hi => h2 i (by have := hok.1; simp only [AV.cells] at this; omega))]
  | _ =>
    have hc : cellOk _ = true := List.all_eq_true.1 hok.2 _ (List.mem_singleton.2 rfl)
    have e := in0_ren (ψ := ψ) (bid := bid) (r0 := rid0' 0) hc h1 (h2 0 (by omega))
    refine Eq.trans (show inV bid rid _ = in0 bid (rid 0) _ from rfl) (e.trans ?_)
    rfl
theorem inVs_ren {rid : Nat → Nat → Nat} (h1 : ∀ m, m < 1000 → ψ m = bid m) (h2 : ∀ j i, i < 128 → ψ (rrd0 j i) = rid j i) : ∀ (vs : List AV) (j : Nat), (vs.all fun v => cellsOk v.cells) = true → inVs bid rid j vs = (inVs (fun n => n) rrd0 j vs).map (renB fun k => some (ψ k))
  | [], j, _ => rfl
  | v :: r, j, hok => by
    simp only [List.all_cons, Bool.and_eq_true] at hok
    simp only [inVs, List.map_cons]
    rw [inV_ren (rid0' := rrd0 j) h1 (h2 j) hok.1, inVs_ren h1 h2 r (j + 1) hok.2]
theorem inR_ren {rid : Nat → Nat → Nat} (h1 : ∀ m, m < 1000 → ψ m = bid m) (h2 : ∀ j i, i < 128 → ψ (rrd0 j i) = rid j i) {v : AV} (hok : ((parts v).all fun v => cellsOk v.cells) = true) : inR bid rid v = renV (fun k => some (ψ k)) (inR (fun n => n) rrd0 v) := by
  cases v with
  | tup vs =>
    simp only [inR, renV]
    rw [inVs_ren h1 h2 vs 0 hok]
  | _ =>
    have hc : cellsOk (AV.cells _) = true := List.all_eq_true.1 hok _ (List.mem_singleton.2 rfl)
    have e := inV_ren (ψ := ψ) (bid := bid) (rid0' := rrd0 0) h1 (h2 0) hc
    refine Eq.trans (show inR bid rid _ = inV bid (rid 0) _ from rfl) (e.trans ?_)
    rfl
end

theorem ren1_congr {f g : Nat → Option Nat} {x : AV} (hh : ∀ k ∈ x.refsG0, f k = g k) : ren1 f x = ren1 g x := by
  cases x <;> first | rfl | simp only [ren1, hh _ (List.mem_singleton.2 rfl)]
theorem renC_ne {x : AV} (hx : ∀ n cs, x ≠ .fn n cs) : (∀ f, renC f x = ren1 f x) ∧ x.refsG1 = x.refsG0 := by
  cases x <;> first | exact ⟨fun _ => rfl, rfl⟩ | exact absurd rfl (hx _ _)
theorem renB_ne {x : AV} (hx : ∀ cs, x ≠ .agg cs) : ∀ f, renB f x = renC f x := by
  cases x <;> first | exact fun _ => rfl | exact absurd rfl (hx _)
theorem renV_ne {x : AV} (hx : ∀ cs, x ≠ .tup cs) : ∀ f, renV f x = renB f x := by
  cases x <;> first | exact fun _ => rfl | exact absurd rfl (hx _)
theorem RepB.toC' {x : AV} {y : Value} (h1 : RepB γ h u w D x y) (hx : ∀ cs, x ≠ .agg cs) : RepC γ h u w D x y := by
  cases x <;> first | exact h1 | exact absurd rfl (hx _)
theorem renC_congr {f g : Nat → Option Nat} {x : AV} (hh : ∀ k ∈ x.refsG1, f k = g k) : renC f x = renC g x := by
  by_cases hx : ∃ n cs, x = .fn n cs
  · obtain ⟨n, cs, rfl⟩ := hx
    simp only [renC]
    congr 1
    exact List.map_congr_left fun y hy => ren1_congr fun k hk => hh k (List.mem_flatMap.2 ⟨y, hy, hk⟩)
  · obtain ⟨e1, e2⟩ := renC_ne (fun n cs e => hx ⟨n, cs, e⟩)
    rw [e1, e1]
    rw [e2] at hh
    exact ren1_congr hh
theorem renB_congr {f g : Nat → Option Nat} {x : AV} {y : Value} (hx : RepB γ h u w D x y) (hh : ∀ k ∈ u, f k = g k) : renB f x = renB g x := by
  by_cases hc : ∃ cs, x = .agg cs
  · obtain ⟨cs, rfl⟩ := hc
    obtain ⟨vs, _, hn, hv⟩ := hx
    simp only [renB]
    congr 1
    refine List.map_congr_left fun z hz => renC_congr fun k hk => hh k ?_
    obtain ⟨i, hi⟩ := List.getElem?_of_mem hz
    have hlt : i < vs.size := by rw [hn]; exact (List.getElem?_eq_some_iff.1 hi).1
    exact (hv i z _ hi (Array.getElem?_eq_getElem hlt)).1.refs k hk
  · have hne := fun cs e => hc ⟨cs, e⟩
    rw [renB_ne hne, renB_ne hne]
    exact renC_congr fun k hk => hh k ((hx.toC' hne).refs k hk)
theorem renV_congr {f g : Nat → Option Nat} {x : AV} {y : Value} (hx : RepV γ h u w D x y) (hh : ∀ k ∈ u, f k = g k) : renV f x = renV g x := by
  by_cases hc : ∃ cs, x = .tup cs
  · obtain ⟨cs, rfl⟩ := hc
    obtain ⟨vs, _, hn, hv⟩ := hx
    simp only [renV]
    congr 1
    refine List.map_congr_left fun z hz => ?_
    obtain ⟨i, hi⟩ := List.getElem?_of_mem hz
    have hlt : i < vs.size := by rw [hn]; exact (List.getElem?_eq_some_iff.1 hi).1
    exact renB_congr (hv i z _ hi (Array.getElem?_eq_getElem hlt)) hh
  · have hne := fun cs e => hc ⟨cs, e⟩
    rw [renV_ne hne, renV_ne hne]
    exact renB_congr (hx.toB hne) hh

section
variable {dst : Option Nat} {ks : List Nat} {v : AV} {os : List Ob}
theorem backL_eq (hok : objsOk os = true) (hr : resOk v = true) : backL dst ks v os = (heapR v os).map fun p => (psi dst ks p.1, renO (fun k => some (psi dst ks k)) p.2) := by
  simp only [objsOk, Bool.and_eq_true, Nat.ble_eq] at hok
  simp only [backL, heapR, List.map_append]
  simp only [resOk, Bool.and_eq_true] at hr
  rw [unpack_ren (ψ := psi dst ks) (fun m hm => psi_bid hm) (fun n i hn hi => psi_rid hn hi) os 0 (by omega) hok.2, rowsVs_ren (ψ := psi dst ks) (fun j i hi => psi_rrd hi) (parts v) 0 hr.2]
/-- From the callee's numbers to the caller's. -/
def bk (dst : Option Nat) (ks : List Nat) (v : AV) (os : List Ob) (k : Nat) : Option Nat := if k ∈ keys (heapR v os) then some (psi dst ks k) else none
omit [Reg] in
theorem map_inj {α β : Type} {f : α → β} {l : List α} (hn : (l.map f).Nodup) {x y : α} (hx : x ∈ l) (hy : y ∈ l) (e : f x = f y) : x = y := by
  induction l with
  | nil => simp at hx
  | cons z r ih =>
    simp only [List.map_cons, List.nodup_cons] at hn
    rcases List.mem_cons.1 hx with a1 | a1 <;> rcases List.mem_cons.1 hy with b1 | b1
    · rw [a1, b1]
    · exact (hn.1 (List.mem_map.2 ⟨y, b1, by rw [← e, a1]⟩)).elim
    · exact (hn.1 (List.mem_map.2 ⟨x, a1, by rw [e, b1]⟩)).elim
    · exact ih hn.2 a1 b1
theorem keys_backL (hok : objsOk os = true) (hr : resOk v = true) : keys (backL dst ks v os) = (keys (heapR v os)).map (psi dst ks) := by
  rw [backL_eq hok hr]
  simp [keys, Function.comp_def]
theorem ren_back (hok : objsOk os = true) (hr : resOk v = true) (hn : (keys (backL dst ks v os)).Nodup) : Ren (bk dst ks v os) (heapR v os) (backL dst ks v os) (keys (heapR v os)) (keys (backL dst ks v os)) ∧ (keys (heapR v os)).Nodup := by
  have hk := keys_backL (dst := dst) (ks := ks) hok hr
  rw [hk] at hn
  have hn0 : (keys (heapR v os)).Nodup := by
    have gen : ∀ {l : List Nat}, (l.map (psi dst ks)).Nodup → l.Nodup := by
      intro l
      induction l with
      | nil => intro _; exact List.nodup_nil
      | cons x r ih =>
        intro hx
        simp only [List.map_cons, List.nodup_cons] at hx
        exact List.nodup_cons.2 ⟨fun hm => hx.1 (List.mem_map.2 ⟨x, hm, rfl⟩), ih hx.2⟩
    exact gen hn
  have hbk : ∀ {k k'}, bk dst ks v os k = some k' → k ∈ keys (heapR v os) ∧ psi dst ks k = k' := fun {k k'} e => by
    unfold bk at e
    split at e
    · rename_i hm
      simp only [Option.some.injEq] at e
      exact ⟨hm, e⟩
    · simp at e
  refine ⟨⟨fun j k i e1 e2 => ?_, fun k' o' e => ?_, fun k k' e => ?_⟩, hn0⟩
  · obtain ⟨a1, a2⟩ := hbk e1
    obtain ⟨b1, b2⟩ := hbk e2
    exact map_inj hn a1 b1 (a2.trans b2.symm)
  · have hm := find_mem e
    rw [backL_eq hok hr] at hm
    obtain ⟨⟨k, o⟩, h1, h2⟩ := List.mem_map.1 hm
    simp only [Prod.mk.injEq] at h2
    obtain ⟨rfl, rfl⟩ := h2
    have hin : k ∈ keys (heapR v os) := List.mem_map.2 ⟨_, h1, rfl⟩
    refine ⟨k, o, by simp only [bk, if_pos hin], find_of_mem hn0 h1, ?_⟩
    cases o with
    | box cs =>
      refine ⟨_, rfl, by simp, fun i c' d hc hd hu => ?_⟩
      rw [List.getElem?_map, hc] at hd
      simp only [Option.map_some, Option.some.injEq] at hd
      subst hd
      exact .inl (renC_congr fun k hk => by simp only [bk, if_pos (hu k hk)])
    | _ => rfl
  · obtain ⟨a1, a2⟩ := hbk e
    rw [hk, ← a2]
    exact List.mem_map.2 ⟨k, a1, rfl⟩
theorem inR_bk {y : Value} {v0 : AV} (hr : resOk v0 = true) (hx : RepV γ h (keys (heapR v os)) w D (inR (fun n => n) rrd0 v0) y) : renV (bk dst ks v os) (inR (fun n => n) rrd0 v0) = inR (bidOf dst ks) (rrdOf dst) v0 := by
  simp only [resOk, Bool.and_eq_true] at hr
  rw [inR_ren (ψ := psi dst ks) (fun m hm => psi_bid hm) (fun j i hi => psi_rrd hi) hr.2]
  exact renV_congr hx fun k hk => by simp only [bk, if_pos hk]
end
end
end
end Go.AM
namespace Go.AM
open Go.RowKit Go.Lib
section
variable [Reg]

/-- What a call leaves as it was; the first m objects were handed in. -/
structure Fr (c : Ctx) (m : Nat) (γ : Gh) (D : Dead) (h : Heap) (w : World) : Prop where
  os : w.os = c.w.os
  tape : w.tape = c.w.tape
  output : w.output = c.w.output
  size : c.w.heap.size ≤ w.heap.size
  block : ∀ b, b < c.w.heap.size → c.γ.own b = none → w.heap[b]? = c.w.heap[b]?
  lg : ∀ b n, Blk c.w b n → Blk w b n
  ow : ∀ b k, γ.own b = some k → c.w.heap.size ≤ b ∨ c.γ.own b ≠ none
  dd : (∀ b o, c.D b o → D b o) ∧ ∀ b o, b < c.w.heap.size → c.γ.own b = none → D b o → c.D b o
  dl : ∀ b o, D b o → b < w.heap.size
  ob : ∀ k, k < m → ∀ cs, find k h = some (.box cs) → (∃ cs0, find k c.os = some (.box cs0)) ∧ γ.g k = c.γ.g k
  or : ∀ k, k < m → ∀ t xs, find k h = some (.row t xs) → (∃ xs0, find k c.os = some (.row t xs0) ∧ xs0.length = xs.length) ∧ γ.g k = c.γ.g k ∧ (c.γ.own (γ.g k).1 = some k → γ.own (γ.g k).1 = some k)
  ofz : ∀ k, k < m → ∀ t xs, find k h = some (.fz t xs) → find k c.os = some (.fz t xs) ∨ ((∃ xs0, find k c.os = some (.row t xs0) ∧ xs0.length = xs.length) ∧ (xs = [] ∨ ∃ f : Nat → Value, ∀ (q : Nat) (c' : AV), (flat t xs)[q]? = some c' → D (c.γ.g k).1 ((c.γ.g k).2 + q) ∧ w.cell? ⟨(c.γ.g k).1, (c.γ.g k).2 + q, none⟩ = some (f q) ∧ RepD w D c' (f q)))
/-- What a function may count on. -/
structure Pre (c : Ctx) (vs : List AV) (os : List Ob) (args : Array Value) : Prop where
  hd : c.os = heap0 os
  nd : (keys (heap0 os)).Nodup
  nt : os.all notTok = true
  ok : HOk c.γ (heap0 os) (keys (heap0 os)) c.w c.D
  dl : ∀ b o, c.D b o → b < c.w.heap.size
  size : args.size = vs.length
  args : ∀ (i : Nat) (v : AV) (cv : Value), vs[i]? = some v → args[i]? = some cv → RepB c.γ (heap0 os) (keys (heap0 os)) c.w c.D v cv
/-- .. and what it owes. -/
def Post (c : Ctx) (m : Nat) (r : AV) (os : List Ob) (e : Ending) (w : World) : Prop :=
  ∃ cv γ D, e = .returned cv ∧ (objsOk os = true → resOk r = true → (keys (heapR r os)).Nodup → HOk γ (heapR r os) (keys (heapR r os)) w D ∧ RepV γ (heapR r os) (keys (heapR r os)) w D (inR (fun n => n) rrd0 r) cv ∧ Fr c m γ D (heapR r os) w)
def SoundF (P : Program) (F : Fns) : Prop :=
  ∀ f vs os r os', (F f vs os).val = some (r, os') →
    (∃ fn, P.funcs[f % 1000000]? = some fn ∧ (fn.name == "runtime.NumGoroutine") = false ∧ fn.body.isNone = false) ∧
    ∀ (c : Ctx) (args : Array Value), Pre c vs os args → Calls P (f % 1000000) args c.w (Post c os.length r os')

section
variable {P : Program} {c : Ctx} {γ γ' γ'' : Gh} {D D' D'' : Dead} {st : St} {a : Act} {w w' w'' : World} {tb : Tb} {H : Hints} {h h' h'' : Heap} {u u' u'' : List Nat}

theorem find_addAll {k : Nat} : ∀ {l : Heap} {h : Heap}, (keys l).Nodup → find k (addAll l h) = match find k l with | some o => some o | none => find k h
  | [], h, _ => rfl
  | (m, o) :: r, h, hn => by
    simp only [List.map_cons, List.nodup_cons] at hn
    simp only [addAll, find]
    rw [find_addAll hn.2, find_put]
    by_cases e : k = m
    · subst e
      have : find k r = none := by
        cases hf : find k r with
        | none => rfl
        | some x => exact absurd (find_keys.1 (by rw [hf]; simp)) hn.1
      simp [this]
    · simp [e]
theorem find_delAll {k : Nat} : ∀ {l : List Nat} {h : Heap}, find k (delAll l h) = if k ∈ l then none else find k h
  | [], h => by simp [delAll]
  | m :: r, h => by
    simp only [delAll]
    rw [find_delAll, find_del]
    by_cases e : k = m
    · simp [e]
    · simp [e]
theorem mem_rowsVs {rid : Nat → Nat → Nat} {k : Nat} {o : Ob} : ∀ {vs : List AV} {j : Nat}, (k, o) ∈ rowsVs rid j vs → ∃ j' v i t xs, vs[j']? = some v ∧ v.cells[i]? = some (.ow t xs) ∧ k = rid (j + j') i ∧ o = .row t xs
  | [], j, h => by simp [rowsVs] at h
  | v :: r, j, h => by
    simp only [rowsVs] at h
    rcases List.mem_append.1 h with h | h
    · obtain ⟨i, t, xs, h1, h2, h3⟩ := mem_rowsCs h
      exact ⟨0, v, i, t, xs, rfl, h1, by simpa using h2, h3⟩
    · obtain ⟨j', v', i, t, xs, h1, h2, h3, h4⟩ := mem_rowsVs h
      exact ⟨j' + 1, v', i, t, xs, by simpa using h1, h2, by rw [h3]; congr 1; omega, h4⟩

section
variable {dst : Option Nat} {ks : List Nat} {v : AV} {os : List Ob}
theorem heapR_notok {k : Nat} : (k, Ob.tok) ∉ heapR v os := by
  intro hm
  rcases List.mem_append.1 hm with hm | hm
  · obtain ⟨m, o, _, h2⟩ := mem_unpack hm
    rcases h2 with ⟨_, ⟨_, _, h⟩ | ⟨h1, h2, _⟩⟩ | ⟨_, _, _, _, _, _, _, h⟩
    · cases h
    · exact h2 h1.symm
    · cases h
  · obtain ⟨_, _, _, _, _, _, _, _, h⟩ := mem_rowsVs hm
    cases h
/-- Which numbers there are. -/
theorem heapR_keys (hok : objsOk os = true) (hr : resOk v = true) {i : Nat} (hi : i ∈ keys (heapR v os)) : i < 100 ∨ ∃ x, x < 16384 ∧ psi dst ks i = nk dst x := by
  obtain ⟨ho1, ho2⟩ := objsOk_spec hok
  simp only [resOk, Bool.and_eq_true, Nat.ble_eq] at hr
  obtain ⟨⟨k, o⟩, hm, rfl⟩ := List.mem_map.1 hi
  rcases List.mem_append.1 hm with hm | hm
  · obtain ⟨m, o', h1, h2⟩ := mem_unpack hm
    have hlt := (List.getElem?_eq_some_iff.1 h1).1
    rcases h2 with ⟨rfl, _⟩ | ⟨cs, i, t, xs, rfl, h3, rfl, _⟩
    · left; show 0 + m < 100; omega
    · right
      have := (ho2 m cs h1).1
      have hi := (List.getElem?_eq_some_iff.1 h3).1
      refine ⟨128 + m * 128 + i, by omega, ?_⟩
      show psi dst ks (rid0 (0 + m) i) = _
      rw [Nat.zero_add, psi_rid (by omega) (by omega)]
      rfl
  · right
    obtain ⟨j, v', i, t, xs, h1, h2, rfl, _⟩ := mem_rowsVs hm
    have hlt := (List.getElem?_eq_some_iff.1 h1).1
    have hi := (List.getElem?_eq_some_iff.1 h2).1
    have := List.all_eq_true.1 hr.2 v' (List.mem_of_getElem? h1)
    simp only [cellsOk, Bool.and_eq_true, Nat.ble_eq] at this
    refine ⟨13000 + j * 128 + i, by omega, ?_⟩
    show psi dst ks (rrd0 (0 + j) i) = _
    rw [Nat.zero_add, psi_rrd (by omega)]
    rfl
omit [Reg] in
theorem nk_add (dst : Option Nat) (x : Nat) : nk dst x = nk dst 0 + x := by
  unfold nk
  rw [Nat.add_zero]
theorem psi_cases (hok : objsOk os = true) (hr : resOk v = true) {i : Nat} (hi : i ∈ keys (heapR v os)) : (i < 100 ∧ ks[i]? = some (psi dst ks i)) ∨ (ks[i]? = none ∨ 100 ≤ i) ∧ ∃ x, x < 16384 ∧ psi dst ks i = nk dst x := by
  by_cases h100 : i < 100
  · rw [psi_bid (by omega)]
    unfold bidOf
    cases hk : ks[i]? with
    | some k => exact .inl ⟨h100, rfl⟩
    | none => exact .inr ⟨.inl rfl, i, by omega, rfl⟩
  · rcases heapR_keys (dst := dst) (ks := ks) hok hr hi with h | h
    · exact absurd h h100
    · exact .inr ⟨.inr (by omega), h⟩
theorem bk_some {i k : Nat} (e : bk dst ks v os i = some k) : i ∈ keys (heapR v os) ∧ psi dst ks i = k := by
  unfold bk at e
  split at e
  · rename_i hm
    simp only [Option.some.injEq] at e
    exact ⟨hm, e⟩
  · simp at e
theorem bk_low (hok : objsOk os = true) (hr : resOk v = true) (hfar : ks.all (far dst) = true) {i k : Nat} (e : bk dst ks v os i = some k) (hk : k ∈ ks) : i < 100 ∧ ks[i]? = some k := by
  obtain ⟨h1, h2⟩ := bk_some e
  rcases psi_cases (dst := dst) (ks := ks) hok hr h1 with ⟨h3, h4⟩ | ⟨_, x, h3, h4⟩
  · exact ⟨h3, by rw [← h2]; exact h4⟩
  · exfalso
    have := List.all_eq_true.1 hfar k hk
    rw [h2] at h4
    have e1 := nk_add dst x
    have e2 := nk_add dst 16384
    simp only [far, Bool.or_eq_true, Nat.ble_eq] at this
    rcases this with h | h
    · have := blt_iff.1 h; omega
    · omega
theorem bk_new (hok : objsOk os = true) (hr : resOk v = true) {i k : Nat} (e : bk dst ks v os i = some k) (hk : k ∉ ks) : 1000 ≤ k := by
  obtain ⟨h1, h2⟩ := bk_some e
  rcases psi_cases (dst := dst) (ks := ks) hok hr h1 with ⟨h3, h4⟩ | ⟨_, x, h3, h4⟩
  · rw [h2] at h4
    exact absurd (List.mem_of_getElem? h4) hk
  · rw [h2] at h4
    have e1 := nk_add dst x
    have := nk_big dst 0
    omega
theorem phi_mem {k m : Nat} (e : phi h ks k = some m) : k ∈ ks ++ inls h ks := by
  unfold phi at e
  split at e
  · rename_i m' hm
    exact List.mem_append.2 (.inl (List.mem_of_getElem? (idxOf_spec hm).2))
  · split at e
    · rename_i n i hr
      obtain ⟨_, k0, cs, t, h1, h2, h3⟩ := rowIx_spec hr
      exact List.mem_append.2 (.inr (List.mem_flatMap.2 ⟨k0, List.mem_of_getElem? h1, by rw [h2]; exact List.mem_flatMap.2 ⟨.vw k t, List.mem_of_getElem? h3, by simp⟩⟩))
    · simp at e
end

/-- What comes back, beside all that the caller kept. -/
theorem back_stp {ks : List Nat} {os os' : List Ob} {r : AV} {dst : Option Nat} (hi : Inv c γ D st a w) (hnd : (ks ++ inls st.h ks).Nodup) (hos : mapO (packO st.h ks) ks = some os) (hok : objsOk os = true) (hk0 : (keys (heap0 os)).Nodup) (hnt : os.all notTok = true)
    (hok' : objsOk os' = true) (hr : resOk r = true) (hn : (keys (backL dst ks r os')).Nodup) (hnew : (newsOf ks (backL dst ks r os')).all (isNew st.u) = true) (hfar : ks.all (far dst) = true)
    (hH : HOk γ' (heapR r os') (keys (heapR r os')) w' D') (hF : Fr ⟨w, D, γ.ren (phi st.h ks) (heap0 os), heap0 os⟩ os.length γ' D' (heapR r os') w') :
    ∃ γf, Stp γ γf st.h (addAll (backL dst ks r os') (delAll (ks ++ inls st.h ks) st.h)) st.u (newsOf ks (backL dst ks r os') ++ st.u) w w' D D' ∧
      ∀ cv, RepV γ' (heapR r os') (keys (heapR r os')) w' D' (inR (fun n => n) rrd0 r) cv → RepV γf (addAll (backL dst ks r os') (delAll (ks ++ inls st.h ks) st.h)) (newsOf ks (backL dst ks r os') ++ st.u) w' D' (inR (bidOf dst ks) (rrdOf dst) r) cv := by
  have rO := ren_out (u := st.u) hnd hos hok hk0 hnt
  obtain ⟨rB, hnR⟩ := ren_back (dst := dst) (ks := ks) hok' hr hn
  obtain ⟨hl, hp⟩ := mapO_spec hos
  have hB := rB.hok hH
  generalize hG : γ'.ren (bk dst ks r os') (backL dst ks r os') = γB at hB
  generalize hL : backL dst ks r os' = l at *
  generalize hX : ks ++ inls st.h ks = X at *
  generalize hgo : γ.ren (phi st.h ks) (heap0 os) = γ0 at hF
  have hksu : ∀ k ∈ ks, find k st.h ≠ none := fun k hk e => by
    obtain ⟨n, hn⟩ := List.getElem?_of_mem hk
    have hlt : n < os.length := by rw [hl]; exact (List.getElem?_eq_some_iff.1 hn).1
    obtain ⟨k', h1, h2⟩ := hp n os[n] (List.getElem?_eq_getElem hlt)
    rw [hn] at h1
    cases h1
    have h3 := List.all_eq_true.1 hnt _ (List.getElem_mem hlt)
    unfold packO at h2
    rw [e] at h2
    simp only [Option.some.injEq] at h2
    rw [← h2] at h3
    simp [notTok] at h3
  have hksX : ∀ k ∈ ks, k ∈ X := fun k hk => by rw [← hX]; exact List.mem_append.2 (.inl hk)
  have hKu : ∀ k, k ∈ keys l → k ∈ st.u → k ∈ ks := fun k h1 h2 => Classical.byContradiction fun h3 => by
    have : k ∈ newsOf ks l := List.mem_filter.2 ⟨h1, by simp [h3]⟩
    have := List.all_eq_true.1 hnew k this
    simp [isNew, h2] at this
  have f1 : ∀ {k}, k ∈ keys l → find k (addAll l (delAll X st.h)) = find k l := fun {k} hk => by
    rw [find_addAll hn]
    cases hf : find k l with
    | some o => rfl
    | none => exact absurd hf (find_keys.2 hk)
  have f2 : ∀ {k}, k ∉ keys l → find k (addAll l (delAll X st.h)) = if k ∈ X then none else find k st.h := fun {k} hk => by
    rw [find_addAll hn, find_delAll]
    cases hf : find k l with
    | some o => exact absurd (find_keys.1 (by rw [hf]; simp)) hk
    | none => rfl
  have o0 : ∀ {b}, γ0.own b ≠ none → ∃ k, γ.own b = some k ∧ k ∈ X := fun {b} e => by
    cases ho : γ0.own b with
    | none => exact absurd ho e
    | some j =>
      rw [← hgo] at ho
      obtain ⟨k, h1, h2, _⟩ := Ren.own ho
      exact ⟨k, h1, by rw [← hX]; exact phi_mem h2⟩
  have o0n : ∀ {b k}, γ.own b = some k → k ∉ X → γ0.own b = none := fun {b k} h1 h2 => Classical.byContradiction fun h3 => by
    obtain ⟨k', h4, h5⟩ := o0 h3
    rw [h1] at h4
    cases h4
    exact h2 h5
  have oB : ∀ {b j}, γB.own b = some j → j ∈ keys l ∧ (w.heap.size ≤ b ∨ γ0.own b ≠ none) := fun {b j} e => by
    rw [← hG] at e
    obtain ⟨i, h1, h2, h3⟩ := Ren.own e
    exact ⟨find_keys.1 h3, hF.ow b i h1⟩
  have oBn : ∀ {b k}, γ.own b = some k → k ∉ X → γB.own b = none := fun {b k} h1 h2 => by
    cases hb : γB.own b with
    | none => rfl
    | some j =>
      exfalso
      rcases (oB hb).2 with h3 | h3
      · have := (hi.hp.own b k h1).1; omega
      · exact h3 (o0n h1 h2)
  let γf : Gh := ⟨fun k => if k ∈ keys l then γB.g k else γ.g k, fun b => match γB.own b with | some k => some k | none => (match γ.own b with | some k => if k ∈ X then none else some k | none => none)⟩
  have g1 : ∀ {k}, k ∈ keys l → γf.g k = γB.g k := fun {k} hk => if_pos hk
  have g2 : ∀ {k}, k ∉ keys l → γf.g k = γ.g k := fun {k} hk => if_neg hk
  have w1 : ∀ {b k}, γB.own b = some k → γf.own b = some k := fun {b k} e => by simp only [γf, e]
  have w2 : ∀ {b k}, γ.own b = some k → k ∉ X → γf.own b = some k := fun {b k} e hx => by simp only [γf, oBn e hx, e, if_neg hx]
  have w3 : ∀ {b k}, γf.own b = some k → γB.own b = some k ∨ (γ.own b = some k ∧ k ∉ X) := fun {b k} e => by
    simp only [γf] at e
    split at e
    · rename_i j hj
      rw [hj]; exact .inl e
    · split at e
      · rename_i j hj
        split at e
        · simp at e
        · rename_i hx
          simp only [Option.some.injEq] at e
          subst e
          exact .inr ⟨hj, hx⟩
      · simp at e
  have hXK : ∀ {k}, k ∈ st.u → k ∉ X → k ∉ keys l := fun {k} h1 h2 h3 => h2 (hksX k (hKu k h3 h1))
  have kept : ∀ {b k}, γ.own b = some k → k ∉ X → w'.heap[b]? = w.heap[b]? ∧ ∀ o, D' b o → D b o := fun {b k} h1 h2 => by
    have hb := (hi.hp.own b k h1).1
    exact ⟨hF.block b hb (o0n h1 h2), fun o => hF.dd.2 b o hb (o0n h1 h2)⟩
  have pres : Pres D w w' := fun b o hd => by
    have hb := hi.dl b o hd
    cases ho : γ0.own b with
    | none =>
      have := hF.block b hb ho
      simp only [World.cell?, this]
    | some j =>
      exfalso
      have h0 := ho
      rw [← hgo] at h0
      have hok0 := rO.hok hi.hp
      refine hok0.lv b j h0 (fun e => ?_) o hd
      obtain ⟨m, o', h1, h2⟩ := mem_unpack (find_mem e)
      rcases h2 with ⟨_, ⟨_, _, h⟩ | ⟨h1, h2, _⟩⟩ | ⟨_, _, _, _, _, _, _, h⟩
      · cases h
      · exact h2 h1.symm
      · cases h
  -- a number of the caller's that is also the callee's
  have both : ∀ {k o}, k ∈ ks → find k l = some o → ∃ n, n < os.length ∧ ks[n]? = some k ∧ bk dst ks r os' n = some k ∧ phi st.h ks k = some n ∧ γB.g k = γ'.g n ∧ γ0.g n = γ.g k := fun {k o} hk hf => by
    have hf' := hf
    rw [← hL] at hf'
    obtain ⟨i, oi, h1, h2, _⟩ := rB.at_ k o hf
    obtain ⟨h3, h4⟩ := bk_low hok' hr hfar h1 hk
    have hph : phi st.h ks k = some i := phi_idx (by
      have hnk : ks.Nodup := by rw [← hX] at hnd; exact (List.nodup_append.1 hnd).1
      have := idxOf_at (i := 0) hnk h4
      simpa using this)
    exact ⟨i, by rw [hl]; exact (List.getElem?_eq_some_iff.1 h4).1, h4, h1, hph, by rw [← hG]; exact rB.g h1, by rw [← hgo]; exact rO.g hph⟩
  have same : ∀ k ∈ st.u, Same γ γf st.h (addAll l (delAll X st.h)) w w' D D' k := fun k hku => by
    by_cases hK : k ∈ keys l
    · have hks := hKu k hK hku
      refine ⟨fun cs' e => ?_, fun t xs e => ?_, fun t xs e => ?_, fun e => ?_⟩ <;> rw [f1 hK] at e <;> obtain ⟨n, n1, n2, n3, n4, n5, n6⟩ := both hks e
      · obtain ⟨cs, h1, _⟩ := rB.box n3 e
        obtain ⟨⟨cs0, h2⟩, h3⟩ := hF.ob n n1 cs h1
        obtain ⟨cs1, h4, _⟩ := rO.box n4 h2
        exact ⟨⟨cs1, h4⟩, by rw [g1 hK, n5, h3, n6]⟩
      · have h1 := rB.row n3 e
        obtain ⟨⟨xs0, h2, h2'⟩, h3, h4⟩ := hF.or n n1 t xs h1
        refine ⟨⟨xs0, rO.row n4 h2, h2'⟩, by rw [g1 hK, n5, h3, n6], fun ho => ⟨?_, fun n => hF.lg _ n⟩⟩
        have h5 : γ0.own (γ.g k).1 = some n := by rw [← hgo]; exact Ren.own_of ho n4 (by rw [h2]; simp)
        rw [h3, n6] at h4
        refine w1 ?_
        rw [← hG]
        exact Ren.own_of (h4 h5) n3 (by rw [e]; simp)
      · have h1 := rB.fz n3 e
        rcases hF.ofz n n1 t xs h1 with h2 | ⟨⟨xs0, h2, h2'⟩, h3⟩
        · exact .inl (rO.fz n4 h2)
        · refine .inr ⟨⟨xs0, rO.row n4 h2, h2'⟩, ?_⟩
          have h3' := h3
          simp only [n6] at h3'
          exact h3'
      · exact absurd (find_mem (rB.tok n3 e)) heapR_notok
    · have hf := f2 hK
      by_cases hx : k ∈ X
      · rw [if_pos hx] at hf
        refine ⟨fun cs' e => ?_, fun t xs e => ?_, fun t xs e => ?_, fun e => ?_⟩ <;> rw [hf] at e <;> cases e
      · rw [if_neg hx] at hf
        refine ⟨fun cs' e => ?_, fun t xs e => ?_, fun t xs e => ?_, fun e => ?_⟩ <;> rw [hf] at e
        · exact ⟨⟨cs', e⟩, by rw [g2 hK]⟩
        · exact ⟨⟨xs, e, rfl⟩, g2 hK, fun ho => ⟨w2 ho hx, fun n => hF.lg _ n⟩⟩
        · exact .inl e
        · refine ⟨e, g2 hK, fun ho => ⟨w2 ho hx, fun n hb => ?_, (kept ho hx).2⟩⟩
          obtain ⟨vs, E, fr, q1, q2, q3⟩ := hb
          exact ⟨vs, E, fr, (kept ho hx).1.trans q1, q2, q3⟩
  have sameB : ∀ k ∈ keys l, Same γB γf l (addAll l (delAll X st.h)) w' w' D' D' k := fun k hK => by
    refine ⟨fun cs' e => ?_, fun t xs e => ?_, fun t xs e => ?_, fun e => ?_⟩ <;> rw [f1 hK] at e
    · exact ⟨⟨cs', e⟩, by rw [g1 hK]⟩
    · exact ⟨⟨xs, e, rfl⟩, g1 hK, fun ho => ⟨w1 ho, fun n hb => hb⟩⟩
    · exact .inl e
    · exact ⟨e, g1 hK, fun ho => ⟨w1 ho, fun n hb => hb, fun o hd => hd⟩⟩
  have uB : ∀ k ∈ keys l, k ∈ newsOf ks l ++ st.u := fun k hK => by
    by_cases hks : k ∈ ks
    · exact List.mem_append.2 (.inr (hi.hp.u k (hksu k hks)))
    · exact List.mem_append.2 (.inl (List.mem_filter.2 ⟨hK, by simp [hks]⟩))
  have uA : ∀ k ∈ st.u, k ∈ newsOf ks l ++ st.u := fun k hk => List.mem_append.2 (.inr hk)
  have presB : Pres D' w' w' := fun _ _ _ => rfl
  have f3 : ∀ {k o}, k ∉ keys l → find k (addAll l (delAll X st.h)) = some o → find k st.h = some o ∧ k ∉ X := fun {k o} hK e => by
    rw [f2 hK] at e
    split at e
    · simp at e
    · rename_i hx; exact ⟨e, hx⟩
  refine ⟨γf, ⟨pres, hF.dd.1, uA, same, ⟨fun k cs e => ?_, fun k t xs e => ?_, fun b k ho => ?_, fun b k ho e o hd => ?_, fun k e => ?_⟩, hF.os, hF.tape, hF.output, hF.size, fun b hb ho => ?_, hF.lg, fun b k ho => ?_, hF.dl, fun k hk e => ?_⟩, fun cv hR => ?_⟩
  · by_cases hK : k ∈ keys l
    · rw [f1 hK] at e
      obtain ⟨q1, vs, E, q2, q3, q4⟩ := hB.box k cs e
      rw [g1 hK]
      exact ⟨w1 q1, vs, E, q2, q3, fun i c' v' h1 h2 => ⟨(q4 i c' v' h1 h2).1.mono presB (fun _ _ h => h) uB sameB, (q4 i c' v' h1 h2).2⟩⟩
    · obtain ⟨e, hx⟩ := f3 hK e
      obtain ⟨q1, vs, E, q2, q3, q4⟩ := hi.hp.box k cs e
      rw [g2 hK]
      exact ⟨w2 q1 hx, vs, E, (kept q1 hx).1.trans q2, q3, fun i c' v' h1 h2 => ⟨(q4 i c' v' h1 h2).1.mono pres hF.dd.1 uA same, (q4 i c' v' h1 h2).2⟩⟩
  · by_cases hK : k ∈ keys l
    · rw [f1 hK] at e
      rw [g1 hK]
      refine (hB.row k t xs e).imp id ?_
      rintro ⟨q1, q2⟩
      exact ⟨w1 q1, q2⟩
    · obtain ⟨e, hx⟩ := f3 hK e
      rw [g2 hK]
      refine (hi.hp.row k t xs e).imp id ?_
      rintro ⟨q1, vs, E, q2, q3, q4⟩
      exact ⟨w2 q1 hx, vs, E, (kept q1 hx).1.trans q2, q3, fun q c' v' h1 h2 => (q4 q c' v' h1 h2).mono pres hF.dd.1⟩
  · rcases w3 ho with ho | ⟨ho, hx⟩
    · have hK := (oB ho).1
      obtain ⟨q1, q2, q3⟩ := hB.own b k ho
      exact ⟨q1, by rw [f1 hK]; exact q2, by rw [g1 hK]; exact q3⟩
    · obtain ⟨q1, q2, q3⟩ := hi.hp.own b k ho
      have hK := hXK (hi.hp.u k q2) hx
      exact ⟨Nat.lt_of_lt_of_le q1 hF.size, by rw [f2 hK, if_neg hx]; exact q2, by rw [g2 hK]; exact q3⟩
  · rcases w3 ho with ho | ⟨ho, hx⟩
    · have hK := (oB ho).1
      rw [f1 hK] at e
      exact hB.lv b k ho e o hd
    · obtain ⟨q1, q2, q3⟩ := hi.hp.own b k ho
      have hK := hXK (hi.hp.u k q2) hx
      rw [f2 hK, if_neg hx] at e
      exact hi.hp.lv b k ho e o ((kept ho hx).2 o hd)
  · by_cases hK : k ∈ keys l
    · exact uB k hK
    · rw [f2 hK] at e
      split at e
      · simp at e
      · exact uA k (hi.hp.u k e)
  · have h0 : γ0.own b = none := Classical.byContradiction fun h3 => by
      obtain ⟨k', h4, _⟩ := o0 h3
      rw [ho] at h4
      cases h4
    exact ⟨hF.block b hb h0, fun o => hF.dd.2 b o hb h0⟩
  · rcases w3 ho with ho | ⟨ho, _⟩
    · refine (oB ho).2.imp id fun h3 => ?_
      obtain ⟨k', h4, _⟩ := o0 h3
      rw [h4]; simp
    · right; rw [ho]; simp
  · by_cases hK : k ∈ keys l
    · have hks : k ∈ ks := Classical.byContradiction fun hks => by
        cases hf : find k l with
        | none => exact absurd hf (find_keys.2 hK)
        | some o =>
          obtain ⟨i, oi, h1, _⟩ := rB.at_ k o hf
          have := bk_new hok' hr h1 hks
          omega
      refine ⟨hksu k hks, fun hnf => ?_⟩
      rw [f1 hK] at e hnf
      cases hf : find k l with
      | none => exact absurd hf e
      | some o =>
        obtain ⟨n, n1, n2, n3, n4, n5, n6⟩ := both hks hf
        rw [g1 hK, n5]
        cases o with
        | box cs' =>
          obtain ⟨cs, h1, _⟩ := rB.box n3 hf
          rw [(hF.ob n n1 cs h1).2, n6]
        | row t xs => rw [(hF.or n n1 t xs (rB.row n3 hf)).2.1, n6]
        | fz t xs => exact absurd hf (hnf t xs)
        | tok => exact absurd (find_mem (rB.tok n3 hf)) heapR_notok
    · rw [f2 hK] at e
      split at e
      · simp at e
      · exact ⟨e, fun _ => g2 hK⟩
  · have h1 := rB.repV hR
    rw [inR_bk hr hR, hG] at h1
    exact h1.mono presB (fun _ _ h => h) uB sameB
end
end
end Go.AM
