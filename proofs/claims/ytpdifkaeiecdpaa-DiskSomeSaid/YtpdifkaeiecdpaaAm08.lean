/- A part of the proof: machine and program. -/
import Derived.Test.YtpdifkaeiecdpaaAm07
namespace Go.AM
open Go.RowKit Go.Lib
section
variable [Reg]
section
variable {P : Program} {c : Ctx} {γ γ' γ'' : Gh} {D D' D'' : Dead} {st : St} {a : Act} {w w' w'' : World} {tb : Tb} {H : Hints} {h h' h'' : Heap} {u u' u'' : List Nat}

omit [Reg] in
theorem run_app_room {t u e ty : Nat} {i : TypeInfo} {du : TypeDesc} (hu : P.underlying t = some (.slice e)) (hi : P.info? e = some i) (hdu : P.underlying u = some du) (hni : ∀ k, du ≠ .int k) {A : Option Addr} {n cap m : Nat} {Y : Value} (hl : (Builtin.lenOf Y).run P w = .ok m w)
    (hY : (Builtin.firstCells i.size m Y).run P w = .ok #[] w) (hroom : n + m ≤ cap) : (Builtin.append_ #[t, u] ty #[.slice A n cap, Y]).run P w = .ok (.slice A (n + m) cap) w := by
  have hz : (match du with | .int _ => true | _ => false) = false := by cases du <;> first | rfl | exact absurd rfl (hni _)
  cases A with
  | none => simp [Builtin.append_, run_underlying' w hu, run_underlying' w hdu, sizeOf, run_typeInfo' w hi, hl, hroom, hY]
  | some b => simp [Builtin.append_, run_underlying' w hu, run_underlying' w hdu, sizeOf, run_typeInfo' w hi, hl, hroom, hY, storeCells]

omit [Reg] in
theorem run_app_room' {t u e ty : Nat} {i : TypeInfo} {du : TypeDesc} (hu : P.underlying t = some (.slice e)) (hi : P.info? e = some i) (hdu : P.underlying u = some du) (hni : ∀ k, du ≠ .int k) {b n cap m : Nat} {Y : Value} {news : List Value} (hl : (Builtin.lenOf Y).run P w = .ok m w)
    (hY : (Builtin.firstCells i.size m Y).run P w = .ok news.toArray w) (hroom : n + m ≤ cap) (h1 : ∀ v ∈ news, v.oneCell' = true) (hc : ∀ j, j < news.length → (w.cell? ⟨b, n * i.size + j, none⟩).isSome = true) (hf : ∀ j, j < news.length → w.frozen? ⟨b, n * i.size + j, none⟩ = false) :
    (Builtin.append_ #[t, u] ty #[.slice (some ⟨b, 0, none⟩) n cap, Y]).run P w = .ok (.slice (some ⟨b, 0, none⟩) (n + m) cap) (w.setCells b (n * i.size) news) := by
  have hz : (match du with | .int _ => true | _ => false) = false := by cases du <;> first | rfl | exact absurd rfl (hni _)
  have hst := run_storeCells_cells (P := P) b (n * i.size) news 0 w (by simpa using hc) (by simpa using hf) h1
  simp only [Nat.add_zero] at hst
  simp [Builtin.append_, run_underlying' w hu, run_underlying' w hdu, sizeOf, run_typeInfo' w hi, hl, hroom, hY, addr_add, hst]

omit [Reg] in
theorem run_app_grow {t u e ty : Nat} {i : TypeInfo} {z : Value} {du : TypeDesc} (hu : P.underlying t = some (.slice e)) (hi : P.info? e = some i) (hzv : i.zero = some z) (hdu : P.underlying u = some du) (hni : ∀ k, du ≠ .int k) {A : Option Addr} {n cap m : Nat} {Y : Value} {olds news : List Value} (hl : (Builtin.lenOf Y).run P w = .ok m w)
    (hY : (Builtin.firstCells i.size m Y).run P w.drew = .ok news.toArray w.drew) (hX : (Builtin.firstCells i.size n (.slice A n cap)).run P w.drew = .ok olds.toArray w.drew) (hg : cap < n + m) (h63 : n + m ≤ 4611686018427387904) (hb : (n + m) * i.bytes ≤ 140737488355328) :
    (Builtin.append_ #[t, u] ty #[.slice A n cap, Y]).run P w = .ok (.slice (some ⟨w.heap.size, 0, none⟩) (n + m) (grownCap w (n + m) cap e)) (w.drew.alloc (.cells (olds.toArray ++ news.toArray ++ Builtin.zeroCells z.cells (grownCap w (n + m) cap e - (n + m))) e)) := by
  have hz : (match du with | .int _ => true | _ => false) = false := by cases du <;> first | rfl | exact absurd rfl (hni _)
  have hn : ¬ (n + m ≤ cap) := by omega
  have h63' : ¬ (9223372036854775807 < ((n : Int) + (m : Int))) := by omega
  have h48' : ¬ (281474976710656 < Builtin.nextslicecap (n + m) cap * i.bytes) := by have := growslice_fits hg hb; omega
  simp [Builtin.append_, run_underlying' w hu, run_underlying' w hdu, sizeOf, zeroValue, typeInfo, hi, hzv, hl, hn, h63', h48', Question.forced, hY, hX, Go.newRow, grownCap]
  congr 2
  apply Array.ext'
  simp [List.append_assoc]

omit [Reg] in
theorem run_app_roomR {t u e ty : Nat} {i : TypeInfo} {du : TypeDesc} (hu : P.underlying t = some (.slice e)) (hi : P.info? e = some i) (hdu : P.underlying u = some du) (hni : ∀ k, du ≠ .int k) {b n cap m : Nat} {Y : Value} {news : List Value} (hl : (Builtin.lenOf Y).run P w = .ok m w)
    (hY : (Builtin.firstCells i.size m Y).run P w = .ok news.toArray w) (hroom : n + m ≤ cap) (h1 : ∀ v ∈ news, v.oneCell' = true) {vs : Array Value} {E : Nat} (hblk : w.heap[b]? = some (.cells vs E (0, 0))) (hle : n * i.size + news.length ≤ vs.size) :
    (Builtin.append_ #[t, u] ty #[.slice (some ⟨b, 0, none⟩) n cap, Y]).run P w = .ok (.slice (some ⟨b, 0, none⟩) (n + m) cap) (w.setRow b (vs.toList.take (n * i.size + 0) ++ news ++ vs.toList.drop (n * i.size + 0 + news.length)).toArray) := by
  have hz : (match du with | .int _ => true | _ => false) = false := by cases du <;> first | rfl | exact absurd rfl (hni _)
  have hst := run_storeCells_at (P := P) b (n * i.size) E news 0 vs w hblk (by omega) h1
  simp [Builtin.append_, run_underlying' w hu, run_underlying' w hdu, sizeOf, run_typeInfo' w hi, hl, hroom, hY, addr_add, hst]


omit [Reg] in
theorem drew_below (w : World) : Below w.heap.size w w.drew := ⟨rfl, rfl, rfl, Nat.le_refl _, fun _ _ => rfl⟩

/-- What a row or a chain is about to be appended to with. -/
structure App (P : Program) (γ : Gh) (w : World) (D : Dead) (e n cap : Nat) (A : Option Addr) (xs ys : List (R e)) (news : List Value) (Y : Value) : Prop where
  hn : xs.length = n
  olds : xs = [] ∨ ∃ b o, A = some ⟨b, o, none⟩ ∧ ∀ (q : Nat) (c : AV), (flat e xs)[q]? = some c → ∃ v, w.cell? ⟨b, o + q, none⟩ = some v ∧ RepD w D c v
  len : (Builtin.lenOf Y).run P w = .ok ys.length w
  fc : (Builtin.firstCells (szR e) ys.length Y).run P w = .ok news.toArray w
  fcd : (Builtin.firstCells (szR e) ys.length Y).run P w.drew = .ok news.toArray w.drew
  nl : news.length = ys.length * szR e
  n1 : ∀ v ∈ news, v.oneCell' = true
  nr : ∀ (q : Nat) (c : AV) (v : Value), (flat e ys)[q]? = some c → news[q]? = some v → RepD w D c v

/-- The new block of an append. -/
theorem app_grow (hT : TbOk P tb) {t t' e ty n cap : Nat} {ti te : TI} {du : TypeDesc} (hti : find t tb = some ti) (hk : ti.k = .sl e) (hte : find e tb = some te) (hsz : te.sz = szR e) (hz1 : one1 te.z.cells = true) (hzl : te.z.cells.length = te.sz) (hdu : P.underlying t' = some du) (hni : ∀ k, du ≠ .int k) {A : Option Addr} {xs ys : List (R e)} {news : List Value} {Y : Value} (hA : App P γ w D e n cap A xs ys news Y) (hg : cap < n + ys.length) (hb : (n + ys.length) * te.bytes ≤ 140737488355328) (h63 : n + ys.length ≤ 4611686018427387904) :
    ∃ (vs : Array Value) (nc : Nat), (Builtin.append_ #[t, t'] ty #[.slice A n cap, Y]).run P w = .ok (.slice (some ⟨w.heap.size, 0, none⟩) (n + ys.length) nc) (w.drew.alloc (.cells vs e)) ∧ n + ys.length ≤ nc ∧ vs.size = nc * szR e ∧
      ∀ (q : Nat) (c : AV) (v : Value), (flat e (xs ++ ys))[q]? = some c → vs[q]? = some v → RepD w D c v := by
  obtain ⟨ie, zv, hie, hzv, hs, hby, hzz⟩ := ty_zeroL (hT _ _ hte) hz1
  have hu := ty_sl (hT _ _ hti) hk
  obtain ⟨olds, hol, hX, hor⟩ : ∃ olds : List Value, olds.length = n * szR e ∧ (Builtin.firstCells (szR e) n (.slice A n cap)).run P w.drew = .ok olds.toArray w.drew ∧ ∀ (q : Nat) (c : AV) (v : Value), (flat e xs)[q]? = some c → olds[q]? = some v → RepD w D c v := by
    rcases hA.olds with e1 | ⟨b, o, rfl, hf⟩
    · subst e1
      have hn := hA.hn
      simp only [List.length_nil] at hn
      subst hn
      refine ⟨[], by simp, ?_, by simp [flat]⟩
      cases A with
      | none => simp [Builtin.firstCells]
      | some x => simp [Builtin.firstCells, loadCells, loadCellsFrom]
    · have hq : ∀ q, q < n * szR e → ∃ v, w.cell? ⟨b, o + q, none⟩ = some v ∧ ∀ c', (flat e xs)[q]? = some c' → RepD w D c' v := by
        intro q hq
        have hlt : q < (flat e xs).length := by rw [flat_len, hA.hn]; exact hq
        obtain ⟨v, h1, h2⟩ := hf q _ (List.getElem?_eq_getElem hlt)
        exact ⟨v, h1, fun c' hc => by rw [List.getElem?_eq_getElem hlt] at hc; cases hc; exact h2⟩
      refine ⟨(List.range (n * szR e)).map fun q => (w.cell? ⟨b, o + q, none⟩).getD Go.undef, by simp, ?_, fun q c' v h1 h2 => ?_⟩
      · exact run_loadCells w.drew _ _ (fun q => (w.cell? ⟨b, o + q, none⟩).getD Go.undef) fun q hlt => by
          rw [addr_add]
          obtain ⟨v, h1, _⟩ := hq q hlt
          show w.cell? _ = _
          rw [h1]; rfl
      · have hlt : q < n * szR e := by rw [← hA.hn, ← flat_len]; exact (List.getElem?_eq_some_iff.1 h1).1
        obtain ⟨v', h3, h4⟩ := hq q hlt
        simp [hlt] at h2
        rw [h3] at h2
        simp at h2
        subst h2
        exact h4 c' h1
  have hrun := run_app_grow (ty := ty) (A := A) (n := n) (cap := cap) (olds := olds) (news := news) hu hie hzv hdu hni hA.len (by rw [hs, hsz]; exact hA.fcd) (by rw [hs, hsz]; exact hX) hg h63 (by rw [hby]; exact hb)
  have hge := grownCap_ge w (n + ys.length) cap e
  have hzc : zv.cells.size = szR e := by rw [← hsz, ← hzl]; exact (hzz γ [] [] w D).1.1
  refine ⟨_, _, hrun, hge, ?_, fun q c' v h1 h2 => ?_⟩
  · simp only [Array.size_append, List.size_toArray, size_zeroCells, hol, hA.nl, hzc, ← Nat.add_mul]
    congr 1
    omega
  · rw [flat_append, List.getElem?_append, flat_len, hA.hn] at h1
    rw [Array.append_assoc] at h2
    split at h1
    · rename_i hlt
      rw [Array.getElem?_append_left (by simp [hol]; omega)] at h2
      exact hor q c' v h1 (by simpa using h2)
    · rename_i hlt
      have hq : q - n * szR e < ys.length * szR e := by rw [← flat_len]; exact (List.getElem?_eq_some_iff.1 h1).1
      rw [Array.getElem?_append_right (by simp [hol]; omega), Array.getElem?_append_left (by simp [hol, hA.nl]; omega)] at h2
      exact hA.nr _ c' v h1 (by simpa [hol] using h2)

/-- A new row, or a new chain, in the new block of an append. -/
theorem grow_new {o : Oper} (hi : Inv c γ D st a w) {K e n nc : Nat} (hK : isNew st.u K = true) (h1000 : 1000 ≤ K) {xs : List (R e)} {vs : Array Value} (hn : xs.length = n) (hnc : n ≤ nc) (hsz : vs.size = nc * szR e) (hR : ∀ (q : Nat) (c : AV) (v : Value), (flat e xs)[q]? = some c → vs[q]? = some v → RepD w D c v)
    (hr : (execOp a.eval o).run P w' = .ok (.value (.slice (some ⟨w.heap.size, 0, none⟩) n nc)) (w.drew.alloc (.cells vs e))) (h0 : Heap) (u0 : List Nat) (hh : h0 = AM.put K (.row e xs) st.h) (hu : u0 = K :: st.u) :
    ∃ cv w2, (execOp a.eval o).run P w' = .ok (.value cv) w2 ∧ ∃ γ' D', Inv c γ' D' { st with h := h0, u := u0 } a w2 ∧ RepV γ' h0 u0 w2 D' (.vw K e) cv := by
  subst hh
  subst hu
  have hi1 : Inv c γ D st a w.drew := hi.grow (drew_below w) (fun _ _ h => h) (fun _ _ _ h => h) hi.dl
  have hle : xs.length * szR e ≤ vs.size := by rw [hsz, hn]; exact Nat.mul_le_mul_right _ hnc
  have s := stp_new (E := e) (w := w.drew) hi1 hK h1000 (o' := .row e xs) (vs := vs) (.inr rfl) (.inl rfl) (below_alloc w.drew (.cells vs e)) (World.size_alloc ..) (heap_alloc_new w.drew _) (fun cs e => by cases e) (fun t ys h => by
    cases h
    exact ⟨hle, fun q c' v h1 h2 => RepD.mono (w := w) (w' := w.drew) (fun _ _ _ => rfl) (fun _ _ h => h) (hR q c' v h1 h2)⟩)
  refine ⟨_, _, hr, _, _, hi1.step s, ?_⟩
  refine ⟨List.mem_cons_self .., ⟨_, _, _, rfl⟩, fun ys hx => ?_, fun ys h => by rw [find_put_same] at h; cases h⟩
  rw [find_put_same] at hx
  cases hx
  rw [hn]
  refine ⟨_, _, rfl, hnc, by omega, .inr ⟨by simp [Gh.new], by simp [Gh.new], by omega, ?_⟩⟩
  refine ⟨vs, e, by simp only [Gh.new, if_true]; exact heap_alloc_new w.drew _, by simp [Gh.new, hsz]⟩
theorem grow_tip {o : Oper} (hi : Inv c γ D st a w) {K e n nc : Nat} (hK : isNew st.u K = true) (h1000 : 1000 ≤ K) {xs : List (R e)} {vs : Array Value} (hn : xs.length = n) (hnc : n ≤ nc) (hsz : vs.size = nc * szR e) (hR : ∀ (q : Nat) (c : AV) (v : Value), (flat e xs)[q]? = some c → vs[q]? = some v → RepD w D c v)
    (hr : (execOp a.eval o).run P w' = .ok (.value (.slice (some ⟨w.heap.size, 0, none⟩) n nc)) (w.drew.alloc (.cells vs e))) (h0 : Heap) (u0 : List Nat) (hh : h0 = AM.put K .tok st.h) (hu : u0 = K :: st.u) :
    ∃ cv w2, (execOp a.eval o).run P w' = .ok (.value cv) w2 ∧ ∃ γ' D', Inv c γ' D' { st with h := h0, u := u0 } a w2 ∧ RepV γ' h0 u0 w2 D' (.tip K e xs) cv := by
  subst hh
  subst hu
  subst hn
  have hi1 : Inv c γ D st a w.drew := hi.grow (drew_below w) (fun _ _ h => h) (fun _ _ _ h => h) hi.dl
  have hle : xs.length * szR e ≤ vs.size := by rw [hsz]; exact Nat.mul_le_mul_right _ hnc
  have s := stp_new (E := e) (w := w.drew) (D' := deadNew D w.heap.size (xs.length * szR e)) hi1 hK h1000 (o' := .tok) (vs := vs) (.inl rfl) (.inr ⟨rfl, _, rfl⟩) (below_alloc w.drew (.cells vs e)) (World.size_alloc ..) (heap_alloc_new w.drew _) (fun cs e => by cases e) (fun t ys h => by cases h)
  refine ⟨_, _, hr, _, _, hi1.step s, List.mem_cons_self .., ?_, fun _ => ?_⟩
  · refine .sl e false xs w.heap.size 0 nc (fun q => vs.getD q Go.undef) hnc (by simp) (fun q d hq => ?_) (fun q d hq => ?_)
    · have hlt : q < xs.length * szR e := by have := (List.getElem?_eq_some_iff.1 hq).1; rw [flat_len] at this; exact this
      have hlt2 : q < vs.size := by omega
      refine ⟨.inr ⟨rfl, by omega⟩, ?_⟩
      rw [Nat.zero_add]
      rw [show w.heap.size = w.drew.heap.size from rfl, World.cell?_alloc_new]
      simp [hlt2]
    · have hlt : q < xs.length * szR e := by have := (List.getElem?_eq_some_iff.1 hq).1; rw [flat_len] at this; exact this
      have hlt2 : q < vs.size := by omega
      have e1 : vs.getD q Go.undef = vs[q] := by simp [hlt2]
      rw [e1]
      exact (RepD.mono (w := w) (w' := w.drew) (fun _ _ _ => rfl) (fun _ _ h => h) (hR q d _ hq (Array.getElem?_eq_getElem hlt2))).mono s.pres s.dd
  · refine ⟨_, nc, rfl, ?_⟩
    refine .inr ⟨by simp [Gh.new], by simp [Gh.new], hnc, ⟨vs, e, (0, 0), by simp only [Gh.new, if_true]; exact heap_alloc_new w.drew _, by omega, fun _ _ h => by simp at h⟩, fun o' ho' => ?_⟩
    simp only [Gh.new, if_true] at ho'
    rcases ho' with ho' | ⟨_, ho'⟩
    · have := hi.dl _ _ ho'
      simp at this
    · exact ho'
end
end
end Go.AM
