/- Soundness, operation by operation (9): append; bytes of a string. -/
import Derived.Test.YtnhfjkckgicidaaAmOps8
set_option linter.unusedVariables false
set_option linter.unusedSimpArgs false
namespace Go.AM
open Go.RowKit Go.Lib
section
variable {P : Program} {c : Ctx} {γ : Gh} {D D' : Dead} {st : St} {a : Act} {w w' : World} {tb : Tb}

theorem run_app_room {t u e ty : Nat} {i : TypeInfo} {du : TypeDesc} (hu : P.underlying t = some (.slice e)) (hi : P.info? e = some i) (hdu : P.underlying u = some du) (hni : ∀ k, du ≠ .int k) {A : Option Addr} {n cap m : Nat} {Y : Value} (hl : (Builtin.lenOf Y).run P w = .ok m w)
    (hY : (Builtin.firstCells i.size m Y).run P w = .ok #[] w) (hroom : n + m ≤ cap) : (Builtin.append_ #[t, u] ty #[.slice A n cap, Y]).run P w = .ok (.slice A (n + m) cap) w := by
  have hz : (match du with | .int _ => true | _ => false) = false := by cases du <;> first | rfl | exact absurd rfl (hni _)
  cases A with
  | none => simp [Builtin.append_, run_underlying' w hu, run_underlying' w hdu, sizeOf, run_typeInfo' w hi, hz, hl, hroom, hY]
  | some b => simp [Builtin.append_, run_underlying' w hu, run_underlying' w hdu, sizeOf, run_typeInfo' w hi, hz, hl, hroom, hY, storeCells]

theorem run_app_room' {t u e ty : Nat} {i : TypeInfo} {du : TypeDesc} (hu : P.underlying t = some (.slice e)) (hi : P.info? e = some i) (hdu : P.underlying u = some du) (hni : ∀ k, du ≠ .int k) {b n cap m : Nat} {Y : Value} {news : List Value} (hl : (Builtin.lenOf Y).run P w = .ok m w)
    (hY : (Builtin.firstCells i.size m Y).run P w = .ok news.toArray w) (hroom : n + m ≤ cap) (h1 : ∀ v ∈ news, v.oneCell' = true) (hc : ∀ j, j < news.length → (w.cell? ⟨b, n * i.size + j, none⟩).isSome = true) (hf : ∀ j, j < news.length → w.frozen? ⟨b, n * i.size + j, none⟩ = false) :
    (Builtin.append_ #[t, u] ty #[.slice (some ⟨b, 0, none⟩) n cap, Y]).run P w = .ok (.slice (some ⟨b, 0, none⟩) (n + m) cap) (w.setCells b (n * i.size) news) := by
  have hz : (match du with | .int _ => true | _ => false) = false := by cases du <;> first | rfl | exact absurd rfl (hni _)
  have hst := run_storeCells_cells (P := P) b (n * i.size) news 0 w (by simpa using hc) (by simpa using hf) h1
  simp only [Nat.add_zero] at hst
  simp [Builtin.append_, run_underlying' w hu, run_underlying' w hdu, sizeOf, run_typeInfo' w hi, hz, hl, hroom, hY, addr_add, hst]

theorem run_app_grow {t u e ty : Nat} {i : TypeInfo} {z : Value} {du : TypeDesc} (hu : P.underlying t = some (.slice e)) (hi : P.info? e = some i) (hzv : i.zero = some z) (hdu : P.underlying u = some du) (hni : ∀ k, du ≠ .int k) {A : Option Addr} {n cap m : Nat} {Y : Value} {olds news : List Value} (hl : (Builtin.lenOf Y).run P w = .ok m w)
    (hY : (Builtin.firstCells i.size m Y).run P w.drew = .ok news.toArray w.drew) (hX : (Builtin.firstCells i.size n (.slice A n cap)).run P w.drew = .ok olds.toArray w.drew) (hg : cap < n + m) (h63 : n + m ≤ 4611686018427387904) (hb : (n + m) * i.bytes ≤ 140737488355328) :
    (Builtin.append_ #[t, u] ty #[.slice A n cap, Y]).run P w = .ok (.slice (some ⟨w.heap.size, 0, none⟩) (n + m) (grownCap w (n + m) cap e)) (w.drew.alloc (.cells (olds.toArray ++ news.toArray ++ Builtin.zeroCells z.cells (grownCap w (n + m) cap e - (n + m))) e)) := by
  have hz : (match du with | .int _ => true | _ => false) = false := by cases du <;> first | rfl | exact absurd rfl (hni _)
  have hn : ¬ (n + m ≤ cap) := by omega
  have h63' : ¬ (9223372036854775807 < ((n : Int) + (m : Int))) := by omega
  have h48' : ¬ (281474976710656 < Builtin.nextslicecap (n + m) cap * i.bytes) := by have := growslice_fits hg hb; omega
  simp [Builtin.append_, run_underlying' w hu, run_underlying' w hdu, sizeOf, run_typeInfo' w hi, zeroValue, typeInfo, hi, hzv, hz, hl, hn, h63', h48', Question.forced, hY, hX, newRow, grownCap]
  congr 2
  apply Array.ext'
  simp [List.append_assoc]

/-- The elements as one list of cells. -/
def flatF (s n : Nat) (f : Nat → Nat → Value) : List Value := (List.range (n * s)).map fun q => f (q / s) (q % s)
theorem flatF_len (s n : Nat) (f : Nat → Nat → Value) : (flatF s n f).length = n * s := by simp [flatF]
theorem flatF_get {s n : Nat} (f : Nat → Nat → Value) {i j : Nat} (hj : j < s) (hlt : i * s + j < n * s) : (flatF s n f)[i * s + j]? = some (f i j) := by
  have h1 : (i * s + j) / s = i := by rw [Nat.mul_comm, Nat.mul_add_div (by omega), Nat.div_eq_of_lt hj]; rfl
  have h2 : (i * s + j) % s = j := by rw [Nat.mul_comm, Nat.mul_add_mod, Nat.mod_eq_of_lt hj]
  simp [flatF, hlt, h1, h2]

theorem load_flat {b o s : Nat} {xs : List AV} {f : Nat → Nat → Value} (hs : ∀ (i : Nat) (e : AV), xs[i]? = some e → e.cells.length = s) (hf : ∀ (i : Nat) (e : AV) (j : Nat) (c : AV), xs[i]? = some e → e.cells[j]? = some c → w.cell? ⟨b, o + (i * s + j), none⟩ = some (f i j)) :
    (loadCells ⟨b, o, none⟩ (xs.length * s)).run P w = .ok (flatF s xs.length f).toArray w := by
  refine run_loadCells w _ _ (fun q => f (q / s) (q % s)) fun q hq => ?_
  have hs0 : 0 < s := by
    rcases Nat.eq_zero_or_pos s with h | h
    · subst h; simp at hq
    · exact h
  have hi : q / s < xs.length := by rw [Nat.div_lt_iff_lt_mul hs0]; exact hq
  have hj : q % s < s := Nat.mod_lt _ hs0
  have he := hs (q / s) xs[q / s] (List.getElem?_eq_getElem hi)
  have hq' : q / s * s + q % s = q := by rw [Nat.mul_comm]; exact Nat.div_add_mod q s
  have := hf (q / s) xs[q / s] (q % s) (xs[q / s].cells[q % s]'(by omega)) (List.getElem?_eq_getElem hi) (List.getElem?_eq_getElem (by omega))
  rw [hq'] at this
  rw [addr_add]
  exact this

/-- What is appended: how many, and which cells. -/
theorem src_sound (hT : TbOk P tb) (h : Inv c γ D st a w) {u : Nat} {Y : AV} {V : Value} (hy : RepV γ w D st Y V) (cy : st.isCur Y) {s : Nat} {ys : List AV} (hsrc : srcA tb st u Y = some (s, ys)) :
    ∃ (du : TypeDesc) (news : List Value), P.underlying u = some du ∧ (∀ k, du ≠ .int k) ∧ (Builtin.lenOf V).run P w = .ok ys.length w ∧ (Builtin.firstCells s ys.length V).run P w = .ok news.toArray w ∧ (Builtin.firstCells s ys.length V).run P w.drew = .ok news.toArray w.drew ∧
      (∀ (i : Nat) (e : AV), ys[i]? = some e → e.cells.length = s) ∧ news.length = ys.length * s ∧ (∀ v ∈ news, v.oneCell' = true) ∧
      ∀ (i : Nat) (e : AV) (j : Nat) (c : AV) (v : Value), ys[i]? = some e → e.cells[j]? = some c → news[i * s + j]? = some v → c.cell1 = true ∧ RepD w D c v := by
  unfold srcA at hsrc
  split at hsrc
  · simp at hsrc
  rename_i tu htu
  have ht := hT _ _ htu
  split at hsrc
  · rename_i e hk
    obtain ⟨A, cap, rfl, hlc, h3⟩ := inv_elems h hy cy hsrc
    refine ⟨.slice e, ?_⟩
    rcases h3 with rfl | ⟨b, o, rfl, hs, f, hf⟩
    · refine ⟨[], ty_sl ht hk, by simp, by simp [Builtin.lenOf], ?_, ?_, by simp, by simp, by simp, by simp⟩
      · cases A with
        | none => simp [Builtin.firstCells]
        | some x => simp [Builtin.firstCells, loadCells, loadCellsFrom]
      · cases A with
        | none => simp [Builtin.firstCells]
        | some x => simp [Builtin.firstCells, loadCells, loadCellsFrom]
    · refine ⟨flatF s ys.length f, ty_sl ht hk, by simp, by simp [Builtin.lenOf], ?_, ?_, hs, flatF_len _ _ _, fun v hv => ?_, fun i e j c v hi hj hv => ?_⟩
      · exact load_flat hs (fun i e j c hi hj => (hf i e j c hi hj).2.1)
      · exact load_flat (w := w.drew) hs (fun i e j c hi hj => (hf i e j c hi hj).2.1)
      · obtain ⟨q, hq, rfl⟩ := List.mem_map.1 hv
        have hq' : q < ys.length * s := by simpa using hq
        have hs0 : 0 < s := by
          rcases Nat.eq_zero_or_pos s with hh | hh
          · subst hh; simp at hq'
          · exact hh
        have hi : q / s < ys.length := by rw [Nat.div_lt_iff_lt_mul hs0]; exact hq'
        have hj : q % s < s := Nat.mod_lt _ hs0
        have he := hs (q / s) ys[q / s] (List.getElem?_eq_getElem hi)
        obtain ⟨q1, _, q3⟩ := hf (q / s) ys[q / s] (q % s) (ys[q / s].cells[q % s]'(by omega)) (List.getElem?_eq_getElem hi) (List.getElem?_eq_getElem (by omega))
        exact q3.one q1
      · have hjs : j < s := by rw [← hs i e hi]; exact (List.getElem?_eq_some_iff.1 hj).1
        rw [flatF_get f hjs (idx_lt hs hi hj)] at hv
        simp only [Option.some.injEq] at hv
        subst hv
        obtain ⟨q1, _, q3⟩ := hf i e j c hi hj
        exact ⟨q1, q3⟩
  · rename_i l hk
    simp only [Option.some.injEq, Prod.mk.injEq] at hsrc
    obtain ⟨rfl, rfl⟩ := hsrc
    obtain ⟨sb, rfl, hs⟩ := inv_str hy
    have hsz : sb.size = l.length := by rw [← hs, Array.length_toList]; rfl
    have hlen : (ofBytes l).length = sb.size := by simp [ofBytes, hsz]
    refine ⟨.string, strCells sb, ty_str ht hk, by simp, by simp [Builtin.lenOf, hlen], ?_, ?_, fun i e hi => ?_, by rw [strCells_length, hlen]; simp, strCells_oneCell sb, fun i e j c v hi hj hv => ?_⟩
    · rw [hlen]; exact run_firstCells_string w 1 sb
    · rw [hlen]; exact run_firstCells_string w.drew 1 sb
    · simp [ofBytes] at hi
      obtain ⟨b, _, rfl⟩ := hi
      rfl
    · simp only [ofBytes, List.getElem?_map, Option.map_eq_some_iff] at hi
      obtain ⟨b, hb, rfl⟩ := hi
      cases j with
      | zero =>
        simp [AV.cells] at hj
        subst hj
        simp only [strCells, hs, Nat.mul_one, Nat.add_zero, List.getElem?_map, hb, Option.map_some, Option.some.injEq] at hv
        subst hv
        exact ⟨rfl, .int _ _⟩
      | succ j => simp [AV.cells] at hj
  · simp at hsrc

end
end Go.AM
