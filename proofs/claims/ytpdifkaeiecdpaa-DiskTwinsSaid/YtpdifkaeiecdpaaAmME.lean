/- The type table against the program's; loads. -/
import Derived.Test.YtpdifkaeiecdpaaAmMD
namespace Go.AM
section
variable [Reg]

def kindOf (P : Program) : TypeDesc → Option TK
  | .int k => some (.int k)
  | .bool => some .bool
  | .string => some .str
  | .struct fs => if fs.all (fun f => P.cellsOf f.type != 0) then some (.struct (fs.toList.map fun f => (f.offset, f.type))) else none
  | .array n e => if P.cellsOf e != 0 then some (.arr n e) else none
  | .slice e => some (.sl e)
  | .pointer _ => some .ptr
  | .func .. => some .other
  | .interface _ => some .iface
  | _ => none

/-- A struct of plain fields is compared field by field. -/
def structEqB (P : Program) (t : Nat) (d : TypeDesc) : Bool := match d with
  | .struct fs => !(fs.toList.all fun f => P.plainKey f.type) || (!P.stoodInHeld t && !P.eqGuardType P.depth t && fs.toList.all fun f => f.name != "_")
  | _ => true
def tyOf (P : Program) (t : Nat) : Option TI :=
  match P.info? t, P.underlying t with
  | some i, some d => match (if structEqB P t d = true then kindOf P d else none) with
    | some k => some ⟨k, i.size, i.bytes, match i.zero with | some z => ofVal z | none => .undef⟩
    | none => none
  | _, _ => none

/-- The table says what the program says. -/
def TbOk (P : Program) (tb : Tb) : Prop := ∀ t ti, find t tb = some ti → tyOf P t = some ti
def TbAll (P : Program) : Tb → Prop
  | [] => True
  | (t, ti) :: r => tyOf P t = some ti ∧ TbAll P r
theorem TbOk.of_all {P : Program} : ∀ {tb : Tb}, TbAll P tb → TbOk P tb
  | [], _, t, ti, h => by simp [find] at h
  | (u, ui) :: r, ha, t, ti, h => by
    simp only [find] at h
    split at h
    · rename_i e
      subst e
      simp only [Option.some.injEq] at h
      subst h
      exact ha.1
    · exact TbOk.of_all ha.2 t ti h

section
variable {P : Program} {t : Nat} {ti : TI}

theorem tyOf.parts (h : tyOf P t = some ti) : ∃ i d, P.info? t = some i ∧ P.underlying t = some d ∧ kindOf P d = some ti.k ∧ i.size = ti.sz ∧ i.bytes = ti.bytes ∧ (∀ z, i.zero = some z → ofVal z = ti.z) ∧ (i.zero = none → ti.z = .undef) := by
  unfold tyOf at h
  split at h
  · rename_i i d hi hd
    split at h
    · rename_i k hk
      have hk : kindOf P d = some k := by
        split at hk
        · exact hk
        · simp at hk
      simp only [Option.some.injEq] at h
      subst h
      refine ⟨i, d, hi, hd, hk, rfl, rfl, fun z hz => by simp [hz], fun hz => by simp [hz]⟩
    · simp at h
  · simp at h

theorem tyOf.structEq (h : tyOf P t = some ti) {d : TypeDesc} (hd : P.underlying t = some d) : structEqB P t d = true := by
  unfold tyOf at h
  split at h
  · rename_i i d' hi hd'
    rw [hd] at hd'
    simp only [Option.some.injEq] at hd'
    subst hd'
    split at h
    · rename_i k hk
      split at hk
      · assumption
      · simp at hk
    · simp at h
  · simp at h

omit [Reg] in
theorem run_typeInfo' (w : World) {i : TypeInfo} (h : P.info? t = some i) : (typeInfo t).run P w = .ok i w := by
  simp [typeInfo, h]
omit [Reg] in
theorem run_underlying' (w : World) {d : TypeDesc} (h : P.underlying t = some d) : (underlying t).run P w = .ok d w := by
  simp [underlying, h]
theorem ty_size (h : tyOf P t = some ti) (w : World) : (sizeOf t).run P w = .ok ti.sz w := by
  obtain ⟨i, d, hi, _, _, hs, _⟩ := tyOf.parts h
  simp [sizeOf, run_typeInfo' w hi, hs]
theorem ty_cells (h : tyOf P t = some ti) : P.cellsOf t = ti.sz := by
  obtain ⟨i, d, hi, _, _, hs, _⟩ := tyOf.parts h
  simp [Program.cellsOf, hi, hs]
theorem ty_agg (h : tyOf P t = some ti) (w : World) : (isAgg t).run P w = .ok ti.isAgg w := by
  obtain ⟨i, d, _, hd, hk, _⟩ := tyOf.parts h
  unfold isAgg TI.isAgg
  simp only [Sem.run_bind, run_underlying' w hd, Result.andThen_ok]
  cases d <;> simp only [kindOf] at hk <;> first
    | (simp only [Option.some.injEq] at hk; rw [← hk]; rfl)
    | (split at hk <;> first | (simp only [Option.some.injEq] at hk; rw [← hk]; rfl) | (simp at hk))
    | (simp at hk)
theorem ty_zero (h : tyOf P t = some ti) (hz : ti.z ≠ .undef) (w : World) : ∃ z, (zeroValue t).run P w = .ok z w ∧ ofVal z = ti.z := by
  obtain ⟨i, d, hi, _, _, _, _, h1, h2⟩ := tyOf.parts h
  cases hzz : i.zero with
  | none => exact absurd (h2 hzz) hz
  | some z => exact ⟨z, by simp [zeroValue, run_typeInfo' w hi, hzz], h1 z hzz⟩
theorem ty_sl {e : Nat} (h : tyOf P t = some ti) (hk : ti.k = .sl e) : P.underlying t = some (.slice e) := by
  obtain ⟨i, d, _, hd, hk', _⟩ := tyOf.parts h
  rw [hd]
  rw [hk] at hk'
  cases d <;> simp only [kindOf] at hk' <;> first | (simp at hk'; done) | (split at hk' <;> simp at hk'; done) | (simp at hk'; subst hk'; rfl)
theorem ty_arr {n e : Nat} (h : tyOf P t = some ti) (hk : ti.k = .arr n e) : P.underlying t = some (.array n e) := by
  obtain ⟨i, d, _, hd, hk', _⟩ := tyOf.parts h
  rw [hd]
  rw [hk] at hk'
  cases d <;> simp only [kindOf] at hk' <;> first | (simp at hk'; done) | (split at hk' <;> simp at hk'; done) | (split at hk' <;> simp at hk'; obtain ⟨rfl, rfl⟩ := hk'; rfl)
theorem ty_int {k : IntKind} (h : tyOf P t = some ti) (hk : ti.k = .int k) : P.underlying t = some (.int k) := by
  obtain ⟨i, d, _, hd, hk', _⟩ := tyOf.parts h
  rw [hd]
  rw [hk] at hk'
  cases d <;> simp only [kindOf] at hk' <;> first | (simp at hk'; done) | (split at hk' <;> simp at hk'; done) | (simp at hk'; subst hk'; rfl)
theorem ty_str (h : tyOf P t = some ti) (hk : ti.k = .str) : P.underlying t = some .string := by
  obtain ⟨i, d, _, hd, hk', _⟩ := tyOf.parts h
  rw [hd]
  rw [hk] at hk'
  cases d <;> simp only [kindOf] at hk' <;> first | rfl | (simp at hk'; done) | (split at hk' <;> simp at hk'; done)
theorem ty_struct {fs : List (Nat × Nat)} (h : tyOf P t = some ti) (hk : ti.k = .struct fs) :
    ∃ arr : Array Field, P.underlying t = some (.struct arr) ∧ fs = arr.toList.map (fun f => (f.offset, f.type)) ∧ ∀ f ∈ arr, P.cellsOf f.type ≠ 0 := by
  obtain ⟨i, d, _, hd, hk', _⟩ := tyOf.parts h
  rw [hk] at hk'
  cases d <;> simp only [kindOf] at hk' <;> try (first | (simp at hk'; done) | (split at hk' <;> simp at hk'; done))
  rename_i arr
  refine ⟨arr, hd, ?_⟩
  split at hk'
  · rename_i ha
    simp only [Option.some.injEq, TK.struct.injEq] at hk'
    refine ⟨hk'.symm, fun f hf => ?_⟩
    have := (Array.all_eq_true_iff_forall_mem.1 ha) f hf
    simpa using this
  · simp at hk'
end

omit [Reg] in
theorem addr_add (b o n : Nat) : (⟨b, o, none⟩ : Addr).add n = ⟨b, o + n, none⟩ := by
  unfold Addr.add
  split <;> simp_all

/-- A load out of cells that are known one by one. -/
theorem load_part {P : Program} {w : World} {D : Dead} {γ : Gh} {h : Heap} {u : List Nat} {t : Nat} {ti : TI} (ht : tyOf P t = some ti) {cs : List AV} {f : Nat → Value} {b base off : Nat} {av : AV}
    (hv : ∀ (j : Nat) (c : AV), cs[j]? = some c → w.cell? ⟨b, base + j, none⟩ = some (f j) ∧ RepC γ h u w D c (f j) ∧ Cell c) (hp : partOf ti cs off = some av) :
    ∃ cv, (loadVar t ⟨b, base + off, none⟩).run P w = .ok cv w ∧ RepB γ h u w D av cv := by
  unfold partOf at hp
  unfold loadVar
  simp only [Sem.run_bind, ty_agg ht, Result.andThen_ok]
  cases hagg : ti.isAgg with
  | true =>
    rw [hagg] at hp
    simp only [cond_true] at hp
    cases hlen : Nat.ble (off + ti.sz) cs.length with
    | false => rw [hlen] at hp; simp at hp
    | true =>
      rw [hlen] at hp
      simp only [cond_true, Option.some.injEq] at hp
      subst hp
      have hlen := Nat.le_of_ble_eq_true hlen
      have hrun : (loadCells ⟨b, base + off, none⟩ ti.sz).run P w = .ok ((List.range ti.sz).map fun j => f (off + j)).toArray w :=
        run_loadCells w _ _ (fun j => f (off + j)) fun j hj => by
          rw [addr_add, Nat.add_assoc]
          have hlt : off + j < cs.length := by omega
          exact (hv (off + j) cs[off + j] (List.getElem?_eq_getElem hlt)).1
      refine ⟨.agg ((List.range ti.sz).map fun j => f (off + j)).toArray, ?_, _, rfl, by simp; omega, fun i c v hi hj => ?_⟩
      · simp [ty_size ht, hrun]
      · have hi1 : i < ti.sz := by
          have := (List.getElem?_eq_some_iff.1 hi).1
          simp at this
          omega
        rw [List.getElem?_take, if_pos hi1, List.getElem?_drop] at hi
        have hv' : v = f (off + i) := by
          simp [hi1] at hj
          exact hj.symm
        subst hv'
        exact (hv _ c hi).2
  | false =>
    rw [hagg] at hp
    simp only [cond_false] at hp
    obtain ⟨h1, h2, h3⟩ := hv off av hp
    exact ⟨f off, by simp [h1], h2.b⟩
end
end Go.AM
