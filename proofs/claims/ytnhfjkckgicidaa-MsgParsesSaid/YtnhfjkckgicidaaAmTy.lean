/- The type table against the program's; loads. -/
import Derived.Test.YtnhfjkckgicidaaAmRep
set_option linter.unusedVariables false
set_option linter.unusedSimpArgs false
namespace Go.AM

def kindOf (P : Program) : TypeDesc → Option TK
  | .int k => some (.int k)
  | .bool => some .bool
  | .string => some .str
  | .struct fs => if fs.all (fun f => P.cellsOf f.type != 0) then some (.struct (fs.toList.map fun f => (f.offset, f.type))) else none
  | .array n e => if P.cellsOf e != 0 then some (.arr n e) else none
  | .slice e => some (.sl e)
  | .pointer _ => some .ptr
  | .func .. | .interface _ => some .other
  | _ => none

/-- A struct of plain fields is compared field by field. -/
def structEqB (P : Program) (t : Nat) (d : TypeDesc) : Bool := match d with
  | .struct fs => !(fs.toList.all fun f => P.plainKey f.type) || (!P.stoodInHeld t && !P.eqGuardType P.depth t && fs.toList.all fun f => f.name != "_")
  | _ => true
def tyOf (P : Program) (t : Nat) : Option TI :=
  match P.info? t, P.underlying t with
  | some i, some d => match (if structEqB P t d = true then kindOf P d else none) with
    | some k => some ⟨k, i.size, i.bytes, match i.zero with | some z => ofVal z | none => .undef⟩
    | none => none
  | _, _ => none

/-- The table says what the program says. -/
def TbOk (P : Program) (tb : Tb) : Prop := ∀ t ti, find t tb = some ti → tyOf P t = some ti
def TbAll (P : Program) : Tb → Prop
  | [] => True
  | (t, ti) :: r => tyOf P t = some ti ∧ TbAll P r
theorem TbOk.of_all {P : Program} : ∀ {tb : Tb}, TbAll P tb → TbOk P tb
  | [], _, t, ti, h => by simp [find] at h
  | (u, ui) :: r, ha, t, ti, h => by
    simp only [find] at h
    split at h
    · rename_i e
      subst e
      simp only [Option.some.injEq] at h
      subst h
      exact ha.1
    · exact TbOk.of_all ha.2 t ti h

section
variable {P : Program} {t : Nat} {ti : TI}

theorem tyOf.parts (h : tyOf P t = some ti) : ∃ i d, P.info? t = some i ∧ P.underlying t = some d ∧ kindOf P d = some ti.k ∧ i.size = ti.sz ∧ i.bytes = ti.bytes ∧ (∀ z, i.zero = some z → ofVal z = ti.z) ∧ (i.zero = none → ti.z = .undef) := by
  unfold tyOf at h
  split at h
  · rename_i i d hi hd
    split at h
    · rename_i k hk
      have hk : kindOf P d = some k := by
        split at hk
        · exact hk
        · simp at hk
      simp only [Option.some.injEq] at h
      subst h
      refine ⟨i, d, hi, hd, hk, rfl, rfl, fun z hz => by simp [hz], fun hz => by simp [hz]⟩
    · simp at h
  · simp at h

theorem tyOf.structEq (h : tyOf P t = some ti) {d : TypeDesc} (hd : P.underlying t = some d) : structEqB P t d = true := by
  unfold tyOf at h
  split at h
  · rename_i i d' hi hd'
    rw [hd] at hd'
    simp only [Option.some.injEq] at hd'
    subst hd'
    split at h
    · rename_i k hk
      split at hk
      · assumption
      · simp at hk
    · simp at h
  · simp at h

theorem run_typeInfo' (w : World) {i : TypeInfo} (h : P.info? t = some i) : (typeInfo t).run P w = .ok i w := by
  simp [typeInfo, h]
theorem run_underlying' (w : World) {d : TypeDesc} (h : P.underlying t = some d) : (underlying t).run P w = .ok d w := by
  simp [underlying, h]
theorem ty_size (h : tyOf P t = some ti) (w : World) : (sizeOf t).run P w = .ok ti.sz w := by
  obtain ⟨i, d, hi, _, _, hs, _⟩ := tyOf.parts h
  simp [sizeOf, run_typeInfo' w hi, hs]
theorem ty_cells (h : tyOf P t = some ti) : P.cellsOf t = ti.sz := by
  obtain ⟨i, d, hi, _, _, hs, _⟩ := tyOf.parts h
  simp [Program.cellsOf, hi, hs]
theorem ty_agg (h : tyOf P t = some ti) (w : World) : (isAgg t).run P w = .ok ti.isAgg w := by
  obtain ⟨i, d, _, hd, hk, _⟩ := tyOf.parts h
  unfold isAgg TI.isAgg
  simp only [Sem.run_bind, run_underlying' w hd, Result.andThen_ok]
  cases d <;> simp only [kindOf] at hk <;> first
    | (simp only [Option.some.injEq] at hk; rw [← hk]; rfl)
    | (split at hk <;> first | (simp only [Option.some.injEq] at hk; rw [← hk]; rfl) | (simp at hk))
    | (simp at hk)
theorem ty_zero (h : tyOf P t = some ti) (hz : ti.z ≠ .undef) (w : World) : ∃ z, (zeroValue t).run P w = .ok z w ∧ ofVal z = ti.z := by
  obtain ⟨i, d, hi, _, _, _, _, h1, h2⟩ := tyOf.parts h
  cases hzz : i.zero with
  | none => exact absurd (h2 hzz) hz
  | some z => exact ⟨z, by simp [zeroValue, run_typeInfo' w hi, hzz], h1 z hzz⟩
theorem ty_sl {e : Nat} (h : tyOf P t = some ti) (hk : ti.k = .sl e) : P.underlying t = some (.slice e) := by
  obtain ⟨i, d, _, hd, hk', _⟩ := tyOf.parts h
  rw [hd]
  rw [hk] at hk'
  cases d <;> simp only [kindOf] at hk' <;> first | (simp at hk'; done) | (split at hk' <;> simp at hk'; done) | (simp at hk'; subst hk'; rfl)
theorem ty_arr {n e : Nat} (h : tyOf P t = some ti) (hk : ti.k = .arr n e) : P.underlying t = some (.array n e) := by
  obtain ⟨i, d, _, hd, hk', _⟩ := tyOf.parts h
  rw [hd]
  rw [hk] at hk'
  cases d <;> simp only [kindOf] at hk' <;> first | (simp at hk'; done) | (split at hk' <;> simp at hk'; done) | (split at hk' <;> simp at hk'; obtain ⟨rfl, rfl⟩ := hk'; rfl)
theorem ty_int {k : IntKind} (h : tyOf P t = some ti) (hk : ti.k = .int k) : P.underlying t = some (.int k) := by
  obtain ⟨i, d, _, hd, hk', _⟩ := tyOf.parts h
  rw [hd]
  rw [hk] at hk'
  cases d <;> simp only [kindOf] at hk' <;> first | (simp at hk'; done) | (split at hk' <;> simp at hk'; done) | (simp at hk'; subst hk'; rfl)
theorem ty_str (h : tyOf P t = some ti) (hk : ti.k = .str) : P.underlying t = some .string := by
  obtain ⟨i, d, _, hd, hk', _⟩ := tyOf.parts h
  rw [hd]
  rw [hk] at hk'
  cases d <;> simp only [kindOf] at hk' <;> first | rfl | (simp at hk'; done) | (split at hk' <;> simp at hk'; done)
theorem ty_struct {fs : List (Nat × Nat)} (h : tyOf P t = some ti) (hk : ti.k = .struct fs) :
    ∃ arr : Array Field, P.underlying t = some (.struct arr) ∧ fs = arr.toList.map (fun f => (f.offset, f.type)) ∧ ∀ f ∈ arr, P.cellsOf f.type ≠ 0 := by
  obtain ⟨i, d, _, hd, hk', _⟩ := tyOf.parts h
  rw [hk] at hk'
  cases d <;> simp only [kindOf] at hk' <;> try (first | (simp at hk'; done) | (split at hk' <;> simp at hk'; done))
  rename_i arr
  refine ⟨arr, hd, ?_⟩
  split at hk'
  · rename_i ha
    simp only [Option.some.injEq, TK.struct.injEq] at hk'
    refine ⟨hk'.symm, fun f hf => ?_⟩
    have := (Array.all_eq_true_iff_forall_mem.1 ha) f hf
    simpa using this
  · simp at hk'
end

theorem datAll_spec : ∀ {cs l : List AV}, datAll cs = some l → l.length = cs.length ∧ ∀ (i : Nat) (c : AV), cs[i]? = some c → ∃ d, l[i]? = some d ∧ c.dat = some d
  | [], l, h => by
    simp only [datAll, Option.some.injEq] at h
    subst h
    simp
  | c :: r, l, h => by
    simp only [datAll] at h
    split at h
    · rename_i a l' ha hl
      simp only [Option.some.injEq] at h
      subst h
      obtain ⟨h1, h2⟩ := datAll_spec hl
      refine ⟨by simp [h1], fun i x hx => ?_⟩
      cases i with
      | zero => simp at hx; subst hx; exact ⟨a, rfl, ha⟩
      | succ i => simp at hx; simpa using h2 i x hx
    · simp at h

theorem dat_cell1 {c d : AV} (h : c.dat = some d) (h1 : c.cell1 = true) : d.cell1 = true := by
  cases c <;> simp only [AV.dat, Option.some.injEq, reduceCtorEq] at h <;> subst h <;> first | rfl | exact h1

theorem addr_add (b o n : Nat) : (⟨b, o, none⟩ : Addr).add n = ⟨b, o + n, none⟩ := by
  unfold Addr.add
  split <;> simp_all

/-- A load out of a row of cells that is known cell by cell. -/
theorem load_view {P : Program} {w : World} {D : Dead} {γ : Gh} {st : St} {t : Nat} {ti : TI} (ht : tyOf P t = some ti) {cs : List AV} {f : Nat → Value} {b base off : Nat} {av : AV}
    (hv : ∀ (j : Nat) (c : AV), cs[j]? = some c → w.cell? ⟨b, base + j, none⟩ = some (f j) ∧ RepV γ w D st c (f j) ∧ (c = .undef ∨ c.cell1 = true)) (hp : partOf ti cs off = some av) :
    ∃ cv, (loadVar t ⟨b, base + off, none⟩).run P w = .ok cv w ∧ RepV γ w D st av cv ∧ ((ti.isAgg = false → av = .undef ∨ av.cell1 = true)) := by
  unfold partOf at hp
  unfold loadVar
  simp only [Sem.run_bind, ty_agg ht, Result.andThen_ok]
  split at hp
  · rename_i hagg
    split at hp
    · rename_i hlen
      split at hp
      · rename_i l hl
        simp only [Option.some.injEq] at hp
        subst hp
        obtain ⟨hl1, hl2⟩ := datAll_spec hl
        have hln : l.length = ti.sz := by simp [hl1]; omega
        have hrun : (loadCells ⟨b, base + off, none⟩ ti.sz).run P w = .ok ((List.range ti.sz).map fun j => f (off + j)).toArray w :=
          run_loadCells w _ _ (fun j => f (off + j)) fun j hj => by
            rw [addr_add, Nat.add_assoc]
            have hlt : off + j < cs.length := by omega
            exact (hv (off + j) cs[off + j] (List.getElem?_eq_getElem hlt)).1
        refine ⟨.agg ((List.range ti.sz).map fun j => f (off + j)).toArray, ?_, ?_, by simp [hagg]⟩
        · simp [hagg, ty_size ht, hrun]
        · refine .of (.agg _ _ (by simp [hln]) (fun c hc => ?_) (fun i c v hi hj => ?_))
          · obtain ⟨i, hi⟩ := List.getElem?_of_mem hc
            have hi' : i < l.length := (List.getElem?_eq_some_iff.1 hi).1
            have hlt : off + i < cs.length := by omega
            obtain ⟨d, hd1, hd2⟩ := hl2 i cs[off + i] (by simp [List.getElem?_take, List.getElem?_drop, show i < ti.sz by omega, List.getElem?_eq_getElem hlt])
            rw [hi] at hd1
            simp only [Option.some.injEq] at hd1
            subst hd1
            rcases (hv (off + i) cs[off + i] (List.getElem?_eq_getElem hlt)).2.2 with h | h
            · rw [h] at hd2; simp [AV.dat] at hd2
            · exact dat_cell1 hd2 h
          · have hi' : i < l.length := (List.getElem?_eq_some_iff.1 hi).1
            have hlt : off + i < cs.length := by omega
            obtain ⟨d, hd1, hd2⟩ := hl2 i cs[off + i] (by simp [List.getElem?_take, List.getElem?_drop, show i < ti.sz by omega, List.getElem?_eq_getElem hlt])
            rw [hi] at hd1
            simp only [Option.some.injEq] at hd1
            subst hd1
            have hv' : v = f (off + i) := by
              simp [show i < ti.sz by omega] at hj
              exact hj.symm
            subst hv'
            exact RepV.dat (hv (off + i) cs[off + i] (List.getElem?_eq_getElem hlt)).2.1 hd2
      · simp at hp
    · simp at hp
  · rename_i hagg
    obtain ⟨h1, h2, h3⟩ := hv off av hp
    refine ⟨f off, ?_, h2, fun _ => h3⟩
    simp [hagg, h1]

end Go.AM
