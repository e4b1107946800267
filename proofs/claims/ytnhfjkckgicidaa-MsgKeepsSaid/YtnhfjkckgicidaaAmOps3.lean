/- Soundness, operation by operation (3): strings, slices, loads. -/
import Derived.Test.YtnhfjkckgicidaaAmOps2
set_option linter.unusedVariables false
set_option linter.unusedSimpArgs false
namespace Go.AM

/-- The elements of a row, from an address on. -/
def Els (w : World) (D : Dead) (s : Nat) (xs : List AV) (b o : Nat) (f : Nat → Nat → Value) : Prop :=
  (∀ (i : Nat) (e : AV), xs[i]? = some e → e.cells.length = s) ∧
  (∀ (i : Nat) (e : AV) (j : Nat) (c : AV), xs[i]? = some e → e.cells[j]? = some c → c.cell1 = true ∧ D b (o + (i * s + j)) ∧ w.cell? ⟨b, o + (i * s + j), none⟩ = some (f i j)) ∧
  (∀ (i : Nat) (e : AV) (j : Nat) (c : AV), xs[i]? = some e → e.cells[j]? = some c → RepD w D c (f i j))

section
variable {P : Program} {c : Ctx} {γ : Gh} {D : Dead} {st : St} {a : Act} {w : World} {tb : Tb}

theorem inv_sl {s : Nat} {full : Bool} {xs : List AV} {v : Value} (h : RepD w D (.sl s full xs) v) : ∃ A cap, v = .slice A xs.length cap ∧ xs.length ≤ cap ∧ (full = true → cap = xs.length) ∧ (xs = [] ∨ ∃ b o f, A = some ⟨b, o, none⟩ ∧ Els w D s xs b o f) := by
  cases h with
  | slN _ _ A cap hf => exact ⟨A, cap, rfl, Nat.zero_le _, hf, .inl rfl⟩
  | sl _ _ _ b o cap f hlc hf hs hc hr => exact ⟨_, cap, rfl, hlc, hf, .inr ⟨b, o, f, rfl, hs, hc, hr⟩⟩

theorem mk_sl {s : Nat} {full : Bool} {xs : List AV} {A : Option Addr} {cap : Nat} (h1 : xs.length ≤ cap) (h2 : full = true → cap = xs.length) (h3 : xs = [] ∨ ∃ b o f, A = some ⟨b, o, none⟩ ∧ Els w D s xs b o f) :
    RepD w D (.sl s full xs) (.slice A xs.length cap) := by
  rcases h3 with rfl | ⟨b, o, f, rfl, hs, hc, hr⟩
  · exact .slN s full A cap h2
  · exact .sl s full xs b o cap f h1 h2 hs hc hr

theorem Els.sub {s : Nat} {xs : List AV} {b o : Nat} {f : Nat → Nat → Value} (h : Els w D s xs b o f) (l h' : Nat) : Els w D s ((xs.take h').drop l) b (o + l * s) (fun i j => f (l + i) j) := by
  have key : ∀ (i : Nat) (e : AV), ((xs.take h').drop l)[i]? = some e → xs[l + i]? = some e := by
    intro i e hi
    rw [List.getElem?_drop, List.getElem?_take] at hi
    split at hi
    · exact hi
    · simp at hi
  have ad : ∀ i j, o + l * s + (i * s + j) = o + ((l + i) * s + j) := fun i j => by rw [Nat.add_mul]; omega
  refine ⟨fun i e hi => h.1 _ _ (key i e hi), fun i e j c hi hj => ?_, fun i e j c hi hj => h.2.2 _ _ _ _ (key i e hi) hj⟩
  rw [ad]
  exact h.2.1 _ _ _ _ (key i e hi) hj

theorem sub_sound {s : Nat} {full : Bool} {xs : List AV} {v : Value} (hx : RepD w D (.sl s full xs) v) {e : Nat} {sz : Nat} (hsz : (sizeOf e).run P w = .ok sz w) (hs : s = sz ∨ xs = []) {l h m : Int} {hasMax : Bool} {r : AV}
    (hr : subA s xs l h m hasMax = some r) : ∃ A cap, v = .slice A xs.length cap ∧ 0 ≤ l ∧ l ≤ h ∧ h ≤ m ∧ h ≤ xs.length ∧ xs.length ≤ cap ∧ (hasMax = true → m ≤ xs.length) ∧
      ∀ M : Nat, (M : Int) = (if hasMax then m else cap) → RepV γ w D st r (.slice (if M = l.toNat then A else A.map (·.add (l.toNat * sz))) (h.toNat - l.toNat) (M - l.toNat)) := by
  obtain ⟨A, cap, rfl, h1, h2, h3⟩ := inv_sl hx
  unfold subA at hr
  split at hr
  · rename_i hc
    obtain ⟨c1, c2, c3, c4, c5⟩ := hc
    simp only [Option.some.injEq] at hr
    subst hr
    refine ⟨A, cap, rfl, c1, c2, c3, c4, h1, c5, fun M hM => ?_⟩
    have hlen : ((xs.take h.toNat).drop l.toNat).length = h.toNat - l.toNat := by
      rw [List.length_drop, List.length_take]; omega
    rw [← hlen]
    refine .of (mk_sl ?_ ?_ ?_)
    · rw [hlen]
      cases hasMax <;> simp at hM ⊢ <;> omega
    · intro hf
      simp only [Bool.and_eq_true, decide_eq_true_eq] at hf
      obtain ⟨hm, hh⟩ := hf
      subst hm
      simp at hM
      rw [hlen]
      omega
    · by_cases hn : (xs.take h.toNat).drop l.toNat = []
      · exact .inl hn
      · right
        have hx0 : xs ≠ [] := fun e => hn (by simp [e])
        rcases h3 with h3 | ⟨b, o, f, rfl, hE⟩
        · exact absurd h3 hx0
        have hs' : s = sz := hs.resolve_right hx0
        subst hs'
        have hpos : 0 < h.toNat - l.toNat := by rw [← hlen]; exact List.length_pos_iff.2 hn
        have hM' : ¬ M = l.toNat := by
          cases hasMax <;> simp at hM <;> omega
        refine ⟨b, o + l.toNat * s, _, ?_, hE.sub _ _⟩
        rw [if_neg hM']
        simp [addr_add]
  · simp at hr

theorem loA_run {lo : Option Operand} (h : Inv c γ D st a w) {l : Int} (hl : loA (lo.map st.ev) = some l) : (lo = none ∧ l = 0) ∨ ∃ x k, lo = some x ∧ a.eval x = .int k l := by
  cases lo with
  | none => simp [loA] at hl; exact .inl ⟨rfl, hl.symm⟩
  | some x =>
    right
    have hx := h.ev x
    simp only [Option.map_some] at hl
    generalize st.ev x = X at hx hl
    cases X <;> simp only [loA, Option.some.injEq, reduceCtorEq] at hl
    subst hl
    exact ⟨x, _, rfl, inv_int hx⟩
theorem hiA_run {hi : Option Operand} (h : Inv c γ D st a w) {d l : Int} (hl : hiA d (hi.map st.ev) = some l) : (hi = none ∧ l = d) ∨ ∃ x k, hi = some x ∧ a.eval x = .int k l := by
  cases hi with
  | none => simp [hiA] at hl; exact .inl ⟨rfl, hl.symm⟩
  | some x =>
    right
    have hx := h.ev x
    simp only [Option.map_some] at hl
    generalize st.ev x = X at hx hl
    cases X <;> simp only [hiA, Option.some.injEq, reduceCtorEq] at hl
    subst hl
    exact ⟨x, _, rfl, inv_int hx⟩

theorem run_sliceBound {k : IntKind} {i : Int} {y : Nat} {code : BoundsCode} (h0 : 0 ≤ i) (h1 : i ≤ y) : (Instr.sliceBound (.int k i) y code).run P w = .ok i.toNat w := by
  simp [Instr.sliceBound, asIntOf, h0, h1]

/-- The bounds of a slice expression. -/
theorem run_bounds {isS : Bool} {len cap : Nat} (h : Inv c γ D st a w) {lo hi : Option Operand} {l hh : Int} (hl : (lo = none ∧ l = 0) ∨ ∃ x k, lo = some x ∧ a.eval x = .int k l) (hhi : (hi = none ∧ hh = (len : Int)) ∨ ∃ x k, hi = some x ∧ a.eval x = .int k hh)
    (h0 : 0 ≤ l) (h1 : l ≤ hh) (h2 : hh ≤ cap) : (Instr.sliceBounds isS len cap (lo.map a.eval) (hi.map a.eval) none).run P w = .ok (l.toNat, hh.toNat, cap) w := by
  rcases hl with ⟨rfl, rfl⟩ | ⟨x, k, rfl, hx⟩ <;> rcases hhi with ⟨rfl, rfl⟩ | ⟨y, k', rfl, hy⟩
  · simp [Instr.sliceBounds]
  · simp [Instr.sliceBounds, hy, run_sliceBound (P := P) (w := w) (show 0 ≤ hh by omega) h2]
  · have e : (Instr.sliceBound (.int k l) len .sliceB).run P w = .ok l.toNat w := run_sliceBound h0 h1
    simp [Instr.sliceBounds, hx, e]
  · have e : (Instr.sliceBound (.int k l) hh.toNat .sliceB).run P w = .ok l.toNat w := run_sliceBound h0 (by omega)
    simp [Instr.sliceBounds, hx, hy, run_sliceBound (P := P) (w := w) (show 0 ≤ hh by omega) h2, e]

theorem run_bounds_max {len cap : Nat} (h : Inv c γ D st a w) {lo : Option Operand} {hi mx : Operand} {l hh m : Int} {k' k'' : IntKind} (hl : (lo = none ∧ l = 0) ∨ ∃ x k, lo = some x ∧ a.eval x = .int k l) (hhi : a.eval hi = .int k' hh) (hm : a.eval mx = .int k'' m)
    (h0 : 0 ≤ l) (h1 : l ≤ hh) (h2 : hh ≤ m) (h3 : m ≤ cap) : (Instr.sliceBounds true len cap (lo.map a.eval) (some (a.eval hi)) (some (a.eval mx))).run P w = .ok (l.toNat, hh.toNat, m.toNat) w := by
  have e1 : ∀ code, (Instr.sliceBound (.int k'' m) cap code).run P w = .ok m.toNat w := fun code => run_sliceBound (by omega) h3
  have e2 : ∀ code, (Instr.sliceBound (.int k' hh) m.toNat code).run P w = .ok hh.toNat w := fun code => run_sliceBound (by omega) (by omega)
  rcases hl with ⟨rfl, rfl⟩ | ⟨x, k, rfl, hx⟩
  · simp [Instr.sliceBounds, hhi, hm, e1, e2]
  · have e3 : ∀ code, (Instr.sliceBound (.int k l) hh.toNat code).run P w = .ok l.toNat w := fun code => run_sliceBound h0 (by omega)
    simp [Instr.sliceBounds, hhi, hm, hx, e1, e2, e3]

theorem sound_slice (hT : TbOk P tb) {o : Oper} (h : Inv c γ D st a w) {t : Nat} {x : Operand} {lo hi mx : Option Operand} (ho : o.op = .slice t x lo hi mx) {v : AV} (hv : sliceA tb t (st.ev x) (lo.map st.ev) (hi.map st.ev) (mx.map st.ev) = some v) :
    Gives P c o a w (st.put o.dst v) := by
  have hx := h.ev x
  unfold sliceA at hv
  split at hv
  · simp at hv
  rename_i ti hti
  have ht := hT _ _ hti
  split at hv
  · rename_i s l hk ex el
    have hu := ty_str ht hk
    split at hv
    · rename_i hh ehi emx
      have hmx : mx = none := by cases mx <;> simp at emx ⊢
      subst hmx
      split at hv
      · rename_i hb
        obtain ⟨b0, b1, b2⟩ := hb
        simp only [Option.some.injEq] at hv
        subst hv
        rw [ex] at hx
        obtain ⟨sb, e, hs⟩ := inv_str hx
        have hsz : sb.size = s.length := by rw [← hs, Array.length_toList]; rfl
        have hbd : (Instr.sliceBounds false sb.size sb.size (lo.map a.eval) (hi.map a.eval) none).run P w = .ok (l.toNat, hh.toNat, sb.size) w :=
          run_bounds h (loA_run h el) (by rw [hsz]; exact hiA_run h ehi) b0 b1 (by rw [hsz]; exact b2)
        refine gives_put h (cv := .string (sb.extract l.toNat hh.toNat)) (.of (.str _ _ ?_)) ?_
        · rw [ByteArray.data_extract, Array.toList_extract, hs]
          simp [List.extract_eq_take_drop, List.drop_take]
        · simp [execOp, ho, e, Instr.sliceAt, Instr.slice, run_underlying' w hu, hbd]
      · simp at hv
    · simp at hv
  · rename_i e l hk el
    have hu := ty_sl ht hk
    split at hv
    · rename_i s xs te exs ete
      have hte := hT _ _ ete
      split at hv
      · rename_i hs
        have hx' : ∃ full, RepD w D (.sl s full xs) (a.eval x) := by
          generalize st.ev x = X at hx exs
          cases X <;> simp only [Option.some.injEq, Prod.mk.injEq, reduceCtorEq] at exs
          · obtain ⟨rfl, rfl⟩ := exs; exact ⟨_, hx⟩
          · obtain ⟨rfl, rfl⟩ := exs; exact ⟨_, hx.2.1⟩
        obtain ⟨full, hx'⟩ := hx'
        split at hv
        · rename_i emx
          have hmx : mx = none := by cases mx <;> simp at emx ⊢
          subst hmx
          split at hv
          · rename_i hh ehi
            obtain ⟨A, cap, ev, c1, c2, c3, c4, c5, _, c6⟩ := sub_sound (P := P) (γ := γ) (st := st) hx' (ty_size hte w) hs hv
            have hbd : (Instr.sliceBounds true xs.length cap (lo.map a.eval) (hi.map a.eval) none).run P w = .ok (l.toNat, hh.toNat, cap) w :=
              run_bounds h (loA_run h el) (hiA_run h ehi) c1 c2 (by omega)
            refine gives_put h (c6 cap (by simp)) ?_
            simp [execOp, ho, ev, Instr.sliceAt, Instr.slice, run_underlying' w hu, hbd, ty_size hte]
          · simp at hv
        · rename_i km m emx
          split at hv
          · rename_i kh hh ehi
            cases mx with
            | none => simp at emx
            | some y =>
            cases hi with
            | none => simp at ehi
            | some z =>
            simp only [Option.map_some, Option.some.injEq] at emx ehi
            have ey := inv_int (emx ▸ h.ev y)
            have ez := inv_int (ehi ▸ h.ev z)
            obtain ⟨A, cap, ev, c1, c2, c3, c4, c5, c7, c6⟩ := sub_sound (P := P) (γ := γ) (st := st) hx' (ty_size hte w) hs hv
            have hm := c7 rfl
            have hbd : (Instr.sliceBounds true xs.length cap (lo.map a.eval) (some (a.eval z)) (some (a.eval y))).run P w = .ok (l.toNat, hh.toNat, m.toNat) w :=
              run_bounds_max h (loA_run h el) ez ey c1 c2 c3 (by omega)
            refine gives_put h (c6 m.toNat (by simp; omega)) ?_
            simp only [execOp, ho, ev, Instr.sliceAt, Instr.slice, Sem.run_bind, run_underlying' w hu, Result.andThen_ok, Option.map_some, hbd, ty_size hte, Sem.run_pure]
          · simp at hv
        · simp at hv
      · simp at hv
    · simp at hv
  · simp at hv

end
end Go.AM
