/- Soundness, operation by operation (11): conversions. -/
import Derived.Test.YtnhfjkckgicidaaAmOpsA
import Derived.Lib.ConvBytes
import Derived.Laws.BytesArg
set_option linter.unusedVariables false
set_option linter.unusedSimpArgs false
namespace Go.AM
open Go.RowKit Go.Lib
section
variable {P : Program} {c : Ctx} {γ : Gh} {D D' : Dead} {st : St} {a : Act} {w w' : World} {tb : Tb}

theorem isU8_sound (hT : TbOk P tb) {e : Nat} (h : isU8 tb e = true) : P.underlying e = some (.int .u8) := by
  unfold isU8 at h
  split at h
  · rename_i te hte
    split at h
    · rename_i hk
      exact ty_int (hT _ _ hte) hk
    · simp at h
  · simp at h

theorem bytesOf_spec : ∀ {xs : List AV} {l : List UInt8}, bytesOf xs = some l → ∃ ns : List Int, xs = ns.map (fun n => AV.int .u8 n) ∧ l = ns.map fun n => UInt8.ofNat n.toNat
  | [], l, h => by simp [bytesOf] at h; subst h; exact ⟨[], rfl, rfl⟩
  | x :: r, l, h => by
    unfold bytesOf at h
    split at h <;> try (simp at h; done)
    · rename_i e; cases e
    rename_i n r' e
    simp only [List.cons.injEq] at e
    obtain ⟨rfl, rfl⟩ := e
    split at h
    · rename_i l' hl
      simp only [Option.some.injEq] at h
      subst h
      obtain ⟨ns, rfl, rfl⟩ := bytesOf_spec hl
      exact ⟨n :: ns, rfl, rfl⟩
    · simp at h

theorem sound_convert (hT : TbOk P tb) {o : Oper} (h : Inv c γ D st a w) {s d : Nat} {x : Operand} (ho : o.op = .convert s d x) {ts td : TI} (hts : find s tb = some ts) (htd : find d tb = some td) {st' : St} (hv : convertA tb st ts td o.dst (st.ev x) = some st') : Gives P c o a w st' := by
  have hx := h.ev x
  have cx := st.ev_isCur x
  obtain ⟨is, ds, _, hus, _⟩ := tyOf.parts (hT _ _ hts)
  have hd := hT _ _ htd
  generalize st.ev x = X at hx hv cx
  unfold convertA at hv
  split at hv
  · rename_i k k' n hk
    simp only [Option.some.injEq] at hv
    subst hv
    have ex := inv_int hx
    refine gives_put h (cv := .int k (k.wrap n)) (.of (.int _ _)) ?_
    simp [execOp, ho, ex, convert, run_underlying' w hus, run_underlying' w (ty_int hd hk), Conv.intToInt]
  · rename_i l hk
    simp only [Option.some.injEq] at hv
    subst hv
    obtain ⟨sb, ex, hs⟩ := inv_str hx
    refine gives_put h hx ?_
    simp [execOp, ho, ex, convert, run_underlying' w hus, run_underlying' w (ty_str hd hk)]
  · rename_i hk _
    split at hv
    · rename_i e hks
      split at hv
      · rename_i hu8
        split at hv
        · rename_i sz xs he
          split at hv
          · rename_i l hl
            simp only [Option.some.injEq] at hv
            subst hv
            obtain ⟨A, cap, ev, hlc, h3⟩ := inv_elems h hx cx he
            have hse := ty_sl (hT _ _ hts) hks
            obtain ⟨ns, hns, hl'⟩ := bytesOf_spec hl
            have hrun : (convert s d (a.eval x)).run P w = .ok (.string (strOfNums ns)) w := by
              rw [ev]
              rcases h3 with rfl | ⟨b, o', rfl, hs, f, hf⟩
              · have : ns = [] := by cases ns <;> simp at hns ⊢
                subst this
                cases A with
                | none => exact run_convert_bytes_nil w s e hse (isU8_sound hT hu8) _ _ d (ty_str hd hk)
                | some q =>
                  rw [run_convert_bytes_string w s d e _ _ _ hse (isU8_sound hT hu8) (ty_str hd hk)]
                  simp [Conv.bytesToString, loadCells, loadCellsFrom]
                  rfl
              · have hlen : xs.length = ns.length := by rw [hns]; simp
                rw [hlen]
                refine run_convert_bytes_arg w s e hse (isU8_sound hT hu8) b o' ns.length cap ns rfl (fun i hi => ?_) d (ty_str hd hk)
                have hxi : xs[i]? = some (.int .u8 ns[i]) := by rw [hns]; simp [hi]
                have hs1 : sz = 1 := (hs i _ hxi).symm
                subst hs1
                obtain ⟨_, q2, q3⟩ := hf i _ 0 (.int .u8 ns[i]) hxi rfl
                rw [Nat.mul_one, Nat.add_zero] at q2
                rw [q2]
                have q4 := inv_int (γ := γ) (st := st) (.of q3)
                rw [q4]
                simp [hi]
            refine gives_put h (cv := .string (strOfNums ns)) (.of (.str _ _ ?_)) (by simp [execOp, ho, hrun])
            rw [hl']
            simp [strOfNums]
          · simp at hv
        · simp at hv
      · simp at hv
    · simp at hv
  · rename_i e l hk
    split at hv
    · rename_i dd hdst
      split at hv
      · rename_i hc
        obtain ⟨hu8, h63⟩ := hc
        simp only [Option.some.injEq] at hv
        subst hv
        obtain ⟨sb, ex, hs⟩ := inv_str hx
        have hsz : sb.size = l.length := by rw [← hs, Array.length_toList]; rfl
        have hlen : (ofBytes l).length = sb.size := by simp [ofBytes, hsz]
        have hrun := Go.Lib.run_convert_string_bytes (P := P) w s d e sb hus (ty_sl hd hk) (isU8_sound hT hu8)
        have hge := grownCap_ge w sb.size 0 e
        have hbs : (bytesCells w e sb).size = grownCap w sb.size 0 e * 1 := by
          have : sb.data.size = sb.size := rfl
          simp [bytesCells, this]
          omega
        have hcellb : ∀ (i : Nat) (b : UInt8), l[i]? = some b → (bytesCells w e sb)[i]? = some (Value.int .u8 b.toNat) := by
          intro i b hb
          have hi : i < l.length := (List.getElem?_eq_some_iff.1 hb).1
          have hi' : i < sb.data.size := by have : sb.data.size = sb.size := rfl; omega
          have hb' : sb.data[i]? = some b := by rw [← Array.getElem?_toList, hs]; exact hb
          rw [Array.getElem?_eq_getElem hi'] at hb'
          simp only [Option.some.injEq] at hb'
          unfold bytesCells
          rw [Array.getElem?_append_left (by simpa using hi'), Array.getElem?_map, Array.getElem?_eq_getElem hi', hb']
          rfl
        have hIn : RowIn w D 1 (ofBytes l) (bytesCells w e sb) := by
          refine ⟨fun i e' hi => ?_, by rw [hlen, hbs]; omega, fun i e' j c' v hi hj hv => ?_⟩
          · simp [ofBytes] at hi
            obtain ⟨b, _, rfl⟩ := hi
            rfl
          · simp only [ofBytes, List.getElem?_map, Option.map_eq_some_iff] at hi
            obtain ⟨b, hb, rfl⟩ := hi
            cases j with
            | zero =>
              simp [AV.cells] at hj
              subst hj
              rw [Nat.mul_one, Nat.add_zero, hcellb i b hb] at hv
              simp only [Option.some.injEq] at hv
              subst hv
              exact ⟨rfl, .int _ _⟩
            | succ j => simp [AV.cells] at hj
        have hbl : Below w.heap.size w (bytesWorld w e sb) := ⟨rfl, rfl, rfl, by rw [bytesWorld_size]; omega, fun k hk => bytesWorld_at_old w e sb k hk⟩
        obtain ⟨γ', D', i1, i2⟩ := h.newTip dd (E := e) hIn hbs (by rw [hlen]; exact hge) hbl (bytesWorld_size w e sb) (bytesWorld_at_new w e sb) (fun o' ho' => by
          have hh := bytesWorld_at_new w e sb
          unfold World.frozen?
          simp only [hh]
          have : ¬ (bytesCells w e sb).size ≤ o' := by rw [hbs]; omega
          simp [this])
        rw [hlen] at i2
        rw [← hdst]
        exact gives_chain i1 i2 (by simp [execOp, ho, ex, hrun])
      · simp at hv
    · simp at hv
  · simp at hv

end
end Go.AM
