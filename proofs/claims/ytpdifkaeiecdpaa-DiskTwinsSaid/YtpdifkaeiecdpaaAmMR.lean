/- Soundness, operation by operation (10): what may turn memory, all of it. -/
import Derived.Test.YtpdifkaeiecdpaaAmMQ
namespace Go.AM
open Go.RowKit Go.Lib
section
variable [Reg]
section
variable {P : Program} {c : Ctx} {γ γ' γ'' : Gh} {D D' D'' : Dead} {st : St} {a : Act} {w w' w'' : World} {tb : Tb} {H : Hints} {h h' h'' : Heap} {u u' u'' : List Nat}

theorem byteOf_dnc {e : Nat} (hb : byteEnt e = true) (d : R e) (b : UInt8) : dnc e [.int .u8 b.toNat] = some (byteOf e d b) := by
  unfold byteOf
  split
  · rename_i x hx; exact hx
  · rename_i hx
    exfalso
    obtain ⟨en, he, hks⟩ := ent_ks hb
    unfold dnc at hx
    rw [he] at hx
    simp only at hx
    have : ∃ y, dns en.ks [AV.int .u8 b.toNat] = some y := by rw [hks]; exact ⟨_, rfl⟩
    obtain ⟨y, hy⟩ := this
    rw [hy] at hx
    simp at hx

theorem sound_toBytes (hT : TbOk P tb) {o : Oper} (hi : Inv c γ D st a w) {s d : Nat} {x : Operand} (ho : o.op = .convert s d x) {r : Eff} (hr : (effQ tb H st.ev st.h st.u o.dst (.convert s d x)).val = some r) : Gives P c o a w ({ st with h := r.2.1, u := r.2.2.1 }.put o.dst r.1) := by
  unfold effQ at hr
  simp only at hr
  split at hr
  · rename_i ts td l hts htd hX
    split at hr
    · rename_i e hk
      split at hr
      · rename_i xs hbt
        generalize hb : (isU8 tb e && isNew st.u (nk o.dst 0)) = b at hr
        cases b
        · cases hr
        · simp only [cond_true] at hr
          simp only [Bool.and_eq_true] at hb
          obtain ⟨hu8, hk1⟩ := hb
          obtain ⟨hb, hr⟩ := Q.val_ask hr
          have h62 := of_decide_eq_true hb
          cases hr
          have hx := hi.ev x
          rw [hX] at hx
          obtain ⟨sb, ex, hs⟩ := inv_str hx
          unfold byteT at hbt
          cases hbe : byteEnt e with
          | false => rw [hbe] at hbt; simp at hbt
          | true =>
            rw [hbe] at hbt
            simp only [cond_true] at hbt
            split at hbt
            · rename_i d0 hd0
              simp only [Option.some.injEq] at hbt
              subst hbt
              obtain ⟨is, ds, _, hus, _⟩ := tyOf.parts (hT _ _ hts)
              have hs1 := byte_sz hbe
              have hsz : sb.size = l.length := by rw [← hs, Array.length_toList]; rfl
              have hlen : (l.map (byteOf e d0)).length = sb.size := by simp [hsz]
              have hrun := Go.Lib.run_convert_string_bytes (P := P) w s d e sb hus (ty_sl (hT _ _ htd) hk) (isU8_sound hT hu8)
              have hge := grownCap_ge w sb.size 0 e
              have hbs : (bytesCells w e sb).size = grownCap w sb.size 0 e * szR e := by
                have : sb.data.size = sb.size := rfl
                rw [hs1]
                simp [bytesCells, this]
                omega
              have hbl : Below w.heap.size w (bytesWorld w e sb) := ⟨rfl, rfl, rfl, by rw [bytesWorld_size]; omega, fun k hk => bytesWorld_at_old w e sb k hk⟩
              have hcell : ∀ (q : Nat) (c' : AV), (flat e (l.map (byteOf e d0)))[q]? = some c' → ∃ v, (bytesCells w e sb)[q]? = some v ∧ RepD w D c' v ∧ q < sb.size * szR e := by
                intro q c' hq
                have hq0 := (List.getElem?_eq_some_iff.1 hq).1
                rw [flat_len, hlen] at hq0
                obtain ⟨y, hy, hc, _⟩ := flat_at _ _ _ _ hq
                rw [hs1, Nat.div_one] at hy
                rw [hs1, Nat.mod_one] at hc
                rw [List.getElem?_map, Option.map_eq_some_iff] at hy
                obtain ⟨b, hb2, rfl⟩ := hy
                have hi' : q < sb.data.size := by have : sb.data.size = sb.size := rfl; rw [hs1] at hq0; omega
                have hb' : sb.data[q]? = some b := by rw [← Array.getElem?_toList, hs]; exact hb2
                rw [Array.getElem?_eq_getElem hi'] at hb'
                simp only [Option.some.injEq] at hb'
                refine ⟨.int .u8 b.toNat, ?_, ((dnc_rep (γ := γ) (h := st.h) (u := st.u) (w := w) (D := D) (byteOf_dnc hbe d0 b)).2 0 _ _ rfl hc).2 _ (RepD.int _ _).c, hq0⟩
                unfold bytesCells
                rw [Array.getElem?_append_left (by simpa using hi'), Array.getElem?_map, Array.getElem?_eq_getElem hi', hb']
                rfl
              have sn := stp_new (E := e) (D' := deadNew D w.heap.size (sb.size * szR e)) hi hk1 (nk_big _ _) (o' := .tok) (vs := bytesCells w e sb) (.inl rfl) (.inr ⟨rfl, _, rfl⟩) hbl (bytesWorld_size w e sb) (bytesWorld_at_new w e sb) (fun cs e => by cases e) (fun t ys h => by cases h)
              refine gives_eff (hi.step sn) (v := .tip (nk o.dst 0) e (l.map (byteOf e d0))) (cv := .slice (some ⟨w.heap.size, 0, none⟩) sb.size (grownCap w sb.size 0 e)) ⟨List.mem_cons_self .., ?_, fun _ => ?_⟩ (by simp [execOp, ho, ex, hrun])
              · have key := RepD.sl (w := bytesWorld w e sb) (D := deadNew D w.heap.size (sb.size * szR e)) e false (l.map (byteOf e d0)) w.heap.size 0 (grownCap w sb.size 0 e) (fun q => (bytesCells w e sb).getD q Go.undef) (by rw [hlen]; exact hge) (by simp) (fun q d hq => by
                  obtain ⟨v, h1, _, h3⟩ := hcell q d hq
                  refine ⟨.inr ⟨rfl, by omega⟩, ?_⟩
                  rw [Nat.zero_add, cell_of_block (bytesWorld_at_new w e sb), h1]
                  simp [Array.getD_eq_getD_getElem?, h1]) (fun q d hq => by
                  obtain ⟨v, h1, h2, _⟩ := hcell q d hq
                  have : (bytesCells w e sb).getD q Go.undef = v := by simp [Array.getD_eq_getD_getElem?, h1]
                  rw [this]
                  exact h2.mono sn.pres sn.dd)
                rw [hlen] at key
                exact key
              · rw [hlen]
                refine ⟨_, _, rfl, .inr ⟨by simp [Gh.new], by simp [Gh.new], hge, ⟨_, e, _, by simp only [Gh.new, if_true]; exact bytesWorld_at_new w e sb, by rw [hbs]; exact Nat.le_refl _, fun o2 h2 h3 => by rw [hbs] at h3; omega⟩, fun o' ho' => ?_⟩⟩
                simp only [Gh.new, if_true] at ho'
                rcases ho' with ho' | ⟨_, ho'⟩
                · have := hi.dl _ _ ho'
                  omega
                · exact ho'
            · simp at hbt
      · cases hr
    · cases hr
  · cases hr

/-- What may turn memory. -/
theorem eff_sound (hT : TbOk P tb) {o : Oper} (hi : Inv c γ D st a w) (hkd : kindA tb o.op = 2) {r : Eff} (hr : (effQ tb H st.ev st.h st.u o.dst o.op).val = some r) : Gives P c o a w ({ st with h := r.2.1, u := r.2.2.1 }.put o.dst r.1) := by
  cases ho : o.op with
  | alloc e => rw [ho] at hr; exact sound_alloc hT hi ho hr
  | box e x =>
    rw [ho] at hr
    refine sound_newBox hi (hi.ev x) (E := e) hr ?_
    simp [execOp, ho, Instr.box, newVar, Go.newRow]
  | store t x v => rw [ho] at hr; exact sound_store hT hi ho hr
  | makeInterface t x =>
    rw [ho] at hr hkd
    refine sound_errIface hT hi ho ?_ hr
    unfold kindA at hkd
    cases hp : isPtrT tb t with
    | true => rfl
    | false => simp [hp] at hkd
  | convert s d x => rw [ho] at hr; exact sound_toBytes hT hi ho hr
  | makeSlice t l m => rw [ho] at hr; exact sound_makeSlice hT hi ho hr
  | call cl =>
    rw [ho] at hr
    obtain ⟨callee, args, ts⟩ := cl
    cases callee with
    | builtin b =>
      obtain ⟨args⟩ := args
      obtain ⟨ts⟩ := ts
      unfold effQ at hr
      simp only at hr
      generalize hA : args.map st.ev = A at hr
      split at hr
      · obtain ⟨x, y, rfl, rfl, rfl⟩ := map_two hA
        split at hr
        · rename_i e sz by_ z hti
          split at hr
          · rename_i te ys hte hsrc
            exact sound_append hT hi ho hti rfl hte hsrc hr
          · cases hr
        · cases hr
      · cases hr
    | _ => cases hr
  | _ => rw [ho] at hr; cases hr
end
end
end Go.AM
