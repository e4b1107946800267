/- A part of the proof: machine and program. -/
import Derived.Test.YtpdifkaeiecdpaaAm09
namespace Go.AM
open Go.RowKit Go.Lib
section
variable [Reg]
section
variable {P : Program} {c : Ctx} {γ γ' γ'' : Gh} {D D' D'' : Dead} {st : St} {a : Act} {w w' w'' : World} {tb : Tb} {H : Hints} {h h' h'' : Heap} {u u' u'' : List Nat}

/-- The first elements of a slice are written anew. -/
theorem over_sound {o : Oper} (hi : Inv c γ D st a w) {e : Nat} {X : AV} {V : Value} (hX : RepV γ st.h st.u w D X V) {ys : Nat → List (R e)} {val : Nat → AV} {wr : List Nat} (hys : ∀ n, (ys n).length ≤ n)
    (hrun : ∀ (A : Option Addr) (n cap : Nat), V = .slice A n cap → ∃ (news : List Value) (cv : Value), news.length = (ys n).length * szR e ∧ (∀ v ∈ news, v.oneCell' = true) ∧ (∀ (q : Nat) (c : AV) (v : Value), (flat e (ys n))[q]? = some c → news[q]? = some v → RepD w D c v) ∧
      (∀ γ h u w D, RepV γ h u w D (val n) cv) ∧ ∀ w', (match A with | some b => (storeCells b news).run P w | none => .ok () w) = .ok () w' → (execOp a.eval o).run P w = .ok (.value cv) w')
    {r : Eff} (hr : (overQ st.h st.u e X ys val wr).val = some r) : Gives P c o a w ({ st with h := r.2.1, u := r.2.2.1 }.put o.dst r.1) := by
  have zero : ∀ A cap, V = .slice A 0 cap → Gives P c o a w ({ st with h := st.h, u := st.u }.put o.dst (val 0)) := by
    intro A cap ev
    obtain ⟨news, cv, h1, _, _, h4, h5⟩ := hrun A 0 cap ev
    have h0 : (ys 0).length = 0 := Nat.le_zero.1 (hys 0)
    have hn : news = [] := List.eq_nil_of_length_eq_zero (by rw [h1, h0]; simp)
    subst hn
    refine gives_eff (st := st) hi (h4 _ _ _ _ _) (h5 w ?_)
    cases A with
    | none => rfl
    | some b => simp [storeCells]
  unfold overQ at hr
  split at hr
  · cases hr
    cases (show RepD w D .nils V from hX)
    exact zero _ _ rfl
  · cases hr
    cases (show RepD w D (.sl _ _ []) V from hX) with
    | slN => exact zero _ _ rfl
    | sl => exact zero _ _ rfl
  · rename_i k t2 lo n
    split at hr
    · rename_i t3 xs hk
      split at hr
      · rename_i e2
        obtain ⟨rfl, rfl⟩ := e2
        split at hr
        · rename_i xs' hc
          obtain ⟨_, rfl⟩ := castL_spec hc
          cases hr
          obtain ⟨q1, _, q3, _⟩ := hX
          obtain ⟨A, cap, ev, hlc, hln, hcase⟩ := q3 xs' hk
          obtain ⟨news, cv, s4, s5, s6, hv, hex⟩ := hrun A n cap ev
          have hle2 := hys n
          generalize ys n = Y at s4 s6 hle2
          rcases hcase with ⟨rfl, hl0⟩ | ⟨hA, hown, hLc, hblk⟩
          · have hy : Y = [] := List.eq_nil_of_length_eq_zero (by omega)
            subst hy
            have hn0 : news = [] := List.eq_nil_of_length_eq_zero (by rw [s4]; simp)
            subst hn0
            have hxs : xs'.take lo ++ [] ++ xs'.drop (lo + ([] : List (R t3)).length) = xs' := by simp
            have sx := stp_ext hi (h' := AM.put k (.row t3 (xs'.take lo ++ [] ++ xs'.drop (lo + ([] : List (R t3)).length))) st.h) (fun j => by
              rw [hxs, find_put]
              split
              · rename_i e; subst e; exact hk.symm
              · rfl)
            exact gives_eff (hi.step sx) (hv _ _ _ _ _) (hex w (by cases A <;> simp [storeCells]))
          · subst hA
            obtain ⟨vs, E, hblk, hcap⟩ := hblk
            have hm1 : (lo + Y.length) * szR t3 ≤ (lo + cap) * szR t3 := Nat.mul_le_mul_right _ (by omega)
            have hm3 : lo * szR t3 + Y.length * szR t3 = (lo + Y.length) * szR t3 := (Nat.add_mul ..).symm
            have hle : (γ.g k).2 + lo * szR t3 + news.length ≤ vs.size := by rw [s4]; omega
            have hst := run_storeCells_at (P := P) (γ.g k).1 ((γ.g k).2 + lo * szR t3) E news 0 vs w hblk (by omega) s5
            simp only [Nat.add_zero] at hst
            have hlen : (xs'.take lo ++ Y ++ xs'.drop (lo + Y.length)).length = xs'.length := by simp; omega
            obtain ⟨hold, hfit⟩ : (∀ (q : Nat) (c' : AV) (v : Value), (flat t3 xs')[q]? = some c' → vs[(γ.g k).2 + q]? = some v → RepD w D c' v) ∧ (γ.g k).2 + xs'.length * szR t3 ≤ vs.size := by
              have hL : xs'.length * szR t3 ≤ (lo + cap) * szR t3 := Nat.mul_le_mul_right _ hLc
              refine ⟨fun q c' v h1 h2 => ?_, by omega⟩
              rcases hi.hp.row k t3 xs' hk with e | ⟨_, vs2, E2, g1, _, g3⟩
              · subst e; simp [flat] at h1
              · rw [hblk] at g1
                cases g1
                exact g3 q c' v h1 h2
            have hsx := stp_row hi hk hown (xs' := xs'.take lo ++ Y ++ xs'.drop (lo + Y.length)) (vs' := (vs.toList.take ((γ.g k).2 + lo * szR t3) ++ news ++ vs.toList.drop ((γ.g k).2 + lo * szR t3 + news.length)).toArray) hblk (take_size _ _ _ hle) hlen.symm (by rw [take_size _ _ _ hle, hlen]; exact hfit) (fun q d v hq hv => by
              rw [take_set _ _ _ hle, s4] at hv
              rw [flat_append, flat_append, flat_take, flat_drop, List.append_assoc] at hq
              have htl : ((flat t3 xs').take (lo * szR t3)).length = lo * szR t3 := by
                rw [List.length_take, flat_len]
                exact Nat.min_eq_left (Nat.mul_le_mul_right _ (by omega))
              rw [List.getElem?_append, htl] at hq
              split at hq
              · rename_i hql
                rw [List.getElem?_take, if_pos hql] at hq
                rw [if_neg (by omega)] at hv
                exact hold q d v hq hv
              · rw [List.getElem?_append, flat_len] at hq
                split at hq
                · rw [if_pos (by omega), show (γ.g k).2 + q - ((γ.g k).2 + lo * szR t3) = q - lo * szR t3 by omega] at hv
                  exact s6 _ d v hq hv
                · rw [List.getElem?_drop, show (lo + Y.length) * szR t3 + (q - lo * szR t3 - Y.length * szR t3) = q by omega] at hq
                  rw [if_neg (by omega)] at hv
                  exact hold q d v hq hv)
            exact gives_eff (hi.step hsx) (hv _ _ _ _ _) (hex _ hst)
        · cases hr
      · cases hr
    · cases hr
  · cases hr
omit [Reg] in
theorem run_clear {o : Oper} {t e : Nat} {x : Operand} (ho : o.op = .call { callee := .builtin .clear, args := #[x], argTypes := #[t] }) (hu : P.underlying t = some (.slice e)) {i : TypeInfo} {z : Value} (hi : P.info? e = some i) (hz : i.zero = some z) {A : Option Addr} {n cap : Nat} (hx : a.eval x = .slice A n cap) {w' : World}
    (h : (match A with | some b => (storeCells b (Builtin.zeroCells z.cells n).toList).run P w | none => .ok () w) = .ok () w') : (execOp a.eval o).run P w = .ok (.value (.tuple #[])) w' := by
  have key : (Builtin.clear_ #[t] o.type #[.slice A n cap]).run P w = .ok (.tuple #[]) w' := by
    cases A with
    | none => simp only [Result.ok.injEq, true_and] at h; subst h; simp [Builtin.clear_, run_underlying' w hu]
    | some b =>
      cases n with
      | zero =>
        have : Builtin.zeroCells z.cells 0 = #[] := by simp [Builtin.zeroCells]
        rw [this] at h
        simp only [storeCells, Sem.run_pure, Result.ok.injEq, true_and] at h
        subst h
        simp [Builtin.clear_, run_underlying' w hu]
      | succ n =>
        simp only at h
        have hzr : (zeroValue e).run P w = .ok z w := by simp [zeroValue, run_typeInfo' w hi, hz]
        simp [Builtin.clear_, run_underlying' w hu, hzr, h]
  simp [execOp, ho, resolve, invoke, builtin, hx, key]
omit [Reg] in
theorem run_copy {o : Oper} {t t' e : Nat} {x y : Operand} (ho : o.op = .call { callee := .builtin .copy, args := #[x, y], argTypes := #[t, t'] }) (hu : P.underlying t = some (.slice e)) {i : TypeInfo} (hi : P.info? e = some i) {A : Option Addr} {n cap m : Nat} (hx : a.eval x = .slice A n cap)
    (hl : (Builtin.lenOf (a.eval y)).run P w = .ok m w) {news : List Value} (hY : (Builtin.firstCells i.size (Nat.min m n) (a.eval y)).run P w = .ok news.toArray w) {w' : World}
    (h : (match A with | some b => (storeCells b news).run P w | none => .ok () w) = .ok () w') : (execOp a.eval o).run P w = .ok (.value (goInt (Nat.min m n))) w' := by
  have key : (Builtin.copy_ #[t, t'] o.type #[.slice A n cap, a.eval y]).run P w = .ok (goInt (Nat.min m n)) w' := by
    cases A with
    | none => simp only [Result.ok.injEq, true_and] at h; subst h; simp [Builtin.copy_, run_underlying' w hu, hl, sizeOf, run_typeInfo' w hi, hY]
    | some b => simp only at h; simp [Builtin.copy_, run_underlying' w hu, hl, sizeOf, run_typeInfo' w hi, hY, h]
  simp [execOp, ho, resolve, invoke, builtin, hx, key]

theorem byteOf_dnc {e : Nat} (hb : byteEnt e = true) (d : R e) (b : UInt8) : dnc e [.int .u8 b.toNat] = some (byteOf e d b) := by
  unfold byteOf
  split
  · rename_i x hx; exact hx
  · rename_i hx
    exfalso
    obtain ⟨en, he, hks⟩ := ent_ks hb
    unfold dnc at hx
    rw [he] at hx
    simp only at hx
    have : ∃ y, dns en.ks [AV.int .u8 b.toNat] = some y := by rw [hks]; exact ⟨_, rfl⟩
    obtain ⟨y, hy⟩ := this
    rw [hy] at hx
    simp at hx

theorem sound_toBytes (hT : TbOk P tb) {o : Oper} (hi : Inv c γ D st a w) {s d : Nat} {x : Operand} (ho : o.op = .convert s d x) {r : Eff} (hr : (effQ tb H st.ev st.h st.u o.dst (.convert s d x)).val = some r) : Gives P c o a w ({ st with h := r.2.1, u := r.2.2.1 }.put o.dst r.1) := by
  unfold effQ at hr
  simp only at hr
  split at hr
  · rename_i ts td l hts htd hX
    split at hr
    · rename_i e hk
      split at hr
      · rename_i xs hbt
        generalize hb : (isU8 tb e && isNew st.u (nk o.dst 0)) = b at hr
        cases b
        · cases hr
        · simp only [cond_true] at hr
          simp only [Bool.and_eq_true] at hb
          obtain ⟨hu8, hk1⟩ := hb
          obtain ⟨hb, hr⟩ := Q.val_ask hr
          have h62 := of_decide_eq_true hb
          cases hr
          have hx := hi.ev x
          rw [hX] at hx
          obtain ⟨sb, ex, hs⟩ := inv_str hx
          unfold byteT at hbt
          cases hbe : byteEnt e with
          | false => rw [hbe] at hbt; simp at hbt
          | true =>
            rw [hbe] at hbt
            simp only [cond_true] at hbt
            split at hbt
            · rename_i d0 hd0
              simp only [Option.some.injEq] at hbt
              subst hbt
              obtain ⟨is, ds, _, hus, _⟩ := tyOf.parts (hT _ _ hts)
              have hs1 := byte_sz hbe
              have hsz : sb.size = l.length := by rw [← hs, Array.length_toList]; rfl
              have hlen : (l.map (byteOf e d0)).length = sb.size := by simp [hsz]
              have hrun := Go.Lib.run_convert_string_bytes (P := P) w s d e sb hus (ty_sl (hT _ _ htd) hk) (isU8_sound hT hu8)
              have hge := grownCap_ge w sb.size 0 e
              have hbs : (bytesCells w e sb).size = grownCap w sb.size 0 e * szR e := by
                have : sb.data.size = sb.size := rfl
                rw [hs1]
                simp [bytesCells, this]
                omega
              have hbl : Below w.heap.size w (bytesWorld w e sb) := ⟨rfl, rfl, rfl, by rw [bytesWorld_size]; omega, fun k hk => bytesWorld_at_old w e sb k hk⟩
              have hcell : ∀ (q : Nat) (c' : AV), (flat e (l.map (byteOf e d0)))[q]? = some c' → ∃ v, (bytesCells w e sb)[q]? = some v ∧ RepD w D c' v ∧ q < sb.size * szR e := by
                intro q c' hq
                have hq0 := (List.getElem?_eq_some_iff.1 hq).1
                rw [flat_len, hlen] at hq0
                obtain ⟨y, hy, hc, _⟩ := flat_at _ _ _ _ hq
                rw [hs1, Nat.div_one] at hy
                rw [hs1, Nat.mod_one] at hc
                rw [List.getElem?_map, Option.map_eq_some_iff] at hy
                obtain ⟨b, hb2, rfl⟩ := hy
                have hi' : q < sb.data.size := by have : sb.data.size = sb.size := rfl; rw [hs1] at hq0; omega
                have hb' : sb.data[q]? = some b := by rw [← Array.getElem?_toList, hs]; exact hb2
                rw [Array.getElem?_eq_getElem hi'] at hb'
                simp only [Option.some.injEq] at hb'
                refine ⟨.int .u8 b.toNat, ?_, ((dnc_rep (γ := γ) (h := st.h) (u := st.u) (w := w) (D := D) (byteOf_dnc hbe d0 b)).2 0 _ _ rfl hc).2 _ (RepD.int _ _).c, hq0⟩
                unfold bytesCells
                rw [Array.getElem?_append_left (by simpa using hi'), Array.getElem?_map, Array.getElem?_eq_getElem hi', hb']
                rfl
              have sn := stp_new (E := e) (D' := deadNew D w.heap.size (sb.size * szR e)) hi hk1 (nk_big _ _) (o' := .tok) (vs := bytesCells w e sb) (.inl rfl) (.inr ⟨rfl, _, rfl⟩) hbl (bytesWorld_size w e sb) (bytesWorld_at_new w e sb) (fun cs e => by cases e) (fun t ys h => by cases h)
              refine gives_eff (hi.step sn) (v := .tip (nk o.dst 0) e (l.map (byteOf e d0))) (cv := .slice (some ⟨w.heap.size, 0, none⟩) sb.size (grownCap w sb.size 0 e)) ⟨List.mem_cons_self .., ?_, fun _ => ?_⟩ (by simp [execOp, ho, ex, hrun])
              · have key := RepD.sl (w := bytesWorld w e sb) (D := deadNew D w.heap.size (sb.size * szR e)) e false (l.map (byteOf e d0)) w.heap.size 0 (grownCap w sb.size 0 e) (fun q => (bytesCells w e sb).getD q Go.undef) (by rw [hlen]; exact hge) (by simp) (fun q d hq => by
                  obtain ⟨v, h1, _, h3⟩ := hcell q d hq
                  refine ⟨.inr ⟨rfl, by omega⟩, ?_⟩
                  rw [Nat.zero_add, cell_of_block (bytesWorld_at_new w e sb), h1]
                  simp [Array.getD_eq_getD_getElem?, h1]) (fun q d hq => by
                  obtain ⟨v, h1, h2, _⟩ := hcell q d hq
                  have : (bytesCells w e sb).getD q Go.undef = v := by simp [Array.getD_eq_getD_getElem?, h1]
                  rw [this]
                  exact h2.mono sn.pres sn.dd)
                rw [hlen] at key
                exact key
              · rw [hlen]
                refine ⟨_, _, rfl, .inr ⟨by simp [Gh.new], by simp [Gh.new], hge, ⟨_, e, _, by simp only [Gh.new, if_true]; exact bytesWorld_at_new w e sb, by rw [hbs]; exact Nat.le_refl _, fun o2 h2 h3 => by rw [hbs] at h3; omega⟩, fun o' ho' => ?_⟩⟩
                simp only [Gh.new, if_true] at ho'
                rcases ho' with ho' | ⟨_, ho'⟩
                · have := hi.dl _ _ ho'
                  omega
                · exact ho'
            · simp at hbt
      · cases hr
    · cases hr
  · cases hr

/-- What may turn memory. -/
theorem first_cells {e m cap : Nat} {A : Option Addr} {ys : List (R e)} (hm : m ≤ ys.length) (h3 : ys = [] ∨ ∃ (b o : Nat), A = some ⟨b, o, none⟩ ∧ ∀ (q : Nat) (c : AV), (flat e ys)[q]? = some c → ∃ v, w.cell? ⟨b, o + q, none⟩ = some v ∧ RepD w D c v) :
    ∃ news : List Value, news.length = m * szR e ∧ (∀ v ∈ news, v.oneCell' = true) ∧ (Builtin.firstCells (szR e) m (.slice A ys.length cap)).run P w = .ok news.toArray w ∧ ∀ (q : Nat) (c : AV) (v : Value), (flat e ys)[q]? = some c → news[q]? = some v → RepD w D c v := by
  rcases h3 with rfl | ⟨b, o, rfl, hf⟩
  · have hm0 : m = 0 := by simpa using hm
    subst hm0
    refine ⟨[], by simp, by simp, ?_, by simp [flat]⟩
    cases A with
    | none => simp [Builtin.firstCells]
    | some x => simp [Builtin.firstCells, loadCells, loadCellsFrom]
  · have hmul : m * szR e ≤ ys.length * szR e := Nat.mul_le_mul_right _ hm
    have hq : ∀ q, q < m * szR e → ∃ v, w.cell? ⟨b, o + q, none⟩ = some v ∧ ∀ c', (flat e ys)[q]? = some c' → RepD w D c' v := by
      intro q hq
      have hlt : q < (flat e ys).length := by rw [flat_len]; omega
      obtain ⟨v, h1, h2⟩ := hf q _ (List.getElem?_eq_getElem hlt)
      exact ⟨v, h1, fun c' hc => by rw [List.getElem?_eq_getElem hlt] at hc; cases hc; exact h2⟩
    refine ⟨(List.range (m * szR e)).map fun q => (w.cell? ⟨b, o + q, none⟩).getD Go.undef, by simp, fun v hv => ?_, ?_, fun q c' v h1 h2 => ?_⟩
    · obtain ⟨q, hlt, rfl⟩ := List.mem_map.1 hv
      have hlt : q < m * szR e := by simpa using hlt
      obtain ⟨v, h1, h2⟩ := hq q hlt
      have hl2 : q < (flat e ys).length := by rw [flat_len]; omega
      rw [h1]
      exact (h2 _ (List.getElem?_eq_getElem hl2)).one.1
    · exact run_loadCells w _ _ (fun q => (w.cell? ⟨b, o + q, none⟩).getD Go.undef) fun q hlt => by
        rw [addr_add]
        obtain ⟨v, h1, _⟩ := hq q hlt
        rw [h1]; rfl
    · have hlt : q < m * szR e := by simpa using (List.getElem?_eq_some_iff.1 h2).1
      obtain ⟨v', h3, h4⟩ := hq q hlt
      simp [hlt] at h2
      rw [h3] at h2
      simp at h2
      subst h2
      exact h4 c' h1
theorem sound_clear (hT : TbOk P tb) {o : Oper} (hi : Inv c γ D st a w) {t : Nat} {x : Operand} (ho : o.op = .call { callee := .builtin .clear, args := #[x], argTypes := #[t] }) {r : Eff}
    (hr : (match find t tb with
      | some ⟨.sl e, _, _, _⟩ => (match find e tb with
        | some te => (match dnc e te.z.cells with
          | some z => bif Nat.beq te.sz (szR e) then overQ st.h st.u e (asSv st.h (st.ev x)) (fun n => List.replicate n z) (fun _ => .tup []) [] else .fail
          | none => .fail)
        | none => .fail)
      | _ => (.fail : Q Eff)).val = some r) : Gives P c o a w ({ st with h := r.2.1, u := r.2.2.1 }.put o.dst r.1) := by
  split at hr
  · rename_i e sz by_ z0 hti
    split at hr
    · rename_i te hte
      split at hr
      · rename_i z hz
        cases hsz : Nat.beq te.sz (szR e) with
        | false => rw [hsz] at hr; cases hr
        | true =>
          rw [hsz] at hr
          simp only [cond_true] at hr
          have hsz := Nat.eq_of_beq_eq_true hsz
          have hz2 := dnc_rep (γ := γ) (h := st.h) (u := st.u) (w := w) (D := D) hz
          have hlen : te.z.cells.length = szR e := hz2.1
          have hone : one1 te.z.cells = true := by
            refine List.all_eq_true.2 fun c' hc' => ?_
            obtain ⟨q, hq⟩ := List.getElem?_of_mem hc'
            have hlt : q < (cel e z).length := by rw [cel_len, ← hz2.1]; exact (List.getElem?_eq_some_iff.1 hq).1
            exact (hz2.2 q c' _ hq (List.getElem?_eq_getElem hlt)).1
          obtain ⟨ie, zv, hie, hzv, hs, _, hzz⟩ := ty_zeroL (hT _ _ hte) hone
          have hzs : zv.cells.size = szR e := by rw [← hlen]; exact (hzz γ [] [] w D).1.1
          have hrow : ∀ n, _ := fun n => zeroRow (hzz γ st.h st.u w D).1 n
          have hcell : ∀ (n q : Nat) (d : AV) (v : Value), (flat e (List.replicate n z))[q]? = some d → (Builtin.zeroCells zv.cells n)[q]? = some v → RepD w D d v := by
            intro n q d v hq hv
            have hq2 := flat_rep e z n q d hq
            have hr1 := hrow n
            rw [hlen] at hr1
            have hv' : ((Array.range (n * szR e)).map (zv.cells[· % zv.cells.size]!))[q]? = some v := by rw [← hv, Builtin.zeroCells, hzs]
            have hlt : q < (repC te.z.cells n).length := by rw [← hr1.1]; exact (Array.getElem?_eq_some_iff.1 hv').1
            have hc := repC_get _ _ q _ (List.getElem?_eq_getElem hlt)
            rw [hlen] at hc
            exact (hz2.2 _ _ d hc hq2).2 v (hr1.2 q _ v (List.getElem?_eq_getElem hlt) hv').1
          refine over_sound hi (asSv_rep (hi.ev x)) (fun n => by simp) (fun A n cap ev => ⟨(Builtin.zeroCells zv.cells n).toList, .tuple #[], ?_, ?_, ?_, ?_, fun w' h => run_clear ho (ty_sl (hT _ _ hti) rfl) hie hzv ev h⟩) hr
          · simp [size_zeroCells, hzs]
          · intro v hv
            obtain ⟨q, hq⟩ := List.getElem?_of_mem hv
            have hlt : q < (flat e (List.replicate n z)).length := by
              rw [flat_len, List.length_replicate]
              have := (List.getElem?_eq_some_iff.1 hq).1
              simpa [size_zeroCells, hzs] using this
            exact (RepD.one (hcell n q _ v (List.getElem?_eq_getElem hlt) (by simpa using hq))).1
          · intro q c' v hq hv
            exact hcell n q c' v hq (by simpa using hv)
          · exact fun _ _ _ _ _ => ⟨#[], rfl, rfl, fun i c x hi => by simp at hi⟩
      · cases hr
    · cases hr
  · cases hr
theorem sound_copy (hT : TbOk P tb) {o : Oper} (hi : Inv c γ D st a w) {t t' : Nat} {x y : Operand} (ho : o.op = .call { callee := .builtin .copy, args := #[x, y], argTypes := #[t, t'] }) {r : Eff}
    (hr : (match find t tb with
      | some ⟨.sl e, _, _, _⟩ => (match find e tb, elemsOf st.h e (st.ev y) with
        | some te, some ys => bif Nat.beq te.sz (szR e) then overQ st.h st.u e (asSv st.h (st.ev x)) (fun n => ys.take n) (fun n => .int .i64 ((ys.take n).length : Nat)) (match keyOf (st.ev y) with | some k => [k] | none => []) else .fail
        | _, _ => .fail)
      | _ => (.fail : Q Eff)).val = some r) : Gives P c o a w ({ st with h := r.2.1, u := r.2.2.1 }.put o.dst r.1) := by
  split at hr
  · rename_i e sz by_ z0 hti
    split at hr
    · rename_i te ys hte hys
      cases hsz : Nat.beq te.sz (szR e) with
      | false => rw [hsz] at hr; cases hr
      | true =>
        rw [hsz] at hr
        simp only [cond_true] at hr
        have hsz := Nat.eq_of_beq_eq_true hsz
        obtain ⟨A2, cap2, ev2, _, h3⟩ := elems_cells hi.hp (hi.ev y) hys
        obtain ⟨ie, _, hie, _, _, hs, _⟩ := tyOf.parts (hT _ _ hte)
        refine over_sound hi (asSv_rep (hi.ev x)) (fun n => by simp; omega) (fun A n cap ev => ?_) hr
        have hmin : Nat.min ys.length n = (ys.take n).length := by simp [Nat.min_comm]
        obtain ⟨news, h4, h5, h6, h7⟩ := first_cells (w := w) (D := D) (m := Nat.min ys.length n) (cap := cap2) (A := A2) (ys := ys) (Nat.min_le_left _ _) h3
        refine ⟨news, goInt (Nat.min ys.length n), by rw [h4, hmin], h5, fun q c' v hq hv => h7 q c' v ?_ hv, fun _ _ _ _ _ => ?_, fun w' h => run_copy ho (ty_sl (hT _ _ hti) rfl) hie ev (by rw [ev2]; simp [Builtin.lenOf]) (by rw [ev2, hs, hsz]; exact h6) h⟩
        · rw [flat_take, List.getElem?_take] at hq
          split at hq
          · exact hq
          · cases hq
        · rw [hmin]; exact .of (.int _ _)
    · cases hr
  · cases hr
theorem eff_sound (hT : TbOk P tb) {o : Oper} (hi : Inv c γ D st a w) (hkd : kindA tb o.op = 2) {r : Eff} (hr : (effQ tb H st.ev st.h st.u o.dst o.op).val = some r) : Gives P c o a w ({ st with h := r.2.1, u := r.2.2.1 }.put o.dst r.1) := by
  cases ho : o.op with
  | alloc e => rw [ho] at hr; exact sound_alloc hT hi ho hr
  | box e x =>
    rw [ho] at hr
    refine sound_newBox hi (hi.ev x) (E := e) hr ?_
    simp [execOp, ho, Instr.box, newVar, Go.newRow]
  | store t x v => rw [ho] at hr; exact sound_store hT hi ho hr
  | makeInterface t x =>
    rw [ho] at hr hkd
    refine sound_errIface hT hi ho ?_ hr
    unfold kindA at hkd
    cases hp : isPtrT tb t with
    | true => rfl
    | false => simp [hp] at hkd
  | convert s d x => rw [ho] at hr; exact sound_toBytes hT hi ho hr
  | makeSlice t l m => rw [ho] at hr; exact sound_makeSlice hT hi ho hr
  | call cl =>
    rw [ho] at hr
    obtain ⟨callee, args, ts⟩ := cl
    cases callee with
    | builtin b =>
      obtain ⟨args⟩ := args
      obtain ⟨ts⟩ := ts
      unfold effQ at hr
      simp only at hr
      generalize hA : args.map st.ev = A at hr
      split at hr
      · obtain ⟨x, y, rfl, rfl, rfl⟩ := map_two hA
        split at hr
        · rename_i e sz by_ z hti
          split at hr
          · rename_i te ys hte hsrc
            exact sound_append hT hi ho hti rfl hte hsrc hr
          · cases hr
        · cases hr
      · obtain ⟨x, rfl, rfl⟩ := map_one hA
        exact sound_clear hT hi ho hr
      · obtain ⟨x, y, rfl, rfl, rfl⟩ := map_two hA
        exact sound_copy hT hi ho hr
      · cases hr
    | _ => cases hr
  | _ => rw [ho] at hr; cases hr
end
end
end Go.AM
namespace Go.AM
open Go.RowKit Go.Lib
section
variable [Reg]
section
variable {P : Program} {c : Ctx} {γ γ' γ'' : Gh} {D D' D'' : Dead} {st : St} {a : Act} {w w' w'' : World} {tb : Tb} {H : Hints} {h h' h'' : Heap} {u u' u'' : List Nat}

/-- A chain may count as finished. -/
def Wk (x y : AV) : Prop := x = y ∨ ∃ k t xs, x = .tip k t xs ∧ y = .sl t false xs
def ObLe (f : Nat → Option Nat) (u : List Nat) : Ob → Ob → Prop
  | .box cs, o => ∃ ds, o = .box ds ∧ ds.length = cs.length ∧ ∀ (i : Nat) (c d : AV), cs[i]? = some c → ds[i]? = some d → (∀ k ∈ c.refsG1, k ∈ u) → Wk (renC f c) d
  | o, o' => o' = o
/-- New numbers for some objects. -/
structure Ren (f : Nat → Option Nat) (h h' : Heap) (u u' : List Nat) : Prop where
  inj : ∀ j k i, f j = some i → f k = some i → j = k
  at_ : ∀ k' o', find k' h' = some o' → ∃ k o, f k = some k' ∧ find k h = some o ∧ ObLe f u o o'
  u : ∀ k k', f k = some k' → k' ∈ u'
open Classical in
noncomputable def Gh.ren (γ : Gh) (f : Nat → Option Nat) (h' : Heap) : Gh :=
  ⟨fun k' => if e : ∃ k, f k = some k' then γ.g e.choose else (0, 0), fun b => match γ.own b with | some k => (match f k with | some k' => (match find k' h' with | some _ => some k' | none => none) | none => none) | none => none⟩
section
variable {f : Nat → Option Nat}
theorem Ren.g (r : Ren f h h' u u') {k k' : Nat} (e : f k = some k') : (γ.ren f h').g k' = γ.g k := by
  have hx : ∃ k, f k = some k' := ⟨k, e⟩
  simp only [Gh.ren, dif_pos hx]
  rw [r.inj _ _ _ hx.choose_spec e]
theorem Ren.own {b k' : Nat} (e : (γ.ren f h').own b = some k') : ∃ k, γ.own b = some k ∧ f k = some k' ∧ find k' h' ≠ none := by
  simp only [Gh.ren] at e
  split at e
  · rename_i k hk
    split at e
    · rename_i k2 hk2
      split at e
      · rename_i o ho
        simp only [Option.some.injEq] at e
        subst e
        exact ⟨k, hk, hk2, by rw [ho]; simp⟩
      · simp at e
    · simp at e
  · simp at e
theorem Ren.own_of {b k k' : Nat} (h1 : γ.own b = some k) (h2 : f k = some k') (h3 : find k' h' ≠ none) : (γ.ren f h').own b = some k' := by
  simp only [Gh.ren, h1, h2]
  cases hf : find k' h' with
  | none => exact absurd hf h3
  | some o => rfl
theorem Ren.find (r : Ren f h h' u u') {k k' : Nat} {o' : Ob} (e : f k = some k') (hf : find k' h' = some o') : ∃ o, find k h = some o ∧ ObLe f u o o' := by
  obtain ⟨j, o, h1, h2, h3⟩ := r.at_ k' o' hf
  rw [r.inj _ _ _ h1 e] at h2
  exact ⟨o, h2, h3⟩
theorem Ren.row (r : Ren f h h' u u') {k k' t : Nat} {xs : List (R t)} (e : f k = some k') (hf : AM.find k' h' = some (.row t xs)) : AM.find k h = some (.row t xs) := by
  obtain ⟨o, h1, h2⟩ := r.find e hf
  cases o
  case box => obtain ⟨ds, h2, _⟩ := h2; cases h2
  all_goals (have h3 := h2; unfold ObLe at h3; first | (cases h3; exact h1) | (simp at h3; done))
theorem Ren.fz (r : Ren f h h' u u') {k k' t : Nat} {xs : List (R t)} (e : f k = some k') (hf : AM.find k' h' = some (.fz t xs)) : AM.find k h = some (.fz t xs) := by
  obtain ⟨o, h1, h2⟩ := r.find e hf
  cases o
  case box => obtain ⟨ds, h2, _⟩ := h2; cases h2
  all_goals (have h3 := h2; unfold ObLe at h3; first | (cases h3; exact h1) | (simp at h3; done))
theorem Ren.tok (r : Ren f h h' u u') {k k' : Nat} (e : f k = some k') (hf : AM.find k' h' = some .tok) : AM.find k h = some .tok := by
  obtain ⟨o, h1, h2⟩ := r.find e hf
  cases o
  case box => obtain ⟨ds, h2, _⟩ := h2; cases h2
  all_goals (have h3 := h2; unfold ObLe at h3; first | (cases h3; exact h1) | (simp at h3; done))
theorem Ren.box (r : Ren f h h' u u') {k k' : Nat} {ds : List AV} (e : f k = some k') (hf : AM.find k' h' = some (.box ds)) : ∃ cs, AM.find k h = some (.box cs) ∧ ds.length = cs.length ∧ ∀ (i : Nat) (c d : AV), cs[i]? = some c → ds[i]? = some d → (∀ k ∈ c.refsG1, k ∈ u) → Wk (renC f c) d := by
  obtain ⟨o, h1, h2⟩ := r.find e hf
  cases o
  case box cs => obtain ⟨ds', h2, h3⟩ := h2; cases h2; exact ⟨cs, h1, h3⟩
  all_goals (have h3 := h2; unfold ObLe at h3; cases h3)
theorem RepA.refs {x : AV} {y : Value} (hx : RepA γ h u w D x y) : ∀ k ∈ x.refsG1, k ∈ u := by
  cases x <;> simp only [AV.refsG1, List.not_mem_nil, false_implies, implies_true, List.mem_singleton, forall_eq]
  all_goals first | exact hx.1 | (cases (show RepD w D (.fn _ _) y from hx))
theorem RepC.refs {x : AV} {y : Value} (hx : RepC γ h u w D x y) : ∀ k ∈ x.refsG1, k ∈ u := by
  cases x with
  | fn n cs =>
    obtain ⟨vs, _, hn, hh⟩ := hx
    intro k hk
    simp only [AV.refsG1, List.mem_flatMap] at hk
    obtain ⟨c', h1, h2⟩ := hk
    obtain ⟨i, hi⟩ := List.getElem?_of_mem h1
    have hlt : i < vs.size := by rw [hn]; exact (List.getElem?_eq_some_iff.1 hi).1
    refine (hh i c' _ hi (Array.getElem?_eq_getElem hlt)).1.refs k ?_
    cases c' <;> simp_all [AV.refsG0, AV.refsG1]
  | _ => unfold RepC at hx; exact hx.refs
theorem Wk.rep {x y : AV} (hw : Wk x y) {v : Value} (hx : RepC γ h u w D x v) : RepC γ h u w D y v := by
  rcases hw with rfl | ⟨k, t, xs, rfl, rfl⟩
  · exact hx
  · exact hx.2.1.c
theorem Wk.cell {x y : AV} (hw : Wk x y) (hx : Cell x) : Cell y := by
  rcases hw with rfl | ⟨k, t, xs, rfl, rfl⟩
  · exact hx
  · exact .inr rfl

theorem Ren.repA (r : Ren f h h' u u') {x : AV} {y : Value} (hx : RepA γ h u w D x y) : RepA (γ.ren f h') h' u' w D (ren1 f x) y := by
  cases x with
  | ptr k off =>
    obtain ⟨q1, q2, q3⟩ := hx
    simp only [ren1]
    split
    · rename_i k' e
      refine ⟨r.u k k' e, q2, fun cs' hf => ?_⟩
      obtain ⟨cs, h1, _⟩ := r.box e hf
      rw [r.g e]
      exact q3 cs h1
    · trivial
  | vw k t =>
    obtain ⟨q1, q2, q3, q4⟩ := hx
    simp only [ren1]
    split
    · rename_i k' e
      refine ⟨r.u k k' e, q2, fun xs hf => ?_, fun xs hf => q4 xs (r.fz e hf)⟩
      obtain ⟨A, cap, e1, e2, e3, e4⟩ := q3 xs (r.row e hf)
      refine ⟨A, cap, e1, e2, e3, e4.imp id ?_⟩
      rintro ⟨f1, f2, f3, f4⟩
      rw [r.g e]
      exact ⟨f1, Ren.own_of f2 e (by rw [hf]; simp), f3, f4⟩
    · trivial
  | sv k t lo n =>
    obtain ⟨q1, q2, q3, q4⟩ := hx
    simp only [ren1]
    split
    · rename_i k' e
      refine ⟨r.u k k' e, q2, fun xs hf => ?_, fun xs hf => q4 xs (r.fz e hf)⟩
      obtain ⟨A, cap, e1, e2, e3, e4⟩ := q3 xs (r.row e hf)
      refine ⟨A, cap, e1, e2, e3, e4.imp id ?_⟩
      rintro ⟨f1, f2, f3, f4⟩
      rw [r.g e]
      exact ⟨f1, Ren.own_of f2 e (by rw [hf]; simp), f3, f4⟩
    · trivial
  | ep k t i j =>
    obtain ⟨q1, q2, q3, q4⟩ := hx
    simp only [ren1]
    split
    · rename_i k' e
      refine ⟨r.u k k' e, q2, fun xs hf => ?_, fun xs z hf hz => q4 xs z (r.fz e hf) hz⟩
      rw [r.g e]
      exact q3 xs (r.row e hf)
    · trivial
  | tip k t xs =>
    obtain ⟨q1, q2, q3⟩ := hx
    simp only [ren1]
    split
    · rename_i k' e
      refine ⟨r.u k k' e, q2, fun hf => ?_⟩
      obtain ⟨A, cap, e1, e2⟩ := q3 (r.tok e hf)
      refine ⟨A, cap, e1, e2.imp id ?_⟩
      rintro ⟨f1, f2, f3, f4, f5⟩
      rw [r.g e]
      exact ⟨f1, Ren.own_of f2 e (by rw [hf]; simp), f3, f4, f5⟩
    · exact q2
  | _ => exact hx
theorem ren1_cell (f : Nat → Option Nat) {x : AV} (hx : Cell x) : Cell (ren1 f x) := by
  cases x <;> first | exact hx | (simp only [ren1]; split <;> first | exact .inr rfl | exact .inl rfl)
theorem renC_cell (f : Nat → Option Nat) {x : AV} (hx : Cell x) : Cell (renC f x) := by
  cases x <;> first | exact ren1_cell f hx | exact .inr rfl
theorem Ren.repC (r : Ren f h h' u u') {x : AV} {y : Value} (hx : RepC γ h u w D x y) : RepC (γ.ren f h') h' u' w D (renC f x) y := by
  cases x with
  | fn n cs =>
    obtain ⟨vs, e, hn, hh⟩ := hx
    refine ⟨vs, e, by simp [hn], fun i c' z hi hj => ?_⟩
    rw [List.getElem?_map, Option.map_eq_some_iff] at hi
    obtain ⟨d, hd, rfl⟩ := hi
    exact ⟨r.repA (hh i d z hd hj).1, ren1_cell f (hh i d z hd hj).2⟩
  | _ => unfold RepC at hx; exact (r.repA hx).c
theorem Ren.repB (r : Ren f h h' u u') {x : AV} {y : Value} (hx : RepB γ h u w D x y) : RepB (γ.ren f h') h' u' w D (renB f x) y := by
  cases x with
  | agg cs =>
    obtain ⟨vs, e, hn, hh⟩ := hx
    refine ⟨vs, e, by simp [hn], fun i c' z hi hj => ?_⟩
    rw [List.getElem?_map, Option.map_eq_some_iff] at hi
    obtain ⟨d, hd, rfl⟩ := hi
    exact ⟨r.repC (hh i d z hd hj).1, renC_cell f (hh i d z hd hj).2⟩
  | _ => unfold RepB at hx; exact (r.repC hx).b
theorem Ren.repV (r : Ren f h h' u u') {x : AV} {y : Value} (hx : RepV γ h u w D x y) : RepV (γ.ren f h') h' u' w D (renV f x) y := by
  cases x with
  | tup cs =>
    obtain ⟨vs, e, hn, hh⟩ := hx
    refine ⟨vs, e, by simp [hn], fun i c' z hi hj => ?_⟩
    rw [List.getElem?_map, Option.map_eq_some_iff] at hi
    obtain ⟨d, hd, rfl⟩ := hi
    exact r.repB (hh i d z hd hj)
  | _ => unfold RepV at hx; exact (r.repB hx).v
theorem Ren.hok (r : Ren f h h' u u') (hh : HOk γ h u w D) : HOk (γ.ren f h') h' u' w D := by
  refine ⟨fun k' cs' e => ?_, fun k' t xs e => ?_, fun b k' ho => ?_, fun b k' ho e o hD => ?_, fun k' e => ?_⟩
  · obtain ⟨k, o, h1, _⟩ := r.at_ k' _ e
    obtain ⟨cs, h2, h3, h4⟩ := r.box h1 e
    obtain ⟨q1, vs, E, q2, q3, q4⟩ := hh.box k cs h2
    rw [r.g h1]
    refine ⟨Ren.own_of q1 h1 (by rw [e]; simp), vs, E, q2, by rw [q3, h3], fun i d v hi hj => ?_⟩
    have hlt : i < cs.length := by rw [← h3]; exact (List.getElem?_eq_some_iff.1 hi).1
    have hc := List.getElem?_eq_getElem hlt
    have hq := q4 i _ v hc hj
    have hw := h4 i _ d hc hi hq.1.refs
    exact ⟨hw.rep (r.repC hq.1), hw.cell (renC_cell f hq.2)⟩
  · obtain ⟨k, o, h1, _⟩ := r.at_ k' _ e
    rw [r.g h1]
    refine (hh.row k t xs (r.row h1 e)).imp id ?_
    rintro ⟨q1, q2⟩
    exact ⟨Ren.own_of q1 h1 (by rw [e]; simp), q2⟩
  · obtain ⟨k, h1, h2, h3⟩ := Ren.own ho
    rw [r.g h2]
    exact ⟨(hh.own b k h1).1, h3, (hh.own b k h1).2.2⟩
  · obtain ⟨k, h1, h2, h3⟩ := Ren.own ho
    refine hh.lv b k h1 (fun e2 => e ?_) o hD
    cases hf : AM.find k' h' with
    | none => exact absurd hf h3
    | some o' =>
      obtain ⟨o2, g1, g2⟩ := r.find h2 hf
      rw [e2] at g1
      cases g1
      have g3 := g2
      unfold ObLe at g3
      rw [g3]
  · cases hf : AM.find k' h' with
    | none => exact absurd hf e
    | some o' =>
      obtain ⟨k, o, h1, _⟩ := r.at_ k' o' hf
      exact r.u k k' h1

theorem find_renT (f : Nat → Option Nat) (t : Nat) : ∀ l : List (Nat × AV), AM.find t (renT f l) = (AM.find t l).map (renV f)
  | [] => rfl
  | (k, v) :: r => by
    simp only [renT, AM.find]
    split
    · rfl
    · exact find_renT f t r
theorem Inv.ren (r : Ren f st.h h' st.u u') (hi : Inv c γ D st a w) (hlow : ∀ k k', f k = some k' → k' < 1000 → k = k') : Inv c (γ.ren f h') D { nt := st.nt, t := renT f st.t, h := h', u := u' } a w := by
  refine ⟨hi.nt, hi.dfr, fun t => ?_, r.hok hi.hp, hi.os, hi.tape, hi.output, hi.size, hi.block, hi.lg, fun b k' ho => ?_, hi.dd, hi.dl, fun k' hk cs' e => ?_, fun k' hk t xs e => ?_, fun k' hk t xs e => ?_, fun k' hk e => ?_⟩
  · have : St.get { nt := st.nt, t := renT f st.t, h := h', u := u' } t = renV f (st.get t) := by
      unfold St.get
      simp only [find_renT]
      cases AM.find t st.t <;> rfl
    rw [this]
    exact r.repV (hi.tm t)
  · obtain ⟨k, h1, _⟩ := Ren.own ho
    exact hi.ow b k h1
  · obtain ⟨k, o, h1, _⟩ := r.at_ k' _ e
    have := hlow k k' h1 hk
    subst this
    obtain ⟨cs, h2, _⟩ := r.box h1 e
    rw [r.g h1]
    exact hi.ob k hk cs h2
  · obtain ⟨k, o, h1, _⟩ := r.at_ k' _ e
    have := hlow k k' h1 hk
    subst this
    obtain ⟨q1, q2, q3⟩ := hi.or k hk t xs (r.row h1 e)
    rw [r.g h1]
    exact ⟨q1, q2, fun ho => Ren.own_of (q3 ho) h1 (by rw [e]; simp)⟩
  · obtain ⟨k, o, h1, _⟩ := r.at_ k' _ e
    have := hlow k k' h1 hk
    subst this
    exact hi.ofz k hk t xs (r.fz h1 e)
  · obtain ⟨k, o, h1, _⟩ := r.at_ k' _ e
    have := hlow k k' h1 hk
    subst this
    exact hi.ot k hk (r.tok h1 e)

/-! ### The machine's own -/
omit [Reg] in
theorem idxOf_spec {k : Nat} : ∀ {ks : List Nat} {i m : Nat}, idxOf k ks i = some m → i ≤ m ∧ ks[m - i]? = some k
  | [], i, m, h => by simp [idxOf] at h
  | x :: r, i, m, h => by
    unfold idxOf at h
    cases hx : Nat.beq k x with
    | true =>
      rw [hx] at h
      simp only [cond_true, Option.some.injEq] at h
      subst h
      rw [Nat.eq_of_beq_eq_true hx]
      simp
    | false =>
      rw [hx] at h
      obtain ⟨h1, h2⟩ := idxOf_spec (ks := r) h
      refine ⟨by omega, ?_⟩
      have : m - i = (m - (i + 1)) + 1 := by omega
      rw [this, List.getElem?_cons_succ]
      exact h2
theorem ren_spec {l : List Nat} {k k' : Nat} (e : AM.ren l h k = some k') : AM.find k h ≠ none ∧ ((k < 1000 ∧ k' = k) ∨ (1000 ≤ k ∧ ∃ i, k' = 100000 + i ∧ l[i]? = some k)) := by
  unfold AM.ren at e
  split at e
  · simp at e
  · rename_i o ho
    refine ⟨by rw [ho]; simp, ?_⟩
    cases hb : Nat.blt k 1000 with
    | true =>
      rw [hb] at e
      simp only [cond_true, Option.some.injEq] at e
      exact .inl ⟨blt_iff.1 hb, e.symm⟩
    | false =>
      rw [hb] at e
      simp only [cond_false] at e
      split at e
      · rename_i i hi
        simp only [Option.some.injEq] at e
        have hle : 1000 ≤ k := Nat.le_of_not_lt fun h => (by rw [blt_iff.2 h] at hb; cases hb)
        refine .inr ⟨hle, i, e.symm, ?_⟩
        simpa using (idxOf_spec hi).2
      · simp at e
theorem find_renH (f : Nat → Option Nat) (k' : Nat) (o' : Ob) : ∀ l : List Nat, AM.find k' (renH f h l) = some o' → ∃ k o, f k = some k' ∧ AM.find k h = some o ∧ o' = renO f o
  | [], e => by simp [renH, AM.find] at e
  | k :: r, e => by
    simp only [renH] at e
    split at e
    · rename_i k2 o h1 h2
      simp only [AM.find] at e
      split at e
      · rename_i e2
        subst e2
        simp only [Option.some.injEq] at e
        exact ⟨k, o, h1, h2, e.symm⟩
      · exact find_renH f k' o' r e
    · exact find_renH f k' o' r e
omit [Reg] in
theorem find_mem {α : Type} {k : Nat} {v : α} : ∀ {l : List (Nat × α)}, AM.find k l = some v → (k, v) ∈ l
  | [], h => by simp [AM.find] at h
  | (m, u) :: r, h => by
    simp only [AM.find] at h
    split at h
    · rename_i e
      subst e
      simp only [Option.some.injEq] at h
      subst h
      simp
    · exact List.mem_cons_of_mem _ (find_mem h)
theorem Inv.renum (hi : Inv c γ D st a w) (l : List Nat) : ∃ γ', Inv c γ' D (st.renum l) a w := by
  refine ⟨_, Inv.ren (f := AM.ren (highs l) st.h) ⟨fun j k i e1 e2 => ?_, fun k' o' e => (by
    obtain ⟨k, o, e1, e2, rfl⟩ := find_renH _ _ _ _ e
    refine ⟨k, o, e1, e2, ?_⟩
    cases o with
    | box cs => exact ⟨_, rfl, by simp, fun i c' d h1 h2 _ => by rw [List.getElem?_map, h1] at h2; simp at h2; exact .inl h2⟩
    | _ => rfl), fun k k' e => ?_⟩ hi fun k k' e hk => ?_⟩
  · obtain ⟨_, q1⟩ := ren_spec e1
    obtain ⟨_, q2⟩ := ren_spec e2
    rcases q1 with ⟨a1, a2⟩ | ⟨a1, m, a2, a3⟩ <;> rcases q2 with ⟨b1, b2⟩ | ⟨b1, m', b2, b3⟩
    · omega
    · omega
    · omega
    · have : m = m' := by omega
      subst this
      rw [a3] at b3
      simpa using b3
  · obtain ⟨q0, q1⟩ := ren_spec e
    rcases q1 with ⟨a1, rfl⟩ | ⟨a1, m, rfl, a3⟩
    · refine List.mem_append.2 (.inl ?_)
      unfold lows
      rw [List.mem_filter]
      cases hf : AM.find k' st.h with
      | none => exact absurd hf q0
      | some o => exact ⟨List.mem_map.2 ⟨_, find_mem hf, rfl⟩, blt_iff.2 a1⟩
    · refine List.mem_append.2 (.inr (List.mem_map.2 ⟨m, List.mem_range.2 (List.getElem?_eq_some_iff.1 a3).1, rfl⟩))
  · obtain ⟨_, q1⟩ := ren_spec e
    rcases q1 with ⟨a1, rfl⟩ | ⟨a1, m, rfl, a3⟩
    · rfl
    · omega
theorem Inv.gc (hi : Inv c γ D st a w) : ∃ γ', Inv c γ' D st.gc a w := hi.renum _

omit [Reg] in
theorem find_without {α : Type} (p : Nat → Bool) (k : Nat) : ∀ l : List (Nat × α), AM.find k (without p l) = bif p k then none else AM.find k l
  | [] => by simp [without, AM.find]
  | (m, v) :: r => by
    have ih := find_without p k r
    simp only [without]
    cases hm : p m with
    | true =>
      simp only [cond_true, ih, AM.find]
      by_cases e : k = m
      · subst e; simp [hm]
      · simp [e]
    | false =>
      simp only [cond_false, AM.find, ih]
      by_cases e : k = m
      · subst e; simp [hm]
      · simp [e]
theorem Inv.only (hi : Inv c γ D st a w) (p : Nat → Bool) : Inv c γ D (st.only p) a w := by
  refine ⟨hi.nt, hi.dfr, fun t => ?_, hi.hp, hi.os, hi.tape, hi.output, hi.size, hi.block, hi.lg, hi.ow, hi.dd, hi.dl, hi.ob, hi.or, hi.ofz, hi.ot⟩
  have e : (st.only p).get t = match (bif p t then none else AM.find t st.t) with | some v => v | none => .undef := by
    unfold St.get St.only
    simp only [find_without]
    rfl
  rw [e]
  cases hp : p t with
  | true => trivial
  | false => exact hi.tm t
theorem raise1 (hi : Inv c γ D st a w) {s e : Nat} (hs : st.get s = .nils) (hk : isNew st.u (900000 + s) = true) {o' : Ob} {v : AV} (ho : (o' = .row e [] ∧ v = .vw (900000 + s) e) ∨ (o' = .tok ∧ v = .tip (900000 + s) e [])) : ∃ γ', Inv c γ' D ({ st with h := AM.put (900000 + s) o' st.h, u := (900000 + s) :: st.u }.put (some s) v) a w := by
  have hd : o' = .tok ∨ ∃ t, o' = .row t [] := by
    rcases ho with ⟨rfl, _⟩ | ⟨rfl, _⟩
    · exact .inr ⟨e, rfl⟩
    · exact .inl rfl
  have sb := stp_bare hi hk (show 1000 ≤ 900000 + s by omega) hd
  have hi1 := hi.step sb
  refine ⟨γ.bare (900000 + s), ?_⟩
  have hnil : a.tmps.getD s undef = .slice none 0 0 := by
    have := hi.tm s
    rw [hs] at this
    generalize a.tmps.getD s undef = V at this
    cases (show RepD w D .nils V from this)
    rfl
  have hv : RepV (γ.bare (900000 + s)) (AM.put (900000 + s) o' st.h) ((900000 + s) :: st.u) w D v (a.tmps.getD s undef) := by
    rw [hnil]
    rcases ho with ⟨rfl, rfl⟩ | ⟨rfl, rfl⟩
    · exact (vw_nil (List.mem_cons_self ..) (find_put_same _ _ _)).v
    · exact ⟨List.mem_cons_self .., .slN _ _ _ _ (by simp), fun _ => ⟨none, 0, rfl, .inl rfl⟩⟩
  have h2 := hi1.put hv (some s)
  have ea : a.put (some s) (a.tmps.getD s undef) = a := by
    obtain ⟨tmps, dfr⟩ := a
    simp only [Act.put, Act.mk.injEq, and_true]
    refine Array.ext_getElem? fun i => ?_
    rw [Array.getElem?_setIfInBounds]
    split
    · rename_i e
      subst e
      split
      · rename_i hlt
        rw [Array.getElem?_eq_getElem hlt]
        simp
      · rename_i hlt
        rw [Array.getElem?_eq_none_iff.2 (by omega)]
    · rfl
  rw [ea] at h2
  exact h2
theorem Inv.raise : ∀ (l : List (Nat × Nat × Bool)) {γ : Gh} {st : St}, Inv c γ D st a w → ∃ γ', Inv c γ' D (st.raise l) a w
  | [], γ, st, hi => ⟨γ, hi⟩
  | (s, e, row) :: r, γ, st, hi => by
    unfold St.raise
    split
    · rename_i hs
      cases hk : isNew st.u (900000 + s) with
      | false => exact Inv.raise r hi
      | true =>
        cases row with
        | true =>
          obtain ⟨γ', h1⟩ := raise1 hi hs hk (e := e) (.inl ⟨rfl, rfl⟩)
          exact Inv.raise r h1
        | false =>
          obtain ⟨γ', h1⟩ := raise1 hi hs hk (e := e) (.inr ⟨rfl, rfl⟩)
          exact Inv.raise r h1
    · exact Inv.raise r hi
theorem Inv.clean (hi : Inv c γ D st a w) (d : List Nat × List (Nat × Nat × Bool)) : ∃ γ', Inv c γ' D (st.clean d) a w := by
  obtain ⟨γ1, h1⟩ := Inv.raise d.2 (hi.only d.1.contains)
  exact h1.gc
end
end
end
end Go.AM
