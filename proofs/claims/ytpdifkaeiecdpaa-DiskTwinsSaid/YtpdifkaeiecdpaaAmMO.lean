/- Soundness, operation by operation (7): append, and what makes bytes and errors. -/
import Derived.Test.YtpdifkaeiecdpaaAmMN
import Derived.Deep.Upon
import Derived.Deep.MidRow
import Derived.Lib.AppendStr
namespace Go.AM
open Go.RowKit Go.Lib
section
variable [Reg]
omit [Reg] in
theorem mapO_spec {α β : Type} {f : α → Option β} : ∀ {l : List α} {m : List β}, mapO f l = some m → m.length = l.length ∧ ∀ (i : Nat) (b : β), m[i]? = some b → ∃ a, l[i]? = some a ∧ f a = some b
  | [], m, h => by
    simp only [mapO, Option.some.injEq] at h
    subst h
    simp
  | a :: r, m, h => by
    simp only [mapO] at h
    split at h
    · rename_i b l hb hl
      simp only [Option.some.injEq] at h
      subst h
      obtain ⟨h1, h2⟩ := mapO_spec hl
      refine ⟨by simp [h1], fun i x hx => ?_⟩
      cases i with
      | zero => simp at hx; subst hx; exact ⟨a, rfl, hb⟩
      | succ i => simpa using h2 i x (by simpa using hx)
    · simp at h
section
variable {P : Program} {c : Ctx} {γ γ' γ'' : Gh} {D D' D'' : Dead} {st : St} {a : Act} {w w' w'' : World} {tb : Tb} {H : Hints} {h h' h'' : Heap} {u u' u'' : List Nat}

theorem dat_one {c d : AV} (h : c.dat = some d) : c.cell1 = true ∧ d.cell1 = true := by
  cases c <;> simp only [AV.dat, Option.some.injEq, reduceCtorEq] at h <;> subst h <;> exact ⟨rfl, rfl⟩
theorem sound_errIface (hT : TbOk P tb) {o : Oper} (hi : Inv c γ D st a w) {t : Nat} {x : Operand} (ho : o.op = .makeInterface t x) (hp : isPtrT tb t = true) {r : Eff} (hr : (effQ tb H st.ev st.h st.u o.dst (.makeInterface t x)).val = some r) : Gives P c o a w ({ st with h := r.2.1, u := r.2.2.1 }.put o.dst r.1) := by
  obtain ⟨ti, hti, hk⟩ : ∃ ti, find t tb = some ti ∧ ti.k = .ptr := by
    unfold isPtrT at hp
    split at hp
    · rename_i ti hti
      refine ⟨ti, hti, ?_⟩
      split at hp
      · rename_i hk; exact hk
      · simp at hp
    · simp at hp
  obtain ⟨e, hu⟩ := ty_ptr (hT _ _ hti) hk
  have hrun : (execOp a.eval o).run P w = .ok (.value (.iface t (a.eval x))) w := by
    simp [execOp, ho, Instr.makeInterface, run_underlying' w hu]
  have hx := hi.ev x
  unfold effQ at hr
  simp only at hr
  split at hr
  · rename_i k off hX
    rw [hX] at hx
    split at hr
    · rename_i cs hk
      generalize hb : (Nat.beq off 0 && Nat.ble 1000 k) = b at hr
      cases b
      · cases hr
      · simp only [cond_true] at hr
        simp only [Bool.and_eq_true, Nat.beq_eq] at hb
        obtain ⟨rfl, _⟩ := hb
        split at hr
        · rename_i ds hd
          cases hr
          obtain ⟨hown, vs, E, hblk, hsz, hR⟩ := hi.hp.box k cs hk
          have ev := hx.2.2 cs hk
          obtain ⟨hl, hds⟩ := mapO_spec hd
          have s := stp_del (D' := deadNew D (γ.g k).1 vs.size) hi k ⟨fun b o hD => .inl hD, fun b o hne hD => hD.resolve_right fun ⟨e, _⟩ => hne (by rw [e]; exact hown), fun b o hD => by
            rcases hD with hD | ⟨rfl, _⟩
            · exact hi.dl b o hD
            · exact (hi.hp.own _ k hown).1⟩ (h' := del k st.h) (fun j hj => by rw [find_del, if_neg hj]) (.inl (by rw [find_del, if_pos rfl]))
          refine gives_eff (st := st) (hi.step s) (v := .iface t (.rp ds 0)) (cv := .iface t (a.eval x)) (.of (.iface _ _ _ ?_)) hrun
          rw [ev]
          refine .rp ds 0 (γ.g k).1 0 (fun q => vs.getD q Go.undef) (List.all_eq_true.2 fun d hd' => ?_) (fun q d hq => ?_) (fun q d hq => ?_)
          · obtain ⟨q, hq⟩ := List.getElem?_of_mem hd'
            obtain ⟨c', _, e2⟩ := hds q d hq
            exact (dat_one e2).2
          · have hlt : q < vs.size := by rw [hsz, ← hl]; exact (List.getElem?_eq_some_iff.1 hq).1
            rw [Nat.zero_add]
            exact ⟨.inr ⟨rfl, hlt⟩, by rw [cell_of_block hblk]; simp [hlt]⟩
          · have hlt : q < vs.size := by rw [hsz, ← hl]; exact (List.getElem?_eq_some_iff.1 hq).1
            have e1 : vs.getD q Go.undef = vs[q] := by simp [hlt]
            rw [e1]
            obtain ⟨c', h1, h2⟩ := hds q d hq
            exact ((hR q c' _ h1 (Array.getElem?_eq_getElem hlt)).1.dat h2).mono s.pres s.dd
        · cases hr
    · cases hr
  · rename_i cs j hX
    cases hr
    rw [hX] at hx
    exact gives_put hi (.of (.iface _ _ _ hx)) hrun
  · cases hr

/-- What is appended: how many, and which cells. -/
theorem src_sound (hT : TbOk P tb) (hi : Inv c γ D st a w) {t' e : Nat} {Y : AV} {V : Value} (hy : RepV γ st.h st.u w D Y V) {te : TI} (_hte : find e tb = some te) (_hsz : te.sz = szR e) {ys : List (R e)} (hsrc : srcT tb st.h t' e Y = some ys) :
    ∃ (du : TypeDesc) (news : List Value), P.underlying t' = some du ∧ (∀ k, du ≠ .int k) ∧ (Builtin.lenOf V).run P w = .ok ys.length w ∧ (Builtin.firstCells (szR e) ys.length V).run P w = .ok news.toArray w ∧ (Builtin.firstCells (szR e) ys.length V).run P w.drew = .ok news.toArray w.drew ∧
      news.length = ys.length * szR e ∧ (∀ v ∈ news, v.oneCell' = true) ∧ ∀ (q : Nat) (c : AV) (v : Value), (flat e ys)[q]? = some c → news[q]? = some v → RepD w D c v := by
  unfold srcT at hsrc
  split at hsrc
  · simp at hsrc
  rename_i tu htu
  have ht := hT _ _ htu
  split at hsrc
  · rename_i s hk
    obtain ⟨sb, rfl, hs⟩ := inv_str hy
    have hsz : sb.size = s.length := by rw [← hs, Array.length_toList]; rfl
    unfold byteT at hsrc
    cases hb : byteEnt e with
    | false => rw [hb] at hsrc; simp at hsrc
    | true =>
      rw [hb] at hsrc
      simp only [cond_true] at hsrc
      split at hsrc
      · rename_i d hd
        simp only [Option.some.injEq] at hsrc
        subst hsrc
        have hs1 := byte_sz hb
        have hlen : (s.map (byteOf e d)).length = sb.size := by simp [hsz]
        refine ⟨.string, strCells sb, ty_str ht hk, by simp, by simp [Builtin.lenOf, hlen], ?_, ?_, by rw [strCells_length, hlen, hs1]; simp, strCells_oneCell sb, fun q c' v hq hv => ?_⟩
        · rw [hlen, hs1]; exact run_firstCells_string w 1 sb
        · rw [hlen, hs1]; exact run_firstCells_string w.drew 1 sb
        · obtain ⟨x, hx, hc, _⟩ := flat_at _ _ _ _ hq
          rw [hs1, Nat.div_one] at hx
          rw [hs1, Nat.mod_one] at hc
          rw [List.getElem?_map, Option.map_eq_some_iff] at hx
          obtain ⟨b, hb2, rfl⟩ := hx
          simp only [strCells, hs, List.getElem?_map, hb2, Option.map_some, Option.some.injEq] at hv
          subst hv
          have hbo : dnc e [.int .u8 b.toNat] = some (byteOf e d b) := by
            unfold byteOf
            split
            · rename_i x hx; exact hx
            · rename_i hx
              exfalso
              obtain ⟨en, he, hks⟩ := ent_ks hb
              unfold dnc at hx
              rw [he] at hx
              simp only at hx
              have : ∃ y, dns en.ks [AV.int .u8 b.toNat] = some y := by rw [hks]; exact ⟨_, rfl⟩
              obtain ⟨y, hy⟩ := this
              rw [hy] at hx
              simp at hx
          exact ((dnc_rep (γ := γ) (h := st.h) (u := st.u) (w := w) (D := D) hbo).2 0 _ _ rfl hc).2 _ (RepD.int _ _).c
      · simp at hsrc
  · rename_i e' hk
    obtain ⟨A, cap, rfl, hlc, h3⟩ := elems_cells hi.hp hy hsrc
    refine ⟨.slice e', ?_⟩
    rcases h3 with rfl | ⟨b, o, rfl, hf⟩
    · refine ⟨[], ty_sl ht hk, by simp, by simp [Builtin.lenOf], ?_, ?_, by simp, by simp, by simp [flat]⟩
      · cases A with
        | none => simp [Builtin.firstCells]
        | some x => simp [Builtin.firstCells, loadCells, loadCellsFrom]
      · cases A with
        | none => simp [Builtin.firstCells]
        | some x => simp [Builtin.firstCells, loadCells, loadCellsFrom]
    · have hq : ∀ q, q < ys.length * szR e → ∃ v, w.cell? ⟨b, o + q, none⟩ = some v ∧ ∀ c', (flat e ys)[q]? = some c' → RepD w D c' v := by
        intro q hq
        have hlt : q < (flat e ys).length := by rw [flat_len]; exact hq
        obtain ⟨v, h1, h2⟩ := hf q _ (List.getElem?_eq_getElem hlt)
        exact ⟨v, h1, fun c' hc => by rw [List.getElem?_eq_getElem hlt] at hc; cases hc; exact h2⟩
      have hget : ∀ q, q < ys.length * szR e → w.cell? ⟨b, o + q, none⟩ = some ((w.cell? ⟨b, o + q, none⟩).getD Go.undef) := fun q hlt => by
        obtain ⟨v, h1, _⟩ := hq q hlt
        rw [h1]; rfl
      refine ⟨(List.range (ys.length * szR e)).map fun q => (w.cell? ⟨b, o + q, none⟩).getD Go.undef, ty_sl ht hk, by simp, by simp [Builtin.lenOf], ?_, ?_, by simp, fun v hv => ?_, fun q c' v h1 h2 => ?_⟩
      · exact run_loadCells w _ _ (fun q => (w.cell? ⟨b, o + q, none⟩).getD Go.undef) fun q hlt => by rw [addr_add]; exact hget q hlt
      · exact run_loadCells w.drew _ _ (fun q => (w.cell? ⟨b, o + q, none⟩).getD Go.undef) fun q hlt => by rw [addr_add]; exact hget q hlt
      · obtain ⟨q, hlt, rfl⟩ := List.mem_map.1 hv
        have hlt : q < ys.length * szR e := by simpa using hlt
        obtain ⟨v, h1, h2⟩ := hq q hlt
        have hl2 : q < (flat e ys).length := by rw [flat_len]; exact hlt
        rw [h1]
        exact (h2 _ (List.getElem?_eq_getElem hl2)).one.1
      · have hlt : q < ys.length * szR e := by rw [← flat_len]; exact (List.getElem?_eq_some_iff.1 h1).1
        obtain ⟨v', h3, h4⟩ := hq q hlt
        simp [hlt] at h2
        rw [h3] at h2
        simp at h2
        subst h2
        exact h4 c' h1
  · simp at hsrc

end
end
end Go.AM
