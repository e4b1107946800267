/- A part of the proof: machine and program. -/
import Derived.Test.YtpdifkaeiecdpaaAm10
namespace Go.AM
open Go.RowKit Go.Lib
section
variable [Reg]
section
variable {P : Program} {c : Ctx} {γ γ' γ'' : Gh} {D D' D'' : Dead} {st : St} {a : Act} {w w' w'' : World} {tb : Tb} {H : Hints} {h h' h'' : Heap} {u u' u'' : List Nat}

abbrev keys (h : Heap) : List Nat := h.map (·.1)
theorem find_keys {k : Nat} {h : Heap} : find k h ≠ none ↔ k ∈ keys h := by
  induction h with
  | nil => simp [find]
  | cons x r ih =>
    obtain ⟨m, o⟩ := x
    simp only [find, List.map_cons, List.mem_cons]
    by_cases e : k = m
    · simp [e]
    · simp only [e, if_false, false_or]
      exact ih
theorem find_of_mem {k : Nat} {o : Ob} : ∀ {h : Heap}, (keys h).Nodup → (k, o) ∈ h → find k h = some o
  | [], _, hm => by simp at hm
  | (m, x) :: r, hn, hm => by
    simp only [List.map_cons, List.nodup_cons] at hn
    simp only [find]
    rcases List.mem_cons.1 hm with e | hm
    · cases e; simp
    · have : k ≠ m := fun e => hn.1 (List.mem_map.2 ⟨(k, o), hm, e⟩)
      rw [if_neg this]
      exact find_of_mem hn.2 hm

theorem inCs_get (bid rid : Nat → Nat) : ∀ (cs : List AV) (n i : Nat), (inCs bid rid n cs)[i]? = (cs[i]?).map (in0 bid (rid (n + i)))
  | [], n, i => by simp [inCs]
  | c :: r, n, 0 => by simp [inCs]
  | c :: r, n, i + 1 => by
    simp only [inCs, List.getElem?_cons_succ]
    rw [inCs_get bid rid r (n + 1) i, show n + 1 + i = n + (i + 1) by omega]
theorem inCs_len (bid rid : Nat → Nat) : ∀ (cs : List AV) (n : Nat), (inCs bid rid n cs).length = cs.length
  | [], n => rfl
  | c :: r, n => by simp [inCs, inCs_len bid rid r (n + 1)]
theorem mem_rowsCs {rid : Nat → Nat} {k : Nat} {o : Ob} : ∀ {cs : List AV} {n : Nat}, (k, o) ∈ rowsCs rid n cs → ∃ i t xs, cs[i]? = some (.ow t xs) ∧ k = rid (n + i) ∧ o = .row t xs
  | [], n, h => by simp [rowsCs] at h
  | c :: r, n, h => by
    have go : (k, o) ∈ rowsCs rid (n + 1) r → ∃ i t xs, (c :: r)[i]? = some (.ow t xs) ∧ k = rid (n + i) ∧ o = .row t xs := fun h => by
      obtain ⟨i, t, xs, h1, h2, h3⟩ := mem_rowsCs h
      exact ⟨i + 1, t, xs, by simpa using h1, by rw [h2]; congr 1; omega, h3⟩
    unfold rowsCs at h
    split at h
    · rename_i t xs
      rcases List.mem_cons.1 h with e | h
      · cases e
        exact ⟨0, t, xs, rfl, rfl, rfl⟩
      · exact go h
    · exact go h
theorem rowsCs_mem {rid : Nat → Nat} {t : Nat} {xs : List (R t)} : ∀ {cs : List AV} {n i : Nat}, cs[i]? = some (.ow t xs) → (rid (n + i), Ob.row t xs) ∈ rowsCs rid n cs
  | [], n, i, h => by simp at h
  | c :: r, n, 0, h => by
    simp at h
    subst h
    simp [rowsCs]
  | c :: r, n, i + 1, h => by
    have := rowsCs_mem (rid := rid) (n := n + 1) (i := i) (cs := r) (by simpa using h)
    rw [show n + 1 + i = n + (i + 1) by omega] at this
    unfold rowsCs
    split
    · exact List.mem_cons_of_mem _ this
    · exact this
theorem mem_unpack {bid : Nat → Nat} {rid : Nat → Nat → Nat} {k : Nat} {o' : Ob} : ∀ {os : List Ob} {n : Nat}, (k, o') ∈ unpack bid rid n os → ∃ m o, os[m]? = some o ∧
    ((k = bid (n + m) ∧ ((∃ cs, o = .box cs ∧ o' = .box (inCs bid (rid (n + m)) 0 cs)) ∨ (o' = o ∧ o ≠ .tok ∧ ∀ cs, o ≠ .box cs))) ∨ ∃ cs i t xs, o = .box cs ∧ cs[i]? = some (.ow t xs) ∧ k = rid (n + m) i ∧ o' = .row t xs)
  | [], n, h => by simp [unpack] at h
  | o :: r, n, h => by
    have go : (k, o') ∈ unpack bid rid (n + 1) r → ∃ m o1, (o :: r)[m]? = some o1 ∧
        ((k = bid (n + m) ∧ ((∃ cs, o1 = .box cs ∧ o' = .box (inCs bid (rid (n + m)) 0 cs)) ∨ (o' = o1 ∧ o1 ≠ .tok ∧ ∀ cs, o1 ≠ .box cs))) ∨ ∃ cs i t xs, o1 = .box cs ∧ cs[i]? = some (.ow t xs) ∧ k = rid (n + m) i ∧ o' = .row t xs) := fun h => by
      obtain ⟨m, o1, h1, h2⟩ := mem_unpack h
      rw [show n + 1 + m = n + (m + 1) by omega] at h2
      exact ⟨m + 1, o1, by simpa using h1, h2⟩
    unfold unpack at h
    split at h
    · rename_i cs
      rcases List.mem_cons.1 h with e | h
      · cases e
        exact ⟨0, _, rfl, .inl ⟨rfl, .inl ⟨cs, rfl, rfl⟩⟩⟩
      · rcases List.mem_append.1 h with h | h
        · obtain ⟨i, t, xs, h1, h2, h3⟩ := mem_rowsCs h
          exact ⟨0, _, rfl, .inr ⟨cs, i, t, xs, rfl, h1, by simpa using h2, h3⟩⟩
        · exact go h
    · exact go h
    · rename_i h1 h2
      rcases List.mem_cons.1 h with e | h
      · cases e
        exact ⟨0, _, rfl, .inl ⟨rfl, .inr ⟨rfl, fun e => h2 e, fun cs e => h1 cs e⟩⟩⟩
      · exact go h
theorem unpack_mem {bid : Nat → Nat} {rid : Nat → Nat → Nat} : ∀ {os : List Ob} {n m : Nat} {o : Ob}, os[m]? = some o → (o ≠ .tok → bid (n + m) ∈ keys (unpack bid rid n os)) ∧ ∀ cs i t xs, o = .box cs → cs[i]? = some (.ow t xs) → (rid (n + m) i, Ob.row t xs) ∈ unpack bid rid n os
  | [], n, m, o, h => by simp at h
  | x :: r, n, m, o, h => by
    cases m with
    | zero =>
      simp at h
      subst h
      refine ⟨fun hn => ?_, fun cs i t xs e hi => ?_⟩
      · unfold unpack
        split <;> simp_all
      · subst e
        unfold unpack
        refine List.mem_cons_of_mem _ (List.mem_append.2 (.inl ?_))
        have := rowsCs_mem (rid := rid n) (n := 0) hi
        simpa using this
    | succ m =>
      obtain ⟨h1, h2⟩ := unpack_mem (bid := bid) (rid := rid) (n := n + 1) (m := m) (o := o) (os := r) (by simpa using h)
      rw [show n + 1 + m = n + (m + 1) by omega] at h1 h2
      have key : ∀ x', x' ∈ unpack bid rid (n + 1) r → x' ∈ unpack bid rid n (x :: r) := fun x' hx => by
        unfold unpack
        split
        · exact List.mem_cons_of_mem _ (List.mem_append.2 (.inr hx))
        · exact hx
        · exact List.mem_cons_of_mem _ hx
      refine ⟨fun hn => ?_, fun cs i t xs e hi => key _ (h2 cs i t xs e hi)⟩
      obtain ⟨y, hy, e⟩ := List.mem_map.1 (h1 hn)
      exact List.mem_map.2 ⟨y, key y hy, e⟩

/-! ### Ahead of a call -/
def phi (h : Heap) (ks : List Nat) (k : Nat) : Option Nat := match idxOf k ks 0 with | some m => some m | none => (match rowIx h k 0 ks with | some (n, i) => some (rid0 n i) | none => none)

section
variable {ks : List Nat} {os : List Ob}
theorem objsOk_spec (hok : objsOk os = true) : os.length ≤ 100 ∧ ∀ (n : Nat) (cs : List AV), os[n]? = some (Ob.box cs) → cs.length ≤ 128 ∧ ∀ c ∈ cs, cellOk c = true := by
  simp only [objsOk, Bool.and_eq_true, Nat.ble_eq] at hok
  refine ⟨hok.1, fun n cs hn => ?_⟩
  have := List.all_eq_true.1 hok.2 _ (List.mem_of_getElem? hn)
  simp only [objOk, cellsOk, Bool.and_eq_true, Nat.ble_eq] at this
  exact ⟨this.1, fun c hc => List.all_eq_true.1 this.2 c hc⟩
theorem out0_ren {f : Nat → Option Nat} (hf : ∀ k m, idxOf k ks 0 = some m → f k = some m) {x d : AV} (e : out0 ks x = some d) : (x.cell1 = true ∧ d.cell1 = true) ∧ Wk (ren1 f x) d := by
  cases x <;> simp only [out0, AV.dat, Option.some.injEq, reduceCtorEq] at e
  case ptr k off =>
    split at e
    · rename_i m hm
      simp only [Option.some.injEq] at e
      subst e
      refine ⟨⟨rfl, rfl⟩, .inl ?_⟩
      simp only [ren1, hf k m hm]
    · simp at e
  case tip k t xs =>
    subst e
    refine ⟨⟨rfl, rfl⟩, ?_⟩
    simp only [ren1]
    split
    · exact .inr ⟨_, _, _, rfl, rfl⟩
    · exact .inl rfl
  all_goals (subst e; exact ⟨⟨rfl, rfl⟩, .inl rfl⟩)

theorem phi_idx {k m : Nat} (e : idxOf k ks 0 = some m) : phi h ks k = some m := by simp [phi, e]
theorem out_at {f : Nat → Option Nat} (hext : ∀ k k', phi h ks k = some k' → f k = some k') (hnd : (ks ++ inls h ks).Nodup) (hos : mapO (packO h ks) ks = some os) (hok : objsOk os = true) (_hk : (keys (heap0 os)).Nodup) (hnt : os.all notTok = true) : ∀ k' o', find k' (heap0 os) = some o' → ∃ k o, phi h ks k = some k' ∧ find k h = some o ∧ ObLe f u o o' := by
  obtain ⟨hl, hp⟩ := mapO_spec hos
  obtain ⟨ho1, ho2⟩ := objsOk_spec hok
  obtain ⟨n1, n2, n3⟩ := List.nodup_append.1 hnd
  have hpk : ∀ {n k}, ks[n]? = some k → ∃ o, os[n]? = some o ∧ packO h ks k = some o ∧ o ≠ .tok := fun {n k} hn => by
    have hlt : n < os.length := by rw [hl]; exact (List.getElem?_eq_some_iff.1 hn).1
    obtain ⟨k', h1, h2⟩ := hp n os[n] (List.getElem?_eq_getElem hlt)
    rw [hn] at h1
    cases h1
    refine ⟨_, List.getElem?_eq_getElem hlt, h2, fun e => ?_⟩
    have := List.all_eq_true.1 hnt _ (List.getElem_mem hlt)
    rw [e] at this
    simp [notTok] at this
  have hbox : ∀ {n k0 cs}, ks[n]? = some k0 → find k0 h = some (.box cs) → ∃ ds, os[n]? = some (Ob.box ds) ∧ mapO (outB h ks) cs = some ds := fun {n k0 cs} h1 h2 => by
    obtain ⟨o, e1, e2, _⟩ := hpk h1
    unfold packO at e2
    rw [h2] at e2
    simp only at e2
    split at e2
    · rename_i l hlm
      simp only [Option.some.injEq] at e2
      subst e2
      exact ⟨l, e1, hlm⟩
    · simp at e2
  intro k' o' e
  obtain ⟨m, o, h1, h2⟩ := mem_unpack (find_mem e)
  simp only [Nat.zero_add] at h2
  have hlt : m < ks.length := by rw [← hl]; exact (List.getElem?_eq_some_iff.1 h1).1
  have hkm := List.getElem?_eq_getElem hlt
  obtain ⟨o1, e1, e2, e3⟩ := hpk hkm
  rw [h1] at e1
  cases e1
  have hph : phi h ks ks[m] = some m := phi_idx (by have := idxOf_at (i := 0) n1 hkm; simpa using this)
  rcases h2 with ⟨e0, h2⟩ | ⟨cs, i, t, xs, rfl, h3, rfl, rfl⟩
  · subst k'
    rcases h2 with ⟨ds, rfl, rfl⟩ | ⟨rfl, h3, h4⟩
    · unfold packO at e2
      split at e2
      · rename_i cs hf
        split at e2
        · rename_i l hlm
          cases e2
          obtain ⟨g1, g2⟩ := mapO_spec hlm
          refine ⟨ks[m], _, hph, hf, _, rfl, by rw [inCs_len, g1], fun i c' d hc hd hu' => ?_⟩
          clear hu'
          rw [inCs_get, Option.map_eq_some_iff] at hd
          obtain ⟨b, hb, rfl⟩ := hd
          obtain ⟨c2, hc2, ho⟩ := g2 i b hb
          rw [hc] at hc2
          cases hc2
          have cell0 : out0 ks c' = some b → Wk (renC f c') (in0 (fun n => n) (rid0 m (0 + i)) b) := fun ho => by
            obtain ⟨⟨q1, q2⟩, q3⟩ := out0_ren (f := f) (fun k m e => hext _ _ (phi_idx e)) ho
            have hnf : ∀ f l, c' ≠ .fn f l := fun f l e => by rw [e] at ho; simp [out0, AV.dat] at ho
            have er : renC f c' = ren1 f c' := by cases c' <;> first | rfl | exact absurd rfl (hnf _ _)
            rw [er]
            have ei : in0 (fun n => n) (rid0 m (0 + i)) b = b := by
              cases c' <;> simp only [out0, AV.dat, Option.some.injEq, reduceCtorEq] at ho
              case ptr => split at ho <;> simp at ho; subst ho; rfl
              all_goals (subst ho; rfl)
            rw [ei]
            exact q3
          unfold outB at ho
          split at ho
          · rename_i k t
            split at ho
            · rename_i t' xs hr
              split at ho
              · rename_i e4
                subst e4
                cases ho
                left
                have hrow := rowIx_at (m := 0) n2 hkm hf hc
                have hnk : idxOf k ks 0 = none := idxOf_none fun hin => n3 k hin k (List.mem_flatMap.2 ⟨ks[m], List.getElem_mem hlt, by rw [hf]; exact List.mem_flatMap.2 ⟨.vw k t', List.mem_of_getElem? hc, by simp⟩⟩) rfl
                have hfk := hext k (rid0 m i) (by simp only [phi, hnk, hrow, Nat.zero_add])
                simp only [renC, ren1, hfk, in0, Nat.zero_add]
              · simp at ho
            · simp at ho
          · exact cell0 ho
        · simp at e2
      · cases e2
      · cases e2
      · cases e2
      · cases e2
    · unfold packO at e2
      split at e2
      · split at e2
        · cases e2; exact absurd rfl (h4 _)
        · simp at e2
      · rename_i t xs hf
        cases e2
        exact ⟨ks[m], _, hph, hf, rfl⟩
      · rename_i t xs hf
        cases e2
        exact ⟨ks[m], _, hph, hf, rfl⟩
      · simp at e2
      · cases e2; exact absurd rfl h3
  · unfold packO at e2
    split at e2
    · rename_i cs0 hf
      split at e2
      · rename_i l hlm
        cases e2
        obtain ⟨g1, g2⟩ := mapO_spec hlm
        obtain ⟨c2, hc2, ho⟩ := g2 i _ h3
        unfold outB at ho
        split at ho
        · rename_i k t2
          split at ho
          · rename_i t3 ys hr
            split at ho
            · rename_i e4
              subst e4
              cases ho
              have hrow := rowIx_at (m := 0) n2 hkm hf hc2
              have hnk : idxOf k ks 0 = none := idxOf_none fun hin => n3 k hin k (List.mem_flatMap.2 ⟨ks[m], List.getElem_mem hlt, by rw [hf]; exact List.mem_flatMap.2 ⟨_, List.mem_of_getElem? hc2, by simp⟩⟩) rfl
              exact ⟨k, _, by simp only [phi, hnk, hrow, Nat.zero_add], hr, rfl⟩
            · simp at ho
          · simp at ho
        · exfalso
          cases c2 <;> simp only [out0, AV.dat, Option.some.injEq, reduceCtorEq] at ho
          split at ho <;> simp at ho
      · simp at e2
    · cases e2
    · cases e2
    · cases e2
    · cases e2
theorem ren_out (hnd : (ks ++ inls h ks).Nodup) (hos : mapO (packO h ks) ks = some os) (hok : objsOk os = true) (hk : (keys (heap0 os)).Nodup) (hnt : os.all notTok = true) : Ren (phi h ks) h (heap0 os) u (keys (heap0 os)) := by
  obtain ⟨hl, hp⟩ := mapO_spec hos
  obtain ⟨ho1, ho2⟩ := objsOk_spec hok
  obtain ⟨n1, n2, n3⟩ := List.nodup_append.1 hnd
  have hpk : ∀ {n k}, ks[n]? = some k → ∃ o, os[n]? = some o ∧ packO h ks k = some o ∧ o ≠ .tok := fun {n k} hn => by
    have hlt : n < os.length := by rw [hl]; exact (List.getElem?_eq_some_iff.1 hn).1
    obtain ⟨k', h1, h2⟩ := hp n os[n] (List.getElem?_eq_getElem hlt)
    rw [hn] at h1
    cases h1
    refine ⟨_, List.getElem?_eq_getElem hlt, h2, fun e => ?_⟩
    have := List.all_eq_true.1 hnt _ (List.getElem_mem hlt)
    rw [e] at this
    simp [notTok] at this
  have hbox : ∀ {n k0 cs}, ks[n]? = some k0 → find k0 h = some (.box cs) → ∃ ds, os[n]? = some (Ob.box ds) ∧ mapO (outB h ks) cs = some ds := fun {n k0 cs} h1 h2 => by
    obtain ⟨o, e1, e2, _⟩ := hpk h1
    unfold packO at e2
    rw [h2] at e2
    simp only at e2
    split at e2
    · rename_i l hlm
      simp only [Option.some.injEq] at e2
      subst e2
      exact ⟨l, e1, hlm⟩
    · simp at e2
  -- what phi says
  have hphi : ∀ {k k'}, phi h ks k = some k' → (k' < 100 ∧ ks[k']? = some k) ∨ ∃ n i k0 cs t, k' = rid0 n i ∧ n < 100 ∧ i < 128 ∧ ks[n]? = some k0 ∧ find k0 h = some (.box cs) ∧ cs[i]? = some (.vw k t) := fun {k k'} e => by
    unfold phi at e
    split at e
    · rename_i m hm
      simp only [Option.some.injEq] at e
      subst e
      obtain ⟨_, h2⟩ := idxOf_spec hm
      rw [Nat.sub_zero] at h2
      have := (List.getElem?_eq_some_iff.1 h2).1
      exact .inl ⟨by omega, h2⟩
    · split at e
      · rename_i n i hr
        simp only [Option.some.injEq] at e
        subst e
        obtain ⟨_, k0, cs, t, h1, h2, h3⟩ := rowIx_spec hr
        rw [Nat.sub_zero] at h1
        obtain ⟨ds, g1, g2⟩ := hbox h1 h2
        have hlt := (List.getElem?_eq_some_iff.1 h1).1
        have hci := (List.getElem?_eq_some_iff.1 h3).1
        have := (ho2 n ds g1).1
        have := (mapO_spec g2).1
        exact .inr ⟨n, i, k0, cs, t, rfl, by omega, by omega, h1, h2, h3⟩
      · simp at e
  refine ⟨fun j k i e1 e2 => ?_, out_at (fun _ _ e => e) hnd hos hok hk hnt, fun k k' e => ?_⟩
  · rcases hphi e1 with ⟨a1, a2⟩ | ⟨n, m, k0, cs, t, a1, a2, a3, a4, a5, a6⟩ <;> rcases hphi e2 with ⟨b1, b2⟩ | ⟨n', m', k0', cs', t', b1, b2, b3, b4, b5, b6⟩
    · rw [a2] at b2; simpa using b2
    · unfold rid0 at b1; omega
    · unfold rid0 at a1; omega
    · unfold rid0 at a1 b1
      have e3 : n = n' := by omega
      have e4 : m = m' := by omega
      subst e3
      subst e4
      rw [a4] at b4
      cases b4
      rw [a5] at b5
      cases b5
      rw [a6] at b6
      cases b6
      rfl
  · rcases hphi e with ⟨a1, a2⟩ | ⟨n, i, k0, cs, t, rfl, a2, a3, a4, a5, a6⟩
    · obtain ⟨o, e1, _, e3⟩ := hpk a2
      have := (unpack_mem (bid := fun n => n) (rid := rid0) (n := 0) e1).1 e3
      simpa [heap0] using this
    · obtain ⟨ds, g1, g2⟩ := hbox a4 a5
      obtain ⟨g3, g4⟩ := mapO_spec g2
      have hi : i < ds.length := by rw [g3]; exact (List.getElem?_eq_some_iff.1 a6).1
      obtain ⟨c2, hc2, ho⟩ := g4 i _ (List.getElem?_eq_getElem hi)
      rw [a6] at hc2
      cases hc2
      unfold outB at ho
      simp only at ho
      split at ho
      · rename_i t2 xs hr
        split at ho
        · have hoi : ds[i]? = some (.ow t2 xs) := by rw [List.getElem?_eq_getElem hi]; exact ho.symm
          have := (unpack_mem (bid := fun n => n) (rid := rid0) (n := 0) g1).2 ds i t2 xs rfl hoi
          exact List.mem_map.2 ⟨_, this, by simp⟩
        · simp at ho
      · simp at ho

theorem outC_rep {f : Nat → Option Nat} (hf : ∀ k m, idxOf k ks 0 = some m → f k = some m) {x d : AV} {v : Value} (e : outC ks x = some d) (hx : RepC γ h u w D (renC f x) v) : RepC γ h u w D d v ∧ Cell d := by
  have gen : out0 ks x = some d → renC f x = ren1 f x → RepC γ h u w D d v ∧ Cell d := fun e er => by
    obtain ⟨⟨_, q2⟩, q3⟩ := out0_ren hf e
    rw [er] at hx
    exact ⟨q3.rep hx, .inr q2⟩
  cases x <;> simp only [outC] at e <;> first | exact gen e rfl | skip
  case fn n cs =>
    split at e
    · rename_i l hl
      cases e
      obtain ⟨h1, h2⟩ := mapO_spec hl
      obtain ⟨vs, e1, hn, hh⟩ := hx
      refine ⟨⟨vs, e1, by rw [hn]; simp [h1], fun i d z hi hj => ?_⟩, .inr rfl⟩
      obtain ⟨c', g1, g2⟩ := h2 i d hi
      obtain ⟨⟨_, q2⟩, q3⟩ := out0_ren hf g2
      have := (hh i (ren1 f c') z (by simp [g1]) hj).1
      refine ⟨?_, .inr q2⟩
      rcases q3 with q3 | ⟨k, t, xs, q3, q4⟩
      · rw [← q3]; exact this
      · rw [q3] at this; rw [q4]; exact this.2.1
    · simp at e
  case vw k t =>
    split at e
    · rename_i m hm
      cases e
      simp only [renC, ren1, hf k m hm] at hx
      exact ⟨hx, .inr rfl⟩
    · simp at e
  case sv k t lo n =>
    split at e
    · rename_i m hm
      cases e
      simp only [renC, ren1, hf k m hm] at hx
      exact ⟨hx, .inr rfl⟩
    · simp at e
  case ow t xs => exact (nomatch (show RepD w D (.ow t xs) v from hx))
theorem outV_rep {f : Nat → Option Nat} (hf : ∀ k m, idxOf k ks 0 = some m → f k = some m) {x d : AV} {v : Value} (e : outV ks x = some d) (hx : RepB γ h u w D (renB f x) v) : RepB γ h u w D d v := by
  cases x with
  | agg cs =>
    simp only [outV] at e
    split at e
    · rename_i l hl
      cases e
      obtain ⟨h1, h2⟩ := mapO_spec hl
      obtain ⟨vs, e1, hn, hh⟩ := hx
      refine ⟨vs, e1, by rw [hn]; simp [h1], fun i d z hi hj => ?_⟩
      obtain ⟨c', g1, g2⟩ := h2 i d hi
      exact outC_rep hf g2 (hh i (renC f c') z (by simp [g1]) hj).1
    · simp at e
  | tup vs => simp [outV, outC, out0, AV.dat] at e
  | undef =>
    have e' : outC ks .undef = some d := e
    exact (outC_rep hf e' (RepB.toC (x := .undef) hx (.inl rfl))).1.b
  | ow t xs => exact (nomatch (show RepD w D (.ow t xs) v from hx))
  | nilp =>
    have e' : outC ks (.nilp) = some d := e
    exact (outC_rep hf e' (RepB.toC (x := renC f (.nilp)) hx (renC_cell f (.inr rfl)))).1.b
  | nilfn =>
    have e' : outC ks (.nilfn) = some d := e
    exact (outC_rep hf e' (RepB.toC (x := renC f (.nilfn)) hx (renC_cell f (.inr rfl)))).1.b
  | nili =>
    have e' : outC ks (.nili) = some d := e
    exact (outC_rep hf e' (RepB.toC (x := renC f (.nili)) hx (renC_cell f (.inr rfl)))).1.b
  | nils =>
    have e' : outC ks (.nils) = some d := e
    exact (outC_rep hf e' (RepB.toC (x := renC f (.nils)) hx (renC_cell f (.inr rfl)))).1.b
  | int k n =>
    have e' : outC ks (.int k n) = some d := e
    exact (outC_rep hf e' (RepB.toC (x := renC f (.int k n)) hx (renC_cell f (.inr rfl)))).1.b
  | bool b =>
    have e' : outC ks (.bool b) = some d := e
    exact (outC_rep hf e' (RepB.toC (x := renC f (.bool b)) hx (renC_cell f (.inr rfl)))).1.b
  | str l =>
    have e' : outC ks (.str l) = some d := e
    exact (outC_rep hf e' (RepB.toC (x := renC f (.str l)) hx (renC_cell f (.inr rfl)))).1.b
  | fn n cs =>
    have e' : outC ks (.fn n cs) = some d := e
    exact (outC_rep hf e' (RepB.toC (x := renC f (.fn n cs)) hx (renC_cell f (.inr rfl)))).1.b
  | iface t x =>
    have e' : outC ks (.iface t x) = some d := e
    exact (outC_rep hf e' (RepB.toC (x := renC f (.iface t x)) hx (renC_cell f (.inr rfl)))).1.b
  | sl t full xs =>
    have e' : outC ks (.sl t full xs) = some d := e
    exact (outC_rep hf e' (RepB.toC (x := renC f (.sl t full xs)) hx (renC_cell f (.inr rfl)))).1.b
  | rp cs j =>
    have e' : outC ks (.rp cs j) = some d := e
    exact (outC_rep hf e' (RepB.toC (x := renC f (.rp cs j)) hx (renC_cell f (.inr rfl)))).1.b
  | ra t xs =>
    have e' : outC ks (.ra t xs) = some d := e
    exact (outC_rep hf e' (RepB.toC (x := renC f (.ra t xs)) hx (renC_cell f (.inr rfl)))).1.b
  | tip k t xs =>
    have e' : outC ks (.tip k t xs) = some d := e
    exact (outC_rep hf e' (RepB.toC (x := renC f (.tip k t xs)) hx (renC_cell f (.inr rfl)))).1.b
  | ptr k off =>
    have e' : outC ks (.ptr k off) = some d := e
    exact (outC_rep hf e' (RepB.toC (x := renC f (.ptr k off)) hx (renC_cell f (.inr rfl)))).1.b
  | vw k t =>
    have e' : outC ks (.vw k t) = some d := e
    exact (outC_rep hf e' (RepB.toC (x := renC f (.vw k t)) hx (renC_cell f (.inr rfl)))).1.b
  | sv k t lo n =>
    have e' : outC ks (.sv k t lo n) = some d := e
    exact (outC_rep hf e' (RepB.toC (x := renC f (.sv k t lo n)) hx (renC_cell f (.inr rfl)))).1.b
  | ep k t i j =>
    have e' : outC ks (.ep k t i j) = some d := e
    exact (outC_rep hf e' (RepB.toC (x := renC f (.ep k t i j)) hx (renC_cell f (.inr rfl)))).1.b
end
end
end
end Go.AM
namespace Go.AM
open Go.RowKit Go.Lib
section
variable [Reg]
section
variable {P : Program} {c : Ctx} {γ γ' γ'' : Gh} {D D' D'' : Dead} {st : St} {a : Act} {w w' w'' : World} {tb : Tb} {H : Hints} {h h' h'' : Heap} {u u' u'' : List Nat}

def rrd0 (j i : Nat) : Nat := 14000000 + j * 128 + i
def heapR (v : AV) (os : List Ob) : Heap := unpack (fun n => n) rid0 0 os ++ rowsVs rrd0 0 (parts v)
def psi (dst : Option Nat) (ks : List Nat) (k : Nat) : Nat := if k < 1000 then bidOf dst ks k else if k < 14000000 then ridOf dst ((k - 1000) / 128) ((k - 1000) % 128) else rrdOf dst ((k - 14000000) / 128) ((k - 14000000) % 128)
section
variable {dst : Option Nat} {ks : List Nat}
omit [Reg] in
theorem psi_bid {m : Nat} (h : m < 1000) : psi dst ks m = bidOf dst ks m := by simp [psi, h]
omit [Reg] in
theorem psi_rid {n i : Nat} (hn : n < 100) (hi : i < 128) : psi dst ks (rid0 n i) = ridOf dst n i := by
  unfold psi rid0
  rw [if_neg (by omega), if_pos (by omega), show (1000 + n * 128 + i - 1000) / 128 = n by omega, show (1000 + n * 128 + i - 1000) % 128 = i by omega]
omit [Reg] in
theorem psi_rrd {n i : Nat} (hi : i < 128) : psi dst ks (rrd0 n i) = rrdOf dst n i := by
  unfold psi rrd0
  rw [if_neg (by omega), if_neg (by omega), show (14000000 + n * 128 + i - 14000000) / 128 = n by omega, show (14000000 + n * 128 + i - 14000000) % 128 = i by omega]
end
section
variable {ψ : Nat → Nat} {bid : Nat → Nat}
theorem in0_ren {r0 r : Nat} {b : AV} (hok : cellOk b = true) (h1 : ∀ m, m < 1000 → ψ m = bid m) (h2 : ψ r0 = r) : in0 bid r b = renC (fun k => some (ψ k)) (in0 (fun n => n) r0 b) := by
  cases b <;> simp only [cellOk] at hok <;> try rfl
  case ptr m off => simp only [in0, renC, ren1, h1 m (blt_iff.1 hok)]
  case vw m t => simp only [in0, renC, ren1, h1 m (blt_iff.1 hok)]
  case sv m t lo n => simp only [in0, renC, ren1, h1 m (blt_iff.1 hok)]
  case ow t xs => simp only [in0, renC, ren1, h2]
  case fn f cs =>
    simp only [in0, renC, List.map_map]
    congr 1
    refine List.map_congr_left fun x hx => ?_
    have := List.all_eq_true.1 hok x hx
    cases x <;> simp only [Bool.false_eq_true] at this <;> try rfl
    rename_i m off
    simp only [Function.comp, ren1, h1 m (blt_iff.1 this)]
theorem inCs_ren {rid0' rid : Nat → Nat} (h1 : ∀ m, m < 1000 → ψ m = bid m) : ∀ (cs : List AV) (n : Nat), (∀ c ∈ cs, cellOk c = true) → (∀ i, i < n + cs.length → ψ (rid0' i) = rid i) → inCs bid rid n cs = (inCs (fun n => n) rid0' n cs).map (renC fun k => some (ψ k))
  | [], n, _, _ => rfl
  | c :: r, n, hok, h2 => by
    simp only [inCs, List.map_cons]
    rw [in0_ren (hok c (by simp)) h1 (h2 n (by simp)), inCs_ren h1 r (n + 1) (fun c hc => hok c (by simp [hc])) (fun i hi => h2 i (by simp; omega))]
theorem rowsCs_ren {rid0' rid : Nat → Nat} : ∀ (cs : List AV) (n : Nat), (∀ i, i < n + cs.length → ψ (rid0' i) = rid i) → rowsCs rid n cs = (rowsCs rid0' n cs).map fun p => (ψ p.1, renO (fun k => some (ψ k)) p.2)
  | [], n, _ => rfl
  | c :: r, n, h2 => by
    have ih := rowsCs_ren (rid0' := rid0') (rid := rid) r (n + 1) (fun i hi => h2 i (by simp; omega))
    unfold rowsCs
    split
    · rename_i t xs
      rw [List.map_cons, ih]
      simp only [renO, h2 n (by simp)]
    · exact ih
theorem unpack_ren {rid : Nat → Nat → Nat} (h1 : ∀ m, m < 1000 → ψ m = bid m) (h2 : ∀ n i, n < 100 → i < 128 → ψ (rid0 n i) = rid n i) : ∀ (os : List Ob) (n : Nat), n + os.length ≤ 100 → os.all objOk = true → unpack bid rid n os = (unpack (fun n => n) rid0 n os).map fun p => (ψ p.1, renO (fun k => some (ψ k)) p.2)
  | [], n, _, _ => rfl
  | o :: r, n, hn, hok => by
    simp only [List.length_cons] at hn
    simp only [List.all_cons, Bool.and_eq_true] at hok
    have ih := unpack_ren h1 h2 r (n + 1) (by omega) hok.2
    have e1 := h1 n (by omega)
    unfold unpack
    split
    · rename_i cs
      have hc := hok.1
      simp only [objOk, cellsOk, Bool.and_eq_true, Nat.ble_eq] at hc
      rw [List.map_cons, List.map_append, ih, inCs_ren (rid0' := rid0 n) h1 cs 0 (List.all_eq_true.1 hc.2) (fun i hi => h2 n i (by omega) (by omega)), rowsCs_ren (rid0' := rid0 n) (rid := rid n) cs 0 (fun i hi => h2 n i (by omega) (by omega))]
      simp only [renO, e1]
    · exact ih
    · rename_i g1 g2
      rw [List.map_cons, ih]
      simp only [e1]
      congr 2
      cases o <;> first | rfl | exact absurd rfl (g1 _) | exact absurd rfl g2
theorem rowsVs_ren {rid : Nat → Nat → Nat} (h2 : ∀ j i, i < 128 → ψ (rrd0 j i) = rid j i) : ∀ (vs : List AV) (j : Nat), (vs.all fun v => cellsOk v.cells) = true → rowsVs rid j vs = (rowsVs rrd0 j vs).map fun p => (ψ p.1, renO (fun k => some (ψ k)) p.2)
  | [], j, _ => rfl
  | v :: r, j, hok => by
    simp only [List.all_cons, Bool.and_eq_true, cellsOk, Nat.ble_eq] at hok
    simp only [rowsVs, List.map_append]
    rw [rowsVs_ren h2 r (j + 1) hok.2, rowsCs_ren (rid0' := rrd0 j) (rid := rid j) v.cells 0 (fun i hi => h2 j i (by omega))]
theorem inV_ren {rid rid0' : Nat → Nat} (h1 : ∀ m, m < 1000 → ψ m = bid m) (h2 : ∀ i, i < 128 → ψ (rid0' i) = rid i) {v : AV} (hok : cellsOk v.cells = true) : inV bid rid v = renB (fun k => some (ψ k)) (inV (fun n => n) rid0' v) := by
  simp only [cellsOk, Bool.and_eq_true, Nat.ble_eq] at hok
  cases v with
  | agg cs =>
    simp only [inV, renB]
    rw [inCs_ren (rid0' := rid0') h1 cs 0 (List.all_eq_true.1 hok.2) (fun i hi => h2 i (by have := hok.1; simp only [AV.cells] at this; omega))]
  | _ =>
    have hc : cellOk _ = true := List.all_eq_true.1 hok.2 _ (List.mem_singleton.2 rfl)
    have e := in0_ren (ψ := ψ) (bid := bid) (r0 := rid0' 0) hc h1 (h2 0 (by omega))
    refine Eq.trans (show inV bid rid _ = in0 bid (rid 0) _ from rfl) (e.trans ?_)
    rfl
theorem inVs_ren {rid : Nat → Nat → Nat} (h1 : ∀ m, m < 1000 → ψ m = bid m) (h2 : ∀ j i, i < 128 → ψ (rrd0 j i) = rid j i) : ∀ (vs : List AV) (j : Nat), (vs.all fun v => cellsOk v.cells) = true → inVs bid rid j vs = (inVs (fun n => n) rrd0 j vs).map (renB fun k => some (ψ k))
  | [], j, _ => rfl
  | v :: r, j, hok => by
    simp only [List.all_cons, Bool.and_eq_true] at hok
    simp only [inVs, List.map_cons]
    rw [inV_ren (rid0' := rrd0 j) h1 (h2 j) hok.1, inVs_ren h1 h2 r (j + 1) hok.2]
theorem inR_ren {rid : Nat → Nat → Nat} (h1 : ∀ m, m < 1000 → ψ m = bid m) (h2 : ∀ j i, i < 128 → ψ (rrd0 j i) = rid j i) {v : AV} (hok : ((parts v).all fun v => cellsOk v.cells) = true) : inR bid rid v = renV (fun k => some (ψ k)) (inR (fun n => n) rrd0 v) := by
  cases v with
  | tup vs =>
    simp only [inR, renV]
    rw [inVs_ren h1 h2 vs 0 hok]
  | _ =>
    have hc : cellsOk (AV.cells _) = true := List.all_eq_true.1 hok _ (List.mem_singleton.2 rfl)
    have e := inV_ren (ψ := ψ) (bid := bid) (rid0' := rrd0 0) h1 (h2 0) hc
    refine Eq.trans (show inR bid rid _ = inV bid (rid 0) _ from rfl) (e.trans ?_)
    rfl
end

theorem ren1_congr {f g : Nat → Option Nat} {x : AV} (hh : ∀ k ∈ x.refsG0, f k = g k) : ren1 f x = ren1 g x := by
  cases x <;> first | rfl | simp only [ren1, hh _ (List.mem_singleton.2 rfl)]
theorem renC_ne {x : AV} (hx : ∀ n cs, x ≠ .fn n cs) : (∀ f, renC f x = ren1 f x) ∧ x.refsG1 = x.refsG0 := by
  cases x <;> first | exact ⟨fun _ => rfl, rfl⟩ | exact absurd rfl (hx _ _)
theorem renB_ne {x : AV} (hx : ∀ cs, x ≠ .agg cs) : ∀ f, renB f x = renC f x := by
  cases x <;> first | exact fun _ => rfl | exact absurd rfl (hx _)
theorem renV_ne {x : AV} (hx : ∀ cs, x ≠ .tup cs) : ∀ f, renV f x = renB f x := by
  cases x <;> first | exact fun _ => rfl | exact absurd rfl (hx _)
theorem RepB.toC' {x : AV} {y : Value} (h1 : RepB γ h u w D x y) (hx : ∀ cs, x ≠ .agg cs) : RepC γ h u w D x y := by
  cases x <;> first | exact h1 | exact absurd rfl (hx _)
theorem renC_congr {f g : Nat → Option Nat} {x : AV} (hh : ∀ k ∈ x.refsG1, f k = g k) : renC f x = renC g x := by
  by_cases hx : ∃ n cs, x = .fn n cs
  · obtain ⟨n, cs, rfl⟩ := hx
    simp only [renC]
    congr 1
    exact List.map_congr_left fun y hy => ren1_congr fun k hk => hh k (List.mem_flatMap.2 ⟨y, hy, hk⟩)
  · obtain ⟨e1, e2⟩ := renC_ne (fun n cs e => hx ⟨n, cs, e⟩)
    rw [e1, e1]
    rw [e2] at hh
    exact ren1_congr hh
theorem renB_congr {f g : Nat → Option Nat} {x : AV} {y : Value} (hx : RepB γ h u w D x y) (hh : ∀ k ∈ u, f k = g k) : renB f x = renB g x := by
  by_cases hc : ∃ cs, x = .agg cs
  · obtain ⟨cs, rfl⟩ := hc
    obtain ⟨vs, _, hn, hv⟩ := hx
    simp only [renB]
    congr 1
    refine List.map_congr_left fun z hz => renC_congr fun k hk => hh k ?_
    obtain ⟨i, hi⟩ := List.getElem?_of_mem hz
    have hlt : i < vs.size := by rw [hn]; exact (List.getElem?_eq_some_iff.1 hi).1
    exact (hv i z _ hi (Array.getElem?_eq_getElem hlt)).1.refs k hk
  · have hne := fun cs e => hc ⟨cs, e⟩
    rw [renB_ne hne, renB_ne hne]
    exact renC_congr fun k hk => hh k ((hx.toC' hne).refs k hk)
theorem renV_congr {f g : Nat → Option Nat} {x : AV} {y : Value} (hx : RepV γ h u w D x y) (hh : ∀ k ∈ u, f k = g k) : renV f x = renV g x := by
  by_cases hc : ∃ cs, x = .tup cs
  · obtain ⟨cs, rfl⟩ := hc
    obtain ⟨vs, _, hn, hv⟩ := hx
    simp only [renV]
    congr 1
    refine List.map_congr_left fun z hz => ?_
    obtain ⟨i, hi⟩ := List.getElem?_of_mem hz
    have hlt : i < vs.size := by rw [hn]; exact (List.getElem?_eq_some_iff.1 hi).1
    exact renB_congr (hv i z _ hi (Array.getElem?_eq_getElem hlt)) hh
  · have hne := fun cs e => hc ⟨cs, e⟩
    rw [renV_ne hne, renV_ne hne]
    exact renB_congr (hx.toB hne) hh

section
variable {dst : Option Nat} {ks : List Nat} {v : AV} {os : List Ob}
theorem backL_eq (hok : objsOk os = true) (hr : resOk v = true) : backL dst ks v os = (heapR v os).map fun p => (psi dst ks p.1, renO (fun k => some (psi dst ks k)) p.2) := by
  simp only [objsOk, Bool.and_eq_true, Nat.ble_eq] at hok
  simp only [backL, heapR, List.map_append]
  simp only [resOk, Bool.and_eq_true] at hr
  rw [unpack_ren (ψ := psi dst ks) (fun m hm => psi_bid hm) (fun n i hn hi => psi_rid hn hi) os 0 (by omega) hok.2, rowsVs_ren (ψ := psi dst ks) (fun j i hi => psi_rrd hi) (parts v) 0 hr.2]
/-- From the callee's numbers to the caller's. -/
def bk (dst : Option Nat) (ks : List Nat) (v : AV) (os : List Ob) (k : Nat) : Option Nat := if k ∈ keys (heapR v os) then some (psi dst ks k) else none
omit [Reg] in
theorem map_inj {α β : Type} {f : α → β} {l : List α} (hn : (l.map f).Nodup) {x y : α} (hx : x ∈ l) (hy : y ∈ l) (e : f x = f y) : x = y := by
  induction l with
  | nil => simp at hx
  | cons z r ih =>
    simp only [List.map_cons, List.nodup_cons] at hn
    rcases List.mem_cons.1 hx with a1 | a1 <;> rcases List.mem_cons.1 hy with b1 | b1
    · rw [a1, b1]
    · exact (hn.1 (List.mem_map.2 ⟨y, b1, by rw [← e, a1]⟩)).elim
    · exact (hn.1 (List.mem_map.2 ⟨x, a1, by rw [e, b1]⟩)).elim
    · exact ih hn.2 a1 b1
theorem keys_backL (hok : objsOk os = true) (hr : resOk v = true) : keys (backL dst ks v os) = (keys (heapR v os)).map (psi dst ks) := by
  rw [backL_eq hok hr]
  simp [keys, Function.comp_def]
theorem ren_back (hok : objsOk os = true) (hr : resOk v = true) (hn : (keys (backL dst ks v os)).Nodup) : Ren (bk dst ks v os) (heapR v os) (backL dst ks v os) (keys (heapR v os)) (keys (backL dst ks v os)) ∧ (keys (heapR v os)).Nodup := by
  have hk := keys_backL (dst := dst) (ks := ks) hok hr
  rw [hk] at hn
  have hn0 : (keys (heapR v os)).Nodup := by
    have gen : ∀ {l : List Nat}, (l.map (psi dst ks)).Nodup → l.Nodup := by
      intro l
      induction l with
      | nil => intro _; exact List.nodup_nil
      | cons x r ih =>
        intro hx
        simp only [List.map_cons, List.nodup_cons] at hx
        exact List.nodup_cons.2 ⟨fun hm => hx.1 (List.mem_map.2 ⟨x, hm, rfl⟩), ih hx.2⟩
    exact gen hn
  have hbk : ∀ {k k'}, bk dst ks v os k = some k' → k ∈ keys (heapR v os) ∧ psi dst ks k = k' := fun {k k'} e => by
    unfold bk at e
    split at e
    · rename_i hm
      simp only [Option.some.injEq] at e
      exact ⟨hm, e⟩
    · simp at e
  refine ⟨⟨fun j k i e1 e2 => ?_, fun k' o' e => ?_, fun k k' e => ?_⟩, hn0⟩
  · obtain ⟨a1, a2⟩ := hbk e1
    obtain ⟨b1, b2⟩ := hbk e2
    exact map_inj hn a1 b1 (a2.trans b2.symm)
  · have hm := find_mem e
    rw [backL_eq hok hr] at hm
    obtain ⟨⟨k, o⟩, h1, h2⟩ := List.mem_map.1 hm
    simp only [Prod.mk.injEq] at h2
    obtain ⟨rfl, rfl⟩ := h2
    have hin : k ∈ keys (heapR v os) := List.mem_map.2 ⟨_, h1, rfl⟩
    refine ⟨k, o, by simp only [bk, if_pos hin], find_of_mem hn0 h1, ?_⟩
    cases o with
    | box cs =>
      refine ⟨_, rfl, by simp, fun i c' d hc hd hu => ?_⟩
      rw [List.getElem?_map, hc] at hd
      simp only [Option.map_some, Option.some.injEq] at hd
      subst hd
      exact .inl (renC_congr fun k hk => by simp only [bk, if_pos (hu k hk)])
    | _ => rfl
  · obtain ⟨a1, a2⟩ := hbk e
    rw [hk, ← a2]
    exact List.mem_map.2 ⟨k, a1, rfl⟩
theorem inR_bk {y : Value} {v0 : AV} (hr : resOk v0 = true) (hx : RepV γ h (keys (heapR v os)) w D (inR (fun n => n) rrd0 v0) y) : renV (bk dst ks v os) (inR (fun n => n) rrd0 v0) = inR (bidOf dst ks) (rrdOf dst) v0 := by
  simp only [resOk, Bool.and_eq_true] at hr
  rw [inR_ren (ψ := psi dst ks) (fun m hm => psi_bid hm) (fun j i hi => psi_rrd hi) hr.2]
  exact renV_congr hx fun k hk => by simp only [bk, if_pos hk]
end
end
end
end Go.AM
