/- Soundness: a call. -/
import Derived.Test.YtpdifkaeiecdpaaAmMW
import Derived.Laws.Sem
namespace Go.AM
open Go.RowKit Go.Lib
section
variable [Reg]

/-- What a call leaves as it was; the first m objects were handed in. -/
structure Fr (c : Ctx) (m : Nat) (γ : Gh) (D : Dead) (h : Heap) (w : World) : Prop where
  os : w.os = c.w.os
  tape : w.tape = c.w.tape
  output : w.output = c.w.output
  size : c.w.heap.size ≤ w.heap.size
  block : ∀ b, b < c.w.heap.size → c.γ.own b = none → w.heap[b]? = c.w.heap[b]?
  lg : ∀ b n, Blk c.w b n → Blk w b n
  ow : ∀ b k, γ.own b = some k → c.w.heap.size ≤ b ∨ c.γ.own b ≠ none
  dd : (∀ b o, c.D b o → D b o) ∧ ∀ b o, b < c.w.heap.size → c.γ.own b = none → D b o → c.D b o
  dl : ∀ b o, D b o → b < w.heap.size
  ob : ∀ k, k < m → ∀ cs, find k h = some (.box cs) → (∃ cs0, find k c.os = some (.box cs0)) ∧ γ.g k = c.γ.g k
  or : ∀ k, k < m → ∀ t xs, find k h = some (.row t xs) → (∃ xs0, find k c.os = some (.row t xs0) ∧ xs0.length = xs.length) ∧ γ.g k = c.γ.g k ∧ (c.γ.own (γ.g k).1 = some k → γ.own (γ.g k).1 = some k)
  ofz : ∀ k, k < m → ∀ t xs, find k h = some (.fz t xs) → find k c.os = some (.fz t xs) ∨ ((∃ xs0, find k c.os = some (.row t xs0) ∧ xs0.length = xs.length) ∧ (xs = [] ∨ ∃ f : Nat → Value, ∀ (q : Nat) (c' : AV), (flat t xs)[q]? = some c' → D (c.γ.g k).1 ((c.γ.g k).2 + q) ∧ w.cell? ⟨(c.γ.g k).1, (c.γ.g k).2 + q, none⟩ = some (f q) ∧ RepD w D c' (f q)))
/-- What a function may count on. -/
structure Pre (c : Ctx) (vs : List AV) (os : List Ob) (args : Array Value) : Prop where
  hd : c.os = heap0 os
  nd : (keys (heap0 os)).Nodup
  nt : os.all notTok = true
  ok : HOk c.γ (heap0 os) (keys (heap0 os)) c.w c.D
  dl : ∀ b o, c.D b o → b < c.w.heap.size
  size : args.size = vs.length
  args : ∀ (i : Nat) (v : AV) (cv : Value), vs[i]? = some v → args[i]? = some cv → RepB c.γ (heap0 os) (keys (heap0 os)) c.w c.D v cv
/-- .. and what it owes. -/
def Post (c : Ctx) (m : Nat) (r : AV) (os : List Ob) (e : Ending) (w : World) : Prop :=
  ∃ cv γ D, e = .returned cv ∧ (objsOk os = true → resOk r = true → (keys (heapR r os)).Nodup → HOk γ (heapR r os) (keys (heapR r os)) w D ∧ RepV γ (heapR r os) (keys (heapR r os)) w D (inR (fun n => n) rrd0 r) cv ∧ Fr c m γ D (heapR r os) w)
def SoundF (P : Program) (F : Fns) : Prop :=
  ∀ f vs os r os', (F f vs os).val = some (r, os') →
    (∃ fn, P.funcs[f % 1000000]? = some fn ∧ (fn.name == "runtime.NumGoroutine") = false ∧ fn.body.isNone = false) ∧
    ∀ (c : Ctx) (args : Array Value), Pre c vs os args → Calls P (f % 1000000) args c.w (Post c os.length r os')

section
variable {P : Program} {c : Ctx} {γ γ' γ'' : Gh} {D D' D'' : Dead} {st : St} {a : Act} {w w' w'' : World} {tb : Tb} {H : Hints} {h h' h'' : Heap} {u u' u'' : List Nat}

theorem find_addAll {k : Nat} : ∀ {l : Heap} {h : Heap}, (keys l).Nodup → find k (addAll l h) = match find k l with | some o => some o | none => find k h
  | [], h, _ => rfl
  | (m, o) :: r, h, hn => by
    simp only [List.map_cons, List.nodup_cons] at hn
    simp only [addAll, find]
    rw [find_addAll hn.2, find_put]
    by_cases e : k = m
    · subst e
      have : find k r = none := by
        cases hf : find k r with
        | none => rfl
        | some x => exact absurd (find_keys.1 (by rw [hf]; simp)) hn.1
      simp [this]
    · simp [e]
theorem find_delAll {k : Nat} : ∀ {l : List Nat} {h : Heap}, find k (delAll l h) = if k ∈ l then none else find k h
  | [], h => by simp [delAll]
  | m :: r, h => by
    simp only [delAll]
    rw [find_delAll, find_del]
    by_cases e : k = m
    · simp [e]
    · simp [e]
theorem mem_rowsVs {rid : Nat → Nat → Nat} {k : Nat} {o : Ob} : ∀ {vs : List AV} {j : Nat}, (k, o) ∈ rowsVs rid j vs → ∃ j' v i t xs, vs[j']? = some v ∧ v.cells[i]? = some (.ow t xs) ∧ k = rid (j + j') i ∧ o = .row t xs
  | [], j, h => by simp [rowsVs] at h
  | v :: r, j, h => by
    simp only [rowsVs] at h
    rcases List.mem_append.1 h with h | h
    · obtain ⟨i, t, xs, h1, h2, h3⟩ := mem_rowsCs h
      exact ⟨0, v, i, t, xs, rfl, h1, by simpa using h2, h3⟩
    · obtain ⟨j', v', i, t, xs, h1, h2, h3, h4⟩ := mem_rowsVs h
      exact ⟨j' + 1, v', i, t, xs, by simpa using h1, h2, by rw [h3]; congr 1; omega, h4⟩

section
variable {dst : Option Nat} {ks : List Nat} {v : AV} {os : List Ob}
theorem heapR_notok {k : Nat} : (k, Ob.tok) ∉ heapR v os := by
  intro hm
  rcases List.mem_append.1 hm with hm | hm
  · obtain ⟨m, o, _, h2⟩ := mem_unpack hm
    rcases h2 with ⟨_, ⟨_, _, h⟩ | ⟨h1, h2, _⟩⟩ | ⟨_, _, _, _, _, _, _, h⟩
    · cases h
    · exact h2 h1.symm
    · cases h
  · obtain ⟨_, _, _, _, _, _, _, _, h⟩ := mem_rowsVs hm
    cases h
/-- Which numbers there are. -/
theorem heapR_keys (hok : objsOk os = true) (hr : resOk v = true) {i : Nat} (hi : i ∈ keys (heapR v os)) : i < 100 ∨ ∃ x, x < 16384 ∧ psi dst ks i = nk dst x := by
  obtain ⟨ho1, ho2⟩ := objsOk_spec hok
  simp only [resOk, Bool.and_eq_true, Nat.ble_eq] at hr
  obtain ⟨⟨k, o⟩, hm, rfl⟩ := List.mem_map.1 hi
  rcases List.mem_append.1 hm with hm | hm
  · obtain ⟨m, o', h1, h2⟩ := mem_unpack hm
    have hlt := (List.getElem?_eq_some_iff.1 h1).1
    rcases h2 with ⟨rfl, _⟩ | ⟨cs, i, t, xs, rfl, h3, rfl, _⟩
    · left; show 0 + m < 100; omega
    · right
      have := (ho2 m cs h1).1
      have hi := (List.getElem?_eq_some_iff.1 h3).1
      refine ⟨128 + m * 128 + i, by omega, ?_⟩
      show psi dst ks (rid0 (0 + m) i) = _
      rw [Nat.zero_add, psi_rid (by omega) (by omega)]
      rfl
  · right
    obtain ⟨j, v', i, t, xs, h1, h2, rfl, _⟩ := mem_rowsVs hm
    have hlt := (List.getElem?_eq_some_iff.1 h1).1
    have hi := (List.getElem?_eq_some_iff.1 h2).1
    have := List.all_eq_true.1 hr.2 v' (List.mem_of_getElem? h1)
    simp only [cellsOk, Bool.and_eq_true, Nat.ble_eq] at this
    refine ⟨13000 + j * 128 + i, by omega, ?_⟩
    show psi dst ks (rrd0 (0 + j) i) = _
    rw [Nat.zero_add, psi_rrd (by omega)]
    rfl
omit [Reg] in
theorem nk_add (dst : Option Nat) (x : Nat) : nk dst x = nk dst 0 + x := by
  unfold nk
  rw [Nat.add_zero]
theorem psi_cases (hok : objsOk os = true) (hr : resOk v = true) {i : Nat} (hi : i ∈ keys (heapR v os)) : (i < 100 ∧ ks[i]? = some (psi dst ks i)) ∨ (ks[i]? = none ∨ 100 ≤ i) ∧ ∃ x, x < 16384 ∧ psi dst ks i = nk dst x := by
  by_cases h100 : i < 100
  · rw [psi_bid (by omega)]
    unfold bidOf
    cases hk : ks[i]? with
    | some k => exact .inl ⟨h100, rfl⟩
    | none => exact .inr ⟨.inl rfl, i, by omega, rfl⟩
  · rcases heapR_keys (dst := dst) (ks := ks) hok hr hi with h | h
    · exact absurd h h100
    · exact .inr ⟨.inr (by omega), h⟩
theorem bk_some {i k : Nat} (e : bk dst ks v os i = some k) : i ∈ keys (heapR v os) ∧ psi dst ks i = k := by
  unfold bk at e
  split at e
  · rename_i hm
    simp only [Option.some.injEq] at e
    exact ⟨hm, e⟩
  · simp at e
theorem bk_low (hok : objsOk os = true) (hr : resOk v = true) (hfar : ks.all (far dst) = true) {i k : Nat} (e : bk dst ks v os i = some k) (hk : k ∈ ks) : i < 100 ∧ ks[i]? = some k := by
  obtain ⟨h1, h2⟩ := bk_some e
  rcases psi_cases (dst := dst) (ks := ks) hok hr h1 with ⟨h3, h4⟩ | ⟨_, x, h3, h4⟩
  · exact ⟨h3, by rw [← h2]; exact h4⟩
  · exfalso
    have := List.all_eq_true.1 hfar k hk
    rw [h2] at h4
    have e1 := nk_add dst x
    have e2 := nk_add dst 16384
    simp only [far, Bool.or_eq_true, Nat.ble_eq] at this
    rcases this with h | h
    · have := blt_iff.1 h; omega
    · omega
theorem bk_new (hok : objsOk os = true) (hr : resOk v = true) {i k : Nat} (e : bk dst ks v os i = some k) (hk : k ∉ ks) : 1000 ≤ k := by
  obtain ⟨h1, h2⟩ := bk_some e
  rcases psi_cases (dst := dst) (ks := ks) hok hr h1 with ⟨h3, h4⟩ | ⟨_, x, h3, h4⟩
  · rw [h2] at h4
    exact absurd (List.mem_of_getElem? h4) hk
  · rw [h2] at h4
    have e1 := nk_add dst x
    have := nk_big dst 0
    omega
theorem phi_mem {k m : Nat} (e : phi h ks k = some m) : k ∈ ks ++ inls h ks := by
  unfold phi at e
  split at e
  · rename_i m' hm
    exact List.mem_append.2 (.inl (List.mem_of_getElem? (idxOf_spec hm).2))
  · split at e
    · rename_i n i hr
      obtain ⟨_, k0, cs, t, h1, h2, h3⟩ := rowIx_spec hr
      exact List.mem_append.2 (.inr (List.mem_flatMap.2 ⟨k0, List.mem_of_getElem? h1, by rw [h2]; exact List.mem_flatMap.2 ⟨.vw k t, List.mem_of_getElem? h3, by simp⟩⟩))
    · simp at e
end

/-- What comes back, beside all that the caller kept. -/
theorem back_stp {ks : List Nat} {os os' : List Ob} {r : AV} {dst : Option Nat} (hi : Inv c γ D st a w) (hnd : (ks ++ inls st.h ks).Nodup) (hos : mapO (packO st.h ks) ks = some os) (hok : objsOk os = true) (hk0 : (keys (heap0 os)).Nodup) (hnt : os.all notTok = true)
    (hok' : objsOk os' = true) (hr : resOk r = true) (hn : (keys (backL dst ks r os')).Nodup) (hnew : (newsOf ks (backL dst ks r os')).all (isNew st.u) = true) (hfar : ks.all (far dst) = true)
    (hH : HOk γ' (heapR r os') (keys (heapR r os')) w' D') (hF : Fr ⟨w, D, γ.ren (phi st.h ks) (heap0 os), heap0 os⟩ os.length γ' D' (heapR r os') w') :
    ∃ γf, Stp γ γf st.h (addAll (backL dst ks r os') (delAll (ks ++ inls st.h ks) st.h)) st.u (newsOf ks (backL dst ks r os') ++ st.u) w w' D D' ∧
      ∀ cv, RepV γ' (heapR r os') (keys (heapR r os')) w' D' (inR (fun n => n) rrd0 r) cv → RepV γf (addAll (backL dst ks r os') (delAll (ks ++ inls st.h ks) st.h)) (newsOf ks (backL dst ks r os') ++ st.u) w' D' (inR (bidOf dst ks) (rrdOf dst) r) cv := by
  have rO := ren_out (u := st.u) hnd hos hok hk0 hnt
  obtain ⟨rB, hnR⟩ := ren_back (dst := dst) (ks := ks) hok' hr hn
  obtain ⟨hl, hp⟩ := mapO_spec hos
  have hB := rB.hok hH
  generalize hG : γ'.ren (bk dst ks r os') (backL dst ks r os') = γB at hB
  generalize hL : backL dst ks r os' = l at *
  generalize hX : ks ++ inls st.h ks = X at *
  generalize hgo : γ.ren (phi st.h ks) (heap0 os) = γ0 at hF
  have hksu : ∀ k ∈ ks, find k st.h ≠ none := fun k hk e => by
    obtain ⟨n, hn⟩ := List.getElem?_of_mem hk
    have hlt : n < os.length := by rw [hl]; exact (List.getElem?_eq_some_iff.1 hn).1
    obtain ⟨k', h1, h2⟩ := hp n os[n] (List.getElem?_eq_getElem hlt)
    rw [hn] at h1
    cases h1
    have h3 := List.all_eq_true.1 hnt _ (List.getElem_mem hlt)
    unfold packO at h2
    rw [e] at h2
    simp only [Option.some.injEq] at h2
    rw [← h2] at h3
    simp [notTok] at h3
  have hksX : ∀ k ∈ ks, k ∈ X := fun k hk => by rw [← hX]; exact List.mem_append.2 (.inl hk)
  have hKu : ∀ k, k ∈ keys l → k ∈ st.u → k ∈ ks := fun k h1 h2 => Classical.byContradiction fun h3 => by
    have : k ∈ newsOf ks l := List.mem_filter.2 ⟨h1, by simp [h3]⟩
    have := List.all_eq_true.1 hnew k this
    simp [isNew, h2] at this
  have f1 : ∀ {k}, k ∈ keys l → find k (addAll l (delAll X st.h)) = find k l := fun {k} hk => by
    rw [find_addAll hn]
    cases hf : find k l with
    | some o => rfl
    | none => exact absurd hf (find_keys.2 hk)
  have f2 : ∀ {k}, k ∉ keys l → find k (addAll l (delAll X st.h)) = if k ∈ X then none else find k st.h := fun {k} hk => by
    rw [find_addAll hn, find_delAll]
    cases hf : find k l with
    | some o => exact absurd (find_keys.1 (by rw [hf]; simp)) hk
    | none => rfl
  have o0 : ∀ {b}, γ0.own b ≠ none → ∃ k, γ.own b = some k ∧ k ∈ X := fun {b} e => by
    cases ho : γ0.own b with
    | none => exact absurd ho e
    | some j =>
      rw [← hgo] at ho
      obtain ⟨k, h1, h2, _⟩ := Ren.own ho
      exact ⟨k, h1, by rw [← hX]; exact phi_mem h2⟩
  have o0n : ∀ {b k}, γ.own b = some k → k ∉ X → γ0.own b = none := fun {b k} h1 h2 => Classical.byContradiction fun h3 => by
    obtain ⟨k', h4, h5⟩ := o0 h3
    rw [h1] at h4
    cases h4
    exact h2 h5
  have oB : ∀ {b j}, γB.own b = some j → j ∈ keys l ∧ (w.heap.size ≤ b ∨ γ0.own b ≠ none) := fun {b j} e => by
    rw [← hG] at e
    obtain ⟨i, h1, h2, h3⟩ := Ren.own e
    exact ⟨find_keys.1 h3, hF.ow b i h1⟩
  have oBn : ∀ {b k}, γ.own b = some k → k ∉ X → γB.own b = none := fun {b k} h1 h2 => by
    cases hb : γB.own b with
    | none => rfl
    | some j =>
      exfalso
      rcases (oB hb).2 with h3 | h3
      · have := (hi.hp.own b k h1).1; omega
      · exact h3 (o0n h1 h2)
  let γf : Gh := ⟨fun k => if k ∈ keys l then γB.g k else γ.g k, fun b => match γB.own b with | some k => some k | none => (match γ.own b with | some k => if k ∈ X then none else some k | none => none)⟩
  have g1 : ∀ {k}, k ∈ keys l → γf.g k = γB.g k := fun {k} hk => if_pos hk
  have g2 : ∀ {k}, k ∉ keys l → γf.g k = γ.g k := fun {k} hk => if_neg hk
  have w1 : ∀ {b k}, γB.own b = some k → γf.own b = some k := fun {b k} e => by simp only [γf, e]
  have w2 : ∀ {b k}, γ.own b = some k → k ∉ X → γf.own b = some k := fun {b k} e hx => by simp only [γf, oBn e hx, e, if_neg hx]
  have w3 : ∀ {b k}, γf.own b = some k → γB.own b = some k ∨ (γ.own b = some k ∧ k ∉ X) := fun {b k} e => by
    simp only [γf] at e
    split at e
    · rename_i j hj
      rw [hj]; exact .inl e
    · split at e
      · rename_i j hj
        split at e
        · simp at e
        · rename_i hx
          simp only [Option.some.injEq] at e
          subst e
          exact .inr ⟨hj, hx⟩
      · simp at e
  have hXK : ∀ {k}, k ∈ st.u → k ∉ X → k ∉ keys l := fun {k} h1 h2 h3 => h2 (hksX k (hKu k h3 h1))
  have kept : ∀ {b k}, γ.own b = some k → k ∉ X → w'.heap[b]? = w.heap[b]? ∧ ∀ o, D' b o → D b o := fun {b k} h1 h2 => by
    have hb := (hi.hp.own b k h1).1
    exact ⟨hF.block b hb (o0n h1 h2), fun o => hF.dd.2 b o hb (o0n h1 h2)⟩
  have pres : Pres D w w' := fun b o hd => by
    have hb := hi.dl b o hd
    cases ho : γ0.own b with
    | none =>
      have := hF.block b hb ho
      simp only [World.cell?, this]
    | some j =>
      exfalso
      have h0 := ho
      rw [← hgo] at h0
      have hok0 := rO.hok hi.hp
      refine hok0.lv b j h0 (fun e => ?_) o hd
      obtain ⟨m, o', h1, h2⟩ := mem_unpack (find_mem e)
      rcases h2 with ⟨_, ⟨_, _, h⟩ | ⟨h1, h2, _⟩⟩ | ⟨_, _, _, _, _, _, _, h⟩
      · cases h
      · exact h2 h1.symm
      · cases h
  -- a number of the caller's that is also the callee's
  have both : ∀ {k o}, k ∈ ks → find k l = some o → ∃ n, n < os.length ∧ ks[n]? = some k ∧ bk dst ks r os' n = some k ∧ phi st.h ks k = some n ∧ γB.g k = γ'.g n ∧ γ0.g n = γ.g k := fun {k o} hk hf => by
    have hf' := hf
    rw [← hL] at hf'
    obtain ⟨i, oi, h1, h2, _⟩ := rB.at_ k o hf
    obtain ⟨h3, h4⟩ := bk_low hok' hr hfar h1 hk
    have hph : phi st.h ks k = some i := phi_idx (by
      have hnk : ks.Nodup := by rw [← hX] at hnd; exact (List.nodup_append.1 hnd).1
      have := idxOf_at (i := 0) hnk h4
      simpa using this)
    exact ⟨i, by rw [hl]; exact (List.getElem?_eq_some_iff.1 h4).1, h4, h1, hph, by rw [← hG]; exact rB.g h1, by rw [← hgo]; exact rO.g hph⟩
  have same : ∀ k ∈ st.u, Same γ γf st.h (addAll l (delAll X st.h)) w w' D D' k := fun k hku => by
    by_cases hK : k ∈ keys l
    · have hks := hKu k hK hku
      refine ⟨fun cs' e => ?_, fun t xs e => ?_, fun t xs e => ?_, fun e => ?_⟩ <;> rw [f1 hK] at e <;> obtain ⟨n, n1, n2, n3, n4, n5, n6⟩ := both hks e
      · obtain ⟨cs, h1, _⟩ := rB.box n3 e
        obtain ⟨⟨cs0, h2⟩, h3⟩ := hF.ob n n1 cs h1
        obtain ⟨cs1, h4, _⟩ := rO.box n4 h2
        exact ⟨⟨cs1, h4⟩, by rw [g1 hK, n5, h3, n6]⟩
      · have h1 := rB.row n3 e
        obtain ⟨⟨xs0, h2, h2'⟩, h3, h4⟩ := hF.or n n1 t xs h1
        refine ⟨⟨xs0, rO.row n4 h2, h2'⟩, by rw [g1 hK, n5, h3, n6], fun ho => ⟨?_, fun n => hF.lg _ n⟩⟩
        have h5 : γ0.own (γ.g k).1 = some n := by rw [← hgo]; exact Ren.own_of ho n4 (by rw [h2]; simp)
        rw [h3, n6] at h4
        refine w1 ?_
        rw [← hG]
        exact Ren.own_of (h4 h5) n3 (by rw [e]; simp)
      · have h1 := rB.fz n3 e
        rcases hF.ofz n n1 t xs h1 with h2 | ⟨⟨xs0, h2, h2'⟩, h3⟩
        · exact .inl (rO.fz n4 h2)
        · refine .inr ⟨⟨xs0, rO.row n4 h2, h2'⟩, ?_⟩
          have h3' := h3
          simp only [n6] at h3'
          exact h3'
      · exact absurd (find_mem (rB.tok n3 e)) heapR_notok
    · have hf := f2 hK
      by_cases hx : k ∈ X
      · rw [if_pos hx] at hf
        refine ⟨fun cs' e => ?_, fun t xs e => ?_, fun t xs e => ?_, fun e => ?_⟩ <;> rw [hf] at e <;> cases e
      · rw [if_neg hx] at hf
        refine ⟨fun cs' e => ?_, fun t xs e => ?_, fun t xs e => ?_, fun e => ?_⟩ <;> rw [hf] at e
        · exact ⟨⟨cs', e⟩, by rw [g2 hK]⟩
        · exact ⟨⟨xs, e, rfl⟩, g2 hK, fun ho => ⟨w2 ho hx, fun n => hF.lg _ n⟩⟩
        · exact .inl e
        · refine ⟨e, g2 hK, fun ho => ⟨w2 ho hx, fun n hb => ?_, (kept ho hx).2⟩⟩
          obtain ⟨vs, E, fr, q1, q2, q3⟩ := hb
          exact ⟨vs, E, fr, (kept ho hx).1.trans q1, q2, q3⟩
  have sameB : ∀ k ∈ keys l, Same γB γf l (addAll l (delAll X st.h)) w' w' D' D' k := fun k hK => by
    refine ⟨fun cs' e => ?_, fun t xs e => ?_, fun t xs e => ?_, fun e => ?_⟩ <;> rw [f1 hK] at e
    · exact ⟨⟨cs', e⟩, by rw [g1 hK]⟩
    · exact ⟨⟨xs, e, rfl⟩, g1 hK, fun ho => ⟨w1 ho, fun n hb => hb⟩⟩
    · exact .inl e
    · exact ⟨e, g1 hK, fun ho => ⟨w1 ho, fun n hb => hb, fun o hd => hd⟩⟩
  have uB : ∀ k ∈ keys l, k ∈ newsOf ks l ++ st.u := fun k hK => by
    by_cases hks : k ∈ ks
    · exact List.mem_append.2 (.inr (hi.hp.u k (hksu k hks)))
    · exact List.mem_append.2 (.inl (List.mem_filter.2 ⟨hK, by simp [hks]⟩))
  have uA : ∀ k ∈ st.u, k ∈ newsOf ks l ++ st.u := fun k hk => List.mem_append.2 (.inr hk)
  have presB : Pres D' w' w' := fun _ _ _ => rfl
  have f3 : ∀ {k o}, k ∉ keys l → find k (addAll l (delAll X st.h)) = some o → find k st.h = some o ∧ k ∉ X := fun {k o} hK e => by
    rw [f2 hK] at e
    split at e
    · simp at e
    · rename_i hx; exact ⟨e, hx⟩
  refine ⟨γf, ⟨pres, hF.dd.1, uA, same, ⟨fun k cs e => ?_, fun k t xs e => ?_, fun b k ho => ?_, fun b k ho e o hd => ?_, fun k e => ?_⟩, hF.os, hF.tape, hF.output, hF.size, fun b hb ho => ?_, hF.lg, fun b k ho => ?_, hF.dl, fun k hk e => ?_⟩, fun cv hR => ?_⟩
  · by_cases hK : k ∈ keys l
    · rw [f1 hK] at e
      obtain ⟨q1, vs, E, q2, q3, q4⟩ := hB.box k cs e
      rw [g1 hK]
      exact ⟨w1 q1, vs, E, q2, q3, fun i c' v' h1 h2 => ⟨(q4 i c' v' h1 h2).1.mono presB (fun _ _ h => h) uB sameB, (q4 i c' v' h1 h2).2⟩⟩
    · obtain ⟨e, hx⟩ := f3 hK e
      obtain ⟨q1, vs, E, q2, q3, q4⟩ := hi.hp.box k cs e
      rw [g2 hK]
      exact ⟨w2 q1 hx, vs, E, (kept q1 hx).1.trans q2, q3, fun i c' v' h1 h2 => ⟨(q4 i c' v' h1 h2).1.mono pres hF.dd.1 uA same, (q4 i c' v' h1 h2).2⟩⟩
  · by_cases hK : k ∈ keys l
    · rw [f1 hK] at e
      rw [g1 hK]
      refine (hB.row k t xs e).imp id ?_
      rintro ⟨q1, q2⟩
      exact ⟨w1 q1, q2⟩
    · obtain ⟨e, hx⟩ := f3 hK e
      rw [g2 hK]
      refine (hi.hp.row k t xs e).imp id ?_
      rintro ⟨q1, vs, E, q2, q3, q4⟩
      exact ⟨w2 q1 hx, vs, E, (kept q1 hx).1.trans q2, q3, fun q c' v' h1 h2 => (q4 q c' v' h1 h2).mono pres hF.dd.1⟩
  · rcases w3 ho with ho | ⟨ho, hx⟩
    · have hK := (oB ho).1
      obtain ⟨q1, q2, q3⟩ := hB.own b k ho
      exact ⟨q1, by rw [f1 hK]; exact q2, by rw [g1 hK]; exact q3⟩
    · obtain ⟨q1, q2, q3⟩ := hi.hp.own b k ho
      have hK := hXK (hi.hp.u k q2) hx
      exact ⟨Nat.lt_of_lt_of_le q1 hF.size, by rw [f2 hK, if_neg hx]; exact q2, by rw [g2 hK]; exact q3⟩
  · rcases w3 ho with ho | ⟨ho, hx⟩
    · have hK := (oB ho).1
      rw [f1 hK] at e
      exact hB.lv b k ho e o hd
    · obtain ⟨q1, q2, q3⟩ := hi.hp.own b k ho
      have hK := hXK (hi.hp.u k q2) hx
      rw [f2 hK, if_neg hx] at e
      exact hi.hp.lv b k ho e o ((kept ho hx).2 o hd)
  · by_cases hK : k ∈ keys l
    · exact uB k hK
    · rw [f2 hK] at e
      split at e
      · simp at e
      · exact uA k (hi.hp.u k e)
  · have h0 : γ0.own b = none := Classical.byContradiction fun h3 => by
      obtain ⟨k', h4, _⟩ := o0 h3
      rw [ho] at h4
      cases h4
    exact ⟨hF.block b hb h0, fun o => hF.dd.2 b o hb h0⟩
  · rcases w3 ho with ho | ⟨ho, _⟩
    · refine (oB ho).2.imp id fun h3 => ?_
      obtain ⟨k', h4, _⟩ := o0 h3
      rw [h4]; simp
    · right; rw [ho]; simp
  · by_cases hK : k ∈ keys l
    · have hks : k ∈ ks := Classical.byContradiction fun hks => by
        cases hf : find k l with
        | none => exact absurd hf (find_keys.2 hK)
        | some o =>
          obtain ⟨i, oi, h1, _⟩ := rB.at_ k o hf
          have := bk_new hok' hr h1 hks
          omega
      refine ⟨hksu k hks, fun hnf => ?_⟩
      rw [f1 hK] at e hnf
      cases hf : find k l with
      | none => exact absurd hf e
      | some o =>
        obtain ⟨n, n1, n2, n3, n4, n5, n6⟩ := both hks hf
        rw [g1 hK, n5]
        cases o with
        | box cs' =>
          obtain ⟨cs, h1, _⟩ := rB.box n3 hf
          rw [(hF.ob n n1 cs h1).2, n6]
        | row t xs => rw [(hF.or n n1 t xs (rB.row n3 hf)).2.1, n6]
        | fz t xs => exact absurd hf (hnf t xs)
        | tok => exact absurd (find_mem (rB.tok n3 hf)) heapR_notok
    · rw [f2 hK] at e
      split at e
      · simp at e
      · exact ⟨e, fun _ => g2 hK⟩
  · have h1 := rB.repV hR
    rw [inR_bk hr hR, hG] at h1
    exact h1.mono presB (fun _ _ h => h) uB sameB
end
end
end Go.AM
