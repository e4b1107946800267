/- A part of the proof: machine and program. -/
import Derived.Test.YtpdifkaeiecdpaaAm11
import Derived.Laws.Sem
namespace Go.AM
open Go.RowKit Go.Lib
section
variable [Reg]

/-- What a call leaves as it was; the first m objects were handed in. -/
structure Fr (c : Ctx) (m : Nat) (γ : Gh) (D : Dead) (h : Heap) (w : World) : Prop where
  os : w.os = c.w.os
  tape : w.tape = c.w.tape
  output : w.output = c.w.output
  size : c.w.heap.size ≤ w.heap.size
  block : ∀ b, b < c.w.heap.size → c.γ.own b = none → w.heap[b]? = c.w.heap[b]?
  lg : ∀ b n, Blk c.w b n → Blk w b n
  ow : ∀ b k, γ.own b = some k → c.w.heap.size ≤ b ∨ c.γ.own b ≠ none
  dd : (∀ b o, c.D b o → D b o) ∧ ∀ b o, b < c.w.heap.size → c.γ.own b = none → D b o → c.D b o
  dl : ∀ b o, D b o → b < w.heap.size
  ob : ∀ k, k < m → ∀ cs, find k h = some (.box cs) → (∃ cs0, find k c.os = some (.box cs0)) ∧ γ.g k = c.γ.g k
  or : ∀ k, k < m → ∀ t xs, find k h = some (.row t xs) → (∃ xs0, find k c.os = some (.row t xs0) ∧ xs0.length = xs.length) ∧ γ.g k = c.γ.g k ∧ (c.γ.own (γ.g k).1 = some k → γ.own (γ.g k).1 = some k)
  ofz : ∀ k, k < m → ∀ t xs, find k h = some (.fz t xs) → find k c.os = some (.fz t xs) ∨ ((∃ xs0, find k c.os = some (.row t xs0) ∧ xs0.length = xs.length) ∧ (xs = [] ∨ ∃ f : Nat → Value, ∀ (q : Nat) (c' : AV), (flat t xs)[q]? = some c' → D (c.γ.g k).1 ((c.γ.g k).2 + q) ∧ w.cell? ⟨(c.γ.g k).1, (c.γ.g k).2 + q, none⟩ = some (f q) ∧ RepD w D c' (f q)))
/-- What a function may count on. -/
structure Pre (c : Ctx) (vs : List AV) (os : List Ob) (args : Array Value) : Prop where
  hd : c.os = heap0 os
  nd : (keys (heap0 os)).Nodup
  nt : os.all notTok = true
  ok : HOk c.γ (heap0 os) (keys (heap0 os)) c.w c.D
  dl : ∀ b o, c.D b o → b < c.w.heap.size
  size : args.size = vs.length
  args : ∀ (i : Nat) (v : AV) (cv : Value), vs[i]? = some v → args[i]? = some cv → RepB c.γ (heap0 os) (keys (heap0 os)) c.w c.D v cv
/-- .. and what it owes. -/
def Post (c : Ctx) (m : Nat) (r : AV) (os : List Ob) (e : Ending) (w : World) : Prop :=
  ∃ cv γ D, e = .returned cv ∧ (objsOk os = true → resOk r = true → (keys (heapR r os)).Nodup → HOk γ (heapR r os) (keys (heapR r os)) w D ∧ RepV γ (heapR r os) (keys (heapR r os)) w D (inR (fun n => n) rrd0 r) cv ∧ Fr c m γ D (heapR r os) w)
def SoundF (P : Program) (F : Fns) : Prop :=
  ∀ f vs os r os', (F f vs os).val = some (r, os') →
    (∃ fn, P.funcs[f % 1000000]? = some fn ∧ (fn.name == "runtime.NumGoroutine") = false ∧ fn.body.isNone = false) ∧
    ∀ (c : Ctx) (args : Array Value), Pre c vs os args → Calls P (f % 1000000) args c.w (Post c os.length r os')

section
variable {P : Program} {c : Ctx} {γ γ' γ'' : Gh} {D D' D'' : Dead} {st : St} {a : Act} {w w' w'' : World} {tb : Tb} {H : Hints} {h h' h'' : Heap} {u u' u'' : List Nat}

theorem find_addAll {k : Nat} : ∀ {l : Heap} {h : Heap}, (keys l).Nodup → find k (addAll l h) = match find k l with | some o => some o | none => find k h
  | [], h, _ => rfl
  | (m, o) :: r, h, hn => by
    simp only [List.map_cons, List.nodup_cons] at hn
    simp only [addAll, find]
    rw [find_addAll hn.2, find_put]
    by_cases e : k = m
    · subst e
      have : find k r = none := by
        cases hf : find k r with
        | none => rfl
        | some x => exact absurd (find_keys.1 (by rw [hf]; simp)) hn.1
      simp [this]
    · simp [e]
theorem find_delAll {k : Nat} : ∀ {l : List Nat} {h : Heap}, find k (delAll l h) = if k ∈ l then none else find k h
  | [], h => by simp [delAll]
  | m :: r, h => by
    simp only [delAll]
    rw [find_delAll, find_del]
    by_cases e : k = m
    · simp [e]
    · simp [e]
theorem mem_rowsVs {rid : Nat → Nat → Nat} {k : Nat} {o : Ob} : ∀ {vs : List AV} {j : Nat}, (k, o) ∈ rowsVs rid j vs → ∃ j' v i t xs, vs[j']? = some v ∧ v.cells[i]? = some (.ow t xs) ∧ k = rid (j + j') i ∧ o = .row t xs
  | [], j, h => by simp [rowsVs] at h
  | v :: r, j, h => by
    simp only [rowsVs] at h
    rcases List.mem_append.1 h with h | h
    · obtain ⟨i, t, xs, h1, h2, h3⟩ := mem_rowsCs h
      exact ⟨0, v, i, t, xs, rfl, h1, by simpa using h2, h3⟩
    · obtain ⟨j', v', i, t, xs, h1, h2, h3, h4⟩ := mem_rowsVs h
      exact ⟨j' + 1, v', i, t, xs, by simpa using h1, h2, by rw [h3]; congr 1; omega, h4⟩

section
variable {dst : Option Nat} {ks : List Nat} {v : AV} {os : List Ob}
theorem heapR_notok {k : Nat} : (k, Ob.tok) ∉ heapR v os := by
  intro hm
  rcases List.mem_append.1 hm with hm | hm
  · obtain ⟨m, o, _, h2⟩ := mem_unpack hm
    rcases h2 with ⟨_, ⟨_, _, h⟩ | ⟨h1, h2, _⟩⟩ | ⟨_, _, _, _, _, _, _, h⟩
    · cases h
    · exact h2 h1.symm
    · cases h
  · obtain ⟨_, _, _, _, _, _, _, _, h⟩ := mem_rowsVs hm
    cases h
/-- Which numbers there are. -/
theorem heapR_keys (hok : objsOk os = true) (hr : resOk v = true) {i : Nat} (hi : i ∈ keys (heapR v os)) : i < 100 ∨ ∃ x, x < 16384 ∧ psi dst ks i = nk dst x := by
  obtain ⟨ho1, ho2⟩ := objsOk_spec hok
  simp only [resOk, Bool.and_eq_true, Nat.ble_eq] at hr
  obtain ⟨⟨k, o⟩, hm, rfl⟩ := List.mem_map.1 hi
  rcases List.mem_append.1 hm with hm | hm
  · obtain ⟨m, o', h1, h2⟩ := mem_unpack hm
    have hlt := (List.getElem?_eq_some_iff.1 h1).1
    rcases h2 with ⟨rfl, _⟩ | ⟨cs, i, t, xs, rfl, h3, rfl, _⟩
    · left; show 0 + m < 100; omega
    · right
      have := (ho2 m cs h1).1
      have hi := (List.getElem?_eq_some_iff.1 h3).1
      refine ⟨128 + m * 128 + i, by omega, ?_⟩
      show psi dst ks (rid0 (0 + m) i) = _
      rw [Nat.zero_add, psi_rid (by omega) (by omega)]
      rfl
  · right
    obtain ⟨j, v', i, t, xs, h1, h2, rfl, _⟩ := mem_rowsVs hm
    have hlt := (List.getElem?_eq_some_iff.1 h1).1
    have hi := (List.getElem?_eq_some_iff.1 h2).1
    have := List.all_eq_true.1 hr.2 v' (List.mem_of_getElem? h1)
    simp only [cellsOk, Bool.and_eq_true, Nat.ble_eq] at this
    refine ⟨13000 + j * 128 + i, by omega, ?_⟩
    show psi dst ks (rrd0 (0 + j) i) = _
    rw [Nat.zero_add, psi_rrd (by omega)]
    rfl
omit [Reg] in
theorem nk_add (dst : Option Nat) (x : Nat) : nk dst x = nk dst 0 + x := by
  unfold nk
  rw [Nat.add_zero]
theorem psi_cases (hok : objsOk os = true) (hr : resOk v = true) {i : Nat} (hi : i ∈ keys (heapR v os)) : (i < 100 ∧ ks[i]? = some (psi dst ks i)) ∨ (ks[i]? = none ∨ 100 ≤ i) ∧ ∃ x, x < 16384 ∧ psi dst ks i = nk dst x := by
  by_cases h100 : i < 100
  · rw [psi_bid (by omega)]
    unfold bidOf
    cases hk : ks[i]? with
    | some k => exact .inl ⟨h100, rfl⟩
    | none => exact .inr ⟨.inl rfl, i, by omega, rfl⟩
  · rcases heapR_keys (dst := dst) (ks := ks) hok hr hi with h | h
    · exact absurd h h100
    · exact .inr ⟨.inr (by omega), h⟩
theorem bk_some {i k : Nat} (e : bk dst ks v os i = some k) : i ∈ keys (heapR v os) ∧ psi dst ks i = k := by
  unfold bk at e
  split at e
  · rename_i hm
    simp only [Option.some.injEq] at e
    exact ⟨hm, e⟩
  · simp at e
theorem bk_low (hok : objsOk os = true) (hr : resOk v = true) (hfar : ks.all (far dst) = true) {i k : Nat} (e : bk dst ks v os i = some k) (hk : k ∈ ks) : i < 100 ∧ ks[i]? = some k := by
  obtain ⟨h1, h2⟩ := bk_some e
  rcases psi_cases (dst := dst) (ks := ks) hok hr h1 with ⟨h3, h4⟩ | ⟨_, x, h3, h4⟩
  · exact ⟨h3, by rw [← h2]; exact h4⟩
  · exfalso
    have := List.all_eq_true.1 hfar k hk
    rw [h2] at h4
    have e1 := nk_add dst x
    have e2 := nk_add dst 16384
    simp only [far, Bool.or_eq_true, Nat.ble_eq] at this
    rcases this with h | h
    · have := blt_iff.1 h; omega
    · omega
theorem bk_new (hok : objsOk os = true) (hr : resOk v = true) {i k : Nat} (e : bk dst ks v os i = some k) (hk : k ∉ ks) : 1000 ≤ k := by
  obtain ⟨h1, h2⟩ := bk_some e
  rcases psi_cases (dst := dst) (ks := ks) hok hr h1 with ⟨h3, h4⟩ | ⟨_, x, h3, h4⟩
  · rw [h2] at h4
    exact absurd (List.mem_of_getElem? h4) hk
  · rw [h2] at h4
    have e1 := nk_add dst x
    have := nk_big dst 0
    omega
theorem phi_mem {k m : Nat} (e : phi h ks k = some m) : k ∈ ks ++ inls h ks := by
  unfold phi at e
  split at e
  · rename_i m' hm
    exact List.mem_append.2 (.inl (List.mem_of_getElem? (idxOf_spec hm).2))
  · split at e
    · rename_i n i hr
      obtain ⟨_, k0, cs, t, h1, h2, h3⟩ := rowIx_spec hr
      exact List.mem_append.2 (.inr (List.mem_flatMap.2 ⟨k0, List.mem_of_getElem? h1, by rw [h2]; exact List.mem_flatMap.2 ⟨.vw k t, List.mem_of_getElem? h3, by simp⟩⟩))
    · simp at e
end

/-- What comes back, beside all that the caller kept. -/
theorem back_stp {ks : List Nat} {os os' : List Ob} {r : AV} {dst : Option Nat} (hi : Inv c γ D st a w) (hnd : (ks ++ inls st.h ks).Nodup) (hos : mapO (packO st.h ks) ks = some os) (hok : objsOk os = true) (hk0 : (keys (heap0 os)).Nodup) (hnt : os.all notTok = true)
    (hok' : objsOk os' = true) (hr : resOk r = true) (hn : (keys (backL dst ks r os')).Nodup) (hnew : (newsOf ks (backL dst ks r os')).all (isNew st.u) = true) (hfar : ks.all (far dst) = true)
    (hH : HOk γ' (heapR r os') (keys (heapR r os')) w' D') (hF : Fr ⟨w, D, γ.ren (phi st.h ks) (heap0 os), heap0 os⟩ os.length γ' D' (heapR r os') w') :
    ∃ γf, Stp γ γf st.h (addAll (backL dst ks r os') (delAll (ks ++ inls st.h ks) st.h)) st.u (newsOf ks (backL dst ks r os') ++ st.u) w w' D D' ∧
      ∀ cv, RepV γ' (heapR r os') (keys (heapR r os')) w' D' (inR (fun n => n) rrd0 r) cv → RepV γf (addAll (backL dst ks r os') (delAll (ks ++ inls st.h ks) st.h)) (newsOf ks (backL dst ks r os') ++ st.u) w' D' (inR (bidOf dst ks) (rrdOf dst) r) cv := by
  have rO := ren_out (u := st.u) hnd hos hok hk0 hnt
  obtain ⟨rB, hnR⟩ := ren_back (dst := dst) (ks := ks) hok' hr hn
  obtain ⟨hl, hp⟩ := mapO_spec hos
  have hB := rB.hok hH
  generalize hG : γ'.ren (bk dst ks r os') (backL dst ks r os') = γB at hB
  generalize hL : backL dst ks r os' = l at *
  generalize hX : ks ++ inls st.h ks = X at *
  generalize hgo : γ.ren (phi st.h ks) (heap0 os) = γ0 at hF
  have hksu : ∀ k ∈ ks, find k st.h ≠ none := fun k hk e => by
    obtain ⟨n, hn⟩ := List.getElem?_of_mem hk
    have hlt : n < os.length := by rw [hl]; exact (List.getElem?_eq_some_iff.1 hn).1
    obtain ⟨k', h1, h2⟩ := hp n os[n] (List.getElem?_eq_getElem hlt)
    rw [hn] at h1
    cases h1
    have h3 := List.all_eq_true.1 hnt _ (List.getElem_mem hlt)
    unfold packO at h2
    rw [e] at h2
    simp only [Option.some.injEq] at h2
    rw [← h2] at h3
    simp [notTok] at h3
  have hksX : ∀ k ∈ ks, k ∈ X := fun k hk => by rw [← hX]; exact List.mem_append.2 (.inl hk)
  have hKu : ∀ k, k ∈ keys l → k ∈ st.u → k ∈ ks := fun k h1 h2 => Classical.byContradiction fun h3 => by
    have : k ∈ newsOf ks l := List.mem_filter.2 ⟨h1, by simp [h3]⟩
    have := List.all_eq_true.1 hnew k this
    simp [isNew, h2] at this
  have f1 : ∀ {k}, k ∈ keys l → find k (addAll l (delAll X st.h)) = find k l := fun {k} hk => by
    rw [find_addAll hn]
    cases hf : find k l with
    | some o => rfl
    | none => exact absurd hf (find_keys.2 hk)
  have f2 : ∀ {k}, k ∉ keys l → find k (addAll l (delAll X st.h)) = if k ∈ X then none else find k st.h := fun {k} hk => by
    rw [find_addAll hn, find_delAll]
    cases hf : find k l with
    | some o => exact absurd (find_keys.1 (by rw [hf]; simp)) hk
    | none => rfl
  have o0 : ∀ {b}, γ0.own b ≠ none → ∃ k, γ.own b = some k ∧ k ∈ X := fun {b} e => by
    cases ho : γ0.own b with
    | none => exact absurd ho e
    | some j =>
      rw [← hgo] at ho
      obtain ⟨k, h1, h2, _⟩ := Ren.own ho
      exact ⟨k, h1, by rw [← hX]; exact phi_mem h2⟩
  have o0n : ∀ {b k}, γ.own b = some k → k ∉ X → γ0.own b = none := fun {b k} h1 h2 => Classical.byContradiction fun h3 => by
    obtain ⟨k', h4, h5⟩ := o0 h3
    rw [h1] at h4
    cases h4
    exact h2 h5
  have oB : ∀ {b j}, γB.own b = some j → j ∈ keys l ∧ (w.heap.size ≤ b ∨ γ0.own b ≠ none) := fun {b j} e => by
    rw [← hG] at e
    obtain ⟨i, h1, h2, h3⟩ := Ren.own e
    exact ⟨find_keys.1 h3, hF.ow b i h1⟩
  have oBn : ∀ {b k}, γ.own b = some k → k ∉ X → γB.own b = none := fun {b k} h1 h2 => by
    cases hb : γB.own b with
    | none => rfl
    | some j =>
      exfalso
      rcases (oB hb).2 with h3 | h3
      · have := (hi.hp.own b k h1).1; omega
      · exact h3 (o0n h1 h2)
  let γf : Gh := ⟨fun k => if k ∈ keys l then γB.g k else γ.g k, fun b => match γB.own b with | some k => some k | none => (match γ.own b with | some k => if k ∈ X then none else some k | none => none)⟩
  have g1 : ∀ {k}, k ∈ keys l → γf.g k = γB.g k := fun {k} hk => if_pos hk
  have g2 : ∀ {k}, k ∉ keys l → γf.g k = γ.g k := fun {k} hk => if_neg hk
  have w1 : ∀ {b k}, γB.own b = some k → γf.own b = some k := fun {b k} e => by simp only [γf, e]
  have w2 : ∀ {b k}, γ.own b = some k → k ∉ X → γf.own b = some k := fun {b k} e hx => by simp only [γf, oBn e hx, e, if_neg hx]
  have w3 : ∀ {b k}, γf.own b = some k → γB.own b = some k ∨ (γ.own b = some k ∧ k ∉ X) := fun {b k} e => by
    simp only [γf] at e
    split at e
    · rename_i j hj
      rw [hj]; exact .inl e
    · split at e
      · rename_i j hj
        split at e
        · simp at e
        · rename_i hx
          simp only [Option.some.injEq] at e
          subst e
          exact .inr ⟨hj, hx⟩
      · simp at e
  have hXK : ∀ {k}, k ∈ st.u → k ∉ X → k ∉ keys l := fun {k} h1 h2 h3 => h2 (hksX k (hKu k h3 h1))
  have kept : ∀ {b k}, γ.own b = some k → k ∉ X → w'.heap[b]? = w.heap[b]? ∧ ∀ o, D' b o → D b o := fun {b k} h1 h2 => by
    have hb := (hi.hp.own b k h1).1
    exact ⟨hF.block b hb (o0n h1 h2), fun o => hF.dd.2 b o hb (o0n h1 h2)⟩
  have pres : Pres D w w' := fun b o hd => by
    have hb := hi.dl b o hd
    cases ho : γ0.own b with
    | none =>
      have := hF.block b hb ho
      simp only [World.cell?, this]
    | some j =>
      exfalso
      have h0 := ho
      rw [← hgo] at h0
      have hok0 := rO.hok hi.hp
      refine hok0.lv b j h0 (fun e => ?_) o hd
      obtain ⟨m, o', h1, h2⟩ := mem_unpack (find_mem e)
      rcases h2 with ⟨_, ⟨_, _, h⟩ | ⟨h1, h2, _⟩⟩ | ⟨_, _, _, _, _, _, _, h⟩
      · cases h
      · exact h2 h1.symm
      · cases h
  -- a number of the caller's that is also the callee's
  have both : ∀ {k o}, k ∈ ks → find k l = some o → ∃ n, n < os.length ∧ ks[n]? = some k ∧ bk dst ks r os' n = some k ∧ phi st.h ks k = some n ∧ γB.g k = γ'.g n ∧ γ0.g n = γ.g k := fun {k o} hk hf => by
    have hf' := hf
    rw [← hL] at hf'
    obtain ⟨i, oi, h1, h2, _⟩ := rB.at_ k o hf
    obtain ⟨h3, h4⟩ := bk_low hok' hr hfar h1 hk
    have hph : phi st.h ks k = some i := phi_idx (by
      have hnk : ks.Nodup := by rw [← hX] at hnd; exact (List.nodup_append.1 hnd).1
      have := idxOf_at (i := 0) hnk h4
      simpa using this)
    exact ⟨i, by rw [hl]; exact (List.getElem?_eq_some_iff.1 h4).1, h4, h1, hph, by rw [← hG]; exact rB.g h1, by rw [← hgo]; exact rO.g hph⟩
  have same : ∀ k ∈ st.u, Same γ γf st.h (addAll l (delAll X st.h)) w w' D D' k := fun k hku => by
    by_cases hK : k ∈ keys l
    · have hks := hKu k hK hku
      refine ⟨fun cs' e => ?_, fun t xs e => ?_, fun t xs e => ?_, fun e => ?_⟩ <;> rw [f1 hK] at e <;> obtain ⟨n, n1, n2, n3, n4, n5, n6⟩ := both hks e
      · obtain ⟨cs, h1, _⟩ := rB.box n3 e
        obtain ⟨⟨cs0, h2⟩, h3⟩ := hF.ob n n1 cs h1
        obtain ⟨cs1, h4, _⟩ := rO.box n4 h2
        exact ⟨⟨cs1, h4⟩, by rw [g1 hK, n5, h3, n6]⟩
      · have h1 := rB.row n3 e
        obtain ⟨⟨xs0, h2, h2'⟩, h3, h4⟩ := hF.or n n1 t xs h1
        refine ⟨⟨xs0, rO.row n4 h2, h2'⟩, by rw [g1 hK, n5, h3, n6], fun ho => ⟨?_, fun n => hF.lg _ n⟩⟩
        have h5 : γ0.own (γ.g k).1 = some n := by rw [← hgo]; exact Ren.own_of ho n4 (by rw [h2]; simp)
        rw [h3, n6] at h4
        refine w1 ?_
        rw [← hG]
        exact Ren.own_of (h4 h5) n3 (by rw [e]; simp)
      · have h1 := rB.fz n3 e
        rcases hF.ofz n n1 t xs h1 with h2 | ⟨⟨xs0, h2, h2'⟩, h3⟩
        · exact .inl (rO.fz n4 h2)
        · refine .inr ⟨⟨xs0, rO.row n4 h2, h2'⟩, ?_⟩
          have h3' := h3
          simp only [n6] at h3'
          exact h3'
      · exact absurd (find_mem (rB.tok n3 e)) heapR_notok
    · have hf := f2 hK
      by_cases hx : k ∈ X
      · rw [if_pos hx] at hf
        refine ⟨fun cs' e => ?_, fun t xs e => ?_, fun t xs e => ?_, fun e => ?_⟩ <;> rw [hf] at e <;> cases e
      · rw [if_neg hx] at hf
        refine ⟨fun cs' e => ?_, fun t xs e => ?_, fun t xs e => ?_, fun e => ?_⟩ <;> rw [hf] at e
        · exact ⟨⟨cs', e⟩, by rw [g2 hK]⟩
        · exact ⟨⟨xs, e, rfl⟩, g2 hK, fun ho => ⟨w2 ho hx, fun n => hF.lg _ n⟩⟩
        · exact .inl e
        · refine ⟨e, g2 hK, fun ho => ⟨w2 ho hx, fun n hb => ?_, (kept ho hx).2⟩⟩
          obtain ⟨vs, E, fr, q1, q2, q3⟩ := hb
          exact ⟨vs, E, fr, (kept ho hx).1.trans q1, q2, q3⟩
  have sameB : ∀ k ∈ keys l, Same γB γf l (addAll l (delAll X st.h)) w' w' D' D' k := fun k hK => by
    refine ⟨fun cs' e => ?_, fun t xs e => ?_, fun t xs e => ?_, fun e => ?_⟩ <;> rw [f1 hK] at e
    · exact ⟨⟨cs', e⟩, by rw [g1 hK]⟩
    · exact ⟨⟨xs, e, rfl⟩, g1 hK, fun ho => ⟨w1 ho, fun n hb => hb⟩⟩
    · exact .inl e
    · exact ⟨e, g1 hK, fun ho => ⟨w1 ho, fun n hb => hb, fun o hd => hd⟩⟩
  have uB : ∀ k ∈ keys l, k ∈ newsOf ks l ++ st.u := fun k hK => by
    by_cases hks : k ∈ ks
    · exact List.mem_append.2 (.inr (hi.hp.u k (hksu k hks)))
    · exact List.mem_append.2 (.inl (List.mem_filter.2 ⟨hK, by simp [hks]⟩))
  have uA : ∀ k ∈ st.u, k ∈ newsOf ks l ++ st.u := fun k hk => List.mem_append.2 (.inr hk)
  have presB : Pres D' w' w' := fun _ _ _ => rfl
  have f3 : ∀ {k o}, k ∉ keys l → find k (addAll l (delAll X st.h)) = some o → find k st.h = some o ∧ k ∉ X := fun {k o} hK e => by
    rw [f2 hK] at e
    split at e
    · simp at e
    · rename_i hx; exact ⟨e, hx⟩
  refine ⟨γf, ⟨pres, hF.dd.1, uA, same, ⟨fun k cs e => ?_, fun k t xs e => ?_, fun b k ho => ?_, fun b k ho e o hd => ?_, fun k e => ?_⟩, hF.os, hF.tape, hF.output, hF.size, fun b hb ho => ?_, hF.lg, fun b k ho => ?_, hF.dl, fun k hk e => ?_⟩, fun cv hR => ?_⟩
  · by_cases hK : k ∈ keys l
    · rw [f1 hK] at e
      obtain ⟨q1, vs, E, q2, q3, q4⟩ := hB.box k cs e
      rw [g1 hK]
      exact ⟨w1 q1, vs, E, q2, q3, fun i c' v' h1 h2 => ⟨(q4 i c' v' h1 h2).1.mono presB (fun _ _ h => h) uB sameB, (q4 i c' v' h1 h2).2⟩⟩
    · obtain ⟨e, hx⟩ := f3 hK e
      obtain ⟨q1, vs, E, q2, q3, q4⟩ := hi.hp.box k cs e
      rw [g2 hK]
      exact ⟨w2 q1 hx, vs, E, (kept q1 hx).1.trans q2, q3, fun i c' v' h1 h2 => ⟨(q4 i c' v' h1 h2).1.mono pres hF.dd.1 uA same, (q4 i c' v' h1 h2).2⟩⟩
  · by_cases hK : k ∈ keys l
    · rw [f1 hK] at e
      rw [g1 hK]
      refine (hB.row k t xs e).imp id ?_
      rintro ⟨q1, q2⟩
      exact ⟨w1 q1, q2⟩
    · obtain ⟨e, hx⟩ := f3 hK e
      rw [g2 hK]
      refine (hi.hp.row k t xs e).imp id ?_
      rintro ⟨q1, vs, E, q2, q3, q4⟩
      exact ⟨w2 q1 hx, vs, E, (kept q1 hx).1.trans q2, q3, fun q c' v' h1 h2 => (q4 q c' v' h1 h2).mono pres hF.dd.1⟩
  · rcases w3 ho with ho | ⟨ho, hx⟩
    · have hK := (oB ho).1
      obtain ⟨q1, q2, q3⟩ := hB.own b k ho
      exact ⟨q1, by rw [f1 hK]; exact q2, by rw [g1 hK]; exact q3⟩
    · obtain ⟨q1, q2, q3⟩ := hi.hp.own b k ho
      have hK := hXK (hi.hp.u k q2) hx
      exact ⟨Nat.lt_of_lt_of_le q1 hF.size, by rw [f2 hK, if_neg hx]; exact q2, by rw [g2 hK]; exact q3⟩
  · rcases w3 ho with ho | ⟨ho, hx⟩
    · have hK := (oB ho).1
      rw [f1 hK] at e
      exact hB.lv b k ho e o hd
    · obtain ⟨q1, q2, q3⟩ := hi.hp.own b k ho
      have hK := hXK (hi.hp.u k q2) hx
      rw [f2 hK, if_neg hx] at e
      exact hi.hp.lv b k ho e o ((kept ho hx).2 o hd)
  · by_cases hK : k ∈ keys l
    · exact uB k hK
    · rw [f2 hK] at e
      split at e
      · simp at e
      · exact uA k (hi.hp.u k e)
  · have h0 : γ0.own b = none := Classical.byContradiction fun h3 => by
      obtain ⟨k', h4, _⟩ := o0 h3
      rw [ho] at h4
      cases h4
    exact ⟨hF.block b hb h0, fun o => hF.dd.2 b o hb h0⟩
  · rcases w3 ho with ho | ⟨ho, _⟩
    · refine (oB ho).2.imp id fun h3 => ?_
      obtain ⟨k', h4, _⟩ := o0 h3
      rw [h4]; simp
    · right; rw [ho]; simp
  · by_cases hK : k ∈ keys l
    · have hks : k ∈ ks := Classical.byContradiction fun hks => by
        cases hf : find k l with
        | none => exact absurd hf (find_keys.2 hK)
        | some o =>
          obtain ⟨i, oi, h1, _⟩ := rB.at_ k o hf
          have := bk_new hok' hr h1 hks
          omega
      refine ⟨hksu k hks, fun hnf => ?_⟩
      rw [f1 hK] at e hnf
      cases hf : find k l with
      | none => exact absurd hf e
      | some o =>
        obtain ⟨n, n1, n2, n3, n4, n5, n6⟩ := both hks hf
        rw [g1 hK, n5]
        cases o with
        | box cs' =>
          obtain ⟨cs, h1, _⟩ := rB.box n3 hf
          rw [(hF.ob n n1 cs h1).2, n6]
        | row t xs => rw [(hF.or n n1 t xs (rB.row n3 hf)).2.1, n6]
        | fz t xs => exact absurd hf (hnf t xs)
        | tok => exact absurd (find_mem (rB.tok n3 hf)) heapR_notok
    · rw [f2 hK] at e
      split at e
      · simp at e
      · exact ⟨e, fun _ => g2 hK⟩
  · have h1 := rB.repV hR
    rw [inR_bk hr hR, hG] at h1
    exact h1.mono presB (fun _ _ h => h) uB sameB
end
end
end Go.AM
namespace Go.AM
open Go.RowKit Go.Lib
section
variable [Reg]
section
variable {P : Program} {c : Ctx} {γ γ' γ'' : Gh} {D D' D'' : Dead} {st : St} {a : Act} {w w' w'' : World} {tb : Tb} {H : Hints} {h h' h'' : Heap} {u u' u'' : List Nat}

theorem RepLs.at {Q : AV → Value → Prop} {cs : List AV} {vs : List Value} (h : RepLs Q cs vs) {i : Nat} {c : AV} {v : Value} (h1 : cs[i]? = some c) (h2 : vs[i]? = some v) : Q c v := h.get.2 i c v h1 h2
theorem RepLs.append {Q : AV → Value → Prop} : ∀ {cs cs' : List AV} {vs vs' : List Value}, RepLs Q cs vs → RepLs Q cs' vs' → RepLs Q (cs ++ cs') (vs ++ vs')
  | [], _, [], _, _, h => h
  | [], _, _ :: _, _, h, _ => h.elim
  | _ :: _, _, [], _, h, _ => h.elim
  | _c :: _cs, _, _v :: _vs, _, h, h' => ⟨h.1, RepLs.append h.2 h'⟩

theorem go_sound {F : Fns} (hF : SoundF P F) {o : Oper} (hi : Inv c γ D st a w) {n : Nat} {as : List AV} {cvs : Array Value} {ks : List Nat} {e : Eff}
    (hR : RepLs (RepB γ st.h st.u w D) as cvs.toList) (hs : (goQ F H st.u o.dst n st.h as ks).val = some e)
    (hx0 : (∃ fn, P.funcs[n]? = some fn ∧ (fn.name == "runtime.NumGoroutine") = false ∧ fn.body.isNone = false) → (execOp a.eval o).run P w = .ok (.enter n cvs) w)
    {next : Act → World → Prop} {T : Exit → Act → World → Prop} (hn : ∀ cv w' γ' D', Inv c γ' D' ({ st with h := e.2.1, u := e.2.2.1 }.put o.dst e.1) (a.put o.dst cv) w' → next (a.put o.dst cv) w') : o.wp P a w next T := by
  unfold goQ at hs
  split at hs
  · rename_i vs os hvs hos
    generalize hb : ((nodupB (ks ++ inls st.h ks) && Nat.blt n 1000000) && (objsOk os && (nodupB ((heap0 os).map (·.1)) && os.all notTok))) = b at hs
    cases b
    · cases hs
    · simp only [cond_true] at hs
      simp only [Bool.and_eq_true] at hb
      obtain ⟨⟨b1, b2⟩, b3, b4, b5⟩ := hb
      obtain ⟨⟨r, os'⟩, hr, hs⟩ := Q.val_bind hs
      unfold backQ at hs
      generalize hb : ((objsOk os' && resOk r) && (nodupB ((backL o.dst ks r os').map (·.1)) && ((newsOf ks (backL o.dst ks r os')).all (isNew st.u) && ks.all (far o.dst)))) = b at hs
      cases b
      · cases hs
      · simp only [cond_true] at hs
        simp only [Bool.and_eq_true] at hb
        obtain ⟨⟨c1, c2⟩, c3, c4, c5⟩ := hb
        cases hs
        have hnd := nodupB_iff b1
        have hnl := nodupB_iff c3
        have hn0 := nodupB_iff b4
        obtain ⟨hfn, hcall⟩ := hF _ _ _ _ _ hr
        have hmod : (n + ownN H o.dst) % 1000000 = n := by
          have := blt_iff.1 b2
          unfold ownN
          cases flag H o.dst 3 <;> simp <;> omega
        rw [hmod] at hfn hcall
        have rO := ren_out (u := st.u) hnd hos b3 hn0 b5
        have hC := hcall ⟨w, D, γ.ren (phi st.h ks) (heap0 os), heap0 os⟩ cvs ⟨rfl, hn0, b5, rO.hok hi.hp, hi.dl, by
            rw [(mapO_spec hvs).1, ← hR.get.1]; simp, fun i v cv h1 h2 => by
            obtain ⟨x, g1, g2⟩ := (mapO_spec hvs).2 i v h1
            exact outV_rep (f := phi st.h ks) (fun k m => phi_idx) g2 (rO.repB (hR.at g1 (by simpa using h2)))⟩
        unfold Oper.wp
        rw [hx0 hfn, Oper.upon_enter]
        refine hC.mono fun e w' hp => ?_
        obtain ⟨cv, γ', D', rfl, hp⟩ := hp
        obtain ⟨_, hnR⟩ := ren_back (dst := o.dst) (ks := ks) c1 c2 hnl
        obtain ⟨p1, p2, p3⟩ := hp c1 c2 hnR
        obtain ⟨γf, s, hv⟩ := back_stp hi hnd hos b3 hn0 b5 c1 c2 hnl c4 c5 p1 p3
        exact hn cv w' γf D' ((hi.step s).put (hv cv p2) o.dst)
  · cases hs

theorem call_sound {F : Fns} (hF : SoundF P F) {o : Oper} (hi : Inv c γ D st a w) {f : Operand} {args : Array Operand} {ts : Array Nat} (ho : o.op = .call { callee := .value f, args := args, argTypes := ts }) {e : Eff}
    (hs : (callQ F H st.h st.u o.dst (st.ev f) (args.toList.map st.ev)).val = some e) {next : Act → World → Prop} {T : Exit → Act → World → Prop} (hn : ∀ cv w' γ' D', Inv c γ' D' ({ st with h := e.2.1, u := e.2.2.1 }.put o.dst e.1) (a.put o.dst cv) w' → next (a.put o.dst cv) w') : o.wp P a w next T := by
  unfold callQ at hs
  split at hs
  · rename_i n caps hf
    cases hnt : (args.toList.map st.ev).all notTup with
    | false => rw [hnt] at hs; cases hs
    | true =>
      rw [hnt] at hs
      simp only [cond_true] at hs
      have hfv := hi.ev f
      rw [hf] at hfv
      obtain ⟨vs, ev, hvn, hvc⟩ := (show RepC γ st.h st.u w D (.fn n caps) (a.eval f) from hfv)
      have hA : RepLs (RepB γ st.h st.u w D) (args.toList.map st.ev) (args.toList.map a.eval) := RepLs.of (by simp) fun i x v h1 h2 => by
        have hx := List.all_eq_true.1 hnt x (List.mem_of_getElem? h1)
        simp only [List.getElem?_map] at h1 h2
        cases ha : args.toList[i]? with
        | none => rw [ha] at h1; simp at h1
        | some y =>
          rw [ha] at h1 h2
          simp only [Option.map_some, Option.some.injEq] at h1 h2
          subst h2
          have := hi.ev y
          rw [h1] at this
          exact this.toB fun l e => by rw [e] at hx; simp [notTup] at hx
      have hC : RepLs (RepB γ st.h st.u w D) caps vs.toList := RepLs.of (by simp [hvn]) fun i x v h1 h2 => (hvc i x v h1 (by simpa using h2)).1.c.b
      have hrun : (∃ fn, P.funcs[n]? = some fn ∧ (fn.name == "runtime.NumGoroutine") = false ∧ fn.body.isNone = false) → (execOp a.eval o).run P w = .ok (.enter n (args.map a.eval ++ vs)) w := by
        rintro ⟨fn, f1, f2, f3⟩
        have f2' : ¬ fn.name = "runtime.NumGoroutine" := by simpa using f2
        have f3' : ¬ fn.body = none := by intro e; simp [e] at f3
        simp [execOp, ho, resolve, ev, Deferred.ofValue, invoke, callFunc, f1, f2', f3']
      generalize flag H o.dst 2 = b at hs
      cases b
      · simp only [cond_false] at hs
        obtain ⟨e', hs', h0⟩ := Q.val_bind hs
        cases h0
        obtain ⟨γ1, D1, hi1, h1, h2⟩ := frVs_sound hi hA
        refine go_sound (H := H) (e := e') hF hi1 (h1.append (RepLs.mono h2 hC) |> fun q => ?_) hs' hrun hn
        rw [Array.toList_append, Array.toList_map]
        exact q
      · simp only [cond_true] at hs
        obtain ⟨e', hs', h0⟩ := Q.val_bind hs
        cases h0
        refine go_sound (H := H) (e := e') hF hi (hA.append hC |> fun q => ?_) hs' hrun hn
        rw [Array.toList_append, Array.toList_map]
        exact q
  · cases hs

/-! ### Operations, one by one -/
abbrev Trc := Option Nat × List Nat
def stepD (E : Ev) (st : St) (o : Oper) : Option (St × Trc) :=
  match o.op with
  | .call { callee := .value f, args, .. } => (callQ E.F E.H st.h st.u o.dst (st.ev f) (args.toList.map st.ev)).val.map fun e => ({ st with h := e.2.1, u := e.2.2.1 }.put o.dst e.1, none, e.2.2.2)
  | _ => (match kindA E.tb o.op with
    | 0 => (pureQ E.tb st.ev o.op).val.map fun v => (st.put o.dst v, none, [])
    | 1 => (lookQ E.tb st.ev st.h o.op).val.map fun e => (st.put o.dst e.1, e.2, [])
    | _ => (effQ E.tb E.H st.ev st.h st.u o.dst o.op).val.map fun e => ({ st with h := e.2.1, u := e.2.2.1 }.put o.dst e.1, none, e.2.2.2))
def opD (E : Ev) (ops : Array Oper) (st : St) (o : Oper) : Option (St × Trc) :=
  match guardOf ops o with
  | .bad => none
  | .free => stepD E st o
  | .at_ t want => (match st.get t with
    | .bool b => if b = want then stepD E (st.put (some t) (.bool b)) o else some ((st.put (some t) (.bool b)).put o.dst (.tup []), none, [])
    | .tup [] => some (st.put o.dst (.tup []), none, [])
    | _ => none)
def runD (E : Ev) (ops : Array Oper) : List Oper → St → Option (St × List Trc)
  | [], st => some (st, [])
  | o :: r, st => match opD E ops st o with
    | some (st', t) => (match runD E ops r st' with | some (st2, ts) => some (st2, t :: ts) | none => none)
    | none => none
def noteR (i : Nat) (rd : List (Nat × Nat)) (t : Trc) : List (Nat × Nat) := match t.1 with | some k => (i, k) :: rd | none => rd
def noteW (i : Nat) (wr : List (Nat × Nat)) (t : Trc) : List (Nat × Nat) := t.2.map (fun k => (i, k)) ++ wr
/-- What is looked at is not turned by what may come first. -/
def okT (ms : List Nat) : Nat → List (Nat × Nat) → List (Nat × Nat) → List Trc → Prop
  | _, _, _, [] => True
  | i, rd, wr, t :: ts => ((t.2.any (hit (ms.getD i 0) rd) || t.2.any (hit (ms.getD i 0) wr)) = false ∧ ∀ k, t.1 = some k → hit (ms.getD i 0) wr k = false) ∧ okT ms (i + 1) (noteR i rd t) (noteW i wr t) ts
theorem kindA_cases (tb : Tb) (op : Op) : kindA tb op = 0 ∨ kindA tb op = 1 ∨ kindA tb op = 2 := by
  unfold kindA
  split <;> try simp
  · unfold convK
    repeat' split
    all_goals simp
  · cases isPtrT tb _ <;> simp
theorem stepD_call {E : Ev} {o : Oper} {f : Operand} {args : Array Operand} {ts : Array Nat} (ho : o.op = .call { callee := .value f, args := args, argTypes := ts }) : stepD E st o = (callQ E.F E.H st.h st.u o.dst (st.ev f) (args.toList.map st.ev)).val.map fun e => ({ st with h := e.2.1, u := e.2.2.1 }.put o.dst e.1, none, e.2.2.2) := by
  unfold stepD
  rw [ho]
theorem stepD_ne {E : Ev} {o : Oper} (hne : ∀ f args ts, o.op ≠ .call { callee := .value f, args := args, argTypes := ts }) : stepD E st o = (match kindA E.tb o.op with
    | 0 => (pureQ E.tb st.ev o.op).val.map fun v => (st.put o.dst v, none, [])
    | 1 => (lookQ E.tb st.ev st.h o.op).val.map fun e => (st.put o.dst e.1, e.2, [])
    | _ => (effQ E.tb E.H st.ev st.h st.u o.dst o.op).val.map fun e => ({ st with h := e.2.1, u := e.2.2.1 }.put o.dst e.1, none, e.2.2.2)) := by
  unfold stepD
  split
  · rename_i ho
    exact absurd ho (hne _ _ _)
  · rfl
theorem stepK_D {ρ : Type} {E : Ev} {draw : Bool} {o : Oper} {i m : Nat} {rd wr : List (Nat × Nat)} {K : St → List (Nat × Nat) → List (Nat × Nat) → Option ρ} {r : ρ} (h : stepK E draw st o i m rd wr K = some r) :
    ∃ st' t, stepD E st o = some (st', t) ∧ (draw = true → (t.2.any (hit m rd) || t.2.any (hit m wr)) = false ∧ ∀ k, t.1 = some k → hit m wr k = false) ∧ K st' (bif draw then noteR i rd t else rd) (bif draw then noteW i wr t else wr) = some r := by
  have eff : ∀ {e : Eff}, effK draw st o.dst i m rd wr K e = some r → (draw = true → (e.2.2.2.any (hit m rd) || e.2.2.2.any (hit m wr)) = false) ∧ K ({ st with h := e.2.1, u := e.2.2.1 }.put o.dst e.1) rd (bif draw then e.2.2.2.map (fun k => (i, k)) ++ wr else wr) = some r := fun {e} h => by
    unfold effK at h
    cases draw
    · exact ⟨fun h => by simp at h, h⟩
    · cases hb : (e.2.2.2.any (hit m rd) || e.2.2.2.any (hit m wr))
      · rw [hb] at h
        exact ⟨fun _ => rfl, h⟩
      · rw [hb] at h; simp at h
  unfold stepK at h
  split at h
  · rename_i ho
    obtain ⟨e, h1, h2⟩ := Q.run_val h
    obtain ⟨h3, h4⟩ := eff h2
    rw [stepD_call ho, h1]
    refine ⟨_, _, rfl, fun hd => ⟨h3 hd, by simp⟩, ?_⟩
    cases draw <;> exact h4
  · rename_i hne
    rw [stepD_ne fun f args ts e => hne f args ts e]
    split at h
    · obtain ⟨e, h1, h2⟩ := Q.run_val h
      rename_i hk
      simp only [hk, h1]
      refine ⟨_, _, rfl, fun _ => ⟨rfl, by simp⟩, ?_⟩
      cases draw <;> exact h2
    · obtain ⟨e, h1, h2⟩ := Q.run_val h
      rename_i hk
      simp only [hk, h1]
      refine ⟨_, _, rfl, ?_⟩
      unfold lookK at h2
      obtain ⟨v, kk⟩ := e
      cases kk with
      | none =>
        refine ⟨fun _ => ⟨rfl, by simp⟩, ?_⟩
        cases draw <;> exact h2
      | some k =>
        cases draw
        · exact ⟨fun h => by simp at h, h2⟩
        · simp only [Bool.true_and] at h2
          cases hw : hit m wr k
          · rw [hw] at h2
            exact ⟨fun _ => ⟨rfl, fun k' e => by cases e; exact hw⟩, h2⟩
          · rw [hw] at h2; simp at h2
    · obtain ⟨e, h1, h2⟩ := Q.run_val h
      obtain ⟨h3, h4⟩ := eff h2
      rename_i hk1 hk2
      have hk : kindA E.tb o.op = 2 := by
        rcases kindA_cases E.tb o.op with q | q | q
        · exact absurd q hk1
        · exact absurd q hk2
        · exact q
      simp only [hk, h1]
      refine ⟨_, _, rfl, fun hd => ⟨h3 hd, by simp⟩, ?_⟩
      cases draw <;> exact h4
theorem runOps_D {ρ : Type} {E : Ev} {draw : Bool} {ops : Array Oper} {ms : List Nat} {K : St → Option ρ} {r : ρ} : ∀ {l : List Oper} {i : Nat} {st : St} {rd wr : List (Nat × Nat)}, runOps E draw ops ms K l i st rd wr = some r → ∃ st' ts, runD E ops l st = some (st', ts) ∧ (draw = true → okT ms i rd wr ts) ∧ K st' = some r
  | [], i, st, rd, wr, h => ⟨st, [], rfl, fun _ => trivial, h⟩
  | o :: l, i, st, rd, wr, h => by
    have go : ∀ {st1}, opD E ops st o = some (st1, none, []) → runOps E draw ops ms K l (i + 1) st1 rd wr = some r → ∃ st' ts, runD E ops (o :: l) st = some (st', ts) ∧ (draw = true → okT ms i rd wr ts) ∧ K st' = some r := fun {st1} h1 h2 => by
      obtain ⟨st', ts, h3, h4, h5⟩ := runOps_D h2
      exact ⟨st', (none, []) :: ts, by simp only [runD, h1, h3], fun hd => ⟨⟨rfl, by simp⟩, h4 hd⟩, h5⟩
    have stp : ∀ {st0}, opD E ops st o = stepD E st0 o → stepK E draw st0 o i (ms.getD i 0) rd wr (fun st' rd' wr' => runOps E draw ops ms K l (i + 1) st' rd' wr') = some r → ∃ st' ts, runD E ops (o :: l) st = some (st', ts) ∧ (draw = true → okT ms i rd wr ts) ∧ K st' = some r := fun {st0} h0 h2 => by
      obtain ⟨st1, t, h3, h4, h5⟩ := stepK_D h2
      obtain ⟨st', ts, h6, h7, h8⟩ := runOps_D h5
      refine ⟨st', t :: ts, by simp only [runD, h0, h3, h6], fun hd => ⟨h4 hd, ?_⟩, h8⟩
      have := h7 hd
      rw [hd] at this
      exact this
    unfold runOps at h
    split at h
    · cases h
    · rename_i hg
      exact stp (by simp only [opD, hg]) h
    · rename_i t hg
      split at h
      · rename_i b hb
        cases b
        · exact go (by simp [opD, hg, hb]) h
        · exact stp (st0 := st.put (some t) (.bool true)) (by simp [opD, hg, hb]) h
      · rename_i hb
        exact go (by simp [opD, hg, hb]) h
      · cases h
    · rename_i t hg
      split at h
      · rename_i b hb
        cases b
        · exact stp (st0 := st.put (some t) (.bool false)) (by simp [opD, hg, hb]) h
        · exact go (by simp [opD, hg, hb]) h
      · rename_i hb
        exact go (by simp [opD, hg, hb]) h
      · cases h

theorem inv_bool' {b : Bool} {v : Value} (hv : RepV γ h u w D (.bool b) v) : v = .bool b := by
  cases (show RepD w D (.bool b) v from hv); rfl
theorem Inv.reput (hi : Inv c γ D st a w) {t : Nat} {b : Bool} (hb : st.get t = .bool b) : Inv c γ D (st.put (some t) (.bool b)) a w ∧ a.tmps[t]? = some (.bool b) := by
  have hv := hi.tm t
  rw [hb] at hv
  have e := inv_bool' hv
  have e' : a.tmps[t]? = some (.bool b) := by
    rw [Array.getD_eq_getD_getElem?] at e
    cases ht : a.tmps[t]? with
    | none => rw [ht] at e; simp [Go.undef] at e
    | some v => rw [ht] at e; simpa using e
  have hp := hi.put (v := .bool b) (cv := .bool b) (.of (.bool b)) (some t)
  have : a.put (some t) (.bool b) = a := by
    obtain ⟨tm, df⟩ := a
    simp only [Act.put, Act.mk.injEq, and_true]
    apply Array.ext_getElem?
    intro i
    rw [Array.getElem?_setIfInBounds]
    split
    · rename_i e2
      subst e2
      split
      · exact e'.symm
      · rename_i hlt
        have : t < tm.size := (Array.getElem?_eq_some_iff.1 e').1
        omega
    · rfl
  rw [this] at hp
  exact ⟨hp, e'⟩

/-- What may be asked of a program's functions and types. -/
structure EvOk (P : Program) (E : Ev) : Prop where
  F : SoundF P E.F
  tb : TbOk P E.tb
theorem stepD_sound {E : Ev} (hE : EvOk P E) {o : Oper} (hi : Inv c γ D st a w) {st' : St} {t : Trc} (hs : stepD E st o = some (st', t)) {next : Act → World → Prop} {T : Exit → Act → World → Prop}
    (hn : ∀ cv w' γ' D', Inv c γ' D' st' (a.put o.dst cv) w' → next (a.put o.dst cv) w') : o.wp P a w next T := by
  have gives : Gives P c o a w st' → o.wp P a w next T := fun hg => by
    obtain ⟨cv, w', hr, γ', D', hI⟩ := hg
    unfold Oper.wp
    rcases hr with hr | ⟨hr, rfl⟩
    · rw [hr, Oper.upon_value]
      exact hn _ _ _ _ hI
    · rw [hr, Oper.upon_skip]
      exact hn _ _ _ _ hI
  unfold stepD at hs
  split at hs
  · rename_i f args ts ho
    simp only [Option.map_eq_some_iff, Prod.mk.injEq] at hs
    obtain ⟨e, h1, rfl, _⟩ := hs
    exact call_sound hE.F hi ho h1 hn
  · split at hs
    · simp only [Option.map_eq_some_iff, Prod.mk.injEq] at hs
      obtain ⟨e, h1, rfl, _⟩ := hs
      exact gives (pure_sound hE.tb hi h1)
    · simp only [Option.map_eq_some_iff, Prod.mk.injEq] at hs
      obtain ⟨e, h1, rfl, _⟩ := hs
      exact gives (look_sound hE.tb hi h1)
    · rename_i hk1 hk2
      have hk : kindA E.tb o.op = 2 := by
        rcases kindA_cases E.tb o.op with q | q | q
        · exact absurd q hk1
        · exact absurd q hk2
        · exact q
      simp only [Option.map_eq_some_iff, Prod.mk.injEq] at hs
      obtain ⟨e, h1, rfl, _⟩ := hs
      exact gives (eff_sound hE.tb hi hk h1)

omit [Reg] in
theorem guardOf_free {ops : Array Oper} {o : Oper} (h : guardOf ops o = .free) (y : Nat → Option Bool) : Region.wanted o y = true := by
  unfold guardOf at h
  unfold Region.wanted
  split at h
  · rename_i e; simp [e]
  · split at h <;> simp at h
omit [Reg] in
theorem guardOf_at {ops : Array Oper} {o : Oper} {t : Nat} {want : Bool} (h : guardOf ops o = .at_ t want) {tm : Array Value} {b : Bool} (hb : tm[t]? = some (.bool b)) : Region.wanted o (yielded ops tm) = decide (b = want) := by
  unfold guardOf at h
  unfold Region.wanted
  split at h
  · simp at h
  · rename_i j w' e
    split at h
    · rename_i t' e'
      simp only [Gd.at_.injEq] at h
      obtain ⟨rfl, rfl⟩ := h
      simp only [e, yielded, e', Option.bind_some, hb]
      cases b <;> cases w' <;> rfl
    · simp at h
omit [Reg] in
theorem guardOf_none {ops : Array Oper} {o : Oper} {t : Nat} {want : Bool} (h : guardOf ops o = .at_ t want) {tm : Array Value} (hb : ∀ b, tm[t]? ≠ some (.bool b)) : Region.wanted o (yielded ops tm) = false := by
  unfold guardOf at h
  unfold Region.wanted
  split at h
  · simp at h
  · rename_i j w' e
    split at h
    · rename_i t' e'
      simp only [Gd.at_.injEq] at h
      obtain ⟨rfl, rfl⟩ := h
      have hy : yielded ops tm j = none := by
        have hu : yielded ops tm j = (match ((ops[j]?).bind (·.dst)).bind (tm[·]?) with | some (.bool b) => some b | _ => none) := rfl
        rw [hu, e', Option.bind_some]
        cases hh : tm[t']? with
        | none => rfl
        | some v => cases v <;> first | rfl | exact absurd hh (hb _)
      simp [e, hy]
    · simp at h

theorem wpOps_sound {E : Ev} (hE : EvOk P E) {ops : Array Oper} {T : Exit → Act → World → Prop} {st' : St} (hq : ∀ γ' D' a' w', Inv c γ' D' st' a' w' → T .normal a' w') :
    ∀ (l : List Nat) (ts : List Trc) (γ : Gh) (D : Dead) (st : St) (a : Act) (w : World), Inv c γ D st a w → runD E ops (l.filterMap (ops[·]?)) st = some (st', ts) → wpOps P ops T l a w
  | [], ts, γ, D, st, a, w, h, hs => by
    simp only [List.filterMap_nil, runD, Option.some.injEq, Prod.mk.injEq] at hs
    obtain ⟨rfl, _⟩ := hs
    exact hq _ _ _ _ h
  | i :: l, ts, γ, D, st, a, w, h, hs => by
    unfold wpOps
    cases ho : ops[i]? with
    | none =>
      rw [List.filterMap_cons_none ho] at hs
      exact wpOps_sound hE hq l ts γ D st a w h hs
    | some o =>
      rw [List.filterMap_cons_some ho] at hs
      simp only [runD] at hs
      simp only
      split at hs
      · rename_i s1 t1 h1
        split at hs
        · rename_i s2 ts2 h2
          simp only [Option.some.injEq, Prod.mk.injEq] at hs
          obtain ⟨rfl, _⟩ := hs
          have hnext : ∀ cv w' γ' D', Inv c γ' D' s1 (a.put o.dst cv) w' → wpOps P ops T l (a.put o.dst cv) w' := fun cv w' γ' D' hI => wpOps_sound hE hq l ts2 γ' D' s1 _ w' hI h2
          unfold opD at h1
          split at h1
          · simp at h1
          · rename_i hg
            rw [if_pos (guardOf_free hg _)]
            exact .inl (stepD_sound hE h h1 hnext)
          · rename_i t want hg
            split at h1
            · rename_i b hb
              obtain ⟨hp, ht⟩ := h.reput hb
              rw [guardOf_at hg ht]
              split at h1
              · rename_i e
                rw [decide_eq_true e, if_pos rfl]
                exact .inl (stepD_sound hE hp h1 hnext)
              · rename_i e
                rw [decide_eq_false e, if_neg (by simp)]
                simp only [Option.some.injEq, Prod.mk.injEq] at h1
                obtain ⟨rfl, _⟩ := h1
                exact hnext _ _ γ D (hp.put (v := .tup []) (show RepV _ _ _ _ _ (.tup []) Go.undef from ⟨#[], rfl, rfl, by simp⟩) o.dst)
            · rename_i hb
              have hv := h.tm t
              rw [hb] at hv
              obtain ⟨arr, e1, e2, _⟩ := hv
              have e3 : arr = #[] := by simpa using e2
              subst e3
              rw [guardOf_none hg (tm := a.tmps) (by
                intro b e4
                rw [Array.getD_eq_getD_getElem?, e4] at e1
                simp at e1), if_neg (by simp)]
              simp only [Option.some.injEq, Prod.mk.injEq] at h1
              obtain ⟨rfl, _⟩ := h1
              exact hnext _ _ γ D (h.put (v := .tup []) (show RepV _ _ _ _ _ (.tup []) Go.undef from ⟨#[], rfl, rfl, by simp⟩) o.dst)
            · simp at h1
        · simp at hs
      · simp at hs

omit [Reg] in
theorem range_filterMap (ops : Array Oper) : (List.range ops.size).filterMap (ops[·]?) = ops.toList := by
  have h : (List.range ops.size).map (fun i : Nat => ops[i]?) = ops.toList.map some := by
    apply List.ext_getElem?
    intro i
    by_cases h : i < ops.size
    · simp [h]
    · simp [h]
  have h2 : ∀ l : List Nat, l.filterMap (ops[·]?) = (l.map (fun i : Nat => ops[i]?)).filterMap id := fun l => by simp [List.filterMap_map]
  rw [h2, h]
  simp [List.filterMap_map]
end
end
end Go.AM
