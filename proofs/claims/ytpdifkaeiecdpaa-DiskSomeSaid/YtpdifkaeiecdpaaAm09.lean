/- A part of the proof: machine and program. -/
import Derived.Test.YtpdifkaeiecdpaaAm08
namespace Go.AM
open Go.RowKit Go.Lib
section
variable [Reg]
section
variable {P : Program} {c : Ctx} {γ γ' γ'' : Gh} {D D' D'' : Dead} {st : St} {a : Act} {w w' w'' : World} {tb : Tb} {H : Hints} {h h' h'' : Heap} {u u' u'' : List Nat}

omit [Reg] in
theorem fit_spec {n b m : Nat} (h : (fitsB n b && decide (m ≤ big62)) = true) : n * b ≤ 140737488355328 ∧ m ≤ 4611686018427387904 := by
  rw [Bool.and_eq_true] at h
  exact ⟨of_decide_eq_true h.1, of_decide_eq_true h.2⟩
omit [Reg] in
theorem run_app_at {t t' e ty : Nat} {i : TypeInfo} {du : TypeDesc} (hu : P.underlying t = some (.slice e)) (hi : P.info? e = some i) (hdu : P.underlying t' = some du) (hni : ∀ k, du ≠ .int k) {b o n cap m : Nat} {Y : Value} {news : List Value} (hl : (Builtin.lenOf Y).run P w = .ok m w)
    (hY : (Builtin.firstCells i.size m Y).run P w = .ok news.toArray w) (hroom : n + m ≤ cap) (h1 : ∀ v ∈ news, v.oneCell' = true) {vs : Array Value} {E : Nat} (hblk : w.heap[b]? = some (.cells vs E (0, 0))) (hle : o + n * i.size + news.length ≤ vs.size) :
    (Builtin.append_ #[t, t'] ty #[.slice (some ⟨b, o, none⟩) n cap, Y]).run P w = .ok (.slice (some ⟨b, o, none⟩) (n + m) cap) (w.setRow b (vs.toList.take (o + n * i.size) ++ news ++ vs.toList.drop (o + n * i.size + news.length)).toArray) := by
  have hz : (match du with | .int _ => true | _ => false) = false := by cases du <;> first | rfl | exact absurd rfl (hni _)
  have hst := run_storeCells_at (P := P) b (o + n * i.size) E news 0 vs w hblk (by omega) h1
  simp only [Nat.add_zero] at hst
  simp [Builtin.append_, run_underlying' w hu, run_underlying' w hdu, sizeOf, run_typeInfo' w hi, hl, hroom, hY, addr_add, hst]

omit [Reg] in
theorem run_append {o : Oper} {t t' : Nat} {x y : Operand} (ho : o.op = .call { callee := .builtin .append, args := #[x, y], argTypes := #[t, t'] }) {cv : Value} (hh : (Builtin.append_ #[t, t'] o.type #[a.eval x, a.eval y]).run P w = .ok cv w') : (execOp a.eval o).run P w = .ok (.value cv) w' := by
  simp [execOp, ho, resolve, invoke, builtin, hh]

omit [Reg] in
theorem setCell_row {b o : Nat} {v : Value} {vs : Array Value} {E : Nat} {fr : Nat × Nat} (hb : w.heap[b]? = some (.cells vs E fr)) : w.setCell ⟨b, o, none⟩ v = w.setRow b (vs.setIfInBounds o v) := by
  have hlt : b < w.heap.size := (Array.getElem?_eq_some_iff.1 hb).1
  have hv : w.heap[b] = .cells vs E fr := (Array.getElem?_eq_some_iff.1 hb).2
  unfold World.setCell World.setRow
  congr 1
  refine Array.ext (by simp) fun i h1 h2 => ?_
  rw [Array.getElem_modify, Array.getElem_modify]
  split
  · rename_i e
    subst e
    simp only [hv]
    rfl
  · rfl
omit [Reg] in
theorem setCells_row : ∀ (news : List Value) {b : Nat} (o : Nat) (vs : Array Value) (w : World) {E : Nat} {fr : Nat × Nat}, w.heap[b]? = some (.cells vs E fr) → o + news.length ≤ vs.size → w.setCells b o news = w.setRow b (vs.toList.take o ++ news ++ vs.toList.drop (o + news.length)).toArray
  | [], b, o, vs, w, E, fr, hb, hle => by
    have : (vs.toList.take o ++ [] ++ vs.toList.drop (o + ([] : List Value).length)).toArray = vs := by simp
    rw [this]
    exact (setRow_self w b vs E fr hb).symm
  | v :: r, b, o, vs, w, E, fr, hb, hle => by
    simp only [List.length_cons] at hle
    rw [World.setCells, setCell_row hb, setCells_row r (o + 1) (vs.setIfInBounds o v) _ (setRow_heap w _ vs _ E _ hb) (by simp; omega), setRow_setRow]
    congr 1
    refine Array.ext_getElem? fun j => ?_
    rw [take_set _ _ _ (by simp; omega), take_set _ _ _ (by simp; omega), Array.getElem?_setIfInBounds]
    by_cases e : j = o
    · subst e
      have h1 : ¬ (j + 1 ≤ j ∧ j < j + 1 + r.length) := by omega
      have h2 : j ≤ j ∧ j < j + (v :: r).length := by simp
      rw [if_neg h1, if_pos rfl, if_pos h2, if_pos (show j < vs.size by omega)]
      simp
    · by_cases e2 : o + 1 ≤ j ∧ j < o + 1 + r.length
      · rw [if_pos e2, if_pos (by simp; omega), show j - o = (j - (o + 1)) + 1 by omega, List.getElem?_cons_succ]
      · rw [if_neg e2, if_neg (by omega), if_neg (by simp; omega)]

/-- The same objects, written down in another way. -/
theorem stp_ext (hi : Inv c γ D st a w) {h' : Heap} (hf : ∀ j, find j h' = find j st.h) : Stp γ γ st.h h' st.u st.u w w D D := by
  have hs : ∀ k ∈ st.u, Same γ γ st.h h' w w D D k := fun k _ => ⟨fun cs e => ⟨⟨cs, by rw [← hf]; exact e⟩, rfl⟩, fun t xs e => ⟨⟨xs, by rw [← hf]; exact e, rfl⟩, rfl, fun ho => ⟨ho, fun _ h => h⟩⟩, fun t xs e => .inl (by rw [← hf]; exact e), fun e => ⟨by rw [← hf]; exact e, rfl, fun ho => ⟨ho, fun _ h => h, fun _ h => h⟩⟩⟩
  have hp : Pres D w w := fun _ _ _ => rfl
  refine ⟨hp, fun _ _ h => h, fun _ h => h, hs, ⟨fun k cs e => ?_, fun k t xs e => ?_, fun b k ho => ?_, fun b k ho e => ?_, fun k e => ?_⟩, rfl, rfl, rfl, Nat.le_refl _, fun _ _ _ => ⟨rfl, fun _ h => h⟩, fun _ _ h => h, fun b k ho => .inr (by rw [ho]; simp), hi.dl, fun k _ e => ⟨by rw [← hf]; exact e, fun _ => rfl⟩⟩
  · obtain ⟨q1, vs, E, q2, q3, q4⟩ := hi.hp.box k cs (by rw [← hf]; exact e)
    exact ⟨q1, vs, E, q2, q3, fun i c v h1 h2 => ⟨(q4 i c v h1 h2).1.mono hp (fun _ _ h => h) (fun _ h => h) hs, (q4 i c v h1 h2).2⟩⟩
  · exact hi.hp.row k t xs (by rw [← hf]; exact e)
  · obtain ⟨q1, q2, q3⟩ := hi.hp.own b k ho
    exact ⟨q1, by rw [hf]; exact q2, q3⟩
  · exact hi.hp.lv b k ho (by rw [← hf]; exact e)
  · exact hi.hp.u k (by rw [← hf]; exact e)

/-- What follows a chain's or a row's going under another number, its memory as it is. -/
theorem move_tip (hi : Inv c γ D st a w) {k K e : Nat} (hK : isNew st.u K = true) (h1000 : 1000 ≤ K) (_hk : k ∈ st.u) {xs : List (R e)} {v : Value} (hx : RepD w D (.sl e false xs) v) (hc : ∃ A, v = .slice A xs.length xs.length) :
    ∃ γ' D', Inv c γ' D' { st with h := AM.put K .tok (del k st.h), u := K :: st.u } a w ∧ RepV γ' (AM.put K .tok (del k st.h)) (K :: st.u) w D' (.tip K e xs) v := by
  have s1 := stp_del hi k (Dies.refl hi k) (h' := del k st.h) (fun j hj => by rw [find_del, if_neg hj]) (.inl (by rw [find_del, if_pos rfl]))
  have hi1 := hi.step s1
  have s2 := stp_bare hi1 (k := K) hK h1000 (o' := .tok) (.inl rfl)
  refine ⟨_, _, hi1.step s2, List.mem_cons_self .., hx, fun _ => ?_⟩
  obtain ⟨A, rfl⟩ := hc
  exact ⟨A, _, rfl, .inl rfl⟩

theorem sound_append (hT : TbOk P tb) {o : Oper} (hi : Inv c γ D st a w) {t t' : Nat} {x y : Operand} (ho : o.op = .call { callee := .builtin .append, args := #[x, y], argTypes := #[t, t'] }) {ti te : TI} {e : Nat} (hti : find t tb = some ti) (hkk : ti.k = .sl e) (hte : find e tb = some te)
    {ys : List (R e)} (hsrc : srcT tb st.h t' e (st.ev y) = some ys) {wr : List Nat} {b1 : Bool} {r : Eff} (hr : (appendQ tb H st.h st.u o.dst e te (bif b1 then asSv st.h (st.ev x) else st.ev x) ys wr).val = some r) : Gives P c o a w ({ st with h := r.2.1, u := r.2.2.1 }.put o.dst r.1) := by
  have hx : RepV γ st.h st.u w D (bif b1 then asSv st.h (st.ev x) else st.ev x) (a.eval x) := by cases b1 <;> first | exact hi.ev x | exact asSv_rep (hi.ev x)
  have hX1 : ∀ {k t2 lo n}, (bif b1 then asSv st.h (st.ev x) else st.ev x) = .sv k t2 lo n → True := fun _ => trivial
  generalize (bif b1 then asSv st.h (st.ev x) else st.ev x) = X at hx hr
  unfold appendQ at hr
  generalize hb0 : (Nat.beq te.sz (szR e) && (Nat.blt 0 te.sz && (Nat.beq te.z.cells.length te.sz && one1 te.z.cells))) = b0 at hr
  cases b0
  · cases hr
  simp only [cond_true] at hr
  simp only [Bool.and_eq_true, Nat.beq_eq, blt_iff] at hb0
  obtain ⟨hsz, hs0, hzl, hz1⟩ := hb0
  obtain ⟨du, news, hdu, hni, s1, s2, s3, s4, s5, s6⟩ := src_sound hT hi (hi.ev y) hte hsz hsrc
  obtain ⟨ie, zv, hie, hzv, hsi, hby, _⟩ := ty_zeroL (hT _ _ hte) hz1
  have hu := ty_sl (hT _ _ hti) hkk
  have hK0 : 1000 ≤ nk o.dst 0 := nk_big _ _
  generalize hK : nk o.dst 0 = K at *
  have hexec : ∀ {cv : Value} {w' : World}, (Builtin.append_ #[t, t'] o.type #[a.eval x, a.eval y]).run P w = .ok cv w' → (execOp a.eval o).run P w = .ok (.value cv) w' := fun hh => run_append ho hh
  have hrep : ∀ {n : Nat} {A : Option Addr} {cap : Nat} {xs : List (R e)}, xs.length = n → (xs = [] ∨ ∃ b o, A = some ⟨b, o, none⟩ ∧ ∀ (q : Nat) (c : AV), (flat e xs)[q]? = some c → ∃ v, w.cell? ⟨b, o + q, none⟩ = some v ∧ RepD w D c v) → App P γ w D e n cap A xs ys news (a.eval y) := fun h1 h2 => ⟨h1, h2, s1, s2, s3, s4, s5, s6⟩
  have same : ∀ {A : Option Addr} {n cap : Nat}, ys = [] → a.eval x = .slice A n cap → n ≤ cap → (execOp a.eval o).run P w = .ok (.value (.slice A n cap)) w := by
    intro A n cap hy ev hle
    subst hy
    have hn0 : news = [] := List.eq_nil_of_length_eq_zero (by rw [s4]; simp)
    subst hn0
    have := run_app_room (w := w) (ty := o.type) hu hie hdu hni (A := A) (n := n) (cap := cap) s1 (by rw [hsi, hsz]; exact s2) (by simpa using hle)
    exact hexec (by rw [ev]; simpa using this)
  -- a new row
  have newRw : ∀ {A : Option Addr} {cap : Nat}, a.eval x = .slice A 0 cap → cap = 0 → isNew st.u K = true → ys.length * te.bytes ≤ 140737488355328 → ys.length ≤ 4611686018427387904 →
      Gives P c o a w (({ st with h := AM.put K (.row e ys) st.h, u := K :: st.u } : St).put o.dst (.vw K e)) := by
    intro A cap ev hc hKn hfit h62
    subst hc
    by_cases hy : ys = []
    · have hrun := same hy ev (Nat.le_refl _)
      subst hy
      have s := stp_bare hi hKn hK0 (o' := .row e []) (.inr ⟨e, rfl⟩)
      refine gives_eff (hi.step s) (v := .vw K e) ⟨List.mem_cons_self .., ⟨_, _, _, rfl⟩, fun xs hx => ?_, fun xs h => by rw [find_put_same] at h; cases h⟩ hrun
      rw [find_put_same] at hx
      cases hx
      exact ⟨A, 0, rfl, Nat.le_refl _, Nat.le_refl _, .inl ⟨rfl, Nat.le_refl _⟩⟩
    · have hm : 0 < ys.length := List.length_pos_iff.2 hy
      obtain ⟨vs, nc, h1, h2, h3, h4⟩ := app_grow (ty := o.type) (A := A) (n := 0) (cap := 0) (xs := []) hT hti hkk hte hsz hz1 hzl hdu hni (hrep rfl (.inl rfl)) (by omega) (by simpa using hfit) (by simpa using h62)
      simp only [Nat.zero_add, List.nil_append] at h1 h2 h4
      obtain ⟨cv, w2, g1, γ', D', g2, g3⟩ := grow_new hi hKn hK0 rfl h2 h3 h4 (hexec (by rw [ev]; exact h1)) _ _ rfl rfl
      exact gives_eff g2 g3 g1
  -- a new chain
  have newTip : ∀ {A : Option Addr} {xs : List (R e)}, a.eval x = .slice A xs.length xs.length → RepD w D (.sl e false xs) (a.eval x) → isNew st.u K = true → (xs.length + ys.length) * te.bytes ≤ 140737488355328 → xs.length + ys.length ≤ 4611686018427387904 →
      Gives P c o a w (({ st with h := AM.put K .tok st.h, u := K :: st.u } : St).put o.dst (.tip K e (xs ++ ys))) := by
    intro A xs ev hD hKn hfit h62
    by_cases hy : ys = []
    · have hrun := same hy ev (Nat.le_refl _)
      subst hy
      have s := stp_bare hi hKn hK0 (o' := .tok) (.inl rfl)
      rw [List.append_nil]
      refine gives_eff (hi.step s) (v := .tip K e xs) ⟨List.mem_cons_self .., by rw [← ev]; exact hD, fun _ => ⟨A, _, rfl, .inl rfl⟩⟩ hrun
    · have hm : 0 < ys.length := List.length_pos_iff.2 hy
      obtain ⟨A', cap', e1, _, _, e3⟩ := inv_sl hD
      rw [ev] at e1
      simp only [Value.slice.injEq, true_and] at e1
      obtain ⟨rfl, _⟩ := e1
      obtain ⟨vs, nc, h1, h2, h3, h4⟩ := app_grow (ty := o.type) (A := A) (n := xs.length) (cap := xs.length) (xs := xs) hT hti hkk hte hsz hz1 hzl hdu hni (hrep rfl (e3.imp id fun ⟨b, o', f, q1, q2⟩ => ⟨b, o', q1, fun q c hq => ⟨f q, (q2 q c hq).2⟩⟩)) (by omega) hfit h62
      rw [← List.length_append] at h1 h2
      obtain ⟨cv, w2, g1, γ', D', g2, g3⟩ := grow_tip hi hKn hK0 rfl h2 h3 h4 (hexec (by rw [ev]; exact h1)) _ _ rfl rfl
      exact gives_eff g2 g3 g1
  split at hr
  · have ev : a.eval x = .slice none 0 0 := by
      have : RepD w D .nils (a.eval x) := hx
      generalize a.eval x = V at this
      cases this
      rfl
    cases hf : flag H o.dst 0 with
    | true =>
      rw [hf] at hr
      simp only [cond_true] at hr
      obtain ⟨hb, hr⟩ := Q.val_ask hr
      replace hb := fit_spec hb
      unfold AM.newRow at hr
      rw [hK] at hr
      cases hk1 : isNew st.u K with
      | false => rw [hk1] at hr; cases hr
      | true => rw [hk1] at hr; cases hr; exact newRw ev rfl hk1 hb.1 hb.2
    | false =>
      rw [hf] at hr
      simp only [cond_false] at hr
      cases hk1 : isNew st.u K with
      | false => rw [hk1] at hr; cases hr
      | true =>
        rw [hk1] at hr
        simp only [cond_true] at hr
        obtain ⟨hb, hr⟩ := Q.val_ask hr
        replace hb := fit_spec hb
        cases hr
        have := newTip (xs := []) (A := none) ev (by rw [ev]; exact .slN _ _ _ _ (by simp)) hk1 (by simpa using hb.1) (by simpa using hb.2)
        simpa using this
  · rename_i t2 xs
    obtain ⟨A, cap, ev, _, hcap, _⟩ := inv_sl (show RepD w D (.sl t2 true xs) (a.eval x) from hx)
    have hcap := hcap rfl
    subst hcap
    cases hf : flag H o.dst 0 with
    | true =>
      rw [hf] at hr
      simp only [cond_true] at hr
      split at hr
      · obtain ⟨hb, hr⟩ := Q.val_ask hr
        replace hb := fit_spec hb
        unfold AM.newRow at hr
        rw [hK] at hr
        cases hk1 : isNew st.u K with
        | false => rw [hk1] at hr; cases hr
        | true => rw [hk1] at hr; cases hr; exact newRw ev rfl hk1 hb.1 hb.2
      · cases hr
    | false =>
      rw [hf] at hr
      simp only [cond_false] at hr
      split at hr
      · rename_i xs' hc
        obtain ⟨rfl, rfl⟩ := castL_spec hc
        cases hk1 : isNew st.u K with
        | false => rw [hk1] at hr; cases hr
        | true =>
          rw [hk1] at hr
          simp only [cond_true] at hr
          obtain ⟨hb, hr⟩ := Q.val_ask hr
          replace hb := fit_spec hb
          cases hr
          exact newTip ev (RepD.unfull hx) hk1 hb.1 hb.2
      · cases hr
  · rename_i k t2 xs
    split at hr
    · rename_i xs' hc hk
      obtain ⟨rfl, rfl⟩ := castL_spec hc
      cases hk1 : isNew st.u K with
      | false => rw [hk1] at hr; cases hr
      | true =>
        rw [hk1] at hr
        simp only [cond_true] at hr
        obtain ⟨hb, hr⟩ := Q.val_ask hr
        replace hb := fit_spec hb
        cases hr
        obtain ⟨q1, hD, q3⟩ := hx
        have hne : K ≠ k := fun e => absurd q1 (by rw [← e]; simpa [isNew] using hk1)
        obtain ⟨A, cap, ev, hcase⟩ := q3 hk
        obtain ⟨A', cap', e1, hlc, _, e3⟩ := inv_sl hD
        rw [ev] at e1
        simp only [Value.slice.injEq, true_and] at e1
        obtain ⟨rfl, rfl⟩ := e1
        have happ : App P γ w D t2 xs'.length cap A xs' ys news (a.eval y) := hrep rfl (e3.imp id fun ⟨b, o', f, q1, q2⟩ => ⟨b, o', q1, fun q c hq => ⟨f q, (q2 q c hq).2⟩⟩)
        have hgrow : cap < xs'.length + ys.length → Gives P c o a w (({ st with h := AM.put K .tok (del k st.h), u := K :: st.u } : St).put o.dst (.tip K t2 (xs' ++ ys))) := by
          intro hg
          obtain ⟨vs, nc, h1, h2, h3, h4⟩ := app_grow (ty := o.type) hT hti hkk hte hsz hz1 hzl hdu hni happ hg hb.1 hb.2
          have s1 := stp_del hi k (Dies.refl hi k) (h' := del k st.h) (fun j hj => by rw [find_del, if_neg hj]) (.inl (by rw [find_del, if_pos rfl]))
          rw [← List.length_append] at h1 h2
          obtain ⟨cv, w2, g1, γ', D', g2, g3⟩ := grow_tip (hi.step s1) (K := K) hk1 hK0 rfl h2 h3 h4 (hexec (by rw [ev]; exact h1)) _ _ rfl rfl
          exact gives_eff g2 g3 g1
        rcases hcase with rfl | ⟨hA, hown, _, hblk, hdead⟩
        · by_cases hy : ys = []
          · have hrun := same hy ev (Nat.le_refl _)
            subst hy
            rw [List.append_nil]
            obtain ⟨γ', D', g1, g2⟩ := move_tip hi (k := k) hk1 hK0 q1 (by rw [ev] at hD; exact hD) ⟨A, rfl⟩
            exact gives_eff g1 g2 hrun
          · have hm : 0 < ys.length := List.length_pos_iff.2 hy
            exact hgrow (by omega)
        · by_cases hroom : xs'.length + ys.length ≤ cap
          · subst hA
            obtain ⟨vs, E, fr, hblk, hcap, hfrz⟩ := hblk
            have hmul : xs'.length * szR t2 + ys.length * szR t2 ≤ cap * szR t2 := by rw [← Nat.add_mul]; exact Nat.mul_le_mul_right _ hroom
            have hle : 0 + xs'.length * szR t2 + news.length ≤ vs.size := by rw [s4]; omega
            have hrun := run_app_room' (ty := o.type) hu hie hdu hni (b := (γ.g k).1) (n := xs'.length) (cap := cap) s1 (by rw [hsi, hsz]; exact s2) hroom s5 (fun j hj => by rw [hsi, hsz, cell_of_block hblk]; simp; omega) (fun j hj => by
              have := hfrz (xs'.length * szR t2 + j) (by omega)
              rw [hsi, hsz]
              simp only [World.frozen?, hblk]
              simp only [Bool.and_eq_false_iff, decide_eq_false_iff_not]
              omega)
            rw [hsi, hsz, show xs'.length * szR t2 = 0 + xs'.length * szR t2 by omega, setCells_row news _ vs w hblk hle] at hrun
            have hp : Pres D w (w.setRow (γ.g k).1 (vs.toList.take (0 + xs'.length * szR t2) ++ news ++ vs.toList.drop (0 + xs'.length * szR t2 + news.length)).toArray) := by
              intro b o' hD'
              by_cases e : b = (γ.g k).1
              · subst e
                rw [cell_of_block (setRow_heap w _ vs _ E _ hblk), cell_of_block hblk, take_set _ _ _ hle, if_neg]
                have := hdead o' hD'
                omega
              · exact cell_setRow_other w _ _ _ e
            have s := stp_turn (D' := deadNew D (γ.g k).1 ((xs'.length + ys.length) * szR t2)) hi (k := k) (K := K) hown (.inr ⟨hk1, hK0⟩) (o' := .tok) (h' := AM.put K .tok (del k st.h)) (fun j h1 h2 => by rw [find_put_ne h1, find_del, if_neg h2]) (fun _ => by rw [find_put_ne (Ne.symm hne), find_del, if_pos rfl]) (find_put_same _ _ _) (.inl rfl) (one_setRow hblk (take_size _ _ _ hle)) hp (fun b o' h => .inl h) (fun b o' h1 h2 => h2.resolve_right fun ⟨e, _⟩ => h1 e) (fun b o' h => by
              rcases h with h | ⟨rfl, _⟩
              · exact hi.dl b o' h
              · exact (hi.hp.own _ k hown).1) (fun h => absurd rfl h) (fun e => absurd e hne) (fun cs e => by cases e) (fun t xs e => by cases e)
            have hbeq : Nat.beq K k = false := by cases hb2 : Nat.beq K k with | false => rfl | true => exact absurd (Nat.eq_of_beq_eq_true hb2) hne
            rw [hbeq] at s
            refine gives_eff (hi.step s) (v := .tip K t2 (xs' ++ ys)) (cv := .slice (some ⟨(γ.g k).1, 0, none⟩) (xs'.length + ys.length) cap) ⟨List.mem_cons_self .., ?_, fun _ => ?_⟩ (hexec (by rw [ev]; exact hrun))
            · have hall : ∀ (q : Nat) (d : AV), (flat t2 (xs' ++ ys))[q]? = some d → ∃ v, (w.setRow (γ.g k).1 (vs.toList.take (0 + xs'.length * szR t2) ++ news ++ vs.toList.drop (0 + xs'.length * szR t2 + news.length)).toArray).cell? ⟨(γ.g k).1, 0 + q, none⟩ = some v ∧ RepD w D d v := by
                intro q d hq
                rw [flat_append, List.getElem?_append, flat_len] at hq
                split at hq
                · rename_i hlt
                  rcases e3 with e3 | ⟨b, o', f, e3, e4⟩
                  · rw [e3] at hq; simp [flat] at hq
                  · simp only [Option.some.injEq, Addr.mk.injEq, and_true] at e3
                    obtain ⟨rfl, rfl⟩ := e3
                    obtain ⟨f1, f2, f3⟩ := e4 q d hq
                    exact ⟨f q, (hp _ _ f1).trans f2, f3⟩
                · rename_i hlt
                  have hq2 : q - xs'.length * szR t2 < news.length := by have := (List.getElem?_eq_some_iff.1 hq).1; rw [flat_len] at this; omega
                  refine ⟨news[q - xs'.length * szR t2], ?_, s6 _ d _ hq (List.getElem?_eq_getElem hq2)⟩
                  rw [cell_of_block (setRow_heap w _ vs _ E _ hblk), take_set _ _ _ hle, if_pos (by omega), ← List.getElem?_eq_getElem hq2]
                  congr 1
                  omega
              have hlt : ∀ (q : Nat) (d : AV), (flat t2 (xs' ++ ys))[q]? = some d → q < (xs'.length + ys.length) * szR t2 := fun q d hq => by
                have := (List.getElem?_eq_some_iff.1 hq).1
                rw [flat_len, List.length_append] at this
                exact this
              have key := RepD.sl (w := w.setRow (γ.g k).1 (vs.toList.take (0 + xs'.length * szR t2) ++ news ++ vs.toList.drop (0 + xs'.length * szR t2 + news.length)).toArray) (D := deadNew D (γ.g k).1 ((xs'.length + ys.length) * szR t2)) t2 false (xs' ++ ys) (γ.g k).1 0 cap (fun q => ((w.setRow (γ.g k).1 (vs.toList.take (0 + xs'.length * szR t2) ++ news ++ vs.toList.drop (0 + xs'.length * szR t2 + news.length)).toArray).cell? ⟨(γ.g k).1, 0 + q, none⟩).getD Go.undef) (by rw [List.length_append]; exact hroom) (by simp) (fun q d hq => by
                obtain ⟨v, h1, _⟩ := hall q d hq
                exact ⟨.inr ⟨rfl, by rw [Nat.zero_add]; exact hlt q d hq⟩, by rw [h1]; rfl⟩) (fun q d hq => by
                obtain ⟨v, h1, h2⟩ := hall q d hq
                rw [h1]
                exact h2.mono s.pres s.dd)
              rw [List.length_append] at key
              exact key
            · rw [List.length_append]
              refine ⟨_, cap, rfl, .inr ⟨by simp [Gh.move], by simp [Gh.move], hroom, ?_, fun o' ho' => ?_⟩⟩
              · refine ⟨_, E, fr, by simp only [Gh.move, if_true]; exact setRow_heap w _ vs _ E _ hblk, by rw [take_size _ _ _ hle]; exact hcap, hfrz⟩
              · simp only [Gh.move, if_true] at ho'
                rcases ho' with ho' | ⟨_, ho'⟩
                · have := hdead o' ho'
                  rw [Nat.add_mul]
                  omega
                · exact ho'
          · exact hgrow (by omega)
    · cases hr
  · rename_i k t2
    split at hr
    · rename_i t3 xs hk
      split at hr
      · rename_i e2
        subst e2
        split at hr
        · rename_i xs' hc
          obtain ⟨rfl, rfl⟩ := castL_spec hc
          cases hk1 : isNew st.u K with
          | false => rw [hk1] at hr; cases hr
          | true =>
            rw [hk1] at hr
            simp only [cond_true] at hr
            obtain ⟨hb, hr⟩ := Q.val_ask hr
            replace hb := fit_spec hb
            cases hr
            have hx0 := hx
            obtain ⟨q1, _, q3, _⟩ := hx
            have hne : K ≠ k := fun e => absurd q1 (by rw [← e]; simpa [isNew] using hk1)
            obtain ⟨A, cap, ev, hlc, _, hcase⟩ := q3 xs' hk
            have hrow : rowAt st.h k = some ⟨t3, xs'⟩ := by simp [rowAt, hk]
            have hsv : asSv st.h (.vw k t3) = .sv k t3 0 xs'.length := by simp [asSv, vwN, hrow]
            obtain ⟨A', cap', ev', _, _, hcells⟩ := row_cells hi.hp hrow (by rw [← hsv]; exact asSv_rep hx0)
            rw [ev] at ev'
            simp only [Value.slice.injEq, true_and] at ev'
            obtain ⟨rfl, rfl⟩ := ev'
            have happ : App P γ w D t3 xs'.length cap A xs' ys news (a.eval y) := hrep rfl (by
              rcases hcells with h1 | ⟨b, o', h1, h2⟩
              · exact .inl (List.eq_nil_of_length_eq_zero h1)
              · exact .inr ⟨b, o', h1, by simpa using h2⟩)
            have sd := stp_del hi k (Dies.refl hi k) (h' := del k st.h) (fun j hj => by rw [find_del, if_neg hj]) (.inl (by rw [find_del, if_pos rfl]))
            have hgrow : cap < xs'.length + ys.length → Gives P c o a w (({ st with h := AM.put K (.row t3 (xs' ++ ys)) (del k st.h), u := K :: st.u } : St).put o.dst (.vw K t3)) := by
              intro hg
              obtain ⟨vs, nc, h1, h2, h3, h4⟩ := app_grow (ty := o.type) hT hti hkk hte hsz hz1 hzl hdu hni happ hg hb.1 hb.2
              obtain ⟨cv, w2, g1, γ', D', g2, g3⟩ := grow_new (hi.step sd) (K := K) hk1 hK0 (List.length_append ..) h2 h3 h4 (hexec (by rw [ev]; exact h1)) _ _ rfl rfl
              exact gives_eff g2 g3 g1
            rcases hcase with ⟨rfl, hl0⟩ | ⟨hA, hown, hLc, hblk⟩
            · by_cases hy : ys = []
              · have hrun := same hy ev hlc
                subst hy
                have hx0 : xs' = [] := List.eq_nil_of_length_eq_zero (by omega)
                subst hx0
                have s2 := stp_bare (hi.step sd) (k := K) hk1 hK0 (o' := .row t3 []) (.inr ⟨t3, rfl⟩)
                refine gives_eff ((hi.step sd).step s2) (v := .vw K t3) ⟨List.mem_cons_self .., ⟨_, _, _, rfl⟩, fun zs hz => ?_, fun zs h => by rw [find_put_same] at h; cases h⟩ hrun
                rw [find_put_same] at hz
                cases hz
                exact ⟨A, 0, rfl, Nat.le_refl _, Nat.le_refl _, .inl ⟨rfl, Nat.le_refl _⟩⟩
              · have hm : 0 < ys.length := List.length_pos_iff.2 hy
                exact hgrow (by omega)
            · by_cases hroom : xs'.length + ys.length ≤ cap
              · subst hA
                obtain ⟨vs, E, hblk, hcap⟩ := hblk
                simp only [Nat.zero_mul, Nat.add_zero, Nat.zero_add] at ev hcap
                have hmul : xs'.length * szR t3 + ys.length * szR t3 ≤ cap * szR t3 := by rw [← Nat.add_mul]; exact Nat.mul_le_mul_right _ hroom
                have hle : (γ.g k).2 + xs'.length * szR t3 + news.length ≤ vs.size := by rw [s4]; omega
                have hrun := run_app_at (ty := o.type) hu hie hdu hni (b := (γ.g k).1) (o := (γ.g k).2) (n := xs'.length) (cap := cap) s1 (by rw [hsi, hsz]; exact s2) hroom s5 hblk (by rw [hsi, hsz]; exact hle)
                rw [hsi, hsz] at hrun
                have hold : ∀ (q : Nat) (c' : AV) (v : Value), (flat t3 xs')[q]? = some c' → vs[(γ.g k).2 + q]? = some v → RepD w D c' v := by
                  intro q c' v h1 h2
                  rcases hi.hp.row k t3 xs' hk with e | ⟨_, vs2, E2, g1, _, g3⟩
                  · subst e; simp [flat] at h1
                  · rw [hblk] at g1
                    cases g1
                    exact g3 q c' v h1 h2
                have hlv : ∀ o', ¬ D (γ.g k).1 o' := hi.hp.lv _ k hown (by rw [hk]; simp)
                have st1 := stp_turn hi (k := k) (K := K) hown (.inr ⟨hk1, hK0⟩) (o' := .row t3 (xs' ++ ys)) (h' := AM.put K (.row t3 (xs' ++ ys)) (del k st.h)) (fun j h1 h2 => by rw [find_put_ne h1, find_del, if_neg h2]) (fun _ => by rw [find_put_ne (Ne.symm hne), find_del, if_pos rfl]) (find_put_same _ _ _) (.inr rfl) (one_setRow hblk (take_size _ _ _ hle)) (fun b o' hD => cell_setRow_other w _ _ _ (fun e => by simp only at e; subst e; exact hlv o' hD)) (fun _ _ h => h) (fun _ _ _ h => h) hi.dl (fun _ => hlv) (fun e => absurd e hne) (fun cs e => by cases e) (fun t zs e => by
                  cases e
                  refine ⟨by rw [take_size _ _ _ hle, List.length_append, Nat.add_mul]; rw [s4] at hle; omega, fun q d v hq hv => ?_⟩
                  rw [flat_append, List.getElem?_append, flat_len] at hq
                  rw [take_set _ _ _ hle] at hv
                  split at hq
                  · rw [if_neg (by omega)] at hv
                    exact hold q d v hq hv
                  · have hq2 := (List.getElem?_eq_some_iff.1 hq).1
                    rw [flat_len] at hq2
                    rw [if_pos (by omega), show (γ.g k).2 + q - ((γ.g k).2 + xs'.length * szR t3) = q - xs'.length * szR t3 by omega] at hv
                    exact s6 _ d v hq hv)
                have hbeq : Nat.beq K k = false := by cases hb2 : Nat.beq K k with | false => rfl | true => exact absurd (Nat.eq_of_beq_eq_true hb2) hne
                rw [hbeq] at st1
                refine gives_eff (hi.step st1) (v := .vw K t3) (cv := .slice (some ⟨(γ.g k).1, (γ.g k).2, none⟩) (xs'.length + ys.length) cap) ⟨List.mem_cons_self .., ⟨_, _, _, rfl⟩, fun zs hz => ?_, fun zs h => by rw [find_put_same] at h; cases h⟩ (hexec (by rw [ev]; exact hrun))
                rw [find_put_same] at hz
                cases hz
                rw [List.length_append]
                refine ⟨_, cap, rfl, hroom, by omega, .inr ⟨by simp [Gh.move], by simp [Gh.move], by omega, ?_⟩⟩
                refine ⟨_, E, by simp only [Gh.move, if_true]; exact setRow_heap w _ vs _ E _ hblk, ?_⟩
                rw [take_size _ _ _ hle]
                simp only [Gh.move, if_true, Nat.zero_add]
                exact hcap
              · exact hgrow (by omega)
        · cases hr
      · cases hr
    · cases hr
  · rename_i k t2 lo n
    split at hr
    · rename_i t3 xs hk
      split at hr
      · rename_i e2
        obtain ⟨rfl, rfl⟩ := e2
        split at hr
        · rename_i xs' hc
          obtain ⟨_, rfl⟩ := castL_spec hc
          obtain ⟨hb, hr⟩ := Q.val_ask hr
          have hb := of_decide_eq_true hb
          cases hr
          obtain ⟨q1, _, q3, _⟩ := hx
          obtain ⟨A, cap, ev, hlc, hln, hcase⟩ := q3 xs' hk
          rcases hcase with ⟨rfl, hl0⟩ | ⟨hA, hown, hLc, hblk⟩
          · have hy : ys = [] := List.eq_nil_of_length_eq_zero (by omega)
            have hrun := same hy ev hlc
            subst hy
            have hxs : xs'.take (lo + n) ++ [] ++ xs'.drop (lo + n + 0) = xs' := by simp
            have sx := stp_ext hi (h' := AM.put k (.row t3 (xs'.take (lo + n) ++ [] ++ xs'.drop (lo + n + 0))) st.h) (fun j => by
              rw [hxs, find_put]
              split
              · rename_i e; subst e; exact hk.symm
              · rfl)
            refine gives_eff (hi.step sx) (v := .sv k t3 lo (n + 0)) (cv := .slice A n 0) ⟨q1, ⟨_, _, _, rfl⟩, fun zs hz => ?_, fun zs h => by rw [find_put_same] at h; cases h⟩ hrun
            rw [find_put_same] at hz
            cases hz
            simp only [List.append_nil, Nat.add_zero, List.take_append_drop]
            exact ⟨A, 0, rfl, hlc, hln, .inl ⟨rfl, hl0⟩⟩
          · subst hA
            obtain ⟨vs, E, hblk, hcap⟩ := hblk
            have hm1 : (lo + n + ys.length) * szR t3 ≤ (lo + cap) * szR t3 := Nat.mul_le_mul_right _ (by omega)
            have hm2 : lo * szR t3 + n * szR t3 = (lo + n) * szR t3 := (Nat.add_mul ..).symm
            have hm3 : (lo + n) * szR t3 + ys.length * szR t3 = (lo + n + ys.length) * szR t3 := (Nat.add_mul ..).symm
            have hle : (γ.g k).2 + lo * szR t3 + n * szR t3 + news.length ≤ vs.size := by rw [s4]; omega
            have hrun := run_app_at (ty := o.type) hu hie hdu hni (b := (γ.g k).1) (o := (γ.g k).2 + lo * szR t3) (n := n) (cap := cap) s1 (by rw [hsi, hsz]; exact s2) (by omega) s5 hblk (by rw [hsi, hsz]; exact hle)
            rw [hsi, hsz] at hrun
            have hlen : (xs'.take (lo + n) ++ ys ++ xs'.drop (lo + n + ys.length)).length = xs'.length := by simp; omega
            obtain ⟨hold, hfit⟩ : (∀ (q : Nat) (c' : AV) (v : Value), (flat t3 xs')[q]? = some c' → vs[(γ.g k).2 + q]? = some v → RepD w D c' v) ∧ (γ.g k).2 + xs'.length * szR t3 ≤ vs.size := by
              have hL : xs'.length * szR t3 ≤ (lo + cap) * szR t3 := Nat.mul_le_mul_right _ hLc
              refine ⟨fun q c' v h1 h2 => ?_, by omega⟩
              rcases hi.hp.row k t3 xs' hk with e | ⟨_, vs2, E2, g1, _, g3⟩
              · subst e; simp [flat] at h1
              · rw [hblk] at g1
                cases g1
                exact g3 q c' v h1 h2
            have hsx := stp_row hi hk hown (xs' := xs'.take (lo + n) ++ ys ++ xs'.drop (lo + n + ys.length)) (vs' := (vs.toList.take ((γ.g k).2 + lo * szR t3 + n * szR t3) ++ news ++ vs.toList.drop ((γ.g k).2 + lo * szR t3 + n * szR t3 + news.length)).toArray) hblk (take_size _ _ _ hle) hlen.symm (by rw [take_size _ _ _ hle, hlen]; exact hfit) (fun q d v hq hv => by
              rw [take_set _ _ _ hle, s4] at hv
              rw [flat_append, flat_append, flat_take, flat_drop, List.append_assoc] at hq
              have htl : ((flat t3 xs').take ((lo + n) * szR t3)).length = (lo + n) * szR t3 := by
                rw [List.length_take, flat_len]
                exact Nat.min_eq_left (Nat.mul_le_mul_right _ hln)
              rw [List.getElem?_append, htl] at hq
              split at hq
              · rename_i hql
                rw [List.getElem?_take, if_pos hql] at hq
                rw [if_neg (by omega)] at hv
                exact hold q d v hq hv
              · rw [List.getElem?_append, flat_len] at hq
                split at hq
                · rw [if_pos (by omega), show (γ.g k).2 + q - ((γ.g k).2 + lo * szR t3 + n * szR t3) = q - (lo + n) * szR t3 by omega] at hv
                  exact s6 _ d v hq hv
                · rw [List.getElem?_drop, show (lo + n + ys.length) * szR t3 + (q - (lo + n) * szR t3 - ys.length * szR t3) = q by omega] at hq
                  rw [if_neg (by omega)] at hv
                  exact hold q d v hq hv)
            refine gives_eff (hi.step hsx) (v := .sv k t3 lo (n + ys.length)) (cv := .slice (some ⟨(γ.g k).1, (γ.g k).2 + lo * szR t3, none⟩) (n + ys.length) cap) ⟨q1, ⟨_, _, _, rfl⟩, fun zs hz => ?_, fun zs h => by rw [find_put_same] at h; cases h⟩ (hexec (by rw [ev]; exact hrun))
            rw [find_put_same] at hz
            cases hz
            rw [hlen]
            refine ⟨_, cap, rfl, by omega, by omega, .inr ⟨by simp [Gh.move], by simp [Gh.move], by omega, ?_⟩⟩
            refine ⟨_, E, by simp only [Gh.move, if_true]; exact setRow_heap w _ vs _ E _ hblk, ?_⟩
            rw [take_size _ _ _ hle]
            simp only [Gh.move, if_true]
            exact hcap
        · cases hr
      · cases hr
    · cases hr
  · cases hr
end
end
end Go.AM
