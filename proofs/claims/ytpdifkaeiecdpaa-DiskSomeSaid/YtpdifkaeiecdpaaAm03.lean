/- A part of the proof: machine and program. -/
import Derived.Test.YtpdifkaeiecdpaaAm02
import Derived.Laws.StructEq
import Derived.ChangeKeysEq
namespace Go.AM
section
variable [Reg]

def Gives (P : Program) (c : Ctx) (o : Oper) (a : Act) (w : World) (st' : St) : Prop :=
  ∃ cv w', ((execOp a.eval o).run P w = .ok (.value cv) w' ∨ ((execOp a.eval o).run P w = .ok .skip w' ∧ cv = Go.undef)) ∧ ∃ γ' D', Inv c γ' D' st' (a.put o.dst cv) w'

theorem dns_rep {γ : Gh} {h : Heap} {u : List Nat} {w : World} {D : Dead} : ∀ {ks : List CK} {cs : List AV} {x : HL Reg.T ks}, dns ks cs = some x → cs.length = ks.length ∧ ∀ (j : Nat) (c d : AV), cs[j]? = some c → (ups ks x)[j]? = some d → c.cell1 = true ∧ ∀ v, RepC γ h u w D c v → RepD w D d v
  | [], [], x, _ => ⟨rfl, by simp⟩
  | [], _ :: _, x, h => by cases h
  | k :: r, [], x, h => by cases h
  | k :: r, c :: cs, x, h => by
    unfold dns at h
    split at h
    · rename_i y z hy hz
      cases h
      obtain ⟨h1, h2⟩ := dns_rep hz
      refine ⟨by simp [h1], fun j c' d hc hd => ?_⟩
      cases j with
      | succ j => exact h2 j c' d (by simpa using hc) (by simpa [ups] using hd)
      | zero =>
        simp only [List.getElem?_cons_zero, Option.some.injEq] at hc
        simp only [ups, List.getElem?_cons_zero, Option.some.injEq] at hd
        subst hc
        subst hd
        unfold CK.dn at hy
        split at hy
        · split at hy
          · rename_i e
            simp only [Option.some.injEq] at hy
            subst hy
            subst e
            exact ⟨rfl, fun v hv => hv⟩
          · simp at hy
        · simp only [Option.some.injEq] at hy; subst hy; exact ⟨rfl, fun v hv => hv⟩
        · simp only [Option.some.injEq] at hy; subst hy; exact ⟨rfl, fun v hv => hv⟩
        · split at hy
          · rename_i e
            simp only [Option.some.injEq] at hy
            subst e
            subst hy
            exact ⟨rfl, fun v hv => RepD.unfull hv⟩
          · simp at hy
        · split at hy
          · rename_i e
            simp only [Option.some.injEq] at hy
            subst e
            subst hy
            exact ⟨rfl, fun v hv => hv.2.1⟩
          · simp at hy
        · simp only [Option.some.injEq] at hy
          subst hy
          refine ⟨rfl, fun v hv => ?_⟩
          cases (show RepD w D .nils v from hv)
          exact .slN _ _ _ _ (by simp)
        · simp at hy
    · simp at h
theorem dnc_rep {γ : Gh} {h : Heap} {u : List Nat} {w : World} {D : Dead} {t : Nat} {cs : List AV} {x : R t} (hx : dnc t cs = some x) : cs.length = szR t ∧ ∀ (j : Nat) (c d : AV), cs[j]? = some c → (cel t x)[j]? = some d → c.cell1 = true ∧ ∀ v, RepC γ h u w D c v → RepD w D d v := by
  unfold dnc at hx
  unfold cel szR
  split at hx
  · rename_i e he
    split at hx
    · rename_i y hy
      simp only [Option.some.injEq] at hx
      subst hx
      simp only [e.h]
      exact dns_rep hy
    · simp at hx
  · simp at hx

section
variable {P : Program} {c : Ctx} {γ : Gh} {D : Dead} {st : St} {a : Act} {w : World} {tb : Tb} {h : Heap} {u : List Nat}

theorem gives_put {o : Oper} (h : Inv c γ D st a w) {v : AV} {cv : Value} (hv : RepV γ st.h st.u w D v cv) (hr : (execOp a.eval o).run P w = .ok (.value cv) w) : Gives P c o a w (st.put o.dst v) :=
  ⟨cv, w, .inl hr, γ, D, h.put hv o.dst⟩

theorem inv_int {k : IntKind} {n : Int} {v : Value} (h1 : RepV γ h u w D (.int k n) v) : v = .int k n := by cases (show RepD w D _ v from h1); rfl
theorem inv_bool {b : Bool} {v : Value} (h1 : RepV γ h u w D (.bool b) v) : v = .bool b := by cases (show RepD w D _ v from h1); rfl
theorem inv_str {l : List UInt8} {v : Value} (h1 : RepV γ h u w D (.str l) v) : ∃ s, v = .string s ∧ s.data.toList = l := by
  cases (show RepD w D _ v from h1) with
  | str _ s hs => exact ⟨s, rfl, hs⟩
theorem inv_agg {cs : List AV} {v : Value} (h1 : RepV γ h u w D (.agg cs) v) : ∃ vs : Array Value, v = .agg vs ∧ vs.size = cs.length ∧ ∀ (i : Nat) (c : AV) (x : Value), cs[i]? = some c → vs[i]? = some x → RepC γ h u w D c x ∧ Cell c := h1
theorem inv_rp {cs : List AV} {j : Nat} {v : Value} (h1 : RepV γ h u w D (.rp cs j) v) : ∃ (b o : Nat) (f : Nat → Value), v = .pointer (some ⟨b, o + j, none⟩) ∧ one1 cs = true ∧
    (∀ (q : Nat) (c : AV), cs[q]? = some c → D b (o + q) ∧ w.cell? ⟨b, o + q, none⟩ = some (f q)) ∧ (∀ (q : Nat) (c : AV), cs[q]? = some c → RepD w D c (f q)) := by
  cases (show RepD w D _ v from h1) with
  | rp _ _ b o f h2 hc hr => exact ⟨b, o, f, rfl, h2, hc, hr⟩

theorem sound_move {o : Oper} (h : Inv c γ D st a w) (x : Operand) (ho : o.op = .move x ∨ o.op = .assign x) : Gives P c o a w (st.put o.dst (st.ev x)) := by
  refine gives_put h (h.ev x) ?_
  rcases ho with ho | ho <;> simp [execOp, ho]

theorem pick_rep {x y : AV} {vx vy : Value} (hx : RepV γ h u w D x vx) (hy : RepV γ h u w D y vy) (t : Bool) : RepV γ h u w D (pickAV t x y) (bif t then vx else vy) := by
  unfold pickAV
  split
  · split
    · rename_i e; subst e; cases t <;> assumption
    · trivial
  · cases t <;> assumption
  · cases t <;> assumption
  · split
    · rename_i e; subst e
      split
      · rename_i e; subst e; cases t <;> assumption
      · trivial
    · trivial
  · cases t <;> assumption

theorem sound_pick {o : Oper} (h : Inv c γ D st a w) {x y z : Operand} (ho : o.op = .pick x y z) {t : Bool} (hx : st.ev x = .bool t) : Gives P c o a w (st.put o.dst (pickAV t (st.ev y) (st.ev z))) := by
  have e := inv_bool (hx ▸ h.ev x)
  refine gives_put h (pick_rep (h.ev y) (h.ev z) t) ?_
  cases t <;> simp [execOp, ho, e, Go.asBool]

theorem sound_nilCheck {o : Oper} (h : Inv c γ D st a w) {x : Operand} (ho : o.op = .nilCheck x) {v : AV}
    (hs : (match st.ev x with | .ptr k off => (.ret (.ptr k off) : Q AV) | .rp cs j => .ret (.rp cs j) | .ra t xs => .ret (.ra t xs) | .ep k t i j => .ret (.ep k t i j) | .fn f cs => .ret (.fn f cs) | _ => .fail).val = some v) : Gives P c o a w (st.put o.dst v) := by
  have hx := h.ev x
  split at hs <;> simp only [Q.val, Q.run, Option.some.injEq, reduceCtorEq] at hs <;> subst hs <;> rename_i e <;> rw [e] at hx
  · obtain ⟨q1, ⟨A, q2⟩, q3⟩ := hx
    exact gives_put h ⟨q1, ⟨A, q2⟩, q3⟩ (by simp [execOp, ho, q2])
  · obtain ⟨b, o', f, hv, _⟩ := inv_rp hx
    exact gives_put h hx (by simp [execOp, ho, hv])
  · have hx' : RepD w D _ (a.eval x) := hx
    refine gives_put h (.of hx') ?_
    generalize he : a.eval x = V at hx'
    cases hx'
    simp [execOp, ho, he]
  · obtain ⟨q1, ⟨A, q2⟩, q3⟩ := hx
    exact gives_put h ⟨q1, ⟨A, q2⟩, q3⟩ (by simp [execOp, ho, q2])
  · obtain ⟨vs, e1, e2⟩ := hx
    exact gives_put h ⟨vs, e1, e2⟩ (by simp [execOp, ho, e1])

omit [Reg] in
theorem run_eqGuard_int (op : BinOp) (t : Nat) (x y : Operand) (k k' : IntKind) (m n : Int) : (eqGuard op t x y (.int k m) (.int k' n)).run P w = .ok () w := by
  unfold eqGuard
  split <;> simp
omit [Reg] in
theorem run_eqGuard_str (op : BinOp) (t : Nat) (x y : Operand) (s s' : ByteArray) : (eqGuard op t x y (.string s) (.string s')).run P w = .ok () w := by
  unfold eqGuard
  split <;> simp

theorem intQ_sound {op : BinOp} {k : IntKind} {m n : Int} {v : AV} (hv : (intQ op k m n).val = some v) (t : Nat) : ∃ cv, (binOp op t (.int k m) (.int k n)).run P w = .ok cv w ∧ RepV γ h u w D v cv := by
  unfold intQ at hv
  split at hv <;> first
    | (simp only [Q.val, Q.run, Option.some.injEq, reduceCtorEq] at hv; subst hv; exact ⟨_, by simp [binOp, Op.intArith, Op.intBits, Op.intCmp], .of (.int _ _)⟩)
    | (simp only [Q.val, Q.run, Option.some.injEq, reduceCtorEq] at hv; subst hv; exact ⟨_, by simp [binOp, Op.intCmp], .of (.bool _)⟩)
    | (obtain ⟨h1, h2⟩ := Q.val_ask hv
       simp only [Bool.not_eq_true', decide_eq_false_iff_not] at h1
       simp only [Q.val, Q.run, Option.some.injEq] at h2
       subst h2
       exact ⟨_, by simp [binOp, Op.intDiv, h1], .of (.int _ _)⟩)
    | (simp [Q.val, Q.run] at hv; done)

theorem shiftQ_sound {op : BinOp} {k k' : IntKind} {m n : Int} {v : AV} (hop : op = .shl ∨ op = .shr) (hv : (shiftQ op k m n).val = some v) (t : Nat) : ∃ cv, (binOp op t (.int k m) (.int k' n)).run P w = .ok cv w ∧ RepV γ h u w D v cv := by
  unfold shiftQ at hv
  rcases hop with rfl | rfl
  all_goals
    obtain ⟨h1, h2⟩ := Q.val_ask hv
    have hn : ¬ n < 0 := by simpa using h1
    simp only [Q.val, Q.run, Option.some.injEq] at h2
    subst h2
    exact ⟨_, by simp [binOp, Op.shift, hn], .of (.int _ _)⟩

theorem strQ_sound {op : BinOp} {s s' : ByteArray} {v : AV} (hv : (strQ op s.data.toList s'.data.toList).val = some v) (t : Nat) : ∃ cv, (binOp op t (.string s) (.string s')).run P w = .ok cv w ∧ RepV γ h u w D v cv := by
  have htl : ∀ x : ByteArray, x.toList = x.data.toList := fun x => by
    exact ByteArray.toList_eq x
  unfold strQ at hv
  split at hv
  · obtain ⟨h1, h2⟩ := Q.val_ask hv
    simp only [decide_eq_true_eq] at h1
    simp only [Q.val, Q.run, Option.some.injEq] at h2
    subst h2
    have hs : s.size = s.data.toList.length := by rw [Array.length_toList]; rfl
    have hs' : s'.size = s'.data.toList.length := by rw [Array.length_toList]; rfl
    have hmax : IntKind.i64.max = 9223372036854775807 := by decide
    refine ⟨.string (s ++ s'), ?_, .of (.str _ _ (by simp))⟩
    have : ¬ ((s.size + s'.size : Nat) : Int) > IntKind.i64.max := by rw [hmax, hs, hs']; unfold big62 at h1; omega
    simp only [binOp, Op.stringOp]
    rw [if_neg this]
    rfl
  · simp only [Q.val, Q.run, Option.some.injEq] at hv
    subst hv
    exact ⟨_, by simp [binOp, Op.stringOp, htl], .of (.bool _)⟩
  · simp only [Q.val, Q.run, Option.some.injEq] at hv
    subst hv
    exact ⟨_, by simp [binOp, Op.stringOp, htl], .of (.bool _)⟩
  · simp [Q.val, Q.run] at hv

theorem ty_bool {t : Nat} {ti : TI} (h : tyOf P t = some ti) (hk : ti.k = .bool) : P.underlying t = some .bool := by
  obtain ⟨i, d, _, hd, hk', _⟩ := tyOf.parts h
  rw [hd]
  rw [hk] at hk'
  cases d <;> simp only [kindOf] at hk' <;> first | rfl | (simp at hk'; done) | (split at hk' <;> simp at hk'; done)
theorem ty_ptr {t : Nat} {ti : TI} (h : tyOf P t = some ti) (hk : ti.k = .ptr) : ∃ e, P.underlying t = some (.pointer e) := by
  obtain ⟨i, d, _, hd, hk', _⟩ := tyOf.parts h
  rw [hk] at hk'
  cases d <;> simp only [kindOf] at hk' <;> first | exact ⟨_, hd⟩ | (simp at hk'; done) | (split at hk' <;> simp at hk'; done)

omit [Reg] in
theorem equal_bool {t : Nat} (hu : P.underlying t = some .bool) (x y : Bool) : (Op.equal t (.bool x) (.bool y)).run P w = .ok (x == y) w := by
  unfold Op.equal Op.maxDepth Op.equalIn
  simp only [Sem.run_bind, run_underlying' w hu, Result.andThen_ok]
  rfl
omit [Reg] in
theorem equal_nil {t e : Nat} (hu : P.underlying t = some (.pointer e)) (y : Option Addr) : (Op.equal t (.pointer none) (.pointer y)).run P w = .ok y.isNone w := by
  unfold Op.equal Op.maxDepth Op.equalIn
  simp only [Sem.run_bind, run_underlying' w hu, Result.andThen_ok]
  rfl
omit [Reg] in
theorem equal_to_nil {t e : Nat} (hu : P.underlying t = some (.pointer e)) (x : Addr) : (Op.equal t (.pointer (some x)) (.pointer none)).run P w = .ok false w := by
  unfold Op.equal Op.maxDepth Op.equalIn
  simp only [Sem.run_bind, run_underlying' w hu, Result.andThen_ok]
  rfl

theorem ty_plain {t : Nat} {ti : TI} (h : tyOf P t = some ti) {x y : AV} {r : Bool} (he : eqCell ti.k x y = some r) : P.plainKey t = true := by
  obtain ⟨i, d, _, hd, hk', _⟩ := tyOf.parts h
  unfold Program.plainKey
  rw [hd]
  unfold eqCell at he
  split at he <;> rename_i hk <;> first | (simp at he; done) | (rw [hk] at hk'; cases d <;> simp only [kindOf] at hk' <;> first | rfl | (simp at hk'; done) | (split at hk' <;> simp at hk'; done))

theorem eqCell_sound {t : Nat} {ti : TI} (ht : tyOf P t = some ti) {x y : AV} {vx vy : Value} (hx : RepC γ h u w D x vx) (hy : RepC γ h u w D y vy) {r : Bool} (he : eqCell ti.k x y = some r) (d : Nat) : (Op.equalIn (d + 1) t vx vy).run P w = .ok r w := by
  obtain ⟨i, ds, _, hd, hk', _⟩ := tyOf.parts ht
  unfold eqCell at he
  split at he
  · rename_i q k a k' b hk
    split at he
    · rename_i e
      subst e
      cases (show RepD w D _ vx from hx)
      cases (show RepD w D _ vy from hy)
      simp only [Option.some.injEq] at he
      subst he
      rw [hk] at hk'
      have hu : P.underlying t = some (.int q) := by
        rw [hd]
        cases ds <;> simp only [kindOf] at hk' <;> first | (simp at hk'; subst hk'; rfl) | (simp at hk'; done) | (split at hk' <;> simp at hk'; done)
      exact run_equalIn_int w d t _ q a b hu
    · simp at he
  · rename_i a b hk
    cases (show RepD w D _ vx from hx)
    cases (show RepD w D _ vy from hy)
    simp only [Option.some.injEq] at he
    subst he
    exact run_equalIn_bool w d t a b (ty_bool ht hk)
  · rename_i a b hk
    cases (show RepD w D _ vx from hx)
    cases (show RepD w D _ vy from hy)
    simp only [Option.some.injEq] at he
    subst he
    rw [hk] at hk'
    have hu : P.underlying t = some .string := by
      rw [hd]
      cases ds <;> simp only [kindOf] at hk' <;> first | rfl | (simp at hk'; done) | (split at hk' <;> simp at hk'; done)
    rw [run_equalIn_string w d t _ _ hu, ByteArray.toList_eq, ByteArray.toList_eq]
    subst_vars
    rfl
  · simp at he

theorem eqFs_sound (hT : TbOk P tb) (d : Nat) {vs us : Array Value} : ∀ (F : List Field) (i : Nat) (xs ys : List AV) (r : Bool), eqFs tb i (F.map fun f => (f.offset, f.type)) xs ys = some r →
    (∀ (j : Nat) (c : AV), xs[j]? = some c → ∃ v, vs[i + j]? = some v ∧ RepC γ h u w D c v) → (∀ (j : Nat) (c : AV), ys[j]? = some c → ∃ v, us[i + j]? = some v ∧ RepC γ h u w D c v) →
    (∀ f ∈ F, P.plainKey f.type = true) ∧ ((∀ f ∈ F, f.name ≠ "_") → (Op.eqFields (d + 1) vs us F).run P w = .ok r w)
  | [], i, xs, ys, r, he, hx, hy => by
    cases xs <;> cases ys <;> simp [eqFs] at he
    subst he
    exact ⟨by simp, fun _ => by simp [Op.eqFields]⟩
  | f :: F, i, [], ys, r, he, hx, hy => by simp [eqFs] at he
  | f :: F, i, x :: xs, [], r, he, hx, hy => by simp [eqFs] at he
  | f :: F, i, x :: xs, y :: ys, r, he, hx, hy => by
    simp only [List.map_cons, eqFs] at he
    split at he
    · rename_i ho
      split at he
      · rename_i ti hti
        split at he
        · rename_i a b ha hb
          simp only [Option.some.injEq] at he
          subst he
          obtain ⟨h1, h2⟩ := eqFs_sound hT d F (i + 1) xs ys b hb (fun j c hj => by rw [Nat.add_assoc, Nat.add_comm 1 j]; exact hx (j + 1) c (by simpa using hj)) (fun j c hj => by rw [Nat.add_assoc, Nat.add_comm 1 j]; exact hy (j + 1) c (by simpa using hj))
          obtain ⟨v, hv, rv⟩ := hx 0 x rfl
          obtain ⟨u', hu, ru⟩ := hy 0 y rfl
          have ht := hT _ _ hti
          have hp := ty_plain ht ha
          refine ⟨fun g hg => ?_, fun hn => ?_⟩
          · rcases List.mem_cons.1 hg with rfl | hg
            · exact hp
            · exact h1 g hg
          · rw [Nat.add_zero, ← ho] at hv hu
            simp only [Op.eqFields, hn f (by simp), ne_eq, not_false_eq_true, if_true, Sem.run_bind, run_part_plain w hp hv, run_part_plain w hp hu, Result.andThen_ok, eqCell_sound ht rv ru ha d]
            cases a
            · simp
            · simpa using h2 fun g hg => hn g (by simp [hg])
        · simp at he
      · simp at he
    · simp at he

theorem rep_cells {cs : List AV} {v : Value} (h1 : RepV γ h u w D (.agg cs) v) : ∃ vs : Array Value, v = .agg vs ∧ ∀ (j : Nat) (c : AV), cs[j]? = some c → ∃ v, vs[0 + j]? = some v ∧ RepC γ h u w D c v := by
  obtain ⟨vs, rfl, hs, hc⟩ := h1
  refine ⟨vs, rfl, fun j c hj => ?_⟩
  have hl : j < cs.length := (List.getElem?_eq_some_iff.1 hj).1
  rw [Nat.zero_add]
  have hv : vs[j]? = some vs[j] := Array.getElem?_eq_getElem (by omega)
  exact ⟨_, hv, (hc j c _ hj hv).1⟩

theorem ty_iface {t : Nat} {ti : TI} (ht : tyOf P t = some ti) (hk : ti.k = .iface) : ∃ ms, P.underlying t = some (.interface ms) := by
  obtain ⟨i, d, _, hd, hk', _⟩ := tyOf.parts ht
  rw [hk] at hk'
  cases d <;> simp only [kindOf] at hk' <;> first | exact ⟨_, hd⟩ | (simp at hk'; done) | (split at hk' <;> simp at hk'; done)
omit [Reg] in
theorem equal_iface {t : Nat} {ms} (hu : P.underlying t = some (.interface ms)) : (Op.equal t .nilIface .nilIface).run P w = .ok true w ∧ (∀ e v, (Op.equal t .nilIface (.iface e v)).run P w = .ok false w) ∧ ∀ e v, (Op.equal t (.iface e v) .nilIface).run P w = .ok false w := by
  unfold Op.equal Op.maxDepth Op.equalIn
  simp only [Sem.run_bind, run_underlying' w hu, Result.andThen_ok]
  exact ⟨rfl, fun _ _ => rfl, fun _ _ => rfl⟩

theorem eqA_sound (hT : TbOk P tb) {t : Nat} {ti : TI} (ht : tyOf P t = some ti) {x y : AV} {vx vy : Value} (hx : RepV γ h u w D x vx) (hy : RepV γ h u w D y vy) {r cst : Bool} (he : eqA tb ti.k cst x y = some r) :
    (∀ op xo yo, cst = (isConst xo || isConst yo) → (eqGuard op t xo yo vx vy).run P w = .ok () w) ∧ (binOp .eql t vx vy).run P w = .ok (.bool r) w ∧ (binOp .neq t vx vy).run P w = .ok (.bool (!r)) w := by
  have ptr : ∀ {k : TK}, k = .ptr → ti.k = k → ∀ {A : Option Addr} {B : Option Addr} {r : Bool}, (A = none ∧ r = B.isNone) ∨ (A.isSome = true ∧ B = none ∧ r = false) → 
      (∀ op xo yo, cst = (isConst xo || isConst yo) → (eqGuard op t xo yo (.pointer A) (.pointer B)).run P w = .ok () w) ∧ (binOp .eql t (.pointer A) (.pointer B)).run P w = .ok (.bool r) w ∧ (binOp .neq t (.pointer A) (.pointer B)).run P w = .ok (.bool (!r)) w := by
    rintro k rfl hk A B r hc
    obtain ⟨e, hu⟩ := ty_ptr ht hk
    rcases hc with ⟨rfl, rfl⟩ | ⟨hA, rfl, rfl⟩
    · exact ⟨fun op xo yo _ => by unfold eqGuard; split <;> simp, by simp [binOp, equal_nil hu], by simp [binOp, equal_nil hu]⟩
    · cases A with
      | none => simp at hA
      | some A => exact ⟨fun op xo yo _ => by unfold eqGuard; split <;> simp, by simp [binOp, equal_to_nil hu], by simp [binOp, equal_to_nil hu]⟩
  unfold eqA at he
  split at he <;> try simp only [Option.some.injEq, reduceCtorEq] at he
  · rename_i fs a b hk
    obtain ⟨F, hu, rfl, _⟩ := ty_struct ht hk
    obtain ⟨vs, rfl, h1⟩ := rep_cells hx
    obtain ⟨us, rfl, h2⟩ := rep_cells hy
    obtain ⟨p1, p2⟩ := eqFs_sound (w := w) (D := D) hT 9998 F.toList 0 a b r he h1 h2
    have hq := tyOf.structEq ht hu
    have hall : (F.toList.all fun f => P.plainKey f.type) = true := List.all_eq_true.2 p1
    simp only [structEqB, hall, Bool.not_true, Bool.false_or, Bool.and_eq_true, Bool.not_eq_true'] at hq
    have hn : ∀ f ∈ F.toList, f.name ≠ "_" := fun f hf => by simpa using List.all_eq_true.1 hq.2 f hf
    have hfo : P.fieldsOf t = F := by simp [Program.fieldsOf, hu]
    have hr : (Op.equalIn 10000 t (.agg vs) (.agg us)).run P w = .ok r w := by
      have := run_equalIn_struct w 9999 t vs us (by rw [hfo]; exact hu) hq.1.1 (P := P)
      rw [this, hfo]
      exact p2 hn
    exact ⟨fun op xo yo _ => run_eqGuard_agg w op t xo yo vs us hq.1.2, by rw [run_eql_struct, hr]; rfl, by rw [run_neq_struct, hr]; rfl⟩
  · rename_i hk
    obtain rfl := inv_bool hx
    obtain rfl := inv_bool hy
    subst he
    exact ⟨fun op xo yo _ => by unfold eqGuard; split <;> simp, by simp [binOp, equal_bool (ty_bool ht hk)], by simp [binOp, equal_bool (ty_bool ht hk)]⟩
  · rename_i hk
    subst he
    cases (show RepD w D .nilp vx from hx)
    cases (show RepD w D .nilp vy from hy)
    exact ptr rfl hk (.inl ⟨rfl, rfl⟩)
  · rename_i hk
    subst he
    obtain ⟨b, o, f, rfl, _⟩ := inv_rp hx
    cases (show RepD w D .nilp vy from hy)
    exact ptr rfl hk (.inr ⟨rfl, rfl, rfl⟩)
  · rename_i hk
    subst he
    obtain ⟨b, o, f, rfl, _⟩ := inv_rp hy
    cases (show RepD w D .nilp vx from hx)
    exact ptr rfl hk (.inl ⟨rfl, rfl⟩)
  · rename_i hk
    subst he
    cases (show RepD w D (.ra _ _) vx from hx)
    cases (show RepD w D .nilp vy from hy)
    exact ptr rfl hk (.inr ⟨rfl, rfl, rfl⟩)
  · rename_i hk
    subst he
    obtain ⟨_, ⟨A, rfl⟩, _⟩ := hx
    cases (show RepD w D .nilp vy from hy)
    exact ptr rfl hk (.inr ⟨rfl, rfl, rfl⟩)
  · rename_i hk
    subst he
    obtain ⟨_, ⟨A, rfl⟩, _⟩ := hy
    cases (show RepD w D .nilp vx from hx)
    exact ptr rfl hk (.inl ⟨rfl, rfl⟩)
  · rename_i hk
    obtain ⟨ms, hu⟩ := ty_iface ht hk
    cases (show RepD w D .nili vx from hx)
    cases (show RepD w D .nili vy from hy)
    cases hc : cst with
    | false => rw [hc] at he; simp at he
    | true =>
      rw [hc] at he
      simp only [cond_true, Option.some.injEq] at he
      subst he
      refine ⟨fun op xo yo e => ?_, by simp [binOp, (equal_iface hu).1], by simp [binOp, (equal_iface hu).1]⟩
      unfold eqGuard
      cases xo <;> cases yo <;> first | (simp [isConst] at e; done) | (split <;> simp)
  all_goals
    rename_i hk
    obtain ⟨ms, hu⟩ := ty_iface ht hk
    subst he
  · cases (show RepD w D .nili vy from hy)
    cases (show RepD w D (.iface _ _) vx from hx)
    exact ⟨fun op xo yo _ => by unfold eqGuard; split <;> simp, by simp [binOp, (equal_iface hu).2.2], by simp [binOp, (equal_iface hu).2.2]⟩
  · cases (show RepD w D .nili vx from hx)
    cases (show RepD w D (.iface _ _) vy from hy)
    exact ⟨fun op xo yo _ => by unfold eqGuard; split <;> simp, by simp [binOp, (equal_iface hu).2.1], by simp [binOp, (equal_iface hu).2.1]⟩

theorem sound_binOp (hT : TbOk P tb) {o : Oper} (h : Inv c γ D st a w) {op : BinOp} {t u : Nat} {x y : Operand} (ho : o.op = .binOp op t x y u) {v : AV} (hv : (binQ tb op t (isConst x || isConst y) (st.ev x) (st.ev y)).val = some v) :
    Gives P c o a w (st.put o.dst v) := by
  have hx := h.ev x
  have hy := h.ev y
  suffices hs : ∃ cv, (eqGuard op t x y (a.eval x) (a.eval y)).run P w = .ok () w ∧ (binOp op t (a.eval x) (a.eval y)).run P w = .ok cv w ∧ RepV γ st.h st.u w D v cv by
    obtain ⟨cv, h1, h2, h3⟩ := hs
    exact gives_put h h3 (by simp [execOp, ho, h1, h2])
  generalize st.ev x = X at hx hv
  generalize st.ev y = Y at hy hv
  unfold binQ at hv
  split at hv
  · rename_i k m k' n
    rw [inv_int hx, inv_int hy]
    split at hv
    · obtain ⟨cv, h1, h2⟩ := shiftQ_sound (P := P) (γ := γ) (w := w) (D := D) (h := st.h) (u := st.u) (k' := k') (.inl rfl) hv t
      exact ⟨cv, run_eqGuard_int _ _ _ _ _ _ _ _, h1, h2⟩
    · obtain ⟨cv, h1, h2⟩ := shiftQ_sound (P := P) (γ := γ) (w := w) (D := D) (h := st.h) (u := st.u) (k' := k') (.inr rfl) hv t
      exact ⟨cv, run_eqGuard_int _ _ _ _ _ _ _ _, h1, h2⟩
    · split at hv
      · rename_i e
        subst e
        obtain ⟨cv, h1, h2⟩ := intQ_sound (P := P) (γ := γ) (w := w) (D := D) (h := st.h) (u := st.u) hv t
        exact ⟨cv, run_eqGuard_int _ _ _ _ _ _ _ _, h1, h2⟩
      · simp [Q.val, Q.run] at hv
  · rename_i l l'
    obtain ⟨s, e, hs⟩ := inv_str hx
    obtain ⟨s', e', hs'⟩ := inv_str hy
    rw [e, e']
    subst hs
    subst hs'
    obtain ⟨cv, h1, h2⟩ := strQ_sound (P := P) (γ := γ) (w := w) (D := D) (h := st.h) (u := st.u) hv t
    exact ⟨cv, run_eqGuard_str _ _ _ _ _ _, h1, h2⟩
  · split at hv
    · rename_i ti hti
      have ht := hT _ _ hti
      split at hv
      · split at hv
        · rename_i r he
          simp only [Q.val, Q.run, Option.some.injEq] at hv
          subst hv
          obtain ⟨h2, h3, _⟩ := eqA_sound hT ht hx hy he
          exact ⟨_, h2 _ _ _ rfl, h3, .of (.bool _)⟩
        · simp [Q.val, Q.run] at hv
      · split at hv
        · rename_i r he
          simp only [Q.val, Q.run, Option.some.injEq] at hv
          subst hv
          obtain ⟨h2, _, h3⟩ := eqA_sound hT ht hx hy he
          exact ⟨_, h2 _ _ _ rfl, h3, .of (.bool _)⟩
        · simp [Q.val, Q.run] at hv
      · simp [Q.val, Q.run] at hv
    · simp [Q.val, Q.run] at hv

theorem sound_unOp {o : Oper} (h : Inv c γ D st a w) {op : UnOp} {t : Nat} {x : Operand} (ho : o.op = .unOp op t x) {v : AV} (hv : (unQ op (st.ev x)).val = some v) : Gives P c o a w (st.put o.dst v) := by
  have hx := h.ev x
  suffices hs : ∃ cv, (Op.unary op (a.eval x)).run P w = .ok cv w ∧ RepV γ st.h st.u w D v cv by
    obtain ⟨cv, h1, h2⟩ := hs
    exact gives_put h h2 (by simp [execOp, ho, h1])
  generalize st.ev x = X at hx hv
  unfold unQ at hv
  split at hv
  · simp only [Q.val, Q.run, Option.some.injEq] at hv
    subst hv
    rw [inv_bool hx]
    exact ⟨_, by simp [Op.unary], .of (.bool _)⟩
  · simp only [Q.val, Q.run, Option.some.injEq] at hv
    subst hv
    rw [inv_int hx]
    exact ⟨_, by simp [Op.unary, Op.intArith], .of (.int _ _)⟩
  · rw [inv_int hx]
    simp only [intQ, Q.val, Q.run, Option.some.injEq] at hv
    subst hv
    exact ⟨_, by simp [Op.unary, Op.intBits], .of (.int _ _)⟩
  · simp [Q.val, Q.run] at hv

theorem sound_extract {o : Oper} (h : Inv c γ D st a w) {x : Operand} {i : Nat} (ho : o.op = .extract x i) {vs : List AV} (hx : st.ev x = .tup vs) {v : AV} (hv : vs[i]? = some v) : Gives P c o a w (st.put o.dst v) := by
  have hx' := h.ev x
  rw [hx] at hx'
  obtain ⟨arr, e, hn, hh⟩ := hx'
  have hi : i < arr.size := by rw [hn]; exact (List.getElem?_eq_some_iff.1 hv).1
  refine gives_put h (hh i v arr[i] hv (Array.getElem?_eq_getElem hi)).v ?_
  simp [execOp, ho, e, Instr.extract, Array.getElem?_eq_getElem hi]

theorem sound_makeFunc {o : Oper} (h : Inv c γ D st a w) {f : Nat} {first cap : Array Operand} (ho : o.op = .makeFunc (.func f) first cap) (h0 : first.size = 0) (h1 : (cap.toList.map st.ev).all AV.atom = true) : Gives P c o a w (st.put o.dst (.fn f (cap.toList.map st.ev))) := by
  have e0 : first = #[] := Array.eq_empty_of_size_eq_zero h0
  refine gives_put h (cv := .func (.func f) #[] (cap.map a.eval)) ⟨_, rfl, by simp, fun i c x hi hj => ?_⟩ (by simp [execOp, ho, e0, Instr.makeFunc])
  rw [List.getElem?_map, Array.getElem?_toList, Option.map_eq_some_iff] at hi
  obtain ⟨y, hy, rfl⟩ := hi
  rw [Array.getElem?_map, hy] at hj
  simp only [Option.map_some, Option.some.injEq] at hj
  subst hj
  have hc : (st.ev y).atom = true := List.all_eq_true.1 h1 _ (List.mem_map.2 ⟨y, by simpa using Array.mem_of_getElem? hy, rfl⟩)
  have hv := h.ev y
  generalize st.ev y = Y at hc hv
  cases Y <;> first | (simp [AV.atom, AV.cell1] at hc; done) | exact ⟨hv, .inr rfl⟩
end
end
end Go.AM
