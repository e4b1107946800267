/- Soundness: a call, one operation, a region's operations in a given order. -/
import Derived.Test.YtnhfjkckgicidaaAmCall
import Derived.Orders
set_option linter.unusedVariables false
set_option linter.unusedSimpArgs false
namespace Go.AM
open Go.RowKit Go.Lib

/-! ### Direct style -/
def callD (F : Fns) (draw : Bool) (st : St) (dst : Option Nat) (f : AV) (args : List AV) : Option St :=
  match f with
  | .fn n =>
    (match st.pass 0 args with
    | some (vs, ks) =>
      (match st.boxesAt ks with
      | some bs =>
        if !draw || disj ks st.rd then
          (match F n vs bs with
          | some (v, bs') => if bs'.length = bs.length ∧ (draw = true → curBx st bs' = true ∧ curAt ({ st with b := putBoxes st.b ks bs', wr := ks ++ st.wr }.put dst v) dst = true) then some ({ st with b := putBoxes st.b ks bs', wr := ks ++ st.wr }.put dst v) else none
          | none => none)
        else none
      | none => none)
    | none => none)
  | _ => none

theorem callK_D {F : Fns} {sh : List (Nat × Sh)} {draw : Bool} {st : St} {dst : Option Nat} {ty : Nat} {f : AV} {args : List AV} {K : St → Res} {r : AV × Boxes} (h : callK F sh draw st dst ty f args K = some r) :
    ∃ st', callD F draw st dst f args = some st' ∧ K st' = some r := by
  unfold callK at h
  unfold callD
  split at h
  · split at h
    · rename_i vs ks hp
      simp only [hp]
      split at h
      · rename_i bs hb
        simp only [hb]
        split at h
        · rename_i hd
          simp only [hd, if_true]
          unfold onRes at h
          split at h
          · rename_i v bs' hF
            simp only [hF]
            have h1 := shRes_some h
            obtain ⟨h2, h3⟩ := shBoxes_some h1
            cases draw
            · exact ⟨_, by rw [if_pos ⟨h3, by simp⟩], h2⟩
            · cases hc : (curBx st bs' && curAt ({ st with b := putBoxes st.b ks bs', wr := ks ++ st.wr }.put dst v) dst)
              · rw [hc] at h2; simp at h2
              · rw [hc] at h2
                simp only [Bool.and_eq_true] at hc
                exact ⟨_, by rw [if_pos ⟨h3, fun _ => hc⟩], h2⟩
          · simp at h
        · simp at h
      · simp at h
    · simp at h
  · simp at h

/-- One operation. -/
def stepD (E : Ev) (draw : Bool) (st : St) (o : Oper) : Option St :=
  match o.op with
  | .call { callee := .value f, args, .. } => callD E.F draw st o.dst (st.ev f) (args.toList.map st.ev)
  | _ => (match stepA E.tb draw st o with
    | some st' => bif draw then (bif isBump E.tb o then (bif keepsPtr st' st.t && keepsPtrB st' st.b then some st'.canon else none) else (bif curAt st' o.dst then some st' else none)) else some st'
    | none => none)

theorem ask1_spec {c : Bool} {st' : St} {x : Option AV} {sh : Sh} {f : AV → St} {e : AV} (h : ask1 c st' = some (true, x, sh, f)) (he : x = some e) : c = true ∧ f e = st' := by
  simp only [ask1, Option.some.injEq, Prod.mk.injEq] at h
  obtain ⟨h1, _, _, h4⟩ := h
  exact ⟨h1, by rw [← h4]⟩

theorem sliceU_spec {tb : Tb} {t : Nat} {x : AV} {lo hi mx : Option AV} {v : AV} (h : sliceU tb t x lo hi mx = some (true, v)) : sliceA tb t x lo hi mx = some v := by
  unfold sliceU at h
  unfold sliceA
  split at h
  · simp at h
  rename_i ti hti
  try simp only [hti]
  split at h
  · rename_i s l hk hlo
    try simp only [hk, hlo]
    split at h
    · rename_i hh hm
      simp only [Option.some.injEq, Prod.mk.injEq, decide_eq_true_eq] at h
      try simp only [hm, h.1, and_self, if_true, h.2]
    · simp at h
  · rename_i e x l hk hlo
    try simp only [hk, hlo]
    split at h
    · rename_i s xs te hx hte
      try simp only [hx, hte]
      have key : ∀ (h' m : Int) (b : Bool), (match subU s xs l h' m b with | (c, v) => some (decide (s = te.sz ∨ xs = []) && c, v)) = some (true, v) → (s = te.sz ∨ xs = []) ∧ subA s xs l h' m b = some v := by
        intro h' m b hh
        simp only [subU, Option.some.injEq, Prod.mk.injEq, Bool.and_eq_true, decide_eq_true_eq] at hh
        obtain ⟨⟨h1, h2⟩, h3⟩ := hh
        refine ⟨h1, ?_⟩
        unfold subA
        rw [if_pos h2, h3]
      split at h
      · split at h
        · rename_i h' hh
          obtain ⟨k1, k2⟩ := key _ _ _ h
          try simp only [k1, if_true, hh, k2]
        · simp at h
      · split at h
        · obtain ⟨k1, k2⟩ := key _ _ _ h
          try simp only [k1, if_true, k2]
        · simp at h
      · simp at h
    · simp at h
  · simp at h

theorem stepU_spec {tb : Tb} {draw : Bool} {st : St} {o : Oper} {x : Option AV} {sh : Sh} {f : AV → St} {e : AV} (h : stepU tb draw st o = some (true, x, sh, f)) (he : x = some e) : stepA tb draw st o = some (f e) := by
  unfold stepU at h
  split at h
  · rename_i t a i ho
    unfold stepA
    try simp only [ho]
    unfold indexAddrU at h
    split at h
    · rename_i k n e' sz by_ z hi hti
      try simp only [hi, indexAddrA, hti]
      split at h
      · rename_i ti s full xs hte hx
        try simp only [hte, hx]
        simp only [Option.some.injEq, Prod.mk.injEq, Bool.and_eq_true, decide_eq_true_eq] at h
        obtain ⟨h1, h2, _, h4⟩ := h
        rw [← h2] at he
        try simp only [h1, and_self, if_true, he, ← h4]
      · rename_i ti k' g' s xs hte hx
        try simp only [hte, hx]
        simp only [Option.some.injEq, Prod.mk.injEq, Bool.and_eq_true, decide_eq_true_eq] at h
        obtain ⟨h1, h2, _, h4⟩ := h
        rw [← h2] at he
        try simp only [h1, and_self, if_true, he, ← h4]
      · rename_i ti k' g' hte hx
        try simp only [hte, hx]
        split at h
        · rename_i xs hr
          obtain ⟨h1, h2⟩ := ask1_spec h he
          simp only [Bool.and_eq_true, decide_eq_true_eq] at h1
          try simp only [h1.1, h1.2, hr, if_true, h2, and_self]
        · simp at h
      · simp at h
    · simp at h
  · rename_i t a i ho
    unfold stepA
    try simp only [ho]
    unfold indexU at h
    split at h
    · rename_i sz by_ z s k n hti hx hi
      try simp only [hti, hx, hi]
      simp only [Option.some.injEq, Prod.mk.injEq, decide_eq_true_eq] at h
      obtain ⟨h1, h2, _, h4⟩ := h
      rw [← h2] at he
      rw [Option.map_eq_some_iff] at he
      obtain ⟨b, hb, rfl⟩ := he
      try simp only [h1, if_true, hb, ← h4]
    · simp at h
  · rename_i t a lo hi mx ho
    unfold stepA
    try simp only [ho]
    split at h
    · rename_i c v hs
      obtain ⟨rfl, h2⟩ := ask1_spec h he
      try simp only [sliceU_spec hs, h2]
    · simp at h
  · rename_i op t a b u ho
    unfold stepA
    try simp only [ho]
    split at h
    · rename_i c v hs
      obtain ⟨rfl, h2⟩ := ask1_spec h he
      have : binA tb op t (st.ev a) (st.ev b) = some v := by
        unfold binU at hs
        split at hs
        · rename_i l l' e1 e2
          simp only [Option.some.injEq, Prod.mk.injEq, decide_eq_true_eq] at hs
          try simp only [binA, e1, e2, strA, hs.1, if_true, hs.2]
        · rename_i k a' k' b' e1 e2
          simp only [Option.some.injEq, Prod.mk.injEq, decide_eq_true_eq] at hs
          try simp only [binA, e1, e2, shiftA, show ¬ b' < 0 by omega, if_false, hs.2]
        · rename_i k a' k' b' e1 e2
          simp only [Option.some.injEq, Prod.mk.injEq, decide_eq_true_eq] at hs
          try simp only [binA, e1, e2, shiftA, show ¬ b' < 0 by omega, if_false, hs.2]
        · rename_i k a' k' b' e1 e2
          simp only [Option.some.injEq, Prod.mk.injEq, Bool.and_eq_true, decide_eq_true_eq, Bool.not_eq_true', decide_eq_false_iff_not] at hs
          try simp only [binA, e1, e2, intA, hs.1.1, if_true, hs.1.2, if_false, ← hs.2]
        · rename_i k a' k' b' e1 e2
          simp only [Option.some.injEq, Prod.mk.injEq, Bool.and_eq_true, decide_eq_true_eq, Bool.not_eq_true', decide_eq_false_iff_not] at hs
          try simp only [binA, e1, e2, intA, hs.1.1, if_true, hs.1.2, if_false, ← hs.2]
        · simp at hs
      try simp only [this, h2]
    · simp at h
  · rename_i t l c ho
    unfold stepA
    try simp only [ho]
    unfold makeU at h
    split at h
    · rename_i e' sz by_ z kl n kc m hti hl hm
      try simp only [hti, hl, hm]
      split at h
      · rename_i te hte
        try simp only [hte]
        split at h
        · rename_i zz hz
          try simp only [hz]
          cases draw
          · simp only [cond_false] at h
            split at h
            · rename_i d hd
              obtain ⟨h1, h2⟩ := ask1_spec h he
              simp only [Bool.and_eq_true, decide_eq_true_eq] at h1
              rw [if_pos h1.2]
              try simp only [hd, Bool.false_eq_true, if_false]
              rw [if_pos h1.1, h2]
            · simp at h
          · simp only [cond_true] at h
            obtain ⟨h1, h2⟩ := ask1_spec h he
            simp only [Bool.and_eq_true, decide_eq_true_eq] at h1
            rw [if_pos h1.2]
            try simp only [if_true]
            rw [if_pos h1.1, h2]
        · simp at h
      · simp at h
    · simp at h
  · rename_i s d a ho
    unfold stepA
    try simp only [ho]
    unfold convU at h
    split at h
    · rename_i ts td hs hd
      try simp only [hs, hd]
      split at h
      · rename_i e' hk hk2
        split at h
        · rename_i l d' hdst
          obtain ⟨h1, h2⟩ := ask1_spec h he
          simp only [Bool.and_eq_true, decide_eq_true_eq] at h1
          simp only [convertA, hk, *]
          simp only [and_self, if_true]
          try exact congrArg some h2
        · simp at h
      · rename_i e' hk hk2
        split at h
        · rename_i m xs hel
          simp only [Option.some.injEq, Prod.mk.injEq] at h
          obtain ⟨h1, h2, _, h4⟩ := h
          rw [← h2, Option.map_eq_some_iff] at he
          obtain ⟨l, hl, rfl⟩ := he
          rw [← h4]
          have hne : ∀ s, st.ev a ≠ .str s := by
            intro s e
            rw [e] at hel
            simp [St.elems] at hel
          unfold convertA
          split
          · rename_i k1 k2 n1 e1 e2; rw [hk] at e1; cases e1
          · rename_i s1 e1 e2; exact absurd e2 (hne s1)
          · simp only [hk2, h1, if_true, hel, hl]
          · rename_i e1 s1 e2 e3; rw [hk] at e2; cases e2
          · rename_i e1 e2 e3 e4; exfalso; simp_all
        · simp at h
      · simp at h
    · simp at h
  · rename_i t a b ho
    unfold stepA
    try simp only [ho]
    split at h
    · rename_i hdst
      try simp only [hdst]
      unfold storeU at h
      split at h
      · rename_i ti k g i u hti hx hv
        split at h
        · rename_i xs hr
          obtain ⟨h1, h2⟩ := ask1_spec h he
          simp only [Bool.and_eq_true, decide_eq_true_eq] at h1
          unfold storeA
          simp only [hti, hx, hv, hr]
          rw [if_pos h1.1, if_pos h1.2, h2]
        · simp at h
      · simp at h
    · simp at h
  · rename_i args ts ho
    unfold stepA
    try simp only [ho]
    unfold appendU at h
    split at h
    · rename_i t u x' y' d hts hargs hdst
      try simp only [hts, hargs, hdst, builtinA]
      split at h
      · rename_i e' sz by_ z sy ys hti hsrc
        try simp only [hti, hsrc]
        split at h
        · rename_i te hte
          try simp only [hte]
          split at h
          · rename_i s xs
            obtain ⟨h1, h2⟩ := ask1_spec h he
            simp only [Bool.and_eq_true, decide_eq_true_eq] at h1
            try simp only [appendA]
            rw [if_pos h1.1]
            try simp only
            rw [if_pos h1.2]
            try simp only [h2]
          · rename_i k g s xs
            obtain ⟨h1, h2⟩ := ask1_spec h he
            simp only [Bool.and_eq_true, decide_eq_true_eq] at h1
            try simp only [appendA]
            rw [if_pos h1.1]
            try simp only
            rw [if_pos h1.2]
            try simp only [h2]
          · simp at h
        · simp at h
      · simp at h
    · simp at h
  · simp at h

theorem stepK_D {E : Ev} {draw : Bool} {st : St} {o : Oper} {K : St → Res} {r : AV × Boxes} (h : stepK E draw st o K = some r) : ∃ st', stepD E draw st o = some st' ∧ K st' = some r := by
  unfold stepK at h
  unfold stepD
  split at h
  · rename_i f args ts ho
    simp only [ho]
    exact callK_D h
  · rename_i hno
    have fin : ∀ st', stepA E.tb draw st o = some st' → goOn E.tb draw st o K st' = some r → ∃ st', (match stepA E.tb draw st o with
        | some st' => bif draw then (bif isBump E.tb o then (bif keepsPtr st' st.t && keepsPtrB st' st.b then some st'.canon else none) else (bif curAt st' o.dst then some st' else none)) else some st'
        | none => none) = some st' ∧ K st' = some r := by
      intro st' hs h
      simp only [hs]
      unfold goOn at h
      cases draw
      · exact ⟨st', rfl, h⟩
      · cases hd : isBump E.tb o
        · rw [hd] at h
          cases hk : curAt st' o.dst
          · rw [hk] at h; simp at h
          · rw [hk] at h; exact ⟨_, rfl, h⟩
        · rw [hd] at h
          cases hk : (keepsPtr st' st.t && keepsPtrB st' st.b)
          · rw [hk] at h; simp at h
          · rw [hk] at h; exact ⟨_, rfl, h⟩
    split
    · rename_i e; exact absurd e (hno _ _ _)
    · split at h
      · rename_i c x sh f hu
        cases c
        · simp at h
        · simp only [cond_true] at h
          unfold onOpt at h
          split at h
          · rename_i e
            exact fin _ (stepU_spec hu rfl) (shVal_some h)
          · simp at h
      · split at h
        · rename_i st' hs
          exact fin _ hs h
        · simp at h

/-- One operation, under its guard. -/
def opD (E : Ev) (draw : Bool) (ops : Array Oper) (st : St) (o : Oper) : Option St :=
  match guardOf ops o with
  | .bad => none
  | .free => stepD E draw st o
  | .at_ t want => (match st.get t with
    | .bool b => if b = want then stepD E draw (st.put (some t) (.bool b)) o else some ((st.put (some t) (.bool b)).put o.dst (.tup []))
    | .tup [] => some (st.put o.dst (.tup []))
    | _ => none)

def runD (E : Ev) (draw : Bool) (ops : Array Oper) : List Oper → St → Option St
  | [], st => some st
  | o :: r, st => match opD E draw ops st o with
    | some st' => runD E draw ops r st'
    | none => none

theorem runOps_D {E : Ev} {draw : Bool} {ops : Array Oper} {K : St → Res} {r : AV × Boxes} : ∀ {l : List Oper} {st : St}, runOps E draw ops K l st = some r → ∃ st', runD E draw ops l st = some st' ∧ K st' = some r
  | [], st, h => ⟨st, rfl, h⟩
  | o :: l, st, h => by
    unfold runOps at h
    unfold runD opD
    split at h
    · simp at h
    · rename_i hg
      obtain ⟨st', h1, h2⟩ := stepK_D h
      simp only [hg, h1]
      exact runOps_D h2
    · rename_i t hg
      split at h
      · rename_i b hb
        simp only [hg, hb]
        cases b
        · simp only [Bool.false_eq_true, if_false]
          exact runOps_D h
        · obtain ⟨st', h1, h2⟩ := stepK_D h
          simp only [if_true, h1]
          exact runOps_D h2
      · rename_i hb
        simp only [hg, hb]
        exact runOps_D h
      · simp at h
    · rename_i t hg
      split at h
      · rename_i b hb
        simp only [hg, hb]
        cases b
        · obtain ⟨st', h1, h2⟩ := stepK_D h
          simp only [if_true, h1]
          exact runOps_D h2
        · simp only [Bool.true_eq_false, if_false]
          exact runOps_D h
      · rename_i hb
        simp only [hg, hb]
        exact runOps_D h
      · simp at h

section
variable {P : Program} {c : Ctx} {γ : Gh} {D D' : Dead} {st : St} {a : Act} {w w' : World} {tb : Tb}

/-! ### A call -/
theorem call_sound {F : Fns} (hF : SoundF P F) {o : Oper} (h : Inv c γ D st a w) {f : Operand} {args : Array Operand} {ts : Array Nat} (ho : o.op = .call { callee := .value f, args := args, argTypes := ts }) {draw : Bool} {st' : St}
    (hs : callD F draw st o.dst (st.ev f) (args.toList.map st.ev) = some st') {next : Act → World → Prop} {Q : Exit → Act → World → Prop} (hn : ∀ cv w' γ' D', Inv c γ' D' st' (a.put o.dst cv) w' → next (a.put o.dst cv) w') : o.wp P a w next Q := by
  unfold callD at hs
  split at hs
  · rename_i n hf
    split at hs
    · rename_i vs ks hp
      split at hs
      · rename_i bs hb
        split at hs
        · split at hs
          · rename_i v bs' hr
            split at hs
            · rename_i hlen
              replace hlen := hlen.1
              simp only [Option.some.injEq] at hs
              subst hs
              obtain ⟨⟨fn, f1, f2, f3⟩, hcall⟩ := hF _ _ _ _ _ hr
              have hv : a.eval f = .func (.func n) #[] #[] := inv_fn (hf ▸ h.ev f)
              obtain ⟨p1, p2, p3⟩ := pass_spec hp
              obtain ⟨b1, b2⟩ := boxesAt_spec hb
              have hown : ∀ n, n < ks.length → γ.own (γ.bx (ks.getD n 0)) = some (0, ks.getD n 0) := by
                intro n hn
                have hn' : n < bs.length := by omega
                obtain ⟨cs, hcs, _⟩ := b2 n ks[n] bs[n] (List.getElem?_eq_getElem hn) (List.getElem?_eq_getElem hn')
                have eg : ks.getD n 0 = ks[n] := by simp [List.getD, List.getElem?_eq_getElem hn]
                rw [eg]
                exact (h.bx _ _ hcs).1
              have hargs : ArgsRep w D (fun n => γ.bx (ks.getD n 0)) vs (args.map a.eval) := by
                refine ⟨by simp [p1], fun i v cv hi hj => ?_⟩
                obtain ⟨x, hx, hc⟩ := p3 i v hi
                simp only [List.getElem?_map, Array.getElem?_toList, Array.getElem?_map] at hx hj
                cases ha : args[i]? with
                | none => rw [ha] at hx; simp at hx
                | some y =>
                  rw [ha] at hx hj
                  simp only [Option.map_some, Option.some.injEq] at hx hj
                  subst hj
                  have hev := h.ev y
                  have hcur := st.ev_isCur y
                  rw [hx] at hev hcur
                  rcases hc with ⟨k, g, off, m, rfl, rfl, _, e4⟩ | ⟨hd, _⟩
                  · have := inv_ptr hev hcur
                    simp only [Nat.sub_zero] at e4
                    show a.eval y = _
                    rw [this]
                    simp only [List.getD, e4, Option.getD_some]
                  · have := hev.dat hd
                    cases v <;> first | exact this | (cases x <;> simp [AV.dat] at hd)
              have hbox : BoxRep w D (fun n => γ.bx (ks.getD n 0)) bs := by
                intro m cs hm
                have hlt : m < bs.length := (List.getElem?_eq_some_iff.1 hm).1
                have hlt' : m < ks.length := by omega
                obtain ⟨cs0, hk0, hd0⟩ := b2 m ks[m] cs (List.getElem?_eq_getElem hlt') hm
                obtain ⟨_, vs', E, q2, q3, q4⟩ := h.bx _ _ hk0
                obtain ⟨l1, l2⟩ := datAll_spec hd0
                have eg : ks.getD m 0 = ks[m] := by simp [List.getD, List.getElem?_eq_getElem hlt']
                refine ⟨vs', E, by simpa only [eg] using q2, by simp at l1; omega, fun i c' v' hi hj => ?_⟩
                cases hc0 : cs0[i]? with
                | none =>
                  have : cs0.length ≤ i := List.getElem?_eq_none_iff.1 hc0
                  have h2 : i < cs.length := (List.getElem?_eq_some_iff.1 hi).1
                  simp at l1
                  omega
                | some c0 =>
                  obtain ⟨d, hd, hd'⟩ := l2 i (st.cur c0) (by simp [List.getElem?_map, hc0])
                  rw [hi] at hd
                  simp only [Option.some.injEq] at hd
                  subst hd
                  obtain ⟨q5, q6⟩ := q4 i c0 v' hc0 hj
                  refine ⟨q5.cur.dat hd', ?_⟩
                  rcases cur_cell1 (st := st) q6 with e | e
                  · rw [e] at hd'; simp [AV.dat] at hd'
                  · exact dat_cell1 hd' e
              have hC := hcall w D _ (args.map a.eval) h.dlt hargs hbox (by
                intro m k hm hk e
                have e1 := hown m (by omega)
                have e2 := hown k (by omega)
                have e : γ.bx (ks.getD m 0) = γ.bx (ks.getD k 0) := e
                rw [e, e2] at e1
                simp only [Option.some.injEq, Prod.mk.injEq, true_and] at e1
                have hm' : m < ks.length := by omega
                have hk' : k < ks.length := by omega
                have em : ks.getD m 0 = ks[m] := by simp [List.getD, List.getElem?_eq_getElem hm']
                have ek : ks.getD k 0 = ks[k] := by simp [List.getD, List.getElem?_eq_getElem hk']
                rw [em, ek] at e1
                exact ((List.getElem_inj p2).1 e1).symm) (by
                intro m hm o'
                exact h.live _ _ (.inl (hown m (by omega))) o')
              unfold Oper.wp
              have hrun : (execOp a.eval o).run P w = .ok (.enter n (args.map a.eval)) w := by
                have f2' : ¬ fn.name = "runtime.NumGoroutine" := by simpa using f2
                have f3' : ¬ fn.body = none := by intro e; simp [e] at f3
                simp [execOp, ho, resolve, hv, Deferred.ofValue, invoke, callFunc, f1, f2', f3']
              rw [hrun, Oper.upon_enter]
              refine hC.mono fun e w' hp => ?_
              obtain ⟨cv, D', rfl, hR, hB, hL, hA⟩ := hp
              refine hn _ _ γ D' ?_
              rw [b1] at hA
              have hI := h.afterCall p2 (fun k hk => by
                obtain ⟨m, hm, rfl⟩ := List.getElem_of_mem hk
                obtain ⟨cs, hcs, _⟩ := b2 m ks[m] (bs[m]'(by omega)) (List.getElem?_eq_getElem hm) (List.getElem?_eq_getElem (by omega))
                exact ⟨cs, hcs⟩) (by omega) hB hA (ks ++ st.wr)
              exact hI.put hR.v o.dst
            · simp at hs
          · simp at hs
        · simp at hs
      · simp at hs
    · simp at hs
  · simp at hs

end
end Go.AM
