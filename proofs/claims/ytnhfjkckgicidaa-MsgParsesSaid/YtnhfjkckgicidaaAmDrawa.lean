/- Regions that draw their order (1): what an operation's value is. -/
import Derived.Test.YtnhfjkckgicidaaAmFun
set_option linter.unusedVariables false
set_option linter.unusedSimpArgs false
namespace Go.AM
open Go.RowKit Go.Lib

def pureOp (tb : Tb) (o : Oper) : Bool :=
  match o.op with
  | .move _ | .assign _ | .pick _ _ _ | .build _ _ | .buildSlice _ _ _ | .nilCheck _ | .binOp _ _ _ _ _ | .unOp _ _ _ | .makeInterface _ _ | .makeSlice _ _ _ | .slice _ _ _ _ _ | .fieldAddr _ _ _ | .field _ _ _
  | .indexAddr _ _ _ | .index _ _ _ | .extract _ _ => true
  | .convert _ d _ => (match find d tb with | some td => (match td.k with | .sl _ => false | _ => true) | none => false)
  | .call { callee := .builtin .len, .. } => true
  | _ => false

/-- The value of an operation that only reads. -/
def valA (tb : Tb) (st : St) (o : Oper) : Option AV :=
  match o.op with
  | .move x | .assign x => some (st.ev x)
  | .pick c a b => (match st.ev c with | .bool t => some (bif t then st.ev a else st.ev b) | _ => none)
  | .build t ps =>
    (match find t tb with
    | some ⟨.struct fs, _, _, .agg z⟩ => (match datAll z with | some z => (match TI.fillParts tb fs st z ps.toList with | some cs => some (.agg cs) | none => none) | none => none)
    | _ => none)
  | .buildSlice t n ps =>
    (match find t tb with
    | some ⟨.sl e, _, _, _⟩ =>
      (match find e tb with
      | some ti => if n * ti.sz ≤ 16777216 ∧ ti.sz ≠ 0 ∧ ti.z.cells.length = ti.sz ∧ n ≠ 0 then (match ti.z.dat with
          | some z => (match fillElems z ti.sz st (List.replicate n z) ps.toList with | some xs => some (.sl ti.sz true xs) | none => none)
          | none => none) else none
      | none => none)
    | _ => none)
  | .nilCheck x => (match st.ev x with | .ptr k g off => some (.ptr k g off) | .rp s e j => some (.rp s e j) | .fn f => some (.fn f) | _ => none)
  | .binOp op t x y _ => binA tb op t (st.ev x) (st.ev y)
  | .unOp op _ x => unA op (st.ev x)
  | .convert s d x =>
    (match find s tb, find d tb with
    | some ts, some td =>
      (match td.k, st.ev x with
      | .int k, .int _ n => some (.int k (k.wrap n))
      | .str, .str s => some (.str s)
      | .str, x =>
        (match ts.k with
        | .sl e => if isU8 tb e then (match st.elems x with | some (_, xs) => (match bytesOf xs with | some l => some (.str l) | none => none) | none => none) else none
        | _ => none)
      | _, _ => none)
    | _, _ => none)
  | .makeInterface t x => (match find t tb, (st.ev x).dat with | some ti, some v => (match ti.k with | .other => none | _ => some (.iface t v)) | _, _ => none)
  | .makeSlice t l c =>
    (match find t tb, st.ev l, st.ev c with
    | some ⟨.sl e, _, _, _⟩, .int _ n, .int _ m =>
      (match find e tb with
      | some ti =>
        if n = m ∧ 0 ≤ n ∧ n ≤ 9223372036854775807 ∧ fitsB n.toNat ti.bytes then
          (match ti.z.dat with
          | some z => if ti.z.cells.length = ti.sz then some (.sl ti.sz true (List.replicate n.toNat z)) else none
          | none => none)
        else none
      | none => none)
    | _, _, _ => none)
  | .slice t x lo hi mx => sliceA tb t (st.ev x) (lo.map st.ev) (hi.map st.ev) (mx.map st.ev)
  | .fieldAddr s x f =>
    (match find s tb with
    | some ⟨.struct fs, _, _, _⟩ =>
      (match fs[f]?, st.ev x with
      | some (off, _), .ptr k g o' => some (.ptr k g (o' + off))
      | some (off, _), .rp s e j => some (.rp s e (j + off))
      | _, _ => none)
    | _ => none)
  | .field s x f =>
    (match find s tb, st.ev x with
    | some ⟨.struct fs, _, _, _⟩, .agg cs =>
      (match fs[f]? with
      | some (off, t) => (match find t tb with | some ti => partOf ti cs off | none => none)
      | none => none)
    | _, _ => none)
  | .indexAddr t x i => (match st.ev i with | .int _ n => indexAddrA tb st t (st.ev x) n | _ => none)
  | .index t x i =>
    (match find t tb, st.ev x, st.ev i with
    | some ⟨.str, _, _, _⟩, .str s, .int _ n => if 0 ≤ n then (match s[n.toNat]? with | some b => some (.int .u8 b.toNat) | none => none) else none
    | some ⟨.arr n e, _, _, _⟩, .agg cs, .int _ i =>
      if 0 ≤ i ∧ i < n then (match find e tb with | some ti => partOf ti cs (i.toNat * ti.sz) | none => none) else none
    | _, _, _ => none)
  | .extract x i => (match st.ev x with | .tup vs => vs[i]? | _ => none)
  | .call { callee := .builtin .len, argTypes := ts, args := args } => (match ts.toList, args.toList.map st.ev with | [t], [x] => lenA tb st t x | _, _ => none)
  | _ => none

def putO (st : St) (dst : Option Nat) : Option AV → Option St
  | some v => some (st.put dst v)
  | none => none

theorem stepA_val {tb : Tb} {st : St} {o : Oper} (hp : pureOp tb o = true) : stepA tb true st o = putO st o.dst (valA tb st o) := by
  cases ho : o.op with
  | move x => simp only [stepA, valA, ho, putO]
  | assign x => simp only [stepA, valA, ho, putO]
  | pick x y z => simp only [stepA, valA, ho]; cases st.ev x <;> rfl
  | build t ps =>
    simp only [stepA, valA, ho]
    split
    · split
      · split <;> simp_all [putO]
      · simp_all [putO]
    · simp_all [putO]
  | buildSlice t n ps =>
    simp only [stepA, valA, ho]
    rcases find t tb with _ | ⟨k, sz, by_, z⟩
    · rfl
    cases k <;> try rfl
    rename_i e
    dsimp only
    rcases find e tb with _ | te
    · rfl
    dsimp only
    by_cases hc : n * te.sz ≤ 16777216 ∧ te.sz ≠ 0 ∧ te.z.cells.length = te.sz ∧ n ≠ 0
    · rw [if_pos hc, if_pos hc]
      cases te.z.dat with
      | none => rfl
      | some z => dsimp only; cases fillElems z te.sz st (List.replicate n z) ps.toList <;> rfl
    · rw [if_neg hc, if_neg hc]; rfl
  | nilCheck x => simp only [stepA, valA, ho]; cases st.ev x <;> rfl
  | binOp op t x y u => simp only [stepA, valA, ho]; cases binA tb op t (st.ev x) (st.ev y) <;> rfl
  | unOp op t x => simp only [stepA, valA, ho]; cases unA op (st.ev x) <;> rfl
  | convert s d x =>
    simp only [stepA, valA, ho]
    simp only [pureOp, ho] at hp
    rcases find s tb with _ | ts
    · rfl
    revert hp
    rcases find d tb with _ | td
    · intro _; rfl
    intro hp
    dsimp only at hp ⊢
    unfold convertA
    cases hk : td.k with
    | sl e => rw [hk] at hp; simp at hp
    | str =>
      cases st.ev x <;> dsimp only <;> first | rfl | skip
      all_goals (cases ts.k <;> dsimp only <;> first | rfl | skip)
      all_goals (
        rename_i e
        cases isU8 tb e
        · rfl
        · simp only [if_true]
          rcases St.elems st _ with _ | ⟨_, xs⟩
          · rfl
          · dsimp only
            rcases bytesOf xs with _ | l <;> rfl)
    | int k => cases st.ev x <;> rfl
    | _ => rfl
  | makeInterface t x =>
    simp only [stepA, valA, ho]
    split
    · split <;> simp_all [putO]
    · simp_all [putO]
  | makeSlice t l m =>
    simp only [stepA, valA, ho]
    rcases find t tb with _ | ⟨k, sz, by_, z⟩
    · rfl
    cases k <;> try rfl
    rename_i e
    cases st.ev l <;> try rfl
    rename_i kl n
    cases st.ev m <;> try rfl
    rename_i km n'
    dsimp only
    rcases find e tb with _ | te
    · rfl
    dsimp only
    by_cases hc : n = n' ∧ 0 ≤ n ∧ n ≤ 9223372036854775807 ∧ fitsB n.toNat te.bytes = true
    · rw [if_pos hc, if_pos hc]
      cases te.z.dat with
      | none => rfl
      | some z => simp only [if_true]; split <;> rfl
    · rw [if_neg hc, if_neg hc]; rfl
  | slice t x lo hi mx => simp only [stepA, valA, ho]; cases sliceA tb t (st.ev x) (lo.map st.ev) (hi.map st.ev) (mx.map st.ev) <;> rfl
  | fieldAddr s x f =>
    simp only [stepA, valA, ho]
    split
    · split <;> simp_all [putO]
    · simp_all [putO]
  | field s x f =>
    simp only [stepA, valA, ho]
    split
    · split
      · split
        · split <;> simp_all [putO]
        · simp_all [putO]
      · simp_all [putO]
    · simp_all [putO]
  | indexAddr t x i =>
    simp only [stepA, valA, ho]
    split
    · split <;> simp_all [putO]
    · simp_all [putO]
  | index t x i =>
    simp only [stepA, valA, ho]
    rcases find t tb with _ | ⟨k, sz, by_, z⟩
    · rfl
    cases k <;> try rfl
    · cases st.ev x <;> try rfl
      cases st.ev i <;> try rfl
      dsimp only
      split
      · split <;> simp_all [putO]
      · rfl
    · cases st.ev x <;> try rfl
      cases st.ev i <;> try rfl
      dsimp only
      split
      · split
        · split <;> simp_all [putO]
        · simp_all [putO]
      · rfl
  | extract x i =>
    simp only [stepA, valA, ho]
    split
    · split <;> simp_all [putO]
    · simp_all [putO]
  | call c =>
    obtain ⟨callee, args, ts⟩ := c
    simp only [pureOp, ho] at hp
    split at hp <;> first | (simp at hp; done) | skip
    all_goals (rename_i e; simp only [Op.call.injEq, Call.mk.injEq, reduceCtorEq] at e)
    obtain ⟨rfl, rfl, rfl⟩ := e
    simp only [stepA, valA, ho, builtinA]
    rcases ts.toList with _ | ⟨t, _ | ⟨u, r⟩⟩
    · rfl
    · rcases args.toList.map st.ev with _ | ⟨x, _ | ⟨y, r⟩⟩
      · rfl
      · dsimp only; cases lenA tb st t x <;> rfl
      · rfl
    · rfl
  | _ => simp [pureOp, ho] at hp

end Go.AM

set_option linter.unusedVariables false
set_option linter.unusedSimpArgs false
namespace Go.AM
open Go.RowKit Go.Lib

section
variable {tb : Tb} {st st2 : St} {o : Oper}

theorem elems_congr (hr : st2.r = st.r) (x : AV) : st2.elems x = st.elems x := by cases x <;> simp only [St.elems, hr]
theorem fillParts_congr {fs : List (Nat × Nat)} : ∀ {ps : List (Nat × Operand)} {cs : List AV}, (∀ p ∈ ps, st2.ev p.2 = st.ev p.2) → TI.fillParts tb fs st2 cs ps = TI.fillParts tb fs st cs ps
  | [], cs, h => rfl
  | (i, x) :: r, cs, h => by
    have hx : st2.ev x = st.ev x := h (i, x) (by simp)
    have ih : ∀ cs, TI.fillParts tb fs st2 cs r = TI.fillParts tb fs st cs r := fun cs => fillParts_congr fun p hp => h p (List.mem_cons_of_mem _ hp)
    simp only [TI.fillParts, hx, ih]
theorem fillElems_congr {z : AV} {sz : Nat} : ∀ {ps : List (Nat × Operand)} {cs : List AV}, (∀ p ∈ ps, st2.ev p.2 = st.ev p.2) → fillElems z sz st2 cs ps = fillElems z sz st cs ps
  | [], cs, h => rfl
  | (i, x) :: r, cs, h => by
    have hx : st2.ev x = st.ev x := h (i, x) (by simp)
    have ih : ∀ cs, fillElems z sz st2 cs r = fillElems z sz st cs r := fun cs => fillElems_congr fun p hp => h p (List.mem_cons_of_mem _ hp)
    simp only [fillElems, hx, ih]
theorem optmap_congr {lo : Option Operand} (h : ∀ x, lo = some x → st2.ev x = st.ev x) : lo.map st2.ev = lo.map st.ev := by
  cases lo with
  | none => rfl
  | some x => simp [h x rfl]

theorem lenA_congr (hr : st2.r = st.r) (t : Nat) (x : AV) : lenA tb st2 t x = lenA tb st t x := by simp only [lenA, elems_congr hr]
theorem indexAddrA_congr (hr : st2.r = st.r) (t : Nat) (x : AV) (i : Int) : indexAddrA tb st2 t x i = indexAddrA tb st t x i := by simp only [indexAddrA, hr]

theorem valA_congr (h : ∀ x ∈ o.op.operands.toList, st2.ev x = st.ev x) (hr : st2.r = st.r) : valA tb st2 o = valA tb st o := by
  cases ho : o.op with
  | build t ps =>
    have h' : ∀ p ∈ ps.toList, st2.ev p.2 = st.ev p.2 := fun p hp => h p.2 (by rw [ho]; simp only [Op.operands, List.toList_toArray]; exact List.mem_map_of_mem hp)
    simp only [valA, ho, fillParts_congr h']
  | buildSlice t n ps =>
    have h' : ∀ p ∈ ps.toList, st2.ev p.2 = st.ev p.2 := fun p hp => h p.2 (by rw [ho]; simp only [Op.operands, List.toList_toArray]; exact List.mem_map_of_mem hp)
    simp only [valA, ho, fillElems_congr h']
  | slice t x lo hi mx =>
    have hx : st2.ev x = st.ev x := h x (by rw [ho]; simp [Op.operands])
    have h1 := optmap_congr (st := st) (st2 := st2) (lo := lo) fun y hy => h y (by rw [ho]; subst hy; simp [Op.operands])
    have h2 := optmap_congr (st := st) (st2 := st2) (lo := hi) fun y hy => h y (by rw [ho]; subst hy; simp [Op.operands])
    have h3 := optmap_congr (st := st) (st2 := st2) (lo := mx) fun y hy => h y (by rw [ho]; subst hy; simp [Op.operands])
    simp only [valA, ho, hx, h1, h2, h3]
  | call c =>
    obtain ⟨callee, args, ts⟩ := c
    have h' : args.toList.map st2.ev = args.toList.map st.ev := List.map_congr_left fun x hx => h x (by rw [ho]; simp only [Op.operands, Call.operands]; cases callee <;> simp [Array.mem_toList_iff.1 hx])
    clear h
    cases callee with
    | builtin b => cases b <;> simp only [valA, ho, h', lenA_congr hr]
    | value f => simp only [valA, ho]
    | invoke f n => simp only [valA, ho]
  | _ =>
    rw [ho] at h
    simp [Op.operands] at h
    simp only [valA, ho, h, elems_congr hr, indexAddrA_congr hr]

theorem loadA_congr {t : Nat} {x : AV} {v : AV} {rd : List Nat} (h : loadA tb true st t x = some (v, rd)) :
    (∃ k, rd = insN k st.rd ∧ k ∉ st.wr ∧ ∀ st2 : St, (∀ j, st2.gen j = st.gen j) → find k st2.b = find k st.b → k ∉ st2.wr → st2.r = st.r → loadA tb true st2 t x = some (v, insN k st2.rd)) ∨
    (rd = st.rd ∧ ∀ st2 : St, st2.r = st.r → loadA tb true st2 t x = some (v, st2.rd)) := by
  unfold loadA at h
  split at h
  · simp at h
  rename_i ti hti
  split at h
  · rename_i k g off
    split at h
    · rename_i hw
      split at h
      · rename_i cs hcs
        split at h
        · rename_i v' hp
          simp only [Option.some.injEq, Prod.mk.injEq] at h
          obtain ⟨rfl, rfl⟩ := h
          refine .inl ⟨k, rfl, by simpa using hw, fun st2 hg hb hw2 hr => ?_⟩
          have hcur : st2.cur = st.cur := by
            funext u
            cases u <;> simp only [St.cur, hg]
          unfold loadA
          simp only [hti, hb, hcs, hcur, hp]
          simp [hw2]
        · simp at h
      · simp at h
    · simp at h
  · rename_i s e j
    refine .inr ?_
    split at h
    · rename_i hc
      split at h
      · rename_i cs
        simp only [Option.some.injEq, Prod.mk.injEq] at h
        obtain ⟨rfl, rfl⟩ := h
        refine ⟨rfl, fun st2 hr => ?_⟩
        unfold loadA
        simp only [hti, hc, if_true]
      · simp at h
    · rename_i hc
      split at h
      · rename_i v' hp
        split at h
        · rename_i hf
          simp only [Option.some.injEq, Prod.mk.injEq] at h
          obtain ⟨rfl, rfl⟩ := h
          refine ⟨rfl, fun st2 hr => ?_⟩
          unfold loadA
          simp only [hti, hc, if_false, hp, hf, if_true, Bool.false_eq_true]
        · simp at h
      · simp at h
  · rename_i k g i
    refine .inr ?_
    split at h
    · rename_i ha
      split at h
      · rename_i xs hxs
        split at h
        · rename_i v' hp
          split at h
          · rename_i hf
            simp only [Option.some.injEq, Prod.mk.injEq] at h
            obtain ⟨rfl, rfl⟩ := h
            refine ⟨rfl, fun st2 hr => ?_⟩
            unfold loadA
            simp only [hti, ha, hr, hxs, hp, hf, if_true]
          · simp at h
        · simp at h
      · simp at h
    · simp at h
  · simp at h

end
end Go.AM

set_option linter.unusedVariables false
set_option linter.unusedSimpArgs false
namespace Go.AM
open Go.RowKit Go.Lib

theorem put_comm {α : Type} {a b : Nat} (h : a ≠ b) (x y : α) : ∀ l : List (Nat × α), put a x (put b y l) = put b y (put a x l)
  | [] => by
    simp only [put]
    rcases Nat.lt_trichotomy a b with hh | hh | hh
    · simp [h, Ne.symm h, hh, Nat.lt_asymm hh]
    · exact absurd hh h
    · simp [h, Ne.symm h, hh, Nat.lt_asymm hh]
  | (m, u) :: r => by
    have ih := put_comm h x y r
    have h' : ¬ b = a := fun e => h e.symm
    rcases Nat.lt_trichotomy a m with h1 | h1 | h1 <;> rcases Nat.lt_trichotomy b m with h2 | h2 | h2 <;>
      first
        | (exfalso; omega)
        | (rcases Nat.lt_trichotomy a b with h3 | h3 | h3 <;>
            first
              | (exfalso; omega)
              | (simp only [put, show (a = m) = False from eq_false (by omega), show (b = m) = False from eq_false (by omega), if_false, if_true, h1, h2, h3, h, h', show (m < a) = True from eq_true (by omega), show ¬ a < m by omega, show ¬ b < m by omega, show ¬ b < a by omega, show ¬ a < b by omega, ih]; done)
              | skip)
    all_goals (simp only [put]; repeat' split)
    all_goals first | rfl | (exfalso; omega) | (simp only [put]; repeat' split)
    all_goals first | rfl | (exfalso; omega) | (simp_all; done) | (simp only [ih])

theorem insN_comm (a b : Nat) : ∀ l : List Nat, insN a (insN b l) = insN b (insN a l)
  | [] => by
    simp only [insN]
    rcases Nat.lt_trichotomy a b with hh | hh | hh
    · simp [hh, Nat.ne_of_lt hh, Nat.ne_of_gt hh, Nat.lt_asymm hh, (Nat.ne_of_lt hh).symm]
    · subst hh; rfl
    · simp [hh, Nat.ne_of_lt hh, Nat.ne_of_gt hh, Nat.lt_asymm hh, (Nat.ne_of_lt hh).symm]
  | m :: r => by
    have ih := insN_comm a b r
    by_cases e : a = b
    · subst e; rfl
    simp only [insN]
    repeat' split
    all_goals first | rfl | (exfalso; omega) | (simp only [insN]; repeat' split)
    all_goals first | rfl | (exfalso; omega) | (simp_all; done) | (simp only [ih]) | skip

theorem mem_insN {k a : Nat} : ∀ {l : List Nat}, k ∈ insN a l ↔ k = a ∨ k ∈ l
  | [] => by simp [insN]
  | m :: r => by
    simp only [insN]
    split
    · rename_i e; subst e; simp
    · split
      · simp
      · simp only [List.mem_cons, mem_insN (l := r)]
        constructor
        · rintro (h | h | h) <;> simp [h]
        · rintro (h | h | h) <;> simp [h]

end Go.AM

set_option linter.unusedVariables false
set_option linter.unusedSimpArgs false
namespace Go.AM
open Go.RowKit Go.Lib

def putT (nt : Nat) (dst : Option Nat) (v : AV) (t : List (Nat × AV)) : List (Nat × AV) :=
  match dst with | some d => if d < nt then put d v t else t | none => t
def putG (nt : Nat) (g : Option (Nat × Bool)) (t : List (Nat × AV)) : List (Nat × AV) :=
  match g with | some (d, b) => putT nt (some d) (.bool b) t | none => t
def insO (k : Option Nat) (l : List Nat) : List Nat := match k with | some k => insN k l | none => l

theorem putT_comm {nt : Nat} {d d' : Option Nat} (h : ∀ k, d = some k → d' ≠ some k) (v v' : AV) (t : List (Nat × AV)) : putT nt d v (putT nt d' v' t) = putT nt d' v' (putT nt d v t) := by
  cases d with
  | none => cases d' <;> rfl
  | some k =>
    cases d' with
    | none => rfl
    | some k' =>
      have hne : k ≠ k' := fun e => h k rfl (by rw [e])
      simp only [putT]
      split <;> split <;> first | rfl | exact put_comm hne _ _ _

structure Eff where
  gs : Option (Nat × Bool)
  v : AV
  rds : Option Nat
  ks : List Nat
  bs : Boxes

def Eff.ap (e : Eff) (dst : Option Nat) (st : St) : St :=
  { nt := st.nt, t := putT st.nt dst e.v (putG st.nt e.gs st.t), b := putBoxes st.b e.ks e.bs, r := st.r, g := st.g, rd := insO e.rds st.rd, wr := e.ks ++ st.wr }

structure Same (ops : Array Oper) (o : Oper) (e : Eff) (st st2 : St) : Prop where
  nt : st2.nt = st.nt
  g : st2.g = st.g
  r : st2.r = st.r
  sl : ∀ t ∈ o.looksAt ops, st2.get t = st.get t
  bx : ∀ k, (e.rds = some k ∨ k ∈ e.ks) → find k st2.b = find k st.b
  rw : ∀ k, e.rds = some k → k ∉ st2.wr
  wr : ∀ k ∈ e.ks, k ∉ st2.rd

/-- What an operation does. -/
structure Does (E : Ev) (ops : Array Oper) (o : Oper) (e : Eff) (st : St) : Prop where
  gs : ∀ t b, e.gs = some (t, b) → st.get t = .bool b ∧ t ∈ o.looksAt ops
  rw : ∀ k, e.rds = some k → k ∉ st.wr
  wr : ∀ k ∈ e.ks, k ∉ st.rd
  at_ : opD E true ops st o = some (e.ap o.dst st)
  again : ∀ st2, Same ops o e st st2 → opD E true ops st2 o = some (e.ap o.dst st2)

section
variable {E : Ev} {ops : Array Oper} {st st2 : St} {o : Oper}

theorem St.put_eq (st : St) (dst : Option Nat) (v : AV) : st.put dst v = { st with t := putT st.nt dst v st.t } := by
  cases dst with
  | none => rfl
  | some d => simp only [St.put, putT]; split <;> rfl

theorem get_putT (nt : Nat) (t : List (Nat × AV)) (d : Option Nat) (v : AV) {k : Nat} (h : d ≠ some k) : find k (putT nt d v t) = find k t := by
  cases d with
  | none => rfl
  | some d =>
    have hne : k ≠ d := fun e => h (by rw [e])
    simp only [putT]
    split
    · exact find_put_ne hne _ _
    · rfl

/-- The state behind the guard. -/
def gput (st : St) (g : Option (Nat × Bool)) : St := { st with t := putG st.nt g st.t }

theorem get_gput {g : Option (Nat × Bool)} (hg : ∀ t b, g = some (t, b) → st.get t = .bool b) (k : Nat) : (gput st g).get k = st.get k := by
  cases g with
  | none => rfl
  | some p =>
    obtain ⟨t, b⟩ := p
    have e : gput st (some (t, b)) = st.put (some t) (.bool b) := by rw [St.put_eq]; rfl
    rw [e, St.get_put]
    split
    · rename_i h; rw [h.1, hg t b rfl]
    · rfl

theorem Eff.get_ap {e : Eff} (hg : ∀ t b, e.gs = some (t, b) → st.get t = .bool b) {dst : Option Nat} {k : Nat} (h : dst ≠ some k) : (e.ap dst st).get k = st.get k := by
  have := get_gput (st := st) hg k
  unfold St.get Eff.ap gput at *
  simp only at *
  rw [get_putT _ _ _ _ h]
  exact this

theorem ev_congr (hg : st2.g = st.g) {x : Operand} (h : ∀ t, x = .tmp t → st2.get t = st.get t) : st2.ev x = st.ev x := by
  cases x with
  | tmp t =>
    have hgen : ∀ j, st2.gen j = st.gen j := fun j => by unfold St.gen; rw [hg]
    simp only [St.ev, h t rfl]
    cases st.get t <;> simp only [St.cur, hgen]
  | _ => rfl

theorem looks_operand {x : Operand} (hx : x ∈ o.op.operands.toList) : ∀ t, x = .tmp t → t ∈ o.looksAt ops := by
  intro t e
  subst e
  unfold Oper.looksAt
  exact List.mem_append.2 (.inl (List.mem_filterMap.2 ⟨_, hx, rfl⟩))

def callOp (o : Oper) : Bool := match o.op with | .call { callee := .value _, .. } => true | _ => false
def loadOp (o : Oper) : Bool := match o.op with | .load _ _ => true | _ => false

theorem isCurB_congr (hg : st2.g = st.g) (v : AV) : isCurB st2 v = isCurB st v := by
  have hgen : ∀ j, st2.gen j = st.gen j := fun j => by unfold St.gen; rw [hg]
  cases v <;> simp only [isCurB, hgen]
theorem curAt_put (dst : Option Nat) (v : AV) (st : St) : curAt (st.put dst v) dst = match dst with | some d => if d < st.nt then isCurB st v else true | none => true := by
  cases dst with
  | none => rfl
  | some d =>
    have hgen : ∀ u, isCurB (st.put (some d) v) u = isCurB st u := fun u => by
      cases u <;> simp only [isCurB, St.gen_put]
    simp only [curAt, St.nt_put, hgen]
    split
    · rename_i h; rw [St.get_put, if_pos ⟨rfl, h⟩]
    · rfl

end
end Go.AM

set_option linter.unusedVariables false
set_option linter.unusedSimpArgs false
namespace Go.AM
open Go.RowKit Go.Lib

section
variable {E : Ev} {ops : Array Oper} {st st2 s s2 : St} {o : Oper}

theorem pure_notBump {tb : Tb} (h : pureOp tb o = true) : isBump tb o = false := by
  cases ho : o.op with
  | convert a b x =>
    simp only [pureOp, isBump, ho] at h ⊢
    cases hf : find b tb with
    | none => rw [hf] at h; simp at h
    | some td =>
      rw [hf] at h
      dsimp only at h ⊢
      cases hk : td.k <;> rw [hk] at h <;> simp_all
  | call c =>
    obtain ⟨callee, args, ts⟩ := c
    simp only [pureOp, isBump, ho] at h ⊢
    cases callee with
    | builtin b => cases b <;> simp_all
    | value f => rfl
    | invoke f n => rfl
  | store t x y => simp [pureOp, ho] at h
  | _ => simp only [isBump, ho]

theorem curAt_congr {a b : St} (hn : a.nt = b.nt) (hg : a.g = b.g) (dst : Option Nat) (v : AV) : curAt (a.put dst v) dst = curAt (b.put dst v) dst := by
  rw [curAt_put, curAt_put, hn, isCurB_congr hg]
theorem ap_put (v : AV) (dst : Option Nat) (s : St) : Eff.ap ⟨none, v, none, [], []⟩ dst s = s.put dst v := by rw [St.put_eq]; rfl

theorem stepD_eff (hc : pureOp E.tb o = true ∨ loadOp o = true ∨ callOp o = true) {s' : St} (h : stepD E true s o = some s') :
    ∃ v rds ks bs, s' = Eff.ap ⟨none, v, rds, ks, bs⟩ o.dst s ∧ (∀ k, rds = some k → k ∉ s.wr) ∧ (∀ k ∈ ks, k ∉ s.rd) ∧ (callOp o = false → ks = []) ∧ (callOp o = true → rds = none) ∧
      ∀ s2 : St, s2.nt = s.nt → s2.g = s.g → s2.r = s.r → (∀ x ∈ o.op.operands.toList, s2.ev x = s.ev x) → (∀ k, (rds = some k ∨ k ∈ ks) → find k s2.b = find k s.b) → (∀ k, rds = some k → k ∉ s2.wr) → (∀ k ∈ ks, k ∉ s2.rd) →
        stepD E true s2 o = some (Eff.ap ⟨none, v, rds, ks, bs⟩ o.dst s2) := by
  unfold stepD at h
  split at h
  · rename_i f args ts ho
    have hev : ∀ s2 : St, (∀ x ∈ o.op.operands.toList, s2.ev x = s.ev x) → s2.ev f = s.ev f ∧ args.toList.map s2.ev = args.toList.map s.ev := fun s2 hh =>
      ⟨hh f (by rw [ho]; simp [Op.operands, Call.operands]), List.map_congr_left fun x hx => hh x (by rw [ho]; simp [Op.operands, Call.operands, Array.mem_toList_iff.1 hx])⟩
    unfold callD at h
    split at h
    · rename_i n hf
      split at h
      · rename_i vs ks hp
        split at h
        · rename_i bs hb
          split at h
          · rename_i hd
            split at h
            · rename_i v bs' hF
              split at h
              · rename_i hcond
                simp only [Option.some.injEq] at h
                subst h
                have hdis : ∀ k ∈ ks, k ∉ s.rd := by
                  intro k hk hk'
                  simp only [Bool.not_true, Bool.false_or, disj, List.all_eq_true] at hd
                  have := hd k hk
                  simp [hk'] at this
                refine ⟨v, none, ks, bs', by rw [St.put_eq]; rfl, by simp, hdis, by simp [callOp, ho], by simp, fun s2 h1 h2 h3 h4 h5 h6 h7 => ?_⟩
                obtain ⟨e1, e2⟩ := hev s2 h4
                have hgen : ∀ j, s2.gen j = s.gen j := fun j => by unfold St.gen; rw [h2]
                have hcur : s2.cur = s.cur := by funext u; cases u <;> simp only [St.cur, hgen]
                have hpass : ∀ (l : List AV) n, s2.pass n l = s.pass n l := by
                  intro l
                  induction l with
                  | nil => intro n; rfl
                  | cons a l ih => intro n; cases a <;> simp only [St.pass, ih]
                have hbox : ∀ l : List Nat, (∀ k ∈ l, k ∈ ks) → s2.boxesAt l = s.boxesAt l := by
                  intro l
                  induction l with
                  | nil => intro _; rfl
                  | cons k l ih =>
                    intro hh
                    simp only [St.boxesAt, ih (fun k hk => hh k (List.mem_cons_of_mem _ hk)), h5 k (.inr (hh k (List.mem_cons_self ..))), hcur]
                have hd2 : (!true || disj ks s2.rd) = true := by
                  simp only [Bool.not_true, Bool.false_or, disj, List.all_eq_true]
                  intro k hk
                  simp [h7 k hk]
                have hcx : ∀ l : Boxes, curBx s2 l = curBx s l := by
                  intro l
                  induction l with
                  | nil => rfl
                  | cons c l ih =>
                    simp only [curBx, ih]
                    rw [show (isCurB s2) = (isCurB s) from funext fun u => isCurB_congr h2 u]
                have hca : curAt ({ s2 with b := putBoxes s2.b ks bs', wr := ks ++ s2.wr }.put o.dst v) o.dst = curAt ({ s with b := putBoxes s.b ks bs', wr := ks ++ s.wr }.put o.dst v) o.dst := by
                  exact curAt_congr (a := { s2 with b := putBoxes s2.b ks bs', wr := ks ++ s2.wr }) (b := { s with b := putBoxes s.b ks bs', wr := ks ++ s.wr }) h1 h2 o.dst v
                unfold stepD
                rw [ho]
                dsimp only
                unfold callD
                rw [e1, e2, hf]
                dsimp only
                rw [hpass, hp]
                dsimp only
                rw [hbox ks (fun k hk => hk), hb]
                dsimp only
                rw [if_pos hd2, hF]
                dsimp only
                rw [if_pos ⟨hcond.1, fun _ => by rw [hcx, hca]; exact hcond.2 rfl⟩, St.put_eq]
                rfl
              · simp at h
            · simp at h
          · simp at h
        · simp at h
      · simp at h
    · simp at h
  · rename_i hno
    have hnc : callOp o = false := by
      unfold callOp
      split
      · rename_i f args ts e; exact absurd e (hno _ _ _)
      · rfl
    have hstep : ∀ s : St, stepD E true s o = (match stepA E.tb true s o with
        | some st' => bif true then (bif isBump E.tb o then (bif keepsPtr st' s.t && keepsPtrB st' s.b then some st'.canon else none) else (bif curAt st' o.dst then some st' else none)) else some st'
        | none => none) := by
      intro s
      unfold stepD
      split
      · rename_i f args ts e; exact absurd e (hno _ _ _)
      · rfl
    have hcurAt : ∀ (s2 : St) (v : AV), s2.nt = s.nt → s2.g = s.g → curAt (s2.put o.dst v) o.dst = curAt (s.put o.dst v) o.dst := by
      intro s2 v h1 h2
      exact curAt_congr h1 h2 _ _
    rcases hc with hp | hl | hcall
    · rw [stepA_val hp, pure_notBump hp] at h
      cases hv : valA E.tb s o with
      | none => rw [hv] at h; simp [putO] at h
      | some v =>
        rw [hv] at h
        simp only [putO, cond_true, cond_false] at h
        cases hk : curAt (s.put o.dst v) o.dst with
        | false => rw [hk] at h; simp at h
        | true =>
          rw [hk] at h
          simp only [cond_true, Option.some.injEq] at h
          subst h
          refine ⟨v, none, [], [], (ap_put v o.dst s).symm, by simp, by simp, fun _ => rfl, fun _ => rfl, fun s2 h1 h2 h3 h4 h5 h6 h7 => ?_⟩
          rw [hstep, stepA_val hp, pure_notBump hp, valA_congr h4 h3, hv]
          simp only [putO, cond_true, cond_false]
          rw [hcurAt s2 v h1 h2, hk, ap_put]
          rfl
    · cases ho : o.op with
      | load t x =>
        have hnb : isBump E.tb o = false := by simp [isBump, ho]
        have hsa : ∀ s : St, stepA E.tb true s o = (match loadA E.tb true s t (s.ev x) with | some (v, rd) => some ({ s with rd := rd }.put o.dst v) | none => none) := fun s => by simp only [stepA, ho]; rfl
        rw [hsa, hnb] at h
        cases hld : loadA E.tb true s t (s.ev x) with
        | none => rw [hld] at h; simp at h
        | some p =>
          obtain ⟨v, rd⟩ := p
          rw [hld] at h
          dsimp only at h
          simp only [cond_true, cond_false] at h
          cases hk : curAt ({ s with rd := rd }.put o.dst v) o.dst with
          | false => rw [hk] at h; simp at h
          | true =>
            rw [hk] at h
            simp only [cond_true, Option.some.injEq] at h
            subst h
            have hk' : ∀ (s2 : St) (rd2 : List Nat), s2.nt = s.nt → s2.g = s.g → curAt ({ s2 with rd := rd2 }.put o.dst v) o.dst = true := by
              intro s2 rd2 h1 h2
              exact (curAt_congr (a := { s2 with rd := rd2 }) (b := { s with rd := rd }) h1 h2 o.dst v).trans hk
            have hx : ∀ s2 : St, (∀ x' ∈ (Op.load t x).operands.toList, s2.ev x' = s.ev x') → s2.ev x = s.ev x := fun s2 hh => hh x (by simp [Op.operands])
            rcases loadA_congr hld with ⟨k, rfl, hw, hh⟩ | ⟨rfl, hh⟩
            · refine ⟨v, some k, [], [], by rw [St.put_eq]; rfl, by intro k' e; cases e; exact hw, by simp, fun _ => rfl, fun e => by rw [hnc] at e; simp at e, fun s2 h1 h2 h3 h4 h5 h6 h7 => ?_⟩
              have hgen : ∀ j, s2.gen j = s.gen j := fun j => by unfold St.gen; rw [h2]
              rw [hstep, hsa, hnb, hx s2 h4, hh s2 hgen (h5 k (.inl rfl)) (h6 k rfl) h3]
              dsimp only
              simp only [cond_true, cond_false]
              rw [hk' s2 _ h1 h2, St.put_eq]
              rfl
            · refine ⟨v, none, [], [], by rw [St.put_eq]; rfl, by simp, by simp, fun _ => rfl, fun _ => rfl, fun s2 h1 h2 h3 h4 h5 h6 h7 => ?_⟩
              rw [hstep, hsa, hnb, hx s2 h4, hh s2 h3]
              dsimp only
              simp only [cond_true, cond_false]
              rw [hk' s2 _ h1 h2, St.put_eq]
              rfl
      | _ => simp [loadOp, ho] at hl
    · rw [hnc] at hcall; simp at hcall

theorem guard_looks {t : Nat} {want : Bool} (h : guardOf ops o = .at_ t want) : t ∈ o.looksAt ops := by
  unfold guardOf at h
  split at h
  · simp at h
  · rename_i j w' e
    split at h
    · rename_i t' e'
      simp only [Gd.at_.injEq] at h
      obtain ⟨rfl, rfl⟩ := h
      unfold Oper.looksAt
      refine List.mem_append.2 (.inr ?_)
      rw [e]
      simp [e']
    · simp at h

theorem does_of (hc : pureOp E.tb o = true ∨ loadOp o = true ∨ callOp o = true) {st' : St} (h : opD E true ops st o = some st') :
    ∃ e, st' = e.ap o.dst st ∧ Does E ops o e st ∧ (callOp o = false → e.ks = []) ∧ (callOp o = true → e.rds = none) := by
  have h0 := h
  unfold opD at h
  split at h
  · simp at h
  · rename_i hg
    obtain ⟨v, rds, ks, bs, e0, h1, h2, h3, h4, h5⟩ := stepD_eff hc h
    subst e0
    refine ⟨⟨none, v, rds, ks, bs⟩, rfl, ⟨by simp, h1, h2, h0, fun st2 hs => ?_⟩, h3, h4⟩
    unfold opD
    rw [hg]
    exact h5 st2 hs.nt hs.g hs.r (fun x hx => ev_congr hs.g fun t e => hs.sl t (looks_operand hx t e)) hs.bx hs.rw hs.wr
  · rename_i t want hg
    have hlk := guard_looks hg
    split at h
    · rename_i b hb
      have hgp : ∀ s : St, s.put (some t) (.bool b) = gput s (some (t, b)) := fun s => by rw [St.put_eq]; rfl
      split at h
      · rename_i hbw
        rw [hgp] at h
        obtain ⟨v, rds, ks, bs, e0, h1, h2, h3, h4, h5⟩ := stepD_eff hc h
        refine ⟨⟨some (t, b), v, rds, ks, bs⟩, e0, ⟨?_, h1, h2, by rw [h0, e0]; rfl, fun st2 hs => ?_⟩, h3, h4⟩
        · intro t' b' e
          simp only [Option.some.injEq, Prod.mk.injEq] at e
          obtain ⟨rfl, rfl⟩ := e
          exact ⟨hb, hlk⟩
        · unfold opD
          rw [hg]
          dsimp only
          rw [hs.sl t hlk, hb]
          dsimp only
          rw [if_pos hbw, hgp]
          have hb2 : st2.get t = .bool b := by rw [hs.sl t hlk, hb]
          refine h5 (gput st2 (some (t, b))) hs.nt hs.g hs.r (fun x hx => ev_congr (st := gput st (some (t, b))) (st2 := gput st2 (some (t, b))) hs.g fun t' e => ?_) hs.bx hs.rw hs.wr
          rw [get_gput (st := st2) (by intro t' b' e; simp only [Option.some.injEq, Prod.mk.injEq] at e; obtain ⟨rfl, rfl⟩ := e; exact hb2), get_gput (st := st) (by intro t' b' e; simp only [Option.some.injEq, Prod.mk.injEq] at e; obtain ⟨rfl, rfl⟩ := e; exact hb)]
          exact hs.sl t' (looks_operand hx t' e)
      · rename_i hbw
        simp only [Option.some.injEq] at h
        have hap : ∀ s : St, (s.put (some t) (.bool b)).put o.dst (.tup []) = Eff.ap ⟨some (t, b), .tup [], none, [], []⟩ o.dst s := fun s => by rw [hgp, St.put_eq]; rfl
        subst h
        refine ⟨⟨some (t, b), .tup [], none, [], []⟩, hap st, ⟨?_, by simp, by simp, by rw [h0, hap], fun st2 hs => ?_⟩, fun _ => rfl, fun _ => rfl⟩
        · intro t' b' e
          simp only [Option.some.injEq, Prod.mk.injEq] at e
          obtain ⟨rfl, rfl⟩ := e
          exact ⟨hb, hlk⟩
        · unfold opD
          rw [hg]
          dsimp only
          rw [hs.sl t hlk, hb]
          dsimp only
          rw [if_neg hbw, hap]
    · rename_i hb
      simp only [Option.some.injEq] at h
      subst h
      refine ⟨⟨none, .tup [], none, [], []⟩, (ap_put _ _ _).symm, ⟨by simp, by simp, by simp, by rw [h0, ap_put], fun st2 hs => ?_⟩, fun _ => rfl, fun _ => rfl⟩
      unfold opD
      rw [hg]
      dsimp only
      rw [hs.sl t hlk, hb]
      dsimp only
      rw [ap_put]
    · simp at h

/-- They touch different slots. -/
def sep (ops : Array Oper) (x y : Oper) : Bool :=
  (match x.dst with | some d => !(y.looksAt ops).contains d && y.dst != some d | none => true) &&
  (match y.dst with | some d => !(x.looksAt ops).contains d | none => true)

theorem sep_spec {x y : Oper} (h : sep ops x y = true) : (∀ t ∈ y.looksAt ops, x.dst ≠ some t) ∧ (∀ t ∈ x.looksAt ops, y.dst ≠ some t) ∧ (∀ k, x.dst = some k → y.dst ≠ some k) := by
  unfold sep at h
  simp only [Bool.and_eq_true] at h
  obtain ⟨h1, h2⟩ := h
  refine ⟨fun t ht e => ?_, fun t ht e => ?_, fun k e e' => ?_⟩
  · rw [e] at h1
    simp [ht] at h1
  · rw [e] at h2
    simp [ht] at h2
  · rw [e] at h1
    simp [e'] at h1

theorem swap {x y : Oper} (hs : sep ops x y = true) (hx : pureOp E.tb x = true ∨ loadOp x = true ∨ callOp x = true) (hy : pureOp E.tb y = true ∨ loadOp y = true ∨ callOp y = true) (hxy : callOp x = false ∨ callOp y = false)
    {st1 st2 : St} (h1 : opD E true ops st x = some st1) (h2 : opD E true ops st1 y = some st2) : ∃ st1', opD E true ops st y = some st1' ∧ opD E true ops st1' x = some st2 := by
  obtain ⟨s1, s2, s3⟩ := sep_spec hs
  obtain ⟨e1, rfl, d1, n1, m1⟩ := does_of hx h1
  obtain ⟨e2, rfl, d2, n2, m2⟩ := does_of hy h2
  have hks : e1.ks = [] ∨ e2.ks = [] := hxy.imp n1 n2
  have g1 : ∀ t b, e1.gs = some (t, b) → st.get t = .bool b := fun t b e => (d1.gs t b e).1
  -- y at st
  have hbx : ∀ {b : List (Nat × List AV)} {ks : List Nat} {bs : Boxes} {k : Nat}, k ∉ ks → find k (putBoxes b ks bs) = find k b := by
    intro b ks
    induction ks generalizing b with
    | nil => intro bs k _; rfl
    | cons k' ks ih =>
      intro bs k hk
      cases bs with
      | nil => rfl
      | cons c bs =>
        simp only [List.mem_cons, not_or] at hk
        show find k (putBoxes (put k' c b) ks bs) = find k b
        rw [ih hk.2, find_put_ne hk.1]
  have hwr : ∀ k, k ∈ (e1.ap x.dst st).wr ↔ k ∈ e1.ks ∨ k ∈ st.wr := fun k => List.mem_append
  have hrd : ∀ k, k ∈ (e1.ap x.dst st).rd ↔ e1.rds = some k ∨ k ∈ st.rd := by
    intro k
    show k ∈ insO e1.rds st.rd ↔ _
    cases e1.rds with
    | none => simp [insO]
    | some k' => simp [insO, mem_insN, eq_comm]
  have hsame1 : Same ops y e2 (e1.ap x.dst st) st := by
    refine ⟨rfl, rfl, rfl, fun t ht => (Eff.get_ap g1 (s1 t ht)).symm, fun k hk => ?_, fun k hk => ?_, fun k hk => ?_⟩
    · refine (hbx (b := st.b) (ks := e1.ks) (bs := e1.bs) ?_).symm
      rcases hk with hk | hk
      · have := d2.rw k hk
        rw [hwr] at this
        exact fun h => this (.inl h)
      · rcases hks with e | e
        · rw [e]; simp
        · rw [e] at hk; simp at hk
    · have := d2.rw k hk
      rw [hwr] at this
      exact fun h => this (.inr h)
    · have := d2.wr k hk
      rw [hrd] at this
      exact fun h => this (.inr h)
  have hy1 := d2.again st hsame1
  have g2 : ∀ t b, e2.gs = some (t, b) → st.get t = .bool b := fun t b e => by
    obtain ⟨q1, q2⟩ := d2.gs t b e
    rw [Eff.get_ap g1 (s1 t q2)] at q1
    exact q1
  have hsame2 : Same ops x e1 st (e2.ap y.dst st) := by
    refine ⟨rfl, rfl, rfl, fun t ht => Eff.get_ap g2 (s2 t ht), fun k hk => ?_, fun k hk => ?_, fun k hk => ?_⟩
    · refine hbx (b := st.b) (ks := e2.ks) (bs := e2.bs) ?_
      rcases hk with hk | hk
      · intro h
        have := d2.wr k h
        rw [hrd] at this
        exact this (.inl hk)
      · rcases hks with e | e
        · rw [e] at hk; simp at hk
        · rw [e]; simp
    · show k ∉ e2.ks ++ st.wr
      rw [List.mem_append]
      rintro (h | h)
      · have := d2.wr k h
        rw [hrd] at this
        exact this (.inl hk)
      · exact d1.rw k hk h
    · show k ∉ insO e2.rds st.rd
      cases hr : e2.rds with
      | none => simp only [insO]; exact d1.wr k hk
      | some k' =>
        simp only [insO, mem_insN, not_or]
        refine ⟨?_, d1.wr k hk⟩
        intro e
        subst e
        have := d2.rw _ hr
        rw [hwr] at this
        exact this (.inl hk)
  have hx1 := d1.again _ hsame2
  refine ⟨_, hy1, ?_⟩
  rw [hx1]
  congr 1
  -- the two ways agree
  have ht : putT st.nt x.dst e1.v (putG st.nt e1.gs (putT st.nt y.dst e2.v (putG st.nt e2.gs st.t))) = putT st.nt y.dst e2.v (putG st.nt e2.gs (putT st.nt x.dst e1.v (putG st.nt e1.gs st.t))) := by
    have c1 : ∀ l, putG st.nt e1.gs (putT st.nt y.dst e2.v l) = putT st.nt y.dst e2.v (putG st.nt e1.gs l) := by
      intro l
      cases hg : e1.gs with
      | none => rfl
      | some p =>
        obtain ⟨t, b⟩ := p
        have := s2 t (d1.gs t b hg).2
        exact putT_comm (d := some t) (fun k e => by cases e; exact this) _ _ _
    have c2 : ∀ l, putT st.nt x.dst e1.v (putG st.nt e2.gs l) = putG st.nt e2.gs (putT st.nt x.dst e1.v l) := by
      intro l
      cases hg : e2.gs with
      | none => rfl
      | some p =>
        obtain ⟨t, b⟩ := p
        have := s1 t (d2.gs t b hg).2
        exact putT_comm (d' := some t) (fun k e e' => by cases e'; exact this e) _ _ _
    have c3 : ∀ l, putG st.nt e1.gs (putG st.nt e2.gs l) = putG st.nt e2.gs (putG st.nt e1.gs l) := by
      intro l
      cases hg : e1.gs with
      | none => rfl
      | some p =>
        obtain ⟨t, b⟩ := p
        cases hg' : e2.gs with
        | none => rfl
        | some p' =>
          obtain ⟨t', b'⟩ := p'
          by_cases e : t = t'
          · subst e
            have q1 := g1 t b hg
            have q2 := g2 t b' hg'
            rw [q1] at q2
            simp only [AV.bool.injEq] at q2
            subst q2
            rfl
          · exact putT_comm (d := some t) (d' := some t') (fun k e1 e2 => by cases e1; cases e2; exact e rfl) _ _ _
    rw [c1, putT_comm (fun k e => s3 k e), c3, c2]
  have hb : putBoxes (putBoxes st.b e2.ks e2.bs) e1.ks e1.bs = putBoxes (putBoxes st.b e1.ks e1.bs) e2.ks e2.bs := by
    rcases hks with e | e <;> rw [e] <;> rfl
  have hr : insO e1.rds (insO e2.rds st.rd) = insO e2.rds (insO e1.rds st.rd) := by
    cases e1.rds with
    | none => rfl
    | some a =>
      cases e2.rds with
      | none => rfl
      | some b => exact insN_comm a b _
  have hw : e1.ks ++ (e2.ks ++ st.wr) = e2.ks ++ (e1.ks ++ st.wr) := by
    rcases hks with e | e <;> rw [e] <;> rfl
  unfold Eff.ap
  simp only [ht, hb, hr, hw]

end
end Go.AM

set_option linter.unusedVariables false
set_option linter.unusedSimpArgs false
namespace Go.AM
open Go.RowKit Go.Lib

def okc (tb : Tb) (o : Oper) : Bool := pureOp tb o || loadOp o || callOp o
def compat (tb : Tb) (ops : Array Oper) (x y : Oper) : Bool := sep ops x y && okc tb x && okc tb y && (!callOp x || !callOp y)

def maskOf (M : List Nat) : List Edge → Nat
  | [] => 0
  | e :: r => bif Region.binds .any e then 2 ^ e.on ||| (M.getD e.on 0 ||| maskOf M r) else maskOf M r
def masks : List Oper → List Nat → List Nat
  | [], M => M
  | o :: r, M => masks r (M ++ [maskOf M o.after.toList])
def edgesDown (i : Nat) (o : Oper) : Bool := o.after.toList.all fun e => !Region.binds .any e || decide (e.on < i)
/-- The static look at a region that draws its order. -/
def drawOk (tb : Tb) (ops : Array Oper) : Bool :=
  (List.range ops.size).all fun i => match ops[i]? with
    | some y => edgesDown i y && (List.range i).all fun j => ((masks ops.toList []).getD i 0).testBit j || (match ops[j]? with | some x => compat tb ops x y | none => false)
    | none => false

inductive Reach (ops : Array Oper) : Nat → Nat → Prop
  | direct {i : Nat} {o : Oper} {e : Edge} (ho : ops[i]? = some o) (he : e ∈ o.after) (hb : Region.binds .any e = true) : Reach ops e.on i
  | trans {i j : Nat} {o : Oper} {e : Edge} (ho : ops[i]? = some o) (he : e ∈ o.after) (hb : Region.binds .any e = true) (h : Reach ops j e.on) : Reach ops j i

section
variable {E : Ev} {ops : Array Oper} {tb : Tb}

theorem maskOf_reach {M : List Nat} (hM : ∀ i j, (M.getD i 0).testBit j = true → Reach ops j i) {i : Nat} {o : Oper} (ho : ops[i]? = some o) : ∀ {es : List Edge}, (∀ e ∈ es, e ∈ o.after) → ∀ j, (maskOf M es).testBit j = true → Reach ops j i
  | [], _, j, h => by simp [maskOf] at h
  | e :: r, he, j, h => by
    have ih := maskOf_reach hM ho (es := r) (fun e' h' => he e' (List.mem_cons_of_mem _ h')) j
    unfold maskOf at h
    cases hb : Region.binds .any e
    · rw [hb] at h; exact ih h
    · rw [hb] at h
      simp only [cond_true, Nat.testBit_or, Bool.or_eq_true] at h
      have hm : e ∈ o.after := he e (List.mem_cons_self ..)
      rcases h with h | h | h
      · rw [Nat.testBit_two_pow] at h
        have : e.on = j := by simpa using h
        subst this
        exact .direct ho hm hb
      · exact .trans ho hm hb (hM _ _ h)
      · exact ih h
theorem masks_reach : ∀ (l : List Oper) (M : List Nat), (∀ i, l[i]? = ops[M.length + i]?) → (∀ i j, (M.getD i 0).testBit j = true → Reach ops j i) → ∀ i j, ((masks l M).getD i 0).testBit j = true → Reach ops j i
  | [], M, _, hM => hM
  | o :: r, M, hl, hM => by
    have ho : ops[M.length]? = some o := by simpa using (hl 0).symm
    refine masks_reach r _ (fun i => ?_) (fun i j h => ?_)
    · have := hl (i + 1)
      simp only [List.getElem?_cons_succ] at this
      rw [this, List.length_append, List.length_singleton]
      congr 1
      omega
    · by_cases hlt : i < M.length
      · have e : (M ++ [maskOf M o.after.toList]).getD i 0 = M.getD i 0 := by simp [List.getD, List.getElem?_append_left hlt]
        rw [e] at h
        exact hM i j h
      · by_cases he : i = M.length
        · subst he
          have e : (M ++ [maskOf M o.after.toList]).getD M.length 0 = maskOf M o.after.toList := by simp [List.getD]
          rw [e] at h
          exact maskOf_reach hM ho (fun e he => Array.mem_toList_iff.1 he) j h
        · have e : (M ++ [maskOf M o.after.toList]).getD i 0 = 0 := by
            have : (M ++ [maskOf M o.after.toList])[i]? = none := List.getElem?_eq_none_iff.2 (by simp; omega)
            simp [List.getD, this]
          rw [e] at h
          simp at h

theorem okc_spec {o : Oper} (h : okc tb o = true) : pureOp tb o = true ∨ loadOp o = true ∨ callOp o = true := by
  simp only [okc, Bool.or_eq_true] at h
  rcases h with (h | h) | h
  · exact .inl h
  · exact .inr (.inl h)
  · exact .inr (.inr h)

theorem front (hE : E.tb = tb) {i : Nat} {y : Oper} (hy : ops[i]? = some y) : ∀ (l1 l2 : List Nat) (st st' : St), (∀ j ∈ l1, ∃ x, ops[j]? = some x ∧ compat tb ops x y = true) →
    runD E true ops ((l1 ++ i :: l2).filterMap (ops[·]?)) st = some st' → runD E true ops ((i :: (l1 ++ l2)).filterMap (ops[·]?)) st = some st'
  | [], l2, st, st', _, h => h
  | j :: l1, l2, st, st', hc, h => by
    obtain ⟨x, hx, hcx⟩ := hc j (List.mem_cons_self ..)
    simp only [List.cons_append] at h ⊢
    rw [List.filterMap_cons_some hx] at h
    simp only [runD] at h
    split at h
    · rename_i st1 h1
      have ih := front hE hy l1 l2 st1 st' (fun j hj => hc j (List.mem_cons_of_mem _ hj)) h
      rw [List.filterMap_cons_some hy] at ih ⊢
      rw [List.filterMap_cons_some hx]
      simp only [runD] at ih ⊢
      split at ih
      · rename_i st2 h2
        simp only [compat, Bool.and_eq_true] at hcx
        obtain ⟨⟨⟨c1, c2⟩, c3⟩, c4⟩ := hcx
        obtain ⟨st1', q1, q2⟩ := swap c1 (hE ▸ okc_spec c2) (hE ▸ okc_spec c3) (by simpa using c4) h1 h2
        rw [q1]
        dsimp only
        rw [q2]
        exact ih
      · simp at ih
    · simp at h

theorem getD_true {l : Array Bool} {k : Nat} (h : l.getD k false = true) : k < l.size ∧ l.getD k true = true := by
  by_cases hk : k < l.size
  · simp [hk] at h ⊢; exact h
  · simp [hk] at h
theorem getD_false {l : Array Bool} {k : Nat} (hk : k < l.size) (h : l.getD k true = true) : l.getD k false = true := by
  simp [hk] at h ⊢; exact h

theorem reach_listed {listed : Array Bool} (hcl : ∀ i, listed.getD i false = true → ∀ o, ops[i]? = some o → ∀ e ∈ o.after, Region.binds .any e = true → listed.getD e.on false = true) {j i : Nat} (h : Reach ops j i) :
    (∀ o, ops[i]? = some o → ∀ e ∈ o.after, Region.binds .any e = true → listed.getD e.on false = true) → listed.getD j false = true := by
  induction h with
  | direct ho he hb => exact fun hi => hi _ ho _ he hb
  | trans ho he hb _ ih => exact fun hi => ih (hcl _ (hi _ ho _ he hb))

theorem lin (hE : E.tb = tb) (hd : ∀ i y, ops[i]? = some y → edgesDown i y = true ∧ ∀ j, j < i → Reach ops j i ∨ ∃ x, ops[j]? = some x ∧ compat tb ops x y = true) :
    ∀ (fuel t : Nat) (listed : Array Bool) (l : List Nat) (st st' : St), listed.size = ops.size → l.Pairwise (· < ·) → (∀ i, i ∈ l ↔ i < ops.size ∧ listed.getD i true = false) →
      (∀ i, listed.getD i false = true → ∀ o, ops[i]? = some o → ∀ e ∈ o.after, Region.binds .any e = true → listed.getD e.on false = true) → l.length ≤ fuel →
      runD E true ops (l.filterMap (ops[·]?)) st = some st' → runD E true ops ((Region.linearise.go .any ops fuel t listed []).filterMap (ops[·]?)) st = some st' := by
  intro fuel
  induction fuel with
  | zero =>
    intro t listed l st st' _ _ _ _ hl h
    have : l = [] := List.eq_nil_of_length_eq_zero (by omega)
    subst this
    simpa [Region.linearise.go] using h
  | succ fuel ih =>
    intro t listed l st st' hsz hpw hmem hcl hlen h
    have hgo : Region.linearise.go .any ops (fuel + 1) t listed [] = (match (Region.ready .any ops listed)[t % (Region.ready .any ops listed).length]? with
      | some i => Region.linearise.go .any ops fuel (t / (Region.ready .any ops listed).length) (listed.setIfInBounds i true) [i]
      | none => [].reverse) := by
      simp only [Region.linearise.go]
      rfl
    rw [hgo]
    have hready : ∀ i, i ∈ Region.ready .any ops listed ↔ i < ops.size ∧ listed.getD i true = false ∧ ∃ o, ops[i]? = some o ∧ ∀ e ∈ o.after, Region.binds .any e = true → listed.getD e.on false = true := by
      intro i
      unfold Region.ready
      rw [List.mem_filter]
      simp only [List.mem_range, Bool.and_eq_true, Bool.not_eq_true']
      constructor
      · rintro ⟨h1, h2, h3⟩
        refine ⟨h1, h2, ?_⟩
        cases ho : ops[i]? with
        | none => rw [ho] at h3; simp at h3
        | some o =>
          rw [ho] at h3
          simp only [Option.map_some, Option.getD_some, Array.all_eq_true_iff_forall_mem] at h3
          refine ⟨o, rfl, fun e he hb => ?_⟩
          have := h3 e he
          simpa [hb] using this
      · rintro ⟨h1, h2, o, ho, h3⟩
        refine ⟨h1, h2, ?_⟩
        rw [ho]
        simp only [Option.map_some, Option.getD_some, Array.all_eq_true_iff_forall_mem]
        intro e he
        cases hb : Region.binds .any e
        · rfl
        · simpa using h3 e he hb
    cases hi : (Region.ready .any ops listed)[t % (Region.ready .any ops listed).length]? with
    | none =>
      have hnil : Region.ready .any ops listed = [] := by
        cases hr : Region.ready .any ops listed with
        | nil => rfl
        | cons x xs =>
          rw [hr] at hi
          have hlt : t % (x :: xs).length < (x :: xs).length := Nat.mod_lt _ (by simp)
          simp at hi
          simp at hlt
          omega
      have hl : l = [] := by
        cases l with
        | nil => rfl
        | cons k r =>
          exfalso
          obtain ⟨hk1, hk2⟩ := (hmem k).1 (List.mem_cons_self ..)
          have hk : k ∈ Region.ready .any ops listed := by
            refine (hready k).2 ⟨hk1, hk2, ops[k], Array.getElem?_eq_getElem hk1, fun e he hb => ?_⟩
            have hdn := (hd k ops[k] (Array.getElem?_eq_getElem hk1)).1
            simp only [edgesDown, List.all_eq_true] at hdn
            have hlt := hdn e (Array.mem_toList_iff.2 he)
            rw [hb] at hlt
            have hlt : e.on < k := by simpa using hlt
            have hlt2 : e.on < ops.size := by omega
            by_cases hl : listed.getD e.on true = true
            · exact getD_false (by omega) hl
            · have hin := (hmem e.on).2 ⟨hlt2, by simpa using hl⟩
              rcases List.mem_cons.1 hin with e1 | e1
              · omega
              · have := (List.pairwise_cons.1 hpw).1 _ e1
                omega
          rw [hnil] at hk
          simp at hk
      subst hl
      simpa using h
    | some i =>
      dsimp only
      rw [linearise_go_acc, List.reverse_singleton, List.singleton_append]
      obtain ⟨r1, r2, y, hy, r3⟩ := (hready i).1 (List.mem_of_getElem? hi)
      have him : i ∈ l := (hmem i).2 ⟨r1, r2⟩
      obtain ⟨l1, l2, rfl⟩ := List.append_of_mem him
      have hlt : ∀ j ∈ l1, j < i := fun j hj => (List.pairwise_append.1 hpw).2.2 j hj i (List.mem_cons_self ..)
      have hgt : ∀ j ∈ l2, i < j := fun j hj => (List.pairwise_cons.1 (List.pairwise_append.1 hpw).2.1).1 j hj
      have hf := front hE hy l1 l2 st st' (fun j hj => by
        rcases (hd i y hy).2 j (hlt j hj) with hr | hc
        · exfalso
          have := reach_listed hcl hr (fun o ho e he hb => by rw [hy] at ho; cases ho; exact r3 e he hb)
          have h2 := ((hmem j).1 (List.mem_append.2 (.inl hj))).2
          rw [(getD_true this).2] at h2
          simp at h2
        · exact hc) h
      rw [List.filterMap_cons_some hy] at hf ⊢
      simp only [runD] at hf ⊢
      split at hf
      · rename_i st1 h1
        refine ih _ _ (l1 ++ l2) st1 st' (by simpa using hsz) ?_ (fun k => ?_) (fun k hk o ho e he hb => ?_) (by simp at hlen ⊢; omega) hf
        · obtain ⟨p1, p2, p3⟩ := List.pairwise_append.1 hpw
          exact List.pairwise_append.2 ⟨p1, (List.pairwise_cons.1 p2).2, fun a ha b hb => p3 a ha b (List.mem_cons_of_mem _ hb)⟩
        · have hset : (listed.setIfInBounds i true).getD k true = if k = i then true else listed.getD k true := by
            rw [Array.getD_eq_getD_getElem?, Array.getElem?_setIfInBounds, Array.getD_eq_getD_getElem?]
            by_cases e : i = k
            · subst e
              have : i < listed.size := by omega
              simp [this]
            · simp [e, Ne.symm e]
          rw [hset]
          have hm := hmem k
          simp only [List.mem_append, List.mem_cons] at hm ⊢
          by_cases e : k = i
          · subst e
            simp only [if_true, Bool.true_eq_false, and_false, iff_false, not_or]
            exact ⟨fun hh => by have := hlt k hh; omega, fun hh => by have := hgt k hh; omega⟩
          · simp only [e, if_false, false_or] at hm ⊢
            exact hm
        · have hset : ∀ m, (listed.setIfInBounds i true).getD m false = if m = i then true else listed.getD m false := by
            intro m
            rw [Array.getD_eq_getD_getElem?, Array.getElem?_setIfInBounds, Array.getD_eq_getD_getElem?]
            by_cases e : i = m
            · subst e
              have : i < listed.size := by omega
              simp [this]
            · simp [e, Ne.symm e]
          rw [hset] at hk ⊢
          by_cases e1 : k = i
          · subst e1
            rw [hy] at ho
            cases ho
            split
            · rfl
            · exact r3 e he hb
          · simp only [e1, if_false] at hk
            split
            · rfl
            · exact hcl k hk o ho e he hb
      · simp at hf

theorem drawOk_sound {P : Program} (hm : P.follows .mixedOrders = true) (h : drawOk tb ops = true) : DrawOk P tb ops := by
  intro E hE t st st' hr
  unfold drawOk at h
  simp only [List.all_eq_true, List.mem_range] at h
  have h2 := h
  have hsch : Region.schedule (P.follows .mixedOrders) ops t = Region.linearise .any ops t := by
    unfold Region.schedule
    simp [hm]
  rw [hsch]
  have hM := masks_reach (ops := ops) ops.toList [] (fun i => by simp) (fun i j h => by simp at h)
  refine lin hE (fun i y hy => ?_) ops.size t (Array.replicate ops.size false) (List.range ops.size) _ st' (by simp) (List.pairwise_lt_range) (fun i => ?_) (fun i hi => ?_) (by simp) (by rw [range_filterMap]; exact hr)
  · have hlt : i < ops.size := (Array.getElem?_eq_some_iff.1 hy).1
    have := h2 i hlt
    rw [hy] at this
    simp only [Bool.and_eq_true, List.all_eq_true, List.mem_range, Bool.or_eq_true] at this
    refine ⟨this.1, fun j hj => ?_⟩
    rcases this.2 j hj with hh | hh
    · exact .inl (hM i j hh)
    · right
      cases hx : ops[j]? with
      | none => rw [hx] at hh; simp at hh
      | some x => rw [hx] at hh; exact ⟨x, rfl, hh⟩
  · simp only [List.mem_range]
    constructor
    · intro hi; exact ⟨hi, by simp [hi]⟩
    · exact fun hi => hi.1
  · have := (getD_true hi).1
    simp at this
    simp [this] at hi

/-- The static look at a function's code. -/
def codeOkB (tb : Tb) : Code → Bool
  | .region _ ops draw => !draw || drawOk tb ops
  | .seq a b => codeOkB tb a && codeOkB tb b
  | .cond _ a b => codeOkB tb a && codeOkB tb b
  | .block _ c => codeOkB tb c
  | .loop c => codeOkB tb c
  | _ => true
theorem codeOkB_sound {P : Program} {tb : Tb} (hm : P.follows .mixedOrders = true) : ∀ {c : Code}, codeOkB tb c = true → CodeOk P tb c
  | .region _ ops draw, h => by
    cases draw
    · trivial
    · exact drawOk_sound hm (by simpa [codeOkB] using h)
  | .seq a b, h => by
    simp only [codeOkB, Bool.and_eq_true] at h
    exact ⟨codeOkB_sound hm h.1, codeOkB_sound hm h.2⟩
  | .cond _ a b, h => by
    simp only [codeOkB, Bool.and_eq_true] at h
    exact ⟨codeOkB_sound hm h.1, codeOkB_sound hm h.2⟩
  | .block _ c, h => codeOkB_sound hm (c := c) h
  | .loop c, h => codeOkB_sound hm (c := c) h
  | .skip, _ => trivial
  | .rangeFunc _ _ _ _, _ => trivial
  | .exit _, _ => trivial
  | .scope _, _ => trivial
  | .label _, _ => trivial
  | .goto _, _ => trivial
  | .ret, _ => trivial
  | .refuse _, _ => trivial

end
end Go.AM
