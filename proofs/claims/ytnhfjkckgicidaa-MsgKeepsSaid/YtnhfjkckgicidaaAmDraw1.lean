/- Regions that draw their order (1): what an operation's value is. -/
import Derived.Test.YtnhfjkckgicidaaAmFun
set_option linter.unusedVariables false
set_option linter.unusedSimpArgs false
namespace Go.AM
open Go.RowKit Go.Lib

def pureOp (tb : Tb) (o : Oper) : Bool :=
  match o.op with
  | .move _ | .assign _ | .pick _ _ _ | .build _ _ | .buildSlice _ _ _ | .nilCheck _ | .binOp _ _ _ _ _ | .unOp _ _ _ | .makeInterface _ _ | .makeSlice _ _ _ | .slice _ _ _ _ _ | .fieldAddr _ _ _ | .field _ _ _
  | .indexAddr _ _ _ | .index _ _ _ | .extract _ _ => true
  | .convert _ d _ => (match find d tb with | some td => (match td.k with | .sl _ => false | _ => true) | none => false)
  | .call { callee := .builtin .len, .. } => true
  | _ => false

/-- The value of an operation that only reads. -/
def valA (tb : Tb) (st : St) (o : Oper) : Option AV :=
  match o.op with
  | .move x | .assign x => some (st.ev x)
  | .pick c a b => (match st.ev c with | .bool t => some (bif t then st.ev a else st.ev b) | _ => none)
  | .build t ps =>
    (match find t tb with
    | some ⟨.struct fs, _, _, .agg z⟩ => (match datAll z with | some z => (match TI.fillParts tb fs st z ps.toList with | some cs => some (.agg cs) | none => none) | none => none)
    | _ => none)
  | .buildSlice t n ps =>
    (match find t tb with
    | some ⟨.sl e, _, _, _⟩ =>
      (match find e tb with
      | some ti => if n * ti.sz ≤ 16777216 ∧ ti.sz ≠ 0 ∧ ti.z.cells.length = ti.sz ∧ n ≠ 0 then (match ti.z.dat with
          | some z => (match fillElems z ti.sz st (List.replicate n z) ps.toList with | some xs => some (.sl ti.sz true xs) | none => none)
          | none => none) else none
      | none => none)
    | _ => none)
  | .nilCheck x => (match st.ev x with | .ptr k g off => some (.ptr k g off) | .rp s e j => some (.rp s e j) | .fn f => some (.fn f) | _ => none)
  | .binOp op t x y _ => binA tb op t (st.ev x) (st.ev y)
  | .unOp op _ x => unA op (st.ev x)
  | .convert s d x =>
    (match find s tb, find d tb with
    | some ts, some td =>
      (match td.k, st.ev x with
      | .int k, .int _ n => some (.int k (k.wrap n))
      | .str, .str s => some (.str s)
      | .str, x =>
        (match ts.k with
        | .sl e => if isU8 tb e then (match st.elems x with | some (_, xs) => (match bytesOf xs with | some l => some (.str l) | none => none) | none => none) else none
        | _ => none)
      | _, _ => none)
    | _, _ => none)
  | .makeInterface t x => (match find t tb, (st.ev x).dat with | some ti, some v => (match ti.k with | .other => none | _ => some (.iface t v)) | _, _ => none)
  | .makeSlice t l c =>
    (match find t tb, st.ev l, st.ev c with
    | some ⟨.sl e, _, _, _⟩, .int _ n, .int _ m =>
      (match find e tb with
      | some ti =>
        if n = m ∧ 0 ≤ n ∧ n ≤ 9223372036854775807 ∧ fitsB n.toNat ti.bytes then
          (match ti.z.dat with
          | some z => if ti.z.cells.length = ti.sz then some (.sl ti.sz true (List.replicate n.toNat z)) else none
          | none => none)
        else none
      | none => none)
    | _, _, _ => none)
  | .slice t x lo hi mx => sliceA tb t (st.ev x) (lo.map st.ev) (hi.map st.ev) (mx.map st.ev)
  | .fieldAddr s x f =>
    (match find s tb with
    | some ⟨.struct fs, _, _, _⟩ =>
      (match fs[f]?, st.ev x with
      | some (off, _), .ptr k g o' => some (.ptr k g (o' + off))
      | some (off, _), .rp s e j => some (.rp s e (j + off))
      | _, _ => none)
    | _ => none)
  | .field s x f =>
    (match find s tb, st.ev x with
    | some ⟨.struct fs, _, _, _⟩, .agg cs =>
      (match fs[f]? with
      | some (off, t) => (match find t tb with | some ti => partOf ti cs off | none => none)
      | none => none)
    | _, _ => none)
  | .indexAddr t x i => (match st.ev i with | .int _ n => indexAddrA tb st t (st.ev x) n | _ => none)
  | .index t x i =>
    (match find t tb, st.ev x, st.ev i with
    | some ⟨.str, _, _, _⟩, .str s, .int _ n => if 0 ≤ n then (match s[n.toNat]? with | some b => some (.int .u8 b.toNat) | none => none) else none
    | some ⟨.arr n e, _, _, _⟩, .agg cs, .int _ i =>
      if 0 ≤ i ∧ i < n then (match find e tb with | some ti => partOf ti cs (i.toNat * ti.sz) | none => none) else none
    | _, _, _ => none)
  | .extract x i => (match st.ev x with | .tup vs => vs[i]? | _ => none)
  | .call { callee := .builtin .len, argTypes := ts, args := args } => (match ts.toList, args.toList.map st.ev with | [t], [x] => lenA tb st t x | _, _ => none)
  | _ => none

def putO (st : St) (dst : Option Nat) : Option AV → Option St
  | some v => some (st.put dst v)
  | none => none

theorem stepA_val {tb : Tb} {st : St} {o : Oper} (hp : pureOp tb o = true) : stepA tb true st o = putO st o.dst (valA tb st o) := by
  cases ho : o.op with
  | move x => simp only [stepA, valA, ho, putO]
  | assign x => simp only [stepA, valA, ho, putO]
  | pick x y z => simp only [stepA, valA, ho]; cases st.ev x <;> rfl
  | build t ps =>
    simp only [stepA, valA, ho]
    split
    · split
      · split <;> simp_all [putO]
      · simp_all [putO]
    · simp_all [putO]
  | buildSlice t n ps =>
    simp only [stepA, valA, ho]
    rcases find t tb with _ | ⟨k, sz, by_, z⟩
    · rfl
    cases k <;> try rfl
    rename_i e
    dsimp only
    rcases find e tb with _ | te
    · rfl
    dsimp only
    by_cases hc : n * te.sz ≤ 16777216 ∧ te.sz ≠ 0 ∧ te.z.cells.length = te.sz ∧ n ≠ 0
    · rw [if_pos hc, if_pos hc]
      cases te.z.dat with
      | none => rfl
      | some z => dsimp only; cases fillElems z te.sz st (List.replicate n z) ps.toList <;> rfl
    · rw [if_neg hc, if_neg hc]; rfl
  | nilCheck x => simp only [stepA, valA, ho]; cases st.ev x <;> rfl
  | binOp op t x y u => simp only [stepA, valA, ho]; cases binA tb op t (st.ev x) (st.ev y) <;> rfl
  | unOp op t x => simp only [stepA, valA, ho]; cases unA op (st.ev x) <;> rfl
  | convert s d x =>
    simp only [stepA, valA, ho]
    simp only [pureOp, ho] at hp
    rcases find s tb with _ | ts
    · rfl
    revert hp
    rcases find d tb with _ | td
    · intro _; rfl
    intro hp
    dsimp only at hp ⊢
    unfold convertA
    cases hk : td.k with
    | sl e => rw [hk] at hp; simp at hp
    | str =>
      cases st.ev x <;> dsimp only <;> first | rfl | skip
      all_goals (cases ts.k <;> dsimp only <;> first | rfl | skip)
      all_goals (
        rename_i e
        cases isU8 tb e
        · rfl
        · simp only [if_true]
          rcases St.elems st _ with _ | ⟨_, xs⟩
          · rfl
          · dsimp only
            rcases bytesOf xs with _ | l <;> rfl)
    | int k => cases st.ev x <;> rfl
    | _ => rfl
  | makeInterface t x =>
    simp only [stepA, valA, ho]
    split
    · split <;> simp_all [putO]
    · simp_all [putO]
  | makeSlice t l m =>
    simp only [stepA, valA, ho]
    rcases find t tb with _ | ⟨k, sz, by_, z⟩
    · rfl
    cases k <;> try rfl
    rename_i e
    cases st.ev l <;> try rfl
    rename_i kl n
    cases st.ev m <;> try rfl
    rename_i km n'
    dsimp only
    rcases find e tb with _ | te
    · rfl
    dsimp only
    by_cases hc : n = n' ∧ 0 ≤ n ∧ n ≤ 9223372036854775807 ∧ fitsB n.toNat te.bytes = true
    · rw [if_pos hc, if_pos hc]
      cases te.z.dat with
      | none => rfl
      | some z => simp only [if_true]; split <;> rfl
    · rw [if_neg hc, if_neg hc]; rfl
  | slice t x lo hi mx => simp only [stepA, valA, ho]; cases sliceA tb t (st.ev x) (lo.map st.ev) (hi.map st.ev) (mx.map st.ev) <;> rfl
  | fieldAddr s x f =>
    simp only [stepA, valA, ho]
    split
    · split <;> simp_all [putO]
    · simp_all [putO]
  | field s x f =>
    simp only [stepA, valA, ho]
    split
    · split
      · split
        · split <;> simp_all [putO]
        · simp_all [putO]
      · simp_all [putO]
    · simp_all [putO]
  | indexAddr t x i =>
    simp only [stepA, valA, ho]
    split
    · split <;> simp_all [putO]
    · simp_all [putO]
  | index t x i =>
    simp only [stepA, valA, ho]
    rcases find t tb with _ | ⟨k, sz, by_, z⟩
    · rfl
    cases k <;> try rfl
    · cases st.ev x <;> try rfl
      cases st.ev i <;> try rfl
      dsimp only
      split
      · split <;> simp_all [putO]
      · rfl
    · cases st.ev x <;> try rfl
      cases st.ev i <;> try rfl
      dsimp only
      split
      · split
        · split <;> simp_all [putO]
        · simp_all [putO]
      · rfl
  | extract x i =>
    simp only [stepA, valA, ho]
    split
    · split <;> simp_all [putO]
    · simp_all [putO]
  | call c =>
    obtain ⟨callee, args, ts⟩ := c
    simp only [pureOp, ho] at hp
    split at hp <;> first | (simp at hp; done) | skip
    all_goals (rename_i e; simp only [Op.call.injEq, Call.mk.injEq, reduceCtorEq] at e)
    obtain ⟨rfl, rfl, rfl⟩ := e
    simp only [stepA, valA, ho, builtinA]
    rcases ts.toList with _ | ⟨t, _ | ⟨u, r⟩⟩
    · rfl
    · rcases args.toList.map st.ev with _ | ⟨x, _ | ⟨y, r⟩⟩
      · rfl
      · dsimp only; cases lenA tb st t x <;> rfl
      · rfl
    · rfl
  | _ => simp [pureOp, ho] at hp

end Go.AM
