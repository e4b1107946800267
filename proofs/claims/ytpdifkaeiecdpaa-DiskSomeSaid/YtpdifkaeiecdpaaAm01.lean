/- A part of the proof: machine and program. -/
import Derived.Test.YtpdifkaeiecdpaaAm00
namespace Go.AM
section
variable [Reg]

abbrev Ret := AV × List Ob
/-- What a call of a function answers: its arguments, the objects that they lead to. -/
abbrev Fns := Nat → List AV → List Ob → Q Ret

/-! ### What is handed over -/
def AV.pr : AV → List Nat
  | .ptr k _ => [k]
  | _ => []
def AV.refs1 : AV → List Nat
  | .ptr k _ | .vw k _ | .sv k _ _ _ | .ep k _ _ _ => [k]
  | .fn _ cs => cs.flatMap AV.pr
  | _ => []
def AV.refs (v : AV) : List Nat := v.cells.flatMap AV.refs1
def boxRefs (h : Heap) (k : Nat) : List Nat := match find k h with | some (.box cs) => cs.flatMap AV.pr | _ => []
/-- What can be reached, in the order in which it is met. -/
def reach (f : Nat → List Nat) : Nat → List Nat → List Nat → List Nat
  | 0, done, _ => done
  | _ + 1, done, [] => done
  | n + 1, done, k :: r => bif done.contains k then reach f n done r else reach f n (done ++ [k]) (r ++ f k)
def idxOf (k : Nat) : List Nat → Nat → Option Nat
  | [], _ => none
  | m :: r, i => bif Nat.beq k m then some i else idxOf k r (i + 1)
def nodupB : List Nat → Bool
  | [] => true
  | k :: r => !r.contains k && nodupB r

/-- Rows become what is never written again. -/
def frC (h : Heap) (c : AV) : AV × Heap :=
  match c with
  | .vw k t => (match find k h with
    | some (.row u xs) => if u = t then (.sl u false xs, AM.put k (.fz u xs) h) else (.undef, h)
    | some (.fz u xs) => if u = t then (.sl u false xs, h) else (.undef, h)
    | _ => (.undef, h))
  | .sv k t lo n => (match find k h with
    | some (.row u xs) => if u = t then (.sl u false ((xs.drop lo).take n), AM.put k (.fz u xs) h) else (.undef, h)
    | some (.fz u xs) => if u = t then (.sl u false ((xs.drop lo).take n), h) else (.undef, h)
    | _ => (.undef, h))
  | .ep k t i j => (match find k h with
    | some (.row u xs) => if u = t ∧ i = 0 ∧ j = 0 then (.ra u xs, AM.put k (.fz u xs) h) else (.ep k t i j, h)
    | _ => (.ep k t i j, h))
  | c => (c, h)
def frCs (h : Heap) : List AV → List AV × Heap
  | [] => ([], h)
  | c :: r => match frC h c with
    | (c', h') => (match frCs h' r with | (r', h'') => (c' :: r', h''))
def frV (h : Heap) (v : AV) : AV × Heap :=
  match v with
  | .agg cs => (match frCs h cs with | (cs', h') => (.agg cs', h'))
  | v => frC h v
def frVs (h : Heap) : List AV → List AV × Heap
  | [] => ([], h)
  | v :: r => match frV h v with
    | (v', h') => (match frVs h' r with | (r', h'') => (v' :: r', h''))

def out0 (ks : List Nat) : AV → Option AV
  | .ptr k off => (match idxOf k ks 0 with | some m => some (.ptr m off) | none => none)
  | v => v.dat
def outC (ks : List Nat) : AV → Option AV
  | .vw k t => (match idxOf k ks 0 with | some m => some (.vw m t) | none => none)
  | .sv k t lo n => (match idxOf k ks 0 with | some m => some (.sv m t lo n) | none => none)
  | .fn f cs => (match mapO (out0 ks) cs with | some l => some (.fn f l) | none => none)
  | .ow t xs => some (.ow t xs)
  | v => out0 ks v
def outV (ks : List Nat) : AV → Option AV
  | .agg cs => (match mapO (outC ks) cs with | some l => some (.agg l) | none => none)
  | v => outC ks v
/-- A box's cell: a row goes with it. -/
def outB (h : Heap) (ks : List Nat) : AV → Option AV
  | .vw k t => (match find k h with | some (.row u xs) => if u = t then some (.ow u xs) else none | _ => none)
  | v => out0 ks v
def packO (h : Heap) (ks : List Nat) (k : Nat) : Option Ob :=
  match find k h with
  | some (.box cs) => (match mapO (outB h ks) cs with | some l => some (.box l) | none => none)
  | some (.row t xs) => some (.row t xs)
  | some (.fz t xs) => some (.fz t xs)
  | some .tok => none
  | none => some .tok
def rowRefs (cs : List AV) : List Nat := cs.flatMap fun c => match c with | .vw k _ => [k] | _ => []
def inls (h : Heap) (ks : List Nat) : List Nat := ks.flatMap fun k => match find k h with | some (.box cs) => rowRefs cs | _ => []

/-! .. and taken in -/
def in0 (bid : Nat → Nat) (rid : Nat) : AV → AV
  | .ptr m off => .ptr (bid m) off
  | .vw m t => .vw (bid m) t
  | .sv m t lo n => .sv (bid m) t lo n
  | .ow t _ => .vw rid t
  | .fn f cs => .fn f (cs.map fun c => match c with | .ptr m off => .ptr (bid m) off | c => c)
  | .tip _ t xs => .sl t false xs
  | .ep .. => .undef
  | c => c
def inCs (bid rid : Nat → Nat) : Nat → List AV → List AV
  | _, [] => []
  | i, c :: r => in0 bid (rid i) c :: inCs bid rid (i + 1) r
def rowsCs (rid : Nat → Nat) : Nat → List AV → Heap
  | _, [] => []
  | i, c :: r => match c with
    | .ow t xs => (rid i, .row t xs) :: rowsCs rid (i + 1) r
    | _ => rowsCs rid (i + 1) r
def unpack (bid : Nat → Nat) (rid : Nat → Nat → Nat) : Nat → List Ob → Heap
  | _, [] => []
  | n, o :: r => match o with
    | .box cs => (bid n, .box (inCs bid (rid n) 0 cs)) :: (rowsCs (rid n) 0 cs ++ unpack bid rid (n + 1) r)
    | .tok => unpack bid rid (n + 1) r
    | o => (bid n, o) :: unpack bid rid (n + 1) r
def rid0 (n i : Nat) : Nat := 1000 + n * 128 + i
def heap0 (os : List Ob) : Heap := unpack (fun n => n) rid0 0 os
/-- A result's parts. -/
def parts : AV → List AV
  | .tup vs => vs
  | v => [v]
def inV (bid rid : Nat → Nat) : AV → AV
  | .agg cs => .agg (inCs bid rid 0 cs)
  | v => in0 bid (rid 0) v
def inVs (bid : Nat → Nat) (rid : Nat → Nat → Nat) : Nat → List AV → List AV
  | _, [] => []
  | j, v :: r => inV bid (rid j) v :: inVs bid rid (j + 1) r
def inR (bid : Nat → Nat) (rid : Nat → Nat → Nat) : AV → AV
  | .tup vs => .tup (inVs bid rid 0 vs)
  | v => inV bid (rid 0) v
def rowsVs (rid : Nat → Nat → Nat) : Nat → List AV → Heap
  | _, [] => []
  | j, v :: r => rowsCs (rid j) 0 v.cells ++ rowsVs rid (j + 1) r

def delAll : List Nat → Heap → Heap
  | [], h => h
  | k :: r, h => delAll r (del k h)
def addAll : Heap → Heap → Heap
  | [], h => h
  | (k, o) :: r, h => addAll r (AM.put k o h)
def bidOf (dst : Option Nat) (ks : List Nat) (n : Nat) : Nat := match ks[n]? with | some k => k | none => nk dst n
def ridOf (dst : Option Nat) (n i : Nat) : Nat := nk dst (128 + n * 128 + i)
def rrdOf (dst : Option Nat) (j i : Nat) : Nat := nk dst (13000 + j * 128 + i)
/-- What came back. -/
def backL (dst : Option Nat) (ks : List Nat) (v : AV) (os : List Ob) : Heap := unpack (bidOf dst ks) (ridOf dst) 0 os ++ rowsVs (rrdOf dst) 0 (parts v)
def newsOf (ks : List Nat) (l : Heap) : List Nat := (l.map (·.1)).filter fun k => !ks.contains k
def notTok : Ob → Bool
  | .tok => false
  | _ => true
/-- Are numbers small? -/
def cellOk : AV → Bool
  | .ptr m _ | .vw m _ | .sv m _ _ _ => Nat.blt m 1000
  | .fn _ cs => cs.all fun c => match c with | .ptr m _ => Nat.blt m 1000 | .vw .. | .sv .. | .ep .. | .tip .. => false | _ => true
  | _ => true
def cellsOk (cs : List AV) : Bool := Nat.ble cs.length 128 && cs.all cellOk
def objOk : Ob → Bool
  | .box cs => cellsOk cs
  | _ => true
def objsOk (os : List Ob) : Bool := Nat.ble os.length 100 && os.all objOk
def resOk (v : AV) : Bool := Nat.ble (parts v).length 26 && (parts v).all fun v => cellsOk v.cells
/-- Numbers that no new one can be. -/
def far (dst : Option Nat) (k : Nat) : Bool := Nat.blt k (nk dst 0) || Nat.ble (nk dst 16384) k
def backQ (h : Heap) (u : List Nat) (dst : Option Nat) (ks : List Nat) (v : AV) (os : List Ob) (l : Heap) : Q Eff :=
  bif (objsOk os && resOk v) && (nodupB (l.map (·.1)) && ((newsOf ks l).all (isNew u) && ks.all (far dst))) then
    .ret (inR (bidOf dst ks) (rrdOf dst) v, addAll l (delAll (ks ++ inls h ks) h), newsOf ks l ++ u, newsOf ks l ++ (ks ++ inls h ks))
  else .fail
def ownN (H : Hints) (dst : Option Nat) : Nat := bif flag H dst 3 then 1000000 else 0
def goQ (F : Fns) (H : Hints) (u : List Nat) (dst : Option Nat) (n : Nat) (h : Heap) (as : List AV) (ks : List Nat) : Q Eff :=
  match mapO (outV ks) as, mapO (packO h ks) ks with
  | some vs, some os => bif (nodupB (ks ++ inls h ks) && Nat.blt n 1000000) && (objsOk os && (nodupB ((heap0 os).map (·.1)) && os.all notTok)) then
      (F (n + ownN H dst) vs os).bind fun r => backQ h u dst ks r.1 r.2 (backL dst ks r.1 r.2) else .fail
  | _, _ => .fail
def notTup : AV → Bool
  | .tup _ => false
  | _ => true
def callQ (F : Fns) (H : Hints) (h : Heap) (u : List Nat) (dst : Option Nat) (f : AV) (args : List AV) : Q Eff :=
  match f with
  | .fn n caps => bif args.all notTup then (match (bif flag H dst 2 then (args, h) else frVs h args) with
    | (as, h') => (goQ F H u dst n h' (as ++ caps) (reach (boxRefs h') 200 [] ((as ++ caps).flatMap AV.refs))).bind fun e => .ret (e.1, e.2.1, e.2.2.1, (bif flag H dst 2 then [] else args.flatMap AV.refs) ++ e.2.2.2)) else .fail
  | _ => .fail

/-! ### Operations -/
structure Ev where
  F : Fns
  tb : Tb
  H : Hints
def maskOf (M : List Nat) : List Edge → Nat
  | [] => 0
  | e :: r => bif Region.binds .any e then 2 ^ e.on ||| (M.getD e.on 0 ||| maskOf M r) else maskOf M r
/-- A number is reckoned before it is handed on. -/
def force {α : Type} (f : Nat → α) : Nat → α
  | 0 => f 0
  | n + 1 => f (n + 1)
omit [Reg] in
theorem force_eq {α : Type} (f : Nat → α) (n : Nat) : force f n = f n := by cases n <;> rfl
def masks : List Oper → List Nat → List Nat
  | [], M => M
  | o :: r, M => force (fun m => masks r (M ++ [m])) (maskOf M o.after.toList)
/-- Is a key noted by an operation that is not ahead of all orders? -/
def hit (m : Nat) (l : List (Nat × Nat)) (k : Nat) : Bool := l.any fun p => Nat.beq p.2 k && !m.testBit p.1
def effK {ρ : Type} (draw : Bool) (st : St) (dst : Option Nat) (i m : Nat) (rd wr : List (Nat × Nat)) (K : St → List (Nat × Nat) → List (Nat × Nat) → Option ρ) (e : Eff) : Option ρ :=
  bif draw && (e.2.2.2.any (hit m rd) || e.2.2.2.any (hit m wr)) then none else K ({ st with h := e.2.1, u := e.2.2.1 }.put dst e.1) rd (bif draw then e.2.2.2.map (fun k => (i, k)) ++ wr else wr)
def lookK {ρ : Type} (draw : Bool) (st : St) (dst : Option Nat) (i m : Nat) (rd wr : List (Nat × Nat)) (K : St → List (Nat × Nat) → List (Nat × Nat) → Option ρ) (e : AV × Option Nat) : Option ρ :=
  match e.2 with
  | none => K (st.put dst e.1) rd wr
  | some k => bif draw && hit m wr k then none else K (st.put dst e.1) (bif draw then (i, k) :: rd else rd) wr
def stepK {ρ : Type} (E : Ev) (draw : Bool) (st : St) (o : Oper) (i m : Nat) (rd wr : List (Nat × Nat)) (K : St → List (Nat × Nat) → List (Nat × Nat) → Option ρ) : Option ρ :=
  match o.op with
  | .call { callee := .value f, args, .. } => (callQ E.F E.H st.h st.u o.dst (st.ev f) (args.toList.map st.ev)).run (effK draw st o.dst i m rd wr K)
  | _ => (match kindA E.tb o.op with
    | 0 => (pureQ E.tb st.ev o.op).run fun v => K (st.put o.dst v) rd wr
    | 1 => (lookQ E.tb st.ev st.h o.op).run (lookK draw st o.dst i m rd wr K)
    | _ => (effQ E.tb E.H st.ev st.h st.u o.dst o.op).run (effK draw st o.dst i m rd wr K))

/-- The slot that an operation's guard looks at. -/
inductive Gd where
  | free
  | at_ (t : Nat) (want : Bool)
  | bad
def guardOf (ops : Array Oper) (o : Oper) : Gd :=
  match o.guard with
  | none => .free
  | some (j, want) => match (ops[j]?).bind (·.dst) with
    | some t => .at_ t want
    | none => .bad
def runOps {ρ : Type} (E : Ev) (draw : Bool) (ops : Array Oper) (ms : List Nat) (K : St → Option ρ) : List Oper → Nat → St → List (Nat × Nat) → List (Nat × Nat) → Option ρ
  | [], _, st, _, _ => K st
  | o :: r, i, st, rd, wr =>
    match guardOf ops o with
    | .bad => none
    | .free => stepK E draw st o i (ms.getD i 0) rd wr fun st' rd' wr' => runOps E draw ops ms K r (i + 1) st' rd' wr'
    | .at_ t true => (match st.get t with
      | .bool b => bif b then stepK E draw (st.put (some t) (.bool true)) o i (ms.getD i 0) rd wr fun st' rd' wr' => runOps E draw ops ms K r (i + 1) st' rd' wr'
        else runOps E draw ops ms K r (i + 1) ((st.put (some t) (.bool false)).put o.dst (.tup [])) rd wr
      | .tup [] => runOps E draw ops ms K r (i + 1) (st.put o.dst (.tup [])) rd wr
      | _ => none)
    | .at_ t false => (match st.get t with
      | .bool b => bif b then runOps E draw ops ms K r (i + 1) ((st.put (some t) (.bool true)).put o.dst (.tup [])) rd wr
        else stepK E draw (st.put (some t) (.bool false)) o i (ms.getD i 0) rd wr fun st' rd' wr' => runOps E draw ops ms K r (i + 1) st' rd' wr'
      | .tup [] => runOps E draw ops ms K r (i + 1) (st.put o.dst (.tup [])) rd wr
      | _ => none)

/-! ### Slots that are dead; numbers anew -/
def headId : Code → Nat
  | .region id _ _ => id
  | .seq a _ => headId a
  | .block _ c => headId c
  | .loop c => headId c
  | .scope c => headId c
  | _ => 0
def without {α : Type} (p : Nat → Bool) : List (Nat × α) → List (Nat × α)
  | [] => []
  | (k, v) :: r => bif p k then without p r else (k, v) :: without p r
def St.only (st : St) (p : Nat → Bool) : St := { st with t := without p st.t }
def AV.refsG0 : AV → List Nat
  | .ptr k _ | .vw k _ | .sv k _ _ _ | .ep k _ _ _ | .tip k _ _ => [k]
  | _ => []
def AV.refsG1 : AV → List Nat
  | .ptr k _ | .vw k _ | .sv k _ _ _ | .ep k _ _ _ | .tip k _ _ => [k]
  | .fn _ cs => cs.flatMap AV.refsG0
  | _ => []
def AV.refsG : AV → List Nat
  | .agg cs => cs.flatMap AV.refsG1
  | .tup vs => vs.flatMap fun v => v.cells.flatMap AV.refsG1
  | v => v.refsG1
def boxRefsG (h : Heap) (k : Nat) : List Nat := match find k h with | some (.box cs) => cs.flatMap AV.refsG1 | _ => []
/-- New numbers: those below 1000 stay. -/
def ren (l : List Nat) (h : Heap) (k : Nat) : Option Nat := match find k h with
  | none => none
  | some _ => bif Nat.blt k 1000 then some k else (match idxOf k l 0 with | some i => some (100000 + i) | none => none)
def ren1 (f : Nat → Option Nat) : AV → AV
  | .ptr k off => (match f k with | some k => .ptr k off | none => .undef)
  | .vw k t => (match f k with | some k => .vw k t | none => .undef)
  | .sv k t lo n => (match f k with | some k => .sv k t lo n | none => .undef)
  | .ep k t i j => (match f k with | some k => .ep k t i j | none => .undef)
  | .tip k t xs => (match f k with | some k => .tip k t xs | none => .sl t false xs)
  | v => v
def renC (f : Nat → Option Nat) : AV → AV
  | .fn n cs => .fn n (cs.map (ren1 f))
  | v => ren1 f v
def renB (f : Nat → Option Nat) : AV → AV
  | .agg cs => .agg (cs.map (renC f))
  | v => renC f v
def renV (f : Nat → Option Nat) : AV → AV
  | .tup vs => .tup (vs.map (renB f))
  | v => renB f v
def renO (f : Nat → Option Nat) : Ob → Ob
  | .box cs => .box (cs.map (renC f))
  | o => o
def renT (f : Nat → Option Nat) : List (Nat × AV) → List (Nat × AV)
  | [] => []
  | (k, v) :: r => (k, renV f v) :: renT f r
def renH (f : Nat → Option Nat) (h : Heap) : List Nat → Heap
  | [] => []
  | k :: r => match f k, find k h with
    | some k', some o => (k', renO f o) :: renH f h r
    | _, _ => renH f h r
def lows (h : Heap) : List Nat := (h.map (·.1)).filter fun k => Nat.blt k 1000
def St.all (st : St) : List Nat := reach (boxRefsG st.h) 1000 [] (lows st.h ++ st.t.flatMap fun p => p.2.refsG)
def highs (l : List Nat) : List Nat := l.filter fun k => !Nat.blt k 1000
def St.renum (st : St) (l : List Nat) : St :=
  { nt := st.nt, t := renT (ren (highs l) st.h) st.t, h := renH (ren (highs l) st.h) st.h l, u := lows st.h ++ (List.range (highs l).length).map (100000 + ·) }
def St.gc (st : St) : St := st.renum st.all
/-- A slot that holds nil is a slice to be appended to (or a row). -/
def St.raise (st : St) : List (Nat × Nat × Bool) → St
  | [] => st
  | (s, e, row) :: r => match st.get s with
    | .nils => bif isNew st.u (900000 + s) then
        (bif row then ({ st with h := AM.put (900000 + s) (.row e []) st.h, u := (900000 + s) :: st.u }.put (some s) (.vw (900000 + s) e))
          else ({ st with h := AM.put (900000 + s) .tok st.h, u := (900000 + s) :: st.u }.put (some s) (.tip (900000 + s) e []))).raise r else st.raise r
    | _ => st.raise r

inductive Ex where
  | normal
  | exit (id : Nat)
  | ret
/-- A function as the machine has it: its text; the slots that outlive their region; at a loop's head: the slots that are dead, and those that are raised; cuts; which results are the call's own. -/
structure Fx where
  fn : Func
  kp : List Nat
  dead : List (Nat × List Nat × List (Nat × Nat × Bool))
  jn : List (Nat × List Nat)
  ow : List Nat
  H : Hints
  sp : List (Nat × Nat × Nat × Nat) := []
def Fx.deadAt (fx : Fx) (c : Code) : List Nat × List (Nat × Nat × Bool) := match find (headId c) fx.dead with | some l => l | none => ([], [])
def St.clean (d : List Nat × List (Nat × Nat × Bool)) (st : St) : St := ((st.only d.1.contains).raise d.2).gc
/-- Rounds, from a state that is clean. -/
def loopC {ρ : Type} (body : St → (Ex → St → Option ρ) → Option ρ) (d : List Nat × List (Nat × Nat × Bool)) (K : Ex → St → Option ρ) : Nat → St → Option ρ
  | 0, _ => none
  | n + 1, st => body st fun e st' => match e with
    | .normal => loopC body d K n (st'.clean d)
    | .exit id => K (.exit id) st'
    | .ret => K .ret st'
def loopA {ρ : Type} (body : St → (Ex → St → Option ρ) → Option ρ) (d : List Nat × List (Nat × Nat × Bool)) (K : Ex → St → Option ρ) (n : Nat) (st : St) : Option ρ := loopC body d K n (st.clean d)
/-- A place behind a region, by the region's number: what follows is not looked into. -/
noncomputable def joinP {ρ : Type} (g : St → Option ρ) (st : St) : {p : (St → Option ρ) × St // p = (g, st)} := Classical.choice ⟨⟨(g, st), rfl⟩⟩
noncomputable def joinA {ρ : Type} (_id : Nat) (g : St → Option ρ) (st : St) : Option ρ := (joinP g st).1.1 (joinP g st).1.2
theorem joinA_eq {ρ : Type} (id : Nat) (g : St → Option ρ) (st : St) : joinA id g st = g st := by
  unfold joinA
  rw [(joinP g st).2]
noncomputable def joinK {ρ : Type} (fx : Fx) (id : Nat) (g : St → Option ρ) (st : St) : Option ρ := match find id fx.jn with | some l => joinA id g ((st.only l.contains).gc) | none => g st

/-- Cases by a small number that a slot (off = 9999) or a box's cell holds: in each case the number stands there in plain. -/
def casesL {ρ : Type} (x : Int) (f : Nat → Option ρ) (g : Option ρ) : Nat → Option ρ
  | 0 => g
  | n + 1 => bif decide (x = (n : Int)) then f n else casesL x f g n
def splitA {ρ : Type} (sp : List (Nat × Nat × Nat × Nat)) (id : Nat) (st : St) (K : St → Option ρ) : Option ρ :=
  match find id sp with
  | none => K st
  | some (s, off, n) => match st.get s with
    | .int k x => casesL x (fun j => K (st.put (some s) (.int k j))) none n
    | .ptr b o => (match find b st.h with
      | some (.box cs) => (match cs[o + off]? with
        | some (.int k x) => casesL x (fun j => K { st with h := AM.put b (.box (cs.set (o + off) (.int k j))) st.h }) none n
        | _ => K st)
      | _ => K st)
    | _ => K st
noncomputable def evC {ρ : Type} (E : Ev) (fx : Fx) (n : Nat) : Code → St → (Ex → St → Option ρ) → Option ρ
  | .skip, st, K => K .normal st
  | .label _, st, K => K .normal st
  | .region id ops draw, st, K => splitA fx.sp id st fun st => runOps E draw ops (bif draw then masks ops.toList [] else []) (fun st' => joinK fx id (K .normal) (st'.only fun k => !fx.kp.contains k)) ops.toList 0 st [] []
  | .seq a b, st, K => evC E fx n a st fun e st' => match e with
    | .normal => evC E fx n b st' K
    | .exit id => K (.exit id) st'
    | .ret => K .ret st'
  | .cond c a b, st, K => (match st.ev c with
    | .bool t => bif t then evC E fx n a st K else evC E fx n b st K
    | _ => none)
  | .block id c, st, K => evC E fx n c st fun e st' => match e with
    | .normal => K .normal st'
    | .exit id' => bif Nat.beq id' id then K .normal st' else K (.exit id') st'
    | .ret => K .ret st'
  | .loop c, st, K => loopA (evC E fx n c) (fx.deadAt c) K n st
  | .exit id, st, K => K (.exit id) st
  | .ret, st, K => K .ret st
  | _, _, _ => none

/-! ### Where a call begins and ends -/
def argT (i : Nat) : List AV → List (Nat × AV)
  | [] => []
  | v :: r => (i, v) :: argT (i + 1) r
def startA (nt : Nat) (args : List AV) (os : List Ob) : St := { nt := nt, t := argT 0 args, h := heap0 os, u := (heap0 os).map (·.1) }
/-- The results, as they are. -/
def rawA (tb : Tb) (st : St) : List ResultVar → Option (List AV)
  | [] => some []
  | .tmp t :: r => (match rawA tb st r with | some l => bif notTup (st.get t) then some (st.get t :: l) else none | none => none)
  | .cell a t :: r => (match (lookQ tb st.ev st.h (.load t (.tmp a))).val, rawA tb st r with
    | some e, some l => some (e.1 :: l)
    | _, _ => none)
/-- A result's cell: a row that is not the call's own to give is finished. -/
def finC (ow : List Nat) (p : Nat) (h : Heap) (c : AV) : AV × Heap :=
  match c with
  | .vw k t => bif Nat.blt k 1000 || ow.contains p then (.vw k t, h) else frC h (.vw k t)
  | .sv k t lo n => bif Nat.blt k 1000 then (.sv k t lo n, h) else frC h (.sv k t lo n)
  | .ep k t i j => bif Nat.blt k 1000 then (.ep k t i j, h) else frC h (.ep k t i j)
  | c => (c, h)
def finCs (ow : List Nat) (p : Nat) (h : Heap) : List AV → List AV × Heap
  | [] => ([], h)
  | c :: r => match finC ow p h c with
    | (c', h') => (match finCs ow (p + 1) h' r with | (r', h'') => (c' :: r', h''))
def finV (ow : List Nat) (p : Nat) (h : Heap) (v : AV) : AV × Heap :=
  match v with
  | .agg cs => (match finCs ow p h cs with | (cs', h') => (.agg cs', h'))
  | v => finC ow p h v
def finVs (ow : List Nat) (p : Nat) (h : Heap) : List AV → List AV × Heap
  | [] => ([], h)
  | v :: r => match finV ow p h v with
    | (v', h') => (match finVs ow (p + 128) h' r with | (r', h'') => (v' :: r', h''))
/-- A row that is given away. -/
def ownC (h : Heap) (c : AV) : AV :=
  match c with
  | .vw k t => bif Nat.blt k 1000 then .vw k t else (match find k h with | some (.row u xs) => if u = t then .ow u xs else .undef | _ => .undef)
  | c => c
def ownV (h : Heap) (v : AV) : AV := match v with | .agg cs => .agg (cs.map (ownC h)) | v => ownC h v
def conC : AV → List Nat
  | .vw k _ => bif Nat.blt k 1000 then [] else [k]
  | _ => []
def conV (v : AV) : List Nat := v.cells.flatMap conC
def tupOf : List AV → AV
  | [v] => v
  | l => .tup l
def endO (h : Heap) (m : Nat) (vs : List AV) (ks : List Nat) : Option Ret :=
  match mapO (outV ks) (vs.map (ownV h)), mapO (packO h ks) ks with
  | some l, some os => bif (nodupB (ks ++ (inls h ks ++ vs.flatMap conV)) && os.all notTok) && (Nat.ble m 1000 && decide (ks.take m = List.range m)) then some (tupOf l, os) else none
  | _, _ => none
def endA (tb : Tb) (fn : Func) (ow : List Nat) (m : Nat) (st : St) : Option Ret :=
  match rawA tb st fn.results.toList with
  | some l => (match finVs ow 0 st.h l with
    | (vs, h) => endO h m vs (reach (boxRefs h) 200 [] (List.range m ++ (vs.map (ownV h)).flatMap AV.refs)))
  | none => none
def endK (tb : Tb) (fn : Func) (ow : List Nat) (m : Nat) : Ex → St → Option Ret
  | .exit _, _ => none
  | .normal, st => endA tb fn ow m st
  | .ret, st => endA tb fn ow m st

/-- One function's body, the callees by F. -/
noncomputable def evFn (F : Fns) (tb : Tb) (fx : Fx) (n : Nat) (args : List AV) (os : List Ob) : Option Ret :=
  match fx.fn.body with
  | some c => bif Nat.beq args.length (fx.fn.params.size + fx.fn.nfree) && Nat.ble (fx.fn.params.size + fx.fn.nfree) fx.fn.ntmps then
      evC ⟨F, tb, fx.H⟩ fx n c (startA fx.fn.ntmps args os) (endK tb fx.fn fx.ow os.length) else none
  | none => none
end
end Go.AM
