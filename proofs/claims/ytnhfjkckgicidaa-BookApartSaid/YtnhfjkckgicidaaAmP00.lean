/- The abstract machine: values, states, one operation, code, functions. Plain definitions: nothing is proved here. -/
import Derived.Calls
import Derived.WalkKit
import Derived.Laws.StructEq
import Derived.ChangeKeysEq
import Derived.Great.BuildSlice
set_option linter.unusedVariables false
set_option linter.unusedSimpArgs false
namespace Go.AM
inductive AV where
 | undef
 | int (k : IntKind) (n : Int)
 | bool (b : Bool)
 | str (s : List UInt8)
 | agg (cs : List AV)
 | tup (vs : List AV)
 | sl (s : Nat) (full : Bool) (xs : List AV)
 | rp (s : Nat) (e : AV) (j : Nat)
 | nilp
 | fn (f : Nat)
 | nilfn
 | ptr (k g off : Nat)
 | tip (k g s : Nat) (xs : List AV)
 | row (k g : Nat)
 | rowp (k g i : Nat)
 | iface (t : Nat) (v : AV)
 | nili
 deriving Inhabited
def AV.cells : AV → List AV
 | .agg cs => cs
 | v => [v]
def AV.dat : AV → Option AV
 | .tip _ _ s xs => some (.sl s false xs)
 | .undef | .tup _ | .ptr .. | .row .. | .rowp .. => none
 | v => some v
def datAll : List AV → Option (List AV)
 | [] => some []
 | v :: r => match v.dat, datAll r with
  | some a, some l => some (a :: l)
  | _, _ => none
inductive TK where
 | int (k : IntKind)
 | bool
 | str
 | struct (fs : List (Nat × Nat))     -- of each field: offset, type
 | arr (n : Nat) (e : Nat)
 | sl (e : Nat)
 | ptr
 | other
inductive Sh where
 | int (k : IntKind)
 | bool
 | str
 | sl
 | agg (l : List Sh)
 | tup (l : List Sh)
 | rpa
 | any
structure TI where
 k : TK
 sz : Nat
 bytes : Nat
 z : AV
def ofVal1 : Value → AV
 | .int k n => .int k n
 | .bool b => .bool b
 | .string s => .str s.data.toList
 | .pointer none => .nilp
 | .slice none 0 0 => .sl 0 true []
 | .nilIface => .nili
 | .nilFunc => .nilfn
 | _ => .undef
def AV.cell1 : AV → Bool
 | .undef | .agg _ | .tup _ | .row _ _ | .rowp _ _ _ => false
 | _ => true
def ofVal : Value → AV
 | .agg cs => if (cs.toList.map ofVal1).all AV.cell1 then .agg (cs.toList.map ofVal1) else .undef
 | v => ofVal1 v
abbrev Tb := List (Nat × TI)
def find {α : Type} (k : Nat) : List (Nat × α) → Option α
 | [] => none
 | (m, v) :: r => if k = m then some v else find k r
def put {α : Type} (k : Nat) (v : α) : List (Nat × α) → List (Nat × α)
 | [] => [(k, v)]
 | (m, u) :: r => if k = m then (k, v) :: r else if k < m then (k, v) :: (m, u) :: r else (m, u) :: put k v r
def TI.isAgg (t : TI) : Bool := match t.k with | .struct _ | .arr _ _ => true | _ => false
structure St where
 nt : Nat
 t : List (Nat × AV)
 b : List (Nat × List AV)
 r : List (Nat × List AV)
 g : List (Nat × Nat)
 rd : List Nat
 wr : List Nat
def St.get (st : St) (k : Nat) : AV := match find k st.t with | some v => v | none => .undef
def St.gen (st : St) (k : Nat) : Nat := match find k st.g with | some n => n | none => 0
def St.cur (st : St) : AV → AV
 | .tip k g s xs => if g = st.gen k then .tip k g s xs else .sl s false xs
 | .ptr k g off => if g = st.gen k then .ptr k g off else .undef
 | .row k g => if g = st.gen k then .row k g else .undef
 | .rowp k g i => if g = st.gen k then .rowp k g i else .undef
 | v => v
def St.ev (st : St) : Operand → AV
 | .tmp t => st.cur (st.get t)
 | .const v => ofVal v
 | .func f => .fn f
 | .global _ => .undef
def St.put (st : St) (dst : Option Nat) (v : AV) : St := match dst with | some d => (if d < st.nt then { st with t := AM.put d v st.t } else st) | none => st
def partOf (ti : TI) (cs : List AV) (off : Nat) : Option AV :=
 if ti.isAgg then (if off + ti.sz ≤ cs.length then (match datAll ((cs.drop off).take ti.sz) with | some l => some (.agg l) | none => none) else none) else cs[off]?
def setCells (cs : List AV) (off : Nat) : List AV → List AV
 | [] => cs
 | v :: r => setCells (cs.set off v) (off + 1) r
def intA (op : BinOp) (k : IntKind) (a b : Int) : Option AV :=
 match op with
 | .add => some (.int k (k.wrap (a + b)))
 | .sub => some (.int k (k.wrap (a - b)))
 | .mul => some (.int k (k.wrap (a * b)))
 | .quo => if b = 0 then none else some (.int k (k.wrap (a.tdiv b)))
 | .rem => if b = 0 then none else some (.int k (a.tmod b))
 | .and => some (.int k (k.wrap ((BitVec.ofInt k.bits a &&& BitVec.ofInt k.bits b).toNat)))
 | .or => some (.int k (k.wrap ((BitVec.ofInt k.bits a ||| BitVec.ofInt k.bits b).toNat)))
 | .xor => some (.int k (k.wrap ((BitVec.ofInt k.bits a ^^^ BitVec.ofInt k.bits b).toNat)))
 | .andNot => some (.int k (k.wrap ((BitVec.ofInt k.bits a &&& ~~~ BitVec.ofInt k.bits b).toNat)))
 | .eql => some (.bool (a == b))
 | .neq => some (.bool (a != b))
 | .lss => some (.bool (decide (a < b)))
 | .leq => some (.bool (decide (a ≤ b)))
 | .gtr => some (.bool (decide (a > b)))
 | .geq => some (.bool (decide (a ≥ b)))
 | _ => none
def shiftA (op : BinOp) (k : IntKind) (a b : Int) : Option AV :=
 if b < 0 then none else
 match op with
 | .shl => some (.int k (k.wrap (a * 2 ^ (min b.toNat k.bits))))
 | .shr => some (.int k (a.fdiv (2 ^ (min b.toNat k.bits))))
 | _ => none
def strA (op : BinOp) (a b : List UInt8) : Option AV :=
 match op with
 | .add => if a.length + b.length ≤ 4611686018427387904 then some (.str (a ++ b)) else none
 | .eql => some (.bool (a == b))
 | .neq => some (.bool (!(a == b)))
 | _ => none
def eqCell (k : TK) (x y : AV) : Option Bool :=
 match k, x, y with
 | .int _, .int k a, .int k' b => if k = k' then some (a == b) else none
 | .bool, .bool a, .bool b => some (a == b)
 | .str, .str a, .str b => some (a == b)
 | _, _, _ => none
def eqFs (tb : Tb) (i : Nat) : List (Nat × Nat) → List AV → List AV → Option Bool
 | [], [], [] => some true
 | (o, t) :: fs, x :: xs, y :: ys =>
  if o = i then (match find t tb with
   | some ti => (match eqCell ti.k x y, eqFs tb (i + 1) fs xs ys with
    | some a, some b => some (a && b)
    | _, _ => none)
   | none => none) else none
 | _, _, _ => none
def eqA (tb : Tb) (k : TK) (x y : AV) : Option Bool :=
 match k, x, y with
 | .struct fs, .agg a, .agg b => eqFs tb 0 fs a b
 | .bool, .bool a, .bool b => some (a == b)
 | .ptr, .nilp, .nilp => some true
 | .ptr, .ptr _ _ _, .nilp => some false
 | .ptr, .nilp, .ptr _ _ _ => some false
 | .ptr, .rp _ _ _, .nilp => some false
 | .ptr, .nilp, .rp _ _ _ => some false
 | _, _, _ => none
def binA (tb : Tb) (op : BinOp) (t : Nat) (x y : AV) : Option AV :=
 match x, y with
 | .int k a, .int k' b =>
  (match op with
  | .shl | .shr => shiftA op k a b
  | _ => if k = k' then intA op k a b else none)
 | .str a, .str b => strA op a b
 | x, y =>
  match find t tb with
  | some ti =>
   (match op with
   | .eql => (match eqA tb ti.k x y with | some b => some (.bool b) | none => none)
   | .neq => (match eqA tb ti.k x y with | some b => some (.bool (!b)) | none => none)
   | _ => none)
  | none => none
def unA (op : UnOp) (x : AV) : Option AV :=
 match op, x with
 | .not, .bool b => some (.bool !b)
 | .neg, .int k n => some (.int k (k.wrap (0 - n)))
 | .xor, .int k n => intA .xor k (if k.signed then -1 else k.max) n
 | _, _ => none
def bytesOf : List AV → Option (List UInt8)
 | [] => some []
 | .int .u8 n :: r => match bytesOf r with | some l => some (UInt8.ofNat n.toNat :: l) | none => none
 | _ :: _ => none
def ofBytes (l : List UInt8) : List AV := l.map fun b => .int .u8 b.toNat
def St.elems (st : St) : AV → Option (Nat × List AV)
 | .sl s _ xs => some (s, xs)
 | .tip _ _ s xs => some (s, xs)
 | .row k _ => (match find k st.r with | some xs => some (1, xs) | none => none)
 | _ => none
def roomB : Nat := 140737488355328
def fitsB (n bytes : Nat) : Bool := decide (n * bytes ≤ roomB)
def TI.fillParts (tb : Tb) (fs : List (Nat × Nat)) (st : St) (cs : List AV) : List (Nat × Operand) → Option (List AV)
 | [] => some cs
 | (i, x) :: r =>
  match fs[i]? with
  | none => none
  | some (off, t) =>
   match find t tb, (st.ev x).dat with
   | some ti, some v => if v.cells.length = ti.sz ∧ off + ti.sz ≤ cs.length then fillParts tb fs st (setCells cs off v.cells) r else none
   | _, _ => none
def fillElems (z : AV) (sz : Nat) (st : St) (xs : List AV) : List (Nat × Operand) → Option (List AV)
 | [] => some xs
 | (i, x) :: r => match (st.ev x).dat with
  | some v => if v.cells.length = sz ∧ i < xs.length then fillElems z sz st (xs.set i v) r else none
  | none => none
abbrev Boxes := List (List AV)
abbrev Res := Option (AV × Boxes)
abbrev Fns := Nat → List AV → Boxes → Option (AV × Boxes)
def St.pass (st : St) (n : Nat) : List AV → Option (List AV × List Nat)
 | [] => some ([], [])
 | .ptr k _ off :: r =>
  (match st.pass (n + 1) r with
   | some (vs, ks) => if ks.contains k then none else some (.ptr n 0 off :: vs, k :: ks)
   | none => none)
 | v :: r => match v.dat, st.pass n r with
  | some a, some (vs, ks) => some (a :: vs, ks)
  | _, _ => none
def St.boxesAt (st : St) : List Nat → Option Boxes
 | [] => some []
 | k :: r => match find k st.b, st.boxesAt r with
  | some cs, some l => (match datAll (cs.map st.cur) with | some c => some (c :: l) | none => none)
  | _, _ => none
def putBoxes (b : List (Nat × List AV)) : List Nat → Boxes → List (Nat × List AV)
 | k :: ks, cs :: r => putBoxes (put k cs b) ks r
 | _, _ => b
def disj (a b : List Nat) : Bool := a.all fun k => !b.contains k
def zIn (k : IntKind) (v : AV) (K : Int → Res) : Res := match v with | .int k' n => (if k' = k then K n else none) | _ => none
def zBo (v : AV) (K : Bool → Res) : Res := match v with | .bool b => K b | _ => none
def zSt (v : AV) (K : List UInt8 → Res) : Res := match v with | .str s => K s | _ => none
def asSl (v : AV) (K : Nat → Bool → List AV → Res) : Res := match v with | .sl s f xs => K s f xs | _ => none
def zAg (v : AV) (K : List AV → Res) : Res := match v with | .agg l => K l | _ => none
def zTu (v : AV) (K : List AV → Res) : Res := match v with | .tup l => K l | _ => none
def zCo {α : Type} (l : List α) (K : α → List α → Res) : Res := match l with | v :: r => K v r | [] => none
def asRp (v : AV) (K : List AV → Res) : Res := match v with | .rp s (.agg l) 0 => (if s = l.length then K l else none) | _ => none
def zNi {α : Type} (l : List α) (K : Res) : Res := match l with | [] => K | _ => none
def zRe (x : Res) (K : AV → Boxes → Res) : Res := match x with | some (v, bs) => K v bs | none => none
def shCell (s : Sh) (v : AV) (K : AV → Res) : Res :=
 match s with
 | .int k => zIn k v fun n => K (.int k n)
 | .bool => zBo v fun b => K (.bool b)
 | .str => zSt v fun s => K (.str s)
 | .sl => asSl v fun s f xs => K (.sl s f xs)
 | .rpa => asRp v fun l => K (.rp l.length (.agg l) 0)
 | _ => K v
def shCells : List Sh → List AV → (List AV → Res) → Res
 | [], l, K => zNi l (K [])
 | s :: r, l, K => zCo l fun v l' => shCell s v fun v' => shCells r l' fun vs => K (v' :: vs)
def shVal (s : Sh) (v : AV) (K : AV → Res) : Res :=
 match s with
 | .agg l => zAg v fun cs => shCells l cs fun cs' => K (.agg cs')
 | s => shCell s v K
def shVals : List Sh → List AV → (List AV → Res) → Res
 | [], l, K => zNi l (K [])
 | s :: r, l, K => zCo l fun v l' => shVal s v fun v' => shVals r l' fun vs => K (v' :: vs)
def shRes (s : Sh) (v : AV) (K : AV → Res) : Res :=
 match s with
 | .tup l => zTu v fun cs => shVals l cs fun cs' => K (.tup cs')
 | s => shVal s v K
def likeA : AV → Sh
 | .int k _ => .int k
 | .bool _ => .bool
 | .str _ => .str
 | .sl _ _ _ => .sl
 | _ => .any
def shBoxes : Boxes → Boxes → (Boxes → Res) → Res
 | [], l, K => zNi l (K [])
 | b :: r, l, K => zCo l fun v l' => shCells (b.map likeA) v fun v' => shBoxes r l' fun vs => K (v' :: vs)
def isBump (tb : Tb) (o : Oper) : Bool :=
 match o.op with
 | .call { callee := .builtin .append, .. } => true
 | .store .. => true
 | .convert _ d _ => (match find d tb with | some td => (match td.k with | .sl _ => true | _ => false) | none => true)
 | _ => false
def keepsPtr (st' : St) : List (Nat × AV) → Bool
 | [] => true
 | (_, v) :: r => (match v with
  | .ptr k g _ => g == st'.gen k
  | .row k g => g == st'.gen k
  | .rowp k g _ => g == st'.gen k
  | _ => true) && keepsPtr st' r
def keepsPtrL (st' : St) : List AV → Bool
 | [] => true
 | v :: r => (match v with
  | .ptr k g _ => g == st'.gen k
  | .row k g => g == st'.gen k
  | .rowp k g _ => g == st'.gen k
  | _ => true) && keepsPtrL st' r
def keepsPtrB (st' : St) : List (Nat × List AV) → Bool
 | [] => true
 | (_, cs) :: r => keepsPtrL st' cs && keepsPtrB st' r
def isCurB (st : St) : AV → Bool
 | .tip k g _ _ => g == st.gen k
 | .ptr k g _ => g == st.gen k
 | .row k g => g == st.gen k
 | .rowp k g _ => g == st.gen k
 | _ => true
def curAt (st : St) (dst : Option Nat) : Bool := match dst with | some d => if d < st.nt then isCurB st (st.get d) else true | none => true
def curBx (st : St) : Boxes → Bool
 | [] => true
 | cs :: r => cs.all (isCurB st) && curBx st r
def curT (st : St) : List (Nat × AV) → List (Nat × AV)
 | [] => []
 | (k, v) :: r => (k, st.cur v) :: curT st r
def curB (st : St) : List (Nat × List AV) → List (Nat × List AV)
 | [] => []
 | (k, v) :: r => (k, v.map st.cur) :: curB st r
def St.canon (st : St) : St := { st with t := curT st st.t, b := curB st st.b }
def callK (F : Fns) (sh : List (Nat × Sh)) (draw : Bool) (st : St) (dst : Option Nat) (ty : Nat) (f : AV) (args : List AV) (K : St → Res) : Res :=
 match f with
 | .fn n =>
  (match st.pass 0 args with
  | some (vs, ks) =>
   (match st.boxesAt ks with
   | some bs =>
    if !draw || disj ks st.rd then
     zRe (F n vs bs) fun v bs' =>
      shRes (match find ty sh with | some s => s | none => .any) v fun v' =>
       shBoxes bs bs' fun bs'' => bif draw then (bif curBx st bs'' && curAt ({ st with b := putBoxes st.b ks bs'', wr := ks ++ st.wr }.put dst v') dst then K ({ st with b := putBoxes st.b ks bs'', wr := ks ++ st.wr }.put dst v') else none)
        else K ({ st with b := putBoxes st.b ks bs'', wr := ks ++ st.wr }.put dst v')
    else none
   | none => none)
  | none => none)
 | _ => none
def appendA (st : St) (d : Nat) (ti : TI) (x : AV) (ys : List AV) (sy : Nat) : Option (AV × List (Nat × Nat)) :=
 if sy = ti.sz ∧ ti.sz ≠ 0 ∧ ti.z.cells.length = ti.sz ∧ ti.z.dat.isSome then
  (match x with
  | .sl s true xs => if (s = ti.sz ∨ xs = []) ∧ fitsB (xs.length + ys.length) ti.bytes ∧ xs.length + ys.length ≤ 4611686018427387904 then some (.tip d (st.gen d + 1) ti.sz (xs ++ ys), AM.put d (st.gen d + 1) st.g) else none
  | .tip k g s xs => if s = ti.sz ∧ fitsB (xs.length + ys.length) ti.bytes ∧ xs.length + ys.length ≤ 4611686018427387904 then some (.tip k (st.gen k + 1) s (xs ++ ys), AM.put k (st.gen k + 1) st.g) else none
  | _ => none)
 else none
def lenA (tb : Tb) (st : St) (t : Nat) (x : AV) : Option AV :=
 match find t tb with
 | none => none
 | some ti =>
  match ti.k, x with
  | .str, .str s => some (.int .i64 s.length)
  | .sl _, x => (match st.elems x with | some (_, xs) => some (.int .i64 xs.length) | none => none)
  | .arr n _, _ => some (.int .i64 n)
  | _, _ => none
def srcA (tb : Tb) (st : St) (u : Nat) (y : AV) : Option (Nat × List AV) :=
 match find u tb with
 | none => none
 | some tu => match tu.k, y with
  | .sl _, y => st.elems y
  | .str, .str s => some (1, ofBytes s)
  | _, _ => none
def builtinA (tb : Tb) (st : St) (dst : Option Nat) (b : Builtin) (argTypes : List Nat) (args : List AV) : Option St :=
 match b, argTypes, args with
 | .len, [t], [x] => (match lenA tb st t x with | some v => some (st.put dst v) | none => none)
 | .min, _, [.int k a, .int _ b] => some (st.put dst (.int k (if b < a then b else a)))
 | .max, _, [.int k a, .int _ b] => some (st.put dst (.int k (if b > a then b else a)))
 | .append, [t, u], [x, y] =>
  (match dst, find t tb, srcA tb st u y with
  | some d, some ⟨.sl e, _, _, _⟩, some (sy, ys) =>
   (match find e tb with
   | some ti => (match appendA st d ti x ys sy with | some (v, g) => some ({ st with g := g }.put dst v) | none => none)
   | none => none)
  | _, _, _ => none)
 | _, _, _ => none
def subA (s : Nat) (xs : List AV) (l h m : Int) (hasMax : Bool) : Option AV :=
 if 0 ≤ l ∧ l ≤ h ∧ h ≤ m ∧ h ≤ xs.length ∧ (hasMax = true → m ≤ xs.length) then some (.sl s (hasMax && decide (h = m)) ((xs.take h.toNat).drop l.toNat)) else none
def loA : Option AV → Option Int
 | none => some 0
 | some (.int _ n) => some n
 | _ => none
def hiA (d : Int) : Option AV → Option Int
 | none => some d
 | some (.int _ n) => some n
 | _ => none
def sliceA (tb : Tb) (t : Nat) (x : AV) (lo hi mx : Option AV) : Option AV :=
 match find t tb with
 | none => none
 | some ti =>
  match ti.k, x, loA lo with
  | .str, .str s, some l =>
   (match hiA s.length hi, mx with
   | some h, none => if 0 ≤ l ∧ l ≤ h ∧ h ≤ s.length then some (.str ((s.take h.toNat).drop l.toNat)) else none
   | _, _ => none)
  | .sl e, x, some l =>
   (match (match x with | .sl s _ xs => some (s, xs) | .tip _ _ s xs => some (s, xs) | _ => none), find e tb with
   | some (s, xs), some te =>
    if s = te.sz ∨ xs = [] then
     (match mx with
     | none => (match hiA xs.length hi with | some h => subA s xs l h h false | none => none)
     | some (.int _ m) => (match hi with | some (.int _ h) => subA s xs l h m true | _ => none)
     | _ => none)
    else none
   | _, _ => none)
  | _, _, _ => none
def indexAddrA (tb : Tb) (st : St) (t : Nat) (x : AV) (i : Int) : Option AV :=
 match find t tb with
 | some ⟨.sl e, _, _, _⟩ =>
  (match find e tb, x with
  | some ti, .sl s _ xs => if s = ti.sz ∧ 0 ≤ i then (match xs[i.toNat]? with | some e => some (.rp s e 0) | none => none) else none
  | some ti, .tip _ _ s xs => if s = ti.sz ∧ 0 ≤ i then (match xs[i.toNat]? with | some e => some (.rp s e 0) | none => none) else none
  | some ti, .row k g => if ti.sz = 1 then (match find k st.r with | some xs => if 0 ≤ i ∧ i < xs.length then some (.rowp k g i.toNat) else none | none => none) else none
  | _, _ => none)
 | some ⟨.arr n e, _, _, _⟩ =>
  (match find e tb, x with
  | some ti, .ptr k g off => if 0 ≤ i ∧ i < n then some (.ptr k g (off + i.toNat * ti.sz)) else none
  | some ti, .rp s e off => if 0 ≤ i ∧ i < n then some (.rp s e (off + i.toNat * ti.sz)) else none
  | some ti, .rowp k g off => if 0 ≤ i ∧ i < n then some (.rowp k g (off + i.toNat * ti.sz)) else none
  | _, _ => none)
 | _ => none
def AV.fixed : AV → Bool
 | .tip .. | .ptr .. | .row .. | .rowp .. => false
 | _ => true
def insN (k : Nat) : List Nat → List Nat
 | [] => [k]
 | m :: r => if k = m then m :: r else if k < m then k :: m :: r else m :: insN k r
def loadA (tb : Tb) (draw : Bool) (st : St) (t : Nat) (x : AV) : Option (AV × List Nat) :=
 match find t tb with
 | none => none
 | some ti =>
  match x with
  | .ptr k _ off => if !draw || !st.wr.contains k then (match find k st.b with | some cs => (match partOf ti (cs.map st.cur) off with | some v => some (v, insN k st.rd) | none => none) | none => none) else none
  | .rp s e j =>
   if ti.isAgg && j == 0 && ti.sz == s then (match e with | .agg cs => some (.agg cs, st.rd) | _ => none) else (match partOf ti e.cells j with | some v => if v.fixed then some (v, st.rd) else none | none => none)
  | .rowp k _ i => if !ti.isAgg then (match find k st.r with | some xs => (match xs[i]? with | some v => if v.fixed then some (v, st.rd) else none | none => none) | none => none) else none
  | _ => none
def storeA (tb : Tb) (st : St) (t : Nat) (x v : AV) : Option St :=
 match find t tb with
 | none => none
 | some ti =>
  match x with
  | .ptr k _ off =>
   (match find k st.b with
    | some cs =>
     (match v with
     | .agg l => if l.length = ti.sz ∧ off + l.length ≤ cs.length then some { st with b := put k (setCells cs off l) st.b } else none
     | v => if v.cell1 ∧ ti.sz = 1 ∧ off < cs.length then some { st with b := put k (cs.set off v) st.b } else none)
    | none => none)
  | .rowp k _ i =>
   if ti.sz = 1 then (match find k st.r, v.dat with
    | some xs, some v => if v.cell1 ∧ i < xs.length then some { st with r := put k (xs.set i v) st.r } else none
    | _, _ => none) else none
  | _ => none
def AV.boxable : AV → Bool
 | .agg _ => true
 | v => v.cell1
def newBox (st : St) (dst : Option Nat) (v : AV) : Option St :=
 match dst with
 | none => none
 | some d => if v.boxable && decide (d < 1000000) then some ({ st with b := put d v.cells st.b, g := put d (st.gen d + 1) st.g }.put dst (.ptr d (st.gen d + 1) 0)) else none
def arrInt (tb : Tb) (ti : TI) : Bool := match ti.k with
 | .arr _ e => (match find e tb with | some te => (match te.k with | .int _ => te.sz == 1 | _ => false) | none => false)
 | _ => false
def newArr (st : St) (dst : Option Nat) (z : AV) : Option St :=
 match dst, z with
 | some d, .agg cs => some ({ st with r := put d cs st.r, g := put d (st.gen d + 1) st.g }.put (some d) (.rowp d (st.gen d + 1) 0))
 | _, _ => none
def isU8 (tb : Tb) (e : Nat) : Bool := match find e tb with | some te => (match te.k with | .int .u8 => true | _ => false) | none => false
def convertA (tb : Tb) (st : St) (ts td : TI) (dst : Option Nat) (x : AV) : Option St :=
 match td.k, x with
 | .int k, .int _ n => some (st.put dst (.int k (k.wrap n)))
 | .str, .str s => some (st.put dst (.str s))
 | .str, x =>
  (match ts.k with
  | .sl e => if isU8 tb e then (match st.elems x with | some (_, xs) => (match bytesOf xs with | some l => some (st.put dst (.str l)) | none => none) | none => none) else none
  | _ => none)
 | .sl e, .str s =>
  (match dst with
  | some d => if isU8 tb e ∧ s.length ≤ 4611686018427387904 then some ({ st with g := put d (st.gen d + 1) st.g }.put (some d) (.tip d (st.gen d + 1) 1 (ofBytes s))) else none
  | none => none)
 | _, _ => none
def stepA (tb : Tb) (draw : Bool) (st : St) (o : Oper) : Option St :=
 match o.op with
 | .move x | .assign x => some (st.put o.dst (st.ev x))
 | .pick c a b => (match st.ev c with | .bool t => some (st.put o.dst (bif t then st.ev a else st.ev b)) | _ => none)
 | .alloc e => if draw then none else (match find e tb with | some ti => bif arrInt tb ti then newArr st o.dst ti.z else newBox st o.dst ti.z | none => none)
 | .box _ x => if draw then none else newBox st o.dst (st.ev x)
 | .build t ps =>
  (match find t tb with
  | some ⟨.struct fs, _, _, .agg z⟩ => (match datAll z with | some z => (match TI.fillParts tb fs st z ps.toList with | some cs => some (st.put o.dst (.agg cs)) | none => none) | none => none)
  | _ => none)
 | .buildSlice t n ps =>
  (match find t tb with
  | some ⟨.sl e, _, _, _⟩ =>
   (match find e tb with
   | some ti => if n * ti.sz ≤ 16777216 ∧ ti.sz ≠ 0 ∧ ti.z.cells.length = ti.sz ∧ n ≠ 0 then (match ti.z.dat with
     | some z => (match fillElems z ti.sz st (List.replicate n z) ps.toList with | some xs => some (st.put o.dst (.sl ti.sz true xs)) | none => none)
     | none => none) else none
   | none => none)
  | _ => none)
 | .load t x => (match loadA tb draw st t (st.ev x) with | some (v, rd) => some ({ st with rd := rd }.put o.dst v) | none => none)
 | .store t x v => (match o.dst with | none => storeA tb st t (st.ev x) (st.ev v) | some _ => none)
 | .nilCheck x => (match st.ev x with | .ptr k g off => some (st.put o.dst (.ptr k g off)) | .rp s e j => some (st.put o.dst (.rp s e j)) | .fn f => some (st.put o.dst (.fn f)) | _ => none)
 | .binOp op t x y _ => (match binA tb op t (st.ev x) (st.ev y) with | some v => some (st.put o.dst v) | none => none)
 | .unOp op _ x => (match unA op (st.ev x) with | some v => some (st.put o.dst v) | none => none)
 | .convert s d x =>
  (match find s tb, find d tb with
  | some ts, some td => convertA tb st ts td o.dst (st.ev x)
  | _, _ => none)
 | .makeInterface t x => (match find t tb, (st.ev x).dat with | some ti, some v => (match ti.k with | .other => none | _ => some (st.put o.dst (.iface t v))) | _, _ => none)
 | .makeSlice t l c =>
  (match find t tb, st.ev l, st.ev c with
  | some ⟨.sl e, _, _, _⟩, .int _ n, .int _ m =>
   (match find e tb with
   | some ti =>
    if n = m ∧ 0 ≤ n ∧ n ≤ 9223372036854775807 ∧ fitsB n.toNat ti.bytes then
     (match ti.z.dat with
     | some z => if draw then (if ti.z.cells.length = ti.sz then some (st.put o.dst (.sl ti.sz true (List.replicate n.toNat z))) else none)
      else (match o.dst with
       | some d => if ti.sz = 1 ∧ z.cell1 then some ({ st with r := put d (List.replicate n.toNat z) st.r, g := put d (st.gen d + 1) st.g }.put (some d) (.row d (st.gen d + 1))) else none
       | none => none)
     | none => none)
    else none
   | none => none)
  | _, _, _ => none)
 | .slice t x lo hi mx => (match sliceA tb t (st.ev x) (lo.map st.ev) (hi.map st.ev) (mx.map st.ev) with | some v => some (st.put o.dst v) | none => none)
 | .fieldAddr s x f =>
  (match find s tb with
  | some ⟨.struct fs, _, _, _⟩ =>
   (match fs[f]?, st.ev x with
   | some (off, _), .ptr k g o' => some (st.put o.dst (.ptr k g (o' + off)))
   | some (off, _), .rp s e j => some (st.put o.dst (.rp s e (j + off)))
   | _, _ => none)
  | _ => none)
 | .field s x f =>
  (match find s tb, st.ev x with
  | some ⟨.struct fs, _, _, _⟩, .agg cs =>
   (match fs[f]? with
   | some (off, t) => (match find t tb with | some ti => (match partOf ti cs off with | some v => some (st.put o.dst v) | none => none) | none => none)
   | none => none)
  | _, _ => none)
 | .indexAddr t x i => (match st.ev i with | .int _ n => (match indexAddrA tb st t (st.ev x) n with | some v => some (st.put o.dst v) | none => none) | _ => none)
 | .index t x i =>
  (match find t tb, st.ev x, st.ev i with
  | some ⟨.str, _, _, _⟩, .str s, .int _ n => if 0 ≤ n then (match s[n.toNat]? with | some b => some (st.put o.dst (.int .u8 b.toNat)) | none => none) else none
  | some ⟨.arr n e, _, _, _⟩, .agg cs, .int _ i =>
   if 0 ≤ i ∧ i < n then (match find e tb with | some ti => (match partOf ti cs (i.toNat * ti.sz) with | some v => some (st.put o.dst v) | none => none) | none => none) else none
  | _, _, _ => none)
 | .extract x i => (match st.ev x with | .tup vs => (match vs[i]? with | some v => some (st.put o.dst v) | none => none) | _ => none)
 | .call c =>
  (match c.callee with
  | .builtin b => builtinA tb st o.dst b c.argTypes.toList (c.args.toList.map st.ev)
  | _ => none)
 | _ => none
structure Ev where
 F : Fns
 tb : Tb
 sh : List (Nat × Sh)
def zOp {α : Type} (x : Option α) (K : α → Res) : Res := match x with | some v => K v | none => none
def shOf : AV → Sh
 | .agg l => .agg (l.map likeA)
 | v => likeA v
abbrev Ask := Option (Bool × Option AV × Sh × (AV → St))
def ask1 (c : Bool) (st : St) : Ask := some (c, some .undef, .any, fun _ => st)
def indexAddrU (tb : Tb) (st : St) (dst : Option Nat) (t : Nat) (x : AV) (i : AV) : Ask :=
 match i, find t tb with
 | .int _ n, some ⟨.sl e, _, _, _⟩ =>
  (match find e tb, x with
  | some ti, .sl s _ xs => some (decide (s = ti.sz) && decide (0 ≤ n), xs[n.toNat]?, shOf ti.z, fun e => st.put dst (.rp s e 0))
  | some ti, .tip _ _ s xs => some (decide (s = ti.sz) && decide (0 ≤ n), xs[n.toNat]?, shOf ti.z, fun e => st.put dst (.rp s e 0))
  | some ti, .row k g => (match find k st.r with | some xs => ask1 (decide (ti.sz = 1) && decide (0 ≤ n ∧ n < xs.length)) (st.put dst (.rowp k g n.toNat)) | none => none)
  | _, _ => none)
 | .int _ i, some ⟨.arr n e, _, _, _⟩ =>
  (match find e tb, x with
  | some ti, .ptr k g off => ask1 (decide (0 ≤ i ∧ i < n)) (st.put dst (.ptr k g (off + i.toNat * ti.sz)))
  | some ti, .rp s e off => ask1 (decide (0 ≤ i ∧ i < n)) (st.put dst (.rp s e (off + i.toNat * ti.sz)))
  | some ti, .rowp k g off => ask1 (decide (0 ≤ i ∧ i < n)) (st.put dst (.rowp k g (off + i.toNat * ti.sz)))
  | _, _ => none)
 | _, _ => none
def indexU (tb : Tb) (st : St) (dst : Option Nat) (t : Nat) (x i : AV) : Ask :=
 match find t tb, x, i with
 | some ⟨.str, _, _, _⟩, .str s, .int _ n => some (decide (0 ≤ n), (s[n.toNat]?).map (fun b => AV.int .u8 b.toNat), .int .u8, fun e => st.put dst e)
 | _, _, _ => none
def subU (s : Nat) (xs : List AV) (l h m : Int) (hasMax : Bool) : Bool × AV :=
 (decide (0 ≤ l ∧ l ≤ h ∧ h ≤ m ∧ h ≤ xs.length ∧ (hasMax = true → m ≤ xs.length)), .sl s (hasMax && decide (h = m)) ((xs.take h.toNat).drop l.toNat))
def sliceU (tb : Tb) (t : Nat) (x : AV) (lo hi mx : Option AV) : Option (Bool × AV) :=
 match find t tb with
 | none => none
 | some ti =>
  match ti.k, x, loA lo with
  | .str, .str s, some l =>
   (match hiA s.length hi, mx with
   | some h, none => some (decide (0 ≤ l ∧ l ≤ h ∧ h ≤ s.length), .str ((s.take h.toNat).drop l.toNat))
   | _, _ => none)
  | .sl e, x, some l =>
   (match (match x with | .sl s _ xs => some (s, xs) | .tip _ _ s xs => some (s, xs) | _ => none), find e tb with
   | some (s, xs), some te =>
     (match mx with
     | none => (match hiA xs.length hi with | some h => (match subU s xs l h h false with | (c, v) => some (decide (s = te.sz ∨ xs = []) && c, v)) | none => none)
     | some (.int _ m) => (match hi with | some (.int _ h) => (match subU s xs l h m true with | (c, v) => some (decide (s = te.sz ∨ xs = []) && c, v)) | _ => none)
     | _ => none)
   | _, _ => none)
  | _, _, _ => none
def binU (op : BinOp) (x y : AV) : Option (Bool × AV) :=
 match op, x, y with
 | .add, .str a, .str b => some (decide (a.length + b.length ≤ 4611686018427387904), .str (a ++ b))
 | .shl, .int k a, .int _ b => some (decide (0 ≤ b), .int k (k.wrap (a * 2 ^ (min b.toNat k.bits))))
 | .shr, .int k a, .int _ b => some (decide (0 ≤ b), .int k (a.fdiv (2 ^ (min b.toNat k.bits))))
 | .quo, .int k a, .int k' b => some (decide (k = k') && !decide (b = 0), .int k (k.wrap (a.tdiv b)))
 | .rem, .int k a, .int k' b => some (decide (k = k') && !decide (b = 0), .int k (a.tmod b))
 | _, _, _ => none
def makeU (tb : Tb) (draw : Bool) (st : St) (dst : Option Nat) (t : Nat) (l c : AV) : Ask :=
 match find t tb, l, c with
 | some ⟨.sl e, _, _, _⟩, .int _ n, .int _ m =>
  (match find e tb with
  | some ti =>
   (match ti.z.dat with
   | some z =>
    bif draw then ask1 (decide (ti.z.cells.length = ti.sz) && decide (n = m ∧ 0 ≤ n ∧ n ≤ 9223372036854775807 ∧ fitsB n.toNat ti.bytes)) (st.put dst (.sl ti.sz true (List.replicate n.toNat z)))
    else (match dst with
     | some d => ask1 ((decide (ti.sz = 1) && z.cell1) && decide (n = m ∧ 0 ≤ n ∧ n ≤ 9223372036854775807 ∧ fitsB n.toNat ti.bytes)) ({ st with r := AM.put d (List.replicate n.toNat z) st.r, g := AM.put d (st.gen d + 1) st.g }.put (some d) (.row d (st.gen d + 1)))
     | none => none)
   | none => none)
  | none => none)
 | _, _, _ => none
def convU (tb : Tb) (st : St) (dst : Option Nat) (s d : Nat) (x : AV) : Ask :=
 match find s tb, find d tb with
 | some ts, some td =>
  (match td.k, ts.k with
  | .sl e, .str => (match x, dst with
   | .str l, some d => ask1 (isU8 tb e && decide (l.length ≤ 4611686018427387904)) ({ st with g := AM.put d (st.gen d + 1) st.g }.put (some d) (.tip d (st.gen d + 1) 1 (ofBytes l)))
   | _, _ => none)
  | .str, .sl e => (match st.elems x with
   | some (_, xs) => some (isU8 tb e, (bytesOf xs).map AV.str, .str, fun v => st.put dst v)
   | none => none)
  | _, _ => none)
 | _, _ => none
def appendU (tb : Tb) (st : St) (dst : Option Nat) (ts : List Nat) (args : List AV) : Ask :=
 match ts, args, dst with
 | [t, u], [x, y], some d =>
  (match find t tb, srcA tb st u y with
  | some ⟨.sl e, _, _, _⟩, some (sy, ys) =>
   (match find e tb with
   | some ti =>
    (match x with
    | .sl s true xs => ask1 (decide (sy = ti.sz ∧ ti.sz ≠ 0 ∧ ti.z.cells.length = ti.sz ∧ ti.z.dat.isSome) && decide ((s = ti.sz ∨ xs = []) ∧ fitsB (xs.length + ys.length) ti.bytes ∧ xs.length + ys.length ≤ 4611686018427387904)) ({ st with g := AM.put d (st.gen d + 1) st.g }.put (some d) (.tip d (st.gen d + 1) ti.sz (xs ++ ys)))
    | .tip k _ s xs => ask1 (decide (sy = ti.sz ∧ ti.sz ≠ 0 ∧ ti.z.cells.length = ti.sz ∧ ti.z.dat.isSome) && decide (s = ti.sz ∧ fitsB (xs.length + ys.length) ti.bytes ∧ xs.length + ys.length ≤ 4611686018427387904)) ({ st with g := AM.put k (st.gen k + 1) st.g }.put (some d) (.tip k (st.gen k + 1) s (xs ++ ys)))
    | _ => none)
   | none => none)
  | _, _ => none)
 | _, _, _ => none
def shS (z : AV) : Sh := match z with | .int k _ => .int k | .bool _ => .bool | .str _ => .str | _ => .any
def fixO (o : Option AV) : Option AV := match o with | some v => (if v.fixed then some v else none) | none => none
def loadU (tb : Tb) (draw : Bool) (st : St) (dst : Option Nat) (t : Nat) (x : AV) : Ask :=
 match find t tb, x with
 | some ti, .ptr k _ off => bif ti.isAgg then none else (match find k st.b with
  | some cs => some (!draw || !st.wr.contains k, (cs.map st.cur)[off]?, shS ti.z, fun v => { st with rd := insN k st.rd }.put dst v)
  | none => none)
 | some ti, .rowp k _ i => bif ti.isAgg then none else (match find k st.r with
  | some xs => some (true, fixO xs[i]?, shS ti.z, fun v => { st with rd := st.rd }.put dst v)
  | none => none)
 | some ti, .rp _ (.agg l) j => bif ti.isAgg then none else some (true, fixO l[j]?, shS ti.z, fun v => { st with rd := st.rd }.put dst v)
 | _, _ => none
def storeU (tb : Tb) (st : St) (t : Nat) (x v : AV) : Ask :=
 match find t tb, x, v.dat with
 | some ti, .rowp k _ i, some u => (match find k st.r with
  | some xs => ask1 (decide (ti.sz = 1) && (u.cell1 && decide (i < xs.length))) { st with r := put k (xs.set i u) st.r }
  | none => none)
 | some ti, .ptr k _ off, some (.int kd n) => (match find k st.b with
  | some cs => ask1 (decide (ti.sz = 1) && decide (off < cs.length)) { st with b := put k (cs.set off (.int kd n)) st.b }
  | none => none)
 | _, _, _ => none
def stepU (tb : Tb) (draw : Bool) (st : St) (o : Oper) : Ask :=
 match o.op with
 | .indexAddr t x i => indexAddrU tb st o.dst t (st.ev x) (st.ev i)
 | .load t x => loadU tb draw st o.dst t (st.ev x)
 | .index t x i => indexU tb st o.dst t (st.ev x) (st.ev i)
 | .slice t x lo hi mx => (match sliceU tb t (st.ev x) (lo.map st.ev) (hi.map st.ev) (mx.map st.ev) with | some (c, v) => ask1 c (st.put o.dst v) | none => none)
 | .binOp op _ x y _ => (match binU op (st.ev x) (st.ev y) with | some (c, v) => ask1 c (st.put o.dst v) | none => none)
 | .makeSlice t l c => makeU tb draw st o.dst t (st.ev l) (st.ev c)
 | .convert s d x => convU tb st o.dst s d (st.ev x)
 | .store t x v => (match o.dst with | none => storeU tb st t (st.ev x) (st.ev v) | some _ => none)
 | .call { callee := .builtin .append, argTypes := ts, args := args } => appendU tb st o.dst ts.toList (args.toList.map st.ev)
 | _ => none
def goOn (tb : Tb) (draw : Bool) (st : St) (o : Oper) (K : St → Res) (st' : St) : Res :=
 bif draw then (bif isBump tb o then (bif keepsPtr st' st.t && keepsPtrB st' st.b then K st'.canon else none) else (bif curAt st' o.dst then K st' else none)) else K st'
def stepK (E : Ev) (draw : Bool) (st : St) (o : Oper) (K : St → Res) : Res :=
 match o.op with
 | .call { callee := .value f, args, .. } => callK E.F E.sh draw st o.dst o.type (st.ev f) (args.toList.map st.ev) K
 | _ => (match stepU E.tb draw st o with
  | some (c, x, sh, f) => bif c then zOp x fun e => shVal sh e fun e' => goOn E.tb draw st o K (f e') else none
  | none => (match stepA E.tb draw st o with
   | some st' => goOn E.tb draw st o K st'
   | none => none))
inductive Gd where
 | free
 | at_ (t : Nat) (want : Bool)
 | bad
def guardOf (ops : Array Oper) (o : Oper) : Gd :=
 match o.guard with
 | none => .free
 | some (j, want) => match (ops[j]?).bind (·.dst) with
  | some t => .at_ t want
  | none => .bad
def runOps (E : Ev) (draw : Bool) (ops : Array Oper) (K : St → Res) : List Oper → St → Res
 | [], st => K st
 | o :: r, st =>
  match guardOf ops o with
  | .bad => none
  | .free => stepK E draw st o fun st' => runOps E draw ops K r st'
  | .at_ t true => (match st.get t with
   | .bool b => bif b then stepK E draw (st.put (some t) (.bool true)) o fun st' => runOps E draw ops K r st'
    else runOps E draw ops K r ((st.put (some t) (.bool false)).put o.dst (.tup []))
   | .tup [] => runOps E draw ops K r (st.put o.dst (.tup []))
   | _ => none)
  | .at_ t false => (match st.get t with
   | .bool b => bif b then runOps E draw ops K r ((st.put (some t) (.bool true)).put o.dst (.tup []))
    else stepK E draw (st.put (some t) (.bool false)) o fun st' => runOps E draw ops K r st'
   | .tup [] => runOps E draw ops K r (st.put o.dst (.tup []))
   | _ => none)
def headId : Code → Nat
 | .region id _ _ => id
 | .seq a _ => headId a
 | .block _ c => headId c
 | .loop c => headId c
 | .scope c => headId c
 | _ => 0
def without {α : Type} (dead : List Nat) : List (Nat × α) → List (Nat × α)
 | [] => []
 | (k, v) :: r => if dead.contains k then without dead r else (k, v) :: without dead r
def St.clean (dead : List Nat) (st : St) : St := { st with t := without dead st.t, b := without dead st.b, r := without dead st.r }
def St.norm (st : St) (v : AV) : AV :=
 match st.cur v with
 | .tip k _ s xs => .tip k 0 s xs
 | .ptr k _ off => .ptr k 0 off
 | .row k _ => .row k 0
 | .rowp k _ i => .rowp k 0 i
 | v => v
def normT (st : St) (kp : List Nat) : List (Nat × AV) → List (Nat × AV)
 | [] => []
 | (k, v) :: r => if kp.contains k then (k, st.norm v) :: normT st kp r else normT st kp r
def normB (st : St) : List (Nat × List AV) → List (Nat × List AV)
 | [] => []
 | (k, cs) :: r => (k, cs.map st.norm) :: normB st r
def St.fin (kp : List Nat) (st : St) : St := { nt := st.nt, t := normT st kp st.t, b := normB st st.b, r := st.r, g := [], rd := [], wr := [] }
inductive Ex where
 | normal
 | exit (id : Nat)
 | ret
def loopA (body : St → (Ex → St → Res) → Res) (dead : List Nat) (K : Ex → St → Res) : Nat → St → Res
 | 0, _ => none
 | n + 1, st => body (st.clean dead) fun e st' => match e with
  | .normal => loopA body dead K n st'
  | .exit id => K (.exit id) st'
  | .ret => K .ret st'
structure Fx where
 fn : Func
 kp : List Nat
 dead : List (Nat × List Nat)
 ls : List (Nat × (St → (Ex → St → Res) → Res))
 jn : List (Nat × List Nat)
noncomputable def joinP (g : St → Res) (st : St) : {p : (St → Res) × St // p = (g, st)} := Classical.choice ⟨⟨(g, st), rfl⟩⟩
noncomputable def joinA (id : Nat) (g : St → Res) (st : St) : Res := (joinP g st).1.1 (joinP g st).1.2
theorem joinA_eq (id : Nat) (g : St → Res) (st : St) : joinA id g st = g st := by
 unfold joinA
 rw [(joinP g st).2]
noncomputable def joinK (fx : Fx) (id : Nat) (g : St → Res) (st : St) : Res := match find id fx.jn with | some l => joinA id g (st.clean l) | none => g st
def Fx.deadAt (fx : Fx) (c : Code) : List Nat := match find (headId c) fx.dead with | some l => l | none => []
noncomputable def evC (E : Ev) (fx : Fx) (n : Nat) : Code → St → (Ex → St → Res) → Res
 | .skip, st, K => K .normal st
 | .label _, st, K => K .normal st
 | .region id ops draw, st, K =>
  runOps E draw ops (fun st' => joinK fx id (K .normal) (st'.fin fx.kp)) ops.toList (bif draw then st.canon else st)
 | .seq a b, st, K => evC E fx n a st fun e st' => match e with
  | .normal => evC E fx n b st' K
  | .exit id => K (.exit id) st'
  | .ret => K .ret st'
 | .cond c a b, st, K => (match st.ev c with
  | .bool t => bif t then evC E fx n a st K else evC E fx n b st K
  | _ => none)
 | .block id c, st, K => evC E fx n c st fun e st' => match e with
  | .normal => K .normal st'
  | .exit id' => if id' = id then K .normal st' else K (.exit id') st'
  | .ret => K .ret st'
 | .loop c, st, K => (match find (headId c) fx.ls with
  | some LS => LS st K
  | none => loopA (evC E fx n c) (fx.deadAt c) K n st)
 | .exit id, st, K => K (.exit id) st
 | .ret, st, K => K .ret st
 | _, _, _ => none
def St.datR (st : St) (v : AV) : Option AV :=
 match v with
 | .ptr k g 0 =>
  if g = st.gen k ∧ k < 1000000 then (match find k st.b with
   | some cs => (match datAll (cs.map st.cur) with | some l => some (.rp l.length (.agg l) 0) | none => none)
   | none => none) else none
 | .rowp k g 0 =>
  if g = st.gen k then (match find k st.r with
   | some xs => some (.rp xs.length (.agg xs) 0)
   | none => none) else none
 | v => v.dat
def resA (tb : Tb) (st : St) : List ResultVar → Option (List AV)
 | [] => some []
 | .tmp t :: r => (match st.datR (st.get t), resA tb st r with | some v, some l => some (v :: l) | _, _ => none)
 | .cell a t :: r => (match loadA tb false st t (st.cur (st.get a)) with
  | some (v, _) => (match v.dat, resA tb st r with | some v, some l => some (v :: l) | _, _ => none)
  | none => none)
def paramKeys (n : Nat) : List Nat := (List.range n).map (1000000 + ·)
def argT (i : Nat) : List AV → List (Nat × AV)
 | [] => []
 | .ptr k _ off :: r => (i, .ptr (1000000 + k) 0 off) :: argT (i + 1) r
 | v :: r => (i, v) :: argT (i + 1) r
def boxB (i : Nat) : Boxes → List (Nat × List AV)
 | [] => []
 | cs :: r => (1000000 + i, cs) :: boxB (i + 1) r
abbrev Over := List AV → Boxes → Option (AV × Boxes)
structure Prg where
 f : Nat → Option (Fx ⊕ Over)
 tb : Tb
 sh : List (Nat × Sh)
def endA (tb : Tb) (fn : Func) (nb : Nat) (st : St) : Res :=
 match resA tb st fn.results.toList, st.boxesAt (paramKeys nb) with
 | some [v], some bs => some (v, bs)
 | some l, some bs => some (.tup l, bs)
 | _, _ => none
def startA (nt : Nat) (args : List AV) (bs : Boxes) : St := { nt := nt, t := argT 0 args, b := boxB 0 bs, r := [], g := [], rd := [], wr := [] }
def endK (tb : Tb) (fn : Func) (nb : Nat) : Ex → St → Res
 | .exit _, _ => none
 | .normal, st => endA tb fn nb st
 | .ret, st => endA tb fn nb st
noncomputable def evFn (F : Fns) (tb : Tb) (sh : List (Nat × Sh)) (fx : Fx) (n : Nat) (args : List AV) (bs : Boxes) : Res :=
 match fx.fn.body with
 | some c => if args.length = fx.fn.params.size ∧ fx.fn.params.size ≤ fx.fn.ntmps ∧ fx.fn.nfree = 0 then
   evC ⟨F, tb, sh⟩ fx n c (startA fx.fn.ntmps args bs) (endK tb fx.fn bs.length)
   else none
 | none => none
noncomputable def evF (pr : Prg) : Nat → Fns
 | 0, f, args, bs => (match pr.f f with
  | some (.inr g) => g args bs
  | _ => none)
 | k + 1, f, args, bs => (match pr.f f with
  | some (.inl fx) => evFn (evF pr k) pr.tb pr.sh fx k args bs
  | some (.inr g) => g args bs
  | none => none)
theorem find_put_same {α : Type} (k : Nat) (v : α) : ∀ l : List (Nat × α), find k (put k v l) = some v
 | [] => by simp [put, find]
 | (m, u) :: r => by
  unfold put
  split
  ·simp [find]
  ·split
   ·simp [find]
   ·simp only [find, *, if_false]
    exact find_put_same k v r
theorem find_put_ne {α : Type} {j k : Nat} (h : j ≠ k) (v : α) : ∀ l : List (Nat × α), find j (put k v l) = find j l
 | [] => by simp [put, find, h]
 | (m, u) :: r => by
  unfold put
  split
  ·rename_i e
   subst e
   simp [find, h]
  ·split
   ·simp [find, h]
   ·simp only [find]
    split
    ·rfl
    ·exact find_put_ne h v r
abbrev Dead := Nat → Nat → Prop
def Pres (D : Dead) (w w' : World) : Prop := ∀ b o, D b o → w'.cell? ⟨b, o, none⟩ = w.cell? ⟨b, o, none⟩
inductive RepD (w : World) (D : Dead) : AV → Value → Prop
 | int (k : IntKind) (n : Int) : RepD w D (.int k n) (.int k n)
 | bool (b : Bool) : RepD w D (.bool b) (.bool b)
 | str (l : List UInt8) (s : ByteArray) (h : s.data.toList = l) : RepD w D (.str l) (.string s)
 | agg (cs : List AV) (vs : Array Value) (hn : vs.size = cs.length) (h1 : ∀ c ∈ cs, c.cell1 = true) (h : ∀ (i : Nat) (c : AV) (v : Value), cs[i]? = some c → vs[i]? = some v → RepD w D c v) : RepD w D (.agg cs) (.agg vs)
 | slN (s : Nat) (full : Bool) (A : Option Addr) (cap : Nat) (hf : full = true → cap = 0) : RepD w D (.sl s full []) (.slice A 0 cap)
 | sl (s : Nat) (full : Bool) (xs : List AV) (b o cap : Nat) (f : Nat → Nat → Value) (hlc : xs.length ≤ cap) (hf : full = true → cap = xs.length)
   (hs : ∀ (i : Nat) (e : AV), xs[i]? = some e → e.cells.length = s)
   (hc : ∀ (i : Nat) (e : AV) (j : Nat) (c : AV), xs[i]? = some e → e.cells[j]? = some c → c.cell1 = true ∧ D b (o + (i * s + j)) ∧ w.cell? ⟨b, o + (i * s + j), none⟩ = some (f i j))
   (hr : ∀ (i : Nat) (e : AV) (j : Nat) (c : AV), xs[i]? = some e → e.cells[j]? = some c → RepD w D c (f i j)) : RepD w D (.sl s full xs) (.slice (some ⟨b, o, none⟩) xs.length cap)
 | rp (s : Nat) (e : AV) (j b o : Nat) (f : Nat → Value) (hs : e.cells.length = s)
   (hc : ∀ (j : Nat) (c : AV), e.cells[j]? = some c → c.cell1 = true ∧ D b (o + j) ∧ w.cell? ⟨b, o + j, none⟩ = some (f j))
   (hr : ∀ (j : Nat) (c : AV), e.cells[j]? = some c → RepD w D c (f j)) : RepD w D (.rp s e j) (.pointer (some ⟨b, o + j, none⟩))
 | nilp : RepD w D .nilp (.pointer none)
 | fn (f : Nat) : RepD w D (.fn f) (.func (.func f) #[] #[])
 | nilfn : RepD w D .nilfn .nilFunc
 | iface (t : Nat) (v : AV) (cv : Value) (h : RepD w D v cv) : RepD w D (.iface t v) (.iface t cv)
 | nili : RepD w D .nili .nilIface
theorem RepD.mono {w w' : World} {D D' : Dead} (hp : Pres D w w') (hd : ∀ b o, D b o → D' b o) {a : AV} {v : Value} (h : RepD w D a v) : RepD w' D' a v := by
 induction h with
 | int k n => exact .int k n
 | bool b => exact .bool b
 | str l s h => exact .str l s h
 | agg cs vs hn h1 h ih => exact .agg cs vs hn h1 ih
 | slN s full A cap hf => exact .slN s full A cap hf
 | sl s full xs b o cap f hlc hf hs hc hr ih =>
  exact .sl s full xs b o cap f hlc hf hs (fun i e j c hi hj => ⟨(hc i e j c hi hj).1, hd _ _ (hc i e j c hi hj).2.1, (hp _ _ (hc i e j c hi hj).2.1).trans (hc i e j c hi hj).2.2⟩) ih
 | rp s e j b o f hs hc hr ih =>
  exact .rp s e j b o f hs (fun j c hj => ⟨(hc j c hj).1, hd _ _ (hc j c hj).2.1, (hp _ _ (hc j c hj).2.1).trans (hc j c hj).2.2⟩) ih
 | nilp => exact .nilp
 | fn f => exact .fn f
 | nilfn => exact .nilfn
 | iface t v cv h ih => exact .iface t v cv ih
 | nili => exact .nili
theorem RepD.one {w : World} {D : Dead} {a : AV} {v : Value} (h : RepD w D a v) (h1 : a.cell1 = true) : v.oneCell' = true := by
 cases h <;> first | rfl | (simp [AV.cell1] at h1)
theorem RepD.unfull {w : World} {D : Dead} {s : Nat} {full : Bool} {xs : List AV} {v : Value} (h : RepD w D (.sl s full xs) v) : RepD w D (.sl s false xs) v := by
 cases h with
 | slN _ _ A cap hf => exact .slN s false A cap (by simp)
 | sl _ _ _ b o cap f hlc hf hs hc hr => exact .sl s false xs b o cap f hlc (by simp) hs hc hr
structure Gh where
 bx : Nat → Nat
 rw : Nat → Nat
 tp : Nat → Nat
 own : Nat → Option (Nat × Nat)
def TipOk (γ : Gh) (w : World) (D : Dead) (k s : Nat) (xs : List AV) (v : Value) : Prop :=
 ∃ A cap, v = .slice A xs.length cap ∧ (cap = xs.length ∨
  (A = some ⟨γ.tp k, 0, none⟩ ∧ γ.own (γ.tp k) = some (2, k) ∧ xs.length ≤ cap ∧ (∀ o, o < cap * s → (w.cell? ⟨γ.tp k, o, none⟩).isSome = true ∧ w.frozen? ⟨γ.tp k, o, none⟩ = false) ∧ ∀ o, D (γ.tp k) o → o < xs.length * s))
def RepV (γ : Gh) (w : World) (D : Dead) (st : St) : AV → Value → Prop
 | .undef, _ => True
 | .ptr k g off, v => g ≤ st.gen k ∧ (g = st.gen k → v = .pointer (some ⟨γ.bx k, off, none⟩))
 | .row k g, v => g ≤ st.gen k ∧ (g = st.gen k → ∀ xs, find k st.r = some xs → v = .slice (some ⟨γ.rw k, 0, none⟩) xs.length xs.length)
 | .rowp k g i, v => g ≤ st.gen k ∧ (g = st.gen k → v = .pointer (some ⟨γ.rw k, i, none⟩))
 | .tip k g s xs, v => g ≤ st.gen k ∧ RepD w D (.sl s false xs) v ∧ (g = st.gen k → TipOk γ w D k s xs v)
 | .tup vs, v => ∃ arr : Array Value, v = .tuple arr ∧ arr.size = vs.length ∧ ∀ (i : Nat) (c : AV) (cv : Value), vs[i]? = some c → arr[i]? = some cv → RepD w D c cv
 | a, v => RepD w D a v
theorem RepV.of {γ : Gh} {w : World} {D : Dead} {st : St} {a : AV} {v : Value} (h : RepD w D a v) : RepV γ w D st a v := by
 cases h <;> (unfold RepV; constructor <;> assumption)
theorem RepV.dat {γ : Gh} {w : World} {D : Dead} {st : St} {a b : AV} {v : Value} (h : RepV γ w D st a v) (hd : a.dat = some b) : RepD w D b v := by
 cases a <;> simp only [AV.dat, Option.some.injEq, reduceCtorEq] at hd <;> subst hd <;> first | exact h | exact h.2.1
theorem RepV.mono {γ γ' : Gh} {w w' : World} {D D' : Dead} {st st' : St} (hp : Pres D w w') (hd : ∀ b o, D b o → D' b o)
  (h1 : ∀ k, st.gen k ≤ st'.gen k)
  (h2 : ∀ k, st'.gen k = st.gen k → γ'.bx k = γ.bx k ∧ γ'.rw k = γ.rw k ∧ (∀ xs', find k st'.r = some xs' → ∃ xs, find k st.r = some xs ∧ xs.length = xs'.length) ∧ (∀ s xs v, TipOk γ w D k s xs v → TipOk γ' w' D' k s xs v))
  {a : AV} {v : Value} (h : RepV γ w D st a v) : RepV γ' w' D' st' a v := by
 have key : ∀ {g k : Nat}, g ≤ st.gen k → g = st'.gen k → g = st.gen k ∧ st'.gen k = st.gen k := fun {g k} hg e => by have := h1 k; omega
 cases a with
 | undef => trivial
 | ptr k g off =>
  refine ⟨Nat.le_trans h.1 (h1 k), fun e => ?_⟩
  obtain ⟨e1, e2⟩ := key h.1 e
  rw [(h2 k e2).1]
  exact h.2 e1
 | row k g =>
  refine ⟨Nat.le_trans h.1 (h1 k), fun e xs' hx => ?_⟩
  obtain ⟨e1, e2⟩ := key h.1 e
  obtain ⟨xs, hxs, hl⟩ := (h2 k e2).2.2.1 xs' hx
  rw [(h2 k e2).2.1, ← hl]
  exact h.2 e1 xs hxs
 | rowp k g i =>
  refine ⟨Nat.le_trans h.1 (h1 k), fun e => ?_⟩
  obtain ⟨e1, e2⟩ := key h.1 e
  rw [(h2 k e2).2.1]
  exact h.2 e1
 | tip k g s xs =>
  refine ⟨Nat.le_trans h.1 (h1 k), RepD.mono hp hd h.2.1, fun e => ?_⟩
  obtain ⟨e1, e2⟩ := key h.1 e
  exact (h2 k e2).2.2.2 _ _ _ (h.2.2 e1)
 | tup vs =>
  obtain ⟨arr, e, hn, hh⟩ := h
  exact ⟨arr, e, hn, fun i c cv hi hj => (hh i c cv hi hj).mono hp hd⟩
 | _ => exact RepD.mono hp hd h
structure Ctx where
 w : World
 pb : List Nat      -- the blocks of the boxes that came in
 D : Dead
structure Frame (c : Ctx) (w : World) : Prop where
 os : w.os = c.w.os
 tape : w.tape = c.w.tape
 output : w.output = c.w.output
 size : c.w.heap.size ≤ w.heap.size
 block : ∀ b, b < c.w.heap.size → b ∉ c.pb → w.heap[b]? = c.w.heap[b]?
structure Inv (c : Ctx) (γ : Gh) (D : Dead) (st : St) (a : Act) (w : World) : Prop where
 nt : a.tmps.size = st.nt
 dfr : a.defers = []
 tm : ∀ t, RepV γ w D st (st.get t) (a.tmps.getD t undef)
 bx : ∀ k cs, find k st.b = some cs → γ.own (γ.bx k) = some (0, k) ∧ ∃ vs E, w.heap[γ.bx k]? = some (.cells vs E (0, 0)) ∧ vs.size = cs.length ∧ ∀ (i : Nat) (c : AV) (v : Value), cs[i]? = some c → vs[i]? = some v → RepV γ w D st c v ∧ (c = .undef ∨ c.cell1 = true)
 rw : ∀ k xs, find k st.r = some xs → γ.own (γ.rw k) = some (1, k) ∧ ∃ vs E, w.heap[γ.rw k]? = some (.cells vs E (0, 0)) ∧ vs.size = xs.length ∧ ∀ (i : Nat) (c : AV) (v : Value), xs[i]? = some c → vs[i]? = some v → RepD w D c v ∧ c.cell1 = true
 own : ∀ b q, γ.own b = some q → b < w.heap.size ∧ (c.w.heap.size ≤ b ∨ (b ∈ c.pb ∧ q.1 = 0))
 live : ∀ b k, (γ.own b = some (0, k) ∨ γ.own b = some (1, k)) → ∀ o, ¬ D b o
 fr : Frame c w
 dold : ∀ b o, b < c.w.heap.size → (D b o ↔ c.D b o)
 dlt : ∀ b o, D b o → b < w.heap.size
 pk : ∀ n, n < c.pb.length → γ.bx (1000000 + n) = c.pb.getD n 0
theorem St.get_put (st : St) (d : Nat) (v : AV) (t : Nat) : (st.put (some d) v).get t = if t = d ∧ d < st.nt then v else st.get t := by
 unfold St.put
 simp only
 split
 ·rename_i h
  unfold St.get
  simp only
  by_cases e : t = d
  ·subst e
   simp [find_put_same, h]
  ·simp [find_put_ne e, e]
 ·rename_i h
  simp [h]
theorem St.gen_put (st : St) (d : Option Nat) (v : AV) (k : Nat) : (st.put d v).gen k = st.gen k := by
 cases d with
 | none => rfl
 | some d => unfold St.put; simp only; split <;> rfl
theorem St.b_put (st : St) (d : Option Nat) (v : AV) : (st.put d v).b = st.b := by
 cases d with
 | none => rfl
 | some d => unfold St.put; simp only; split <;> rfl
theorem St.r_put (st : St) (d : Option Nat) (v : AV) : (st.put d v).r = st.r := by
 cases d with
 | none => rfl
 | some d => unfold St.put; simp only; split <;> rfl
theorem St.nt_put (st : St) (d : Option Nat) (v : AV) : (st.put d v).nt = st.nt := by
 cases d with
 | none => rfl
 | some d => unfold St.put; simp only; split <;> rfl
theorem RepV.st {γ : Gh} {w : World} {D : Dead} {st st' : St} (hg : ∀ k, st'.gen k = st.gen k) (hr : st'.r = st.r) {a : AV} {v : Value} (h : RepV γ w D st a v) : RepV γ w D st' a v :=
 RepV.mono (fun _ _ _ => rfl) (fun _ _ h => h) (fun k => Nat.le_of_eq (hg k).symm) (fun k _ => ⟨rfl, rfl, fun xs h => ⟨xs, hr ▸ h, rfl⟩, fun _ _ _ h => h⟩) h
theorem Act.getD_put (a : Act) (d : Nat) (v : Value) (t : Nat) : (a.put (some d) v).tmps.getD t undef = if t = d ∧ d < a.tmps.size then v else a.tmps.getD t undef := by
 simp only [Act.put, Array.getD_eq_getD_getElem?, Array.getElem?_setIfInBounds]
 by_cases e : d = t
 ·subst e
  by_cases h : d < a.tmps.size
  ·simp [h]
  ·simp [h]
 ·simp [e, Ne.symm e]
theorem Inv.put {c : Ctx} {γ : Gh} {D : Dead} {st : St} {a : Act} {w : World} (h : Inv c γ D st a w) {v : AV} {cv : Value} (hv : RepV γ w D st v cv) (dst : Option Nat) :
  Inv c γ D (st.put dst v) (a.put dst cv) w := by
 have hg := St.gen_put st dst v
 have hr := St.r_put st dst v
 refine ⟨?_, ?_, ?_, ?_, ?_, h.own, h.live, h.fr, h.dold, h.dlt, h.pk⟩
 ·rw [St.nt_put]
  cases dst <;> simp [Act.put, h.nt]
 ·cases dst <;> exact h.dfr
 ·intro t
  cases dst with
  | none => exact h.tm t
  | some d =>
   refine RepV.st (st := st) hg hr ?_
   rw [St.get_put, Act.getD_put, h.nt]
   split
   ·exact hv
   ·exact h.tm t
 ·intro k cs hk
  rw [St.b_put] at hk
  obtain ⟨h1, vs, E, h2, h3, h4⟩ := h.bx k cs hk
  exact ⟨h1, vs, E, h2, h3, fun i c v hi hj => ⟨RepV.st hg hr (h4 i c v hi hj).1, (h4 i c v hi hj).2⟩⟩
 ·intro k xs hk
  rw [St.r_put] at hk
  exact h.rw k xs hk
theorem RepD.ofVal1 {w : World} {D : Dead} {γ : Gh} {st : St} (v : Value) : RepV γ w D st (ofVal1 v) v := by
 unfold AM.ofVal1
 split
 ·exact .of (.int _ _)
 ·exact .of (.bool _)
 ·exact .of (.str _ _ rfl)
 ·exact .of .nilp
 ·exact .of (.slN _ _ _ _ (by simp))
 ·exact .of .nili
 ·exact .of .nilfn
 ·trivial
theorem RepV.ofVal {w : World} {D : Dead} {γ : Gh} {st : St} (v : Value) : RepV γ w D st (ofVal v) v := by
 unfold AM.ofVal
 split
 ·rename_i cs
  split
  ·rename_i hall
   refine .of (.agg _ _ (by simp) (fun c hc => ?_) (fun i c v hi hj => ?_))
   ·exact List.all_eq_true.1 hall c hc
   ·have hc1 : c.cell1 = true := List.all_eq_true.1 hall c (List.mem_of_getElem? hi)
    rw [List.getElem?_map] at hi
    rw [Array.getElem?_toList, hj] at hi
    simp only [Option.map_some, Option.some.injEq] at hi
    subst hi
    have := RepD.ofVal1 (w := w) (D := D) (γ := ⟨id, id, id, fun _ => none⟩) (st := ⟨0, [], [], [], [], [], []⟩) v
    unfold ofVal1 at *
    split at this <;> first | exact this | (simp [AV.cell1] at hc1)
  ·trivial
 ·exact RepD.ofVal1 _
theorem RepV.cur {γ : Gh} {w : World} {D : Dead} {st : St} {a : AV} {v : Value} (h : RepV γ w D st a v) : RepV γ w D st (st.cur a) v := by
 cases a <;> simp only [St.cur] <;> try exact h
 all_goals
  split
  ·exact h
  ·first | trivial | exact h.2.1
theorem Inv.ev {c : Ctx} {γ : Gh} {D : Dead} {st : St} {a : Act} {w : World} (h : Inv c γ D st a w) (x : Operand) : RepV γ w D st (st.ev x) (a.eval x) := by
 cases x with
 | tmp t => exact (h.tm t).cur
 | const v => exact RepV.ofVal v
 | global g => trivial
 | func f => exact .of (.fn f)
def St.isCur (st : St) : AV → Prop
 | .tip k g _ _ => g = st.gen k
 | .ptr k g _ => g = st.gen k
 | .row k g => g = st.gen k
 | .rowp k g _ => g = st.gen k
 | _ => True
theorem St.cur_isCur (st : St) (v : AV) : st.isCur (st.cur v) := by
 cases v <;> simp only [St.cur] <;> first | trivial | (split <;> first | trivial | assumption)
theorem ofVal_isCur (st : St) (v : Value) : st.isCur (ofVal v) := by
 unfold ofVal
 split
 ·split <;> trivial
 ·unfold ofVal1
  split <;> trivial
theorem St.ev_isCur (st : St) (x : Operand) : st.isCur (st.ev x) := by
 cases x with
 | tmp t => exact st.cur_isCur _
 | const v => exact ofVal_isCur st v
 | global g => trivial
 | func f => trivial
def kindOf (P : Program) : TypeDesc → Option TK
 | .int k => some (.int k)
 | .bool => some .bool
 | .string => some .str
 | .struct fs => if fs.all (fun f => P.cellsOf f.type != 0) then some (.struct (fs.toList.map fun f => (f.offset, f.type))) else none
 | .array n e => if P.cellsOf e != 0 then some (.arr n e) else none
 | .slice e => some (.sl e)
 | .pointer _ => some .ptr
 | .func .. | .interface _ => some .other
 | _ => none
def structEqB (P : Program) (t : Nat) (d : TypeDesc) : Bool := match d with
 | .struct fs => !(fs.toList.all fun f => P.plainKey f.type) || (!P.stoodInHeld t && !P.eqGuardType P.depth t && fs.toList.all fun f => f.name != "_")
 | _ => true
def tyOf (P : Program) (t : Nat) : Option TI :=
 match P.info? t, P.underlying t with
 | some i, some d => match (if structEqB P t d = true then kindOf P d else none) with
  | some k => some ⟨k, i.size, i.bytes, match i.zero with | some z => ofVal z | none => .undef⟩
  | none => none
 | _, _ => none
def TbOk (P : Program) (tb : Tb) : Prop := ∀ t ti, find t tb = some ti → tyOf P t = some ti
def TbAll (P : Program) : Tb → Prop
 | [] => True
 | (t, ti) :: r => tyOf P t = some ti ∧ TbAll P r
theorem TbOk.of_all {P : Program} : ∀ {tb : Tb}, TbAll P tb → TbOk P tb
 | [], _, t, ti, h => by simp [find] at h
 | (u, ui) :: r, ha, t, ti, h => by
  simp only [find] at h
  split at h
  ·rename_i e
   subst e
   simp only [Option.some.injEq] at h
   subst h
   exact ha.1
  ·exact TbOk.of_all ha.2 t ti h
section
variable {P : Program} {t : Nat} {ti : TI}
theorem tyOf.parts (h : tyOf P t = some ti) : ∃ i d, P.info? t = some i ∧ P.underlying t = some d ∧ kindOf P d = some ti.k ∧ i.size = ti.sz ∧ i.bytes = ti.bytes ∧ (∀ z, i.zero = some z → ofVal z = ti.z) ∧ (i.zero = none → ti.z = .undef) := by
 unfold tyOf at h
 split at h
 ·rename_i i d hi hd
  split at h
  ·rename_i k hk
   have hk : kindOf P d = some k := by
    split at hk
    ·exact hk
    ·simp at hk
   simp only [Option.some.injEq] at h
   subst h
   refine ⟨i, d, hi, hd, hk, rfl, rfl, fun z hz => by simp [hz], fun hz => by simp [hz]⟩
  ·simp at h
 ·simp at h
theorem tyOf.structEq (h : tyOf P t = some ti) {d : TypeDesc} (hd : P.underlying t = some d) : structEqB P t d = true := by
 unfold tyOf at h
 split at h
 ·rename_i i d' hi hd'
  rw [hd] at hd'
  simp only [Option.some.injEq] at hd'
  subst hd'
  split at h
  ·rename_i k hk
   split at hk
   ·assumption
   ·simp at hk
  ·simp at h
 ·simp at h
theorem run_typeInfo' (w : World) {i : TypeInfo} (h : P.info? t = some i) : (typeInfo t).run P w = .ok i w := by
 simp [typeInfo, h]
theorem run_underlying' (w : World) {d : TypeDesc} (h : P.underlying t = some d) : (underlying t).run P w = .ok d w := by
 simp [underlying, h]
theorem ty_size (h : tyOf P t = some ti) (w : World) : (sizeOf t).run P w = .ok ti.sz w := by
 obtain ⟨i, d, hi, _, _, hs, _⟩ := tyOf.parts h
 simp [sizeOf, run_typeInfo' w hi, hs]
theorem ty_cells (h : tyOf P t = some ti) : P.cellsOf t = ti.sz := by
 obtain ⟨i, d, hi, _, _, hs, _⟩ := tyOf.parts h
 simp [Program.cellsOf, hi, hs]
theorem ty_agg (h : tyOf P t = some ti) (w : World) : (isAgg t).run P w = .ok ti.isAgg w := by
 obtain ⟨i, d, _, hd, hk, _⟩ := tyOf.parts h
 unfold isAgg TI.isAgg
 simp only [Sem.run_bind, run_underlying' w hd, Result.andThen_ok]
 cases d <;> simp only [kindOf] at hk <;> first
  | (simp only [Option.some.injEq] at hk; rw [← hk]; rfl)
  | (split at hk <;> first | (simp only [Option.some.injEq] at hk; rw [← hk]; rfl) | (simp at hk))
  | (simp at hk)
theorem ty_zero (h : tyOf P t = some ti) (hz : ti.z ≠ .undef) (w : World) : ∃ z, (zeroValue t).run P w = .ok z w ∧ ofVal z = ti.z := by
 obtain ⟨i, d, hi, _, _, _, _, h1, h2⟩ := tyOf.parts h
 cases hzz : i.zero with
 | none => exact absurd (h2 hzz) hz
 | some z => exact ⟨z, by simp [zeroValue, run_typeInfo' w hi, hzz], h1 z hzz⟩
theorem ty_sl {e : Nat} (h : tyOf P t = some ti) (hk : ti.k = .sl e) : P.underlying t = some (.slice e) := by
 obtain ⟨i, d, _, hd, hk', _⟩ := tyOf.parts h
 rw [hd]
 rw [hk] at hk'
 cases d <;> simp only [kindOf] at hk' <;> first | (simp at hk'; done) | (split at hk' <;> simp at hk'; done) | (simp at hk'; subst hk'; rfl)
theorem ty_arr {n e : Nat} (h : tyOf P t = some ti) (hk : ti.k = .arr n e) : P.underlying t = some (.array n e) := by
 obtain ⟨i, d, _, hd, hk', _⟩ := tyOf.parts h
 rw [hd]
 rw [hk] at hk'
 cases d <;> simp only [kindOf] at hk' <;> first | (simp at hk'; done) | (split at hk' <;> simp at hk'; done) | (split at hk' <;> simp at hk'; obtain ⟨rfl, rfl⟩ := hk'; rfl)
theorem ty_int {k : IntKind} (h : tyOf P t = some ti) (hk : ti.k = .int k) : P.underlying t = some (.int k) := by
 obtain ⟨i, d, _, hd, hk', _⟩ := tyOf.parts h
 rw [hd]
 rw [hk] at hk'
 cases d <;> simp only [kindOf] at hk' <;> first | (simp at hk'; done) | (split at hk' <;> simp at hk'; done) | (simp at hk'; subst hk'; rfl)
theorem ty_str (h : tyOf P t = some ti) (hk : ti.k = .str) : P.underlying t = some .string := by
 obtain ⟨i, d, _, hd, hk', _⟩ := tyOf.parts h
 rw [hd]
 rw [hk] at hk'
 cases d <;> simp only [kindOf] at hk' <;> first | rfl | (simp at hk'; done) | (split at hk' <;> simp at hk'; done)
theorem ty_struct {fs : List (Nat × Nat)} (h : tyOf P t = some ti) (hk : ti.k = .struct fs) :
  ∃ arr : Array Field, P.underlying t = some (.struct arr) ∧ fs = arr.toList.map (fun f => (f.offset, f.type)) ∧ ∀ f ∈ arr, P.cellsOf f.type ≠ 0 := by
 obtain ⟨i, d, _, hd, hk', _⟩ := tyOf.parts h
 rw [hk] at hk'
 cases d <;> simp only [kindOf] at hk' <;> try (first | (simp at hk'; done) | (split at hk' <;> simp at hk'; done))
 rename_i arr
 refine ⟨arr, hd, ?_⟩
 split at hk'
 ·rename_i ha
  simp only [Option.some.injEq, TK.struct.injEq] at hk'
  refine ⟨hk'.symm, fun f hf => ?_⟩
  have := (Array.all_eq_true_iff_forall_mem.1 ha) f hf
  simpa using this
 ·simp at hk'
end
theorem datAll_spec : ∀ {cs l : List AV}, datAll cs = some l → l.length = cs.length ∧ ∀ (i : Nat) (c : AV), cs[i]? = some c → ∃ d, l[i]? = some d ∧ c.dat = some d
 | [], l, h => by
  simp only [datAll, Option.some.injEq] at h
  subst h
  simp
 | c :: r, l, h => by
  simp only [datAll] at h
  split at h
  ·rename_i a l' ha hl
   simp only [Option.some.injEq] at h
   subst h
   obtain ⟨h1, h2⟩ := datAll_spec hl
   refine ⟨by simp [h1], fun i x hx => ?_⟩
   cases i with
   | zero => simp at hx; subst hx; exact ⟨a, rfl, ha⟩
   | succ i => simp at hx; simpa using h2 i x hx
  ·simp at h
theorem dat_cell1 {c d : AV} (h : c.dat = some d) (h1 : c.cell1 = true) : d.cell1 = true := by
 cases c <;> simp only [AV.dat, Option.some.injEq, reduceCtorEq] at h <;> subst h <;> first | rfl | exact h1
theorem addr_add (b o n : Nat) : (⟨b, o, none⟩ : Addr).add n = ⟨b, o + n, none⟩ := by
 unfold Addr.add
 split <;> simp_all
theorem load_view {P : Program} {w : World} {D : Dead} {γ : Gh} {st : St} {t : Nat} {ti : TI} (ht : tyOf P t = some ti) {cs : List AV} {f : Nat → Value} {b base off : Nat} {av : AV}
  (hv : ∀ (j : Nat) (c : AV), cs[j]? = some c → w.cell? ⟨b, base + j, none⟩ = some (f j) ∧ RepV γ w D st c (f j) ∧ (c = .undef ∨ c.cell1 = true)) (hp : partOf ti cs off = some av) :
  ∃ cv, (loadVar t ⟨b, base + off, none⟩).run P w = .ok cv w ∧ RepV γ w D st av cv ∧ ((ti.isAgg = false → av = .undef ∨ av.cell1 = true)) := by
 unfold partOf at hp
 unfold loadVar
 simp only [Sem.run_bind, ty_agg ht, Result.andThen_ok]
 split at hp
 ·rename_i hagg
  split at hp
  ·rename_i hlen
   split at hp
   ·rename_i l hl
    simp only [Option.some.injEq] at hp
    subst hp
    obtain ⟨hl1, hl2⟩ := datAll_spec hl
    have hln : l.length = ti.sz := by simp [hl1]; omega
    have hrun : (loadCells ⟨b, base + off, none⟩ ti.sz).run P w = .ok ((List.range ti.sz).map fun j => f (off + j)).toArray w :=
     run_loadCells w _ _ (fun j => f (off + j)) fun j hj => by
      rw [addr_add, Nat.add_assoc]
      have hlt : off + j < cs.length := by omega
      exact (hv (off + j) cs[off + j] (List.getElem?_eq_getElem hlt)).1
    refine ⟨.agg ((List.range ti.sz).map fun j => f (off + j)).toArray, ?_, ?_, by simp [hagg]⟩
    ·simp [hagg, ty_size ht, hrun]
    ·refine .of (.agg _ _ (by simp [hln]) (fun c hc => ?_) (fun i c v hi hj => ?_))
     ·obtain ⟨i, hi⟩ := List.getElem?_of_mem hc
      have hi' : i < l.length := (List.getElem?_eq_some_iff.1 hi).1
      have hlt : off + i < cs.length := by omega
      obtain ⟨d, hd1, hd2⟩ := hl2 i cs[off + i] (by simp [List.getElem?_take, List.getElem?_drop, show i < ti.sz by omega, List.getElem?_eq_getElem hlt])
      rw [hi] at hd1
      simp only [Option.some.injEq] at hd1
      subst hd1
      rcases (hv (off + i) cs[off + i] (List.getElem?_eq_getElem hlt)).2.2 with h | h
      ·rw [h] at hd2; simp [AV.dat] at hd2
      ·exact dat_cell1 hd2 h
     ·have hi' : i < l.length := (List.getElem?_eq_some_iff.1 hi).1
      have hlt : off + i < cs.length := by omega
      obtain ⟨d, hd1, hd2⟩ := hl2 i cs[off + i] (by simp [List.getElem?_take, List.getElem?_drop, show i < ti.sz by omega, List.getElem?_eq_getElem hlt])
      rw [hi] at hd1
      simp only [Option.some.injEq] at hd1
      subst hd1
      have hv' : v = f (off + i) := by
       simp [show i < ti.sz by omega] at hj
       exact hj.symm
      subst hv'
      exact RepV.dat (hv (off + i) cs[off + i] (List.getElem?_eq_getElem hlt)).2.1 hd2
   ·simp at hp
  ·simp at hp
 ·rename_i hagg
  obtain ⟨h1, h2, h3⟩ := hv off av hp
  refine ⟨f off, ?_, h2, fun _ => h3⟩
  simp [hagg, h1]
def Gives (P : Program) (c : Ctx) (o : Oper) (a : Act) (w : World) (st' : St) : Prop :=
  ∃ cv w', ((execOp a.eval o).run P w = .ok (.value cv) w' ∨ ((execOp a.eval o).run P w = .ok .skip w' ∧ cv = Go.undef)) ∧ ∃ γ' D', Inv c γ' D' st' (a.put o.dst cv) w'
section
variable {P : Program} {c : Ctx} {γ : Gh} {D : Dead} {st : St} {a : Act} {w : World} {tb : Tb}
theorem gives_put {o : Oper} (h : Inv c γ D st a w) {v : AV} {cv : Value} (hv : RepV γ w D st v cv) (hr : (execOp a.eval o).run P w = .ok (.value cv) w) : Gives P c o a w (st.put o.dst v) :=
  ⟨cv, w, .inl hr, γ, D, h.put hv o.dst⟩
theorem inv_int {k : IntKind} {n : Int} {v : Value} (h : RepV γ w D st (.int k n) v) : v = .int k n := by cases (show RepD w D _ v from h); rfl
theorem inv_bool {b : Bool} {v : Value} (h : RepV γ w D st (.bool b) v) : v = .bool b := by cases (show RepD w D _ v from h); rfl
theorem inv_str {l : List UInt8} {v : Value} (h : RepV γ w D st (.str l) v) : ∃ s, v = .string s ∧ s.data.toList = l := by
  cases (show RepD w D _ v from h) with
  | str _ s hs => exact ⟨s, rfl, hs⟩
theorem inv_agg {cs : List AV} {v : Value} (h : RepV γ w D st (.agg cs) v) : ∃ vs : Array Value, v = .agg vs ∧ vs.size = cs.length ∧ (∀ c ∈ cs, c.cell1 = true) ∧ ∀ (i : Nat) (c : AV) (v : Value), cs[i]? = some c → vs[i]? = some v → RepD w D c v := by
  cases (show RepD w D _ v from h) with
  | agg _ vs hn h1 hh => exact ⟨vs, rfl, hn, h1, hh⟩
theorem inv_fn {f : Nat} {v : Value} (h : RepV γ w D st (.fn f) v) : v = .func (.func f) #[] #[] := by cases (show RepD w D _ v from h); rfl
theorem inv_ptr {k g off : Nat} {v : Value} (h : RepV γ w D st (.ptr k g off) v) (hc : st.isCur (.ptr k g off)) : v = .pointer (some ⟨γ.bx k, off, none⟩) := h.2 hc
theorem inv_rp {s : Nat} {e : AV} {j : Nat} {v : Value} (h : RepV γ w D st (.rp s e j) v) : ∃ (b o : Nat) (f : Nat → Value), v = .pointer (some ⟨b, o + j, none⟩) ∧ e.cells.length = s ∧
    (∀ (j : Nat) (c : AV), e.cells[j]? = some c → c.cell1 = true ∧ D b (o + j) ∧ w.cell? ⟨b, o + j, none⟩ = some (f j)) ∧
    (∀ (j : Nat) (c : AV), e.cells[j]? = some c → RepD w D c (f j)) := by
  cases (show RepD w D _ v from h) with
  | rp _ _ _ b o f hs hc hr => exact ⟨b, o, f, rfl, hs, hc, hr⟩
theorem sound_move {o : Oper} (h : Inv c γ D st a w) (x : Operand) (ho : o.op = .move x ∨ o.op = .assign x) : Gives P c o a w (st.put o.dst (st.ev x)) := by
  refine gives_put h (h.ev x) ?_
  rcases ho with ho | ho <;> simp [execOp, ho]
theorem sound_pick {o : Oper} (h : Inv c γ D st a w) {x y z : Operand} (ho : o.op = .pick x y z) {t : Bool} (hx : st.ev x = .bool t) : Gives P c o a w (st.put o.dst (bif t then st.ev y else st.ev z)) := by
  have e := inv_bool (hx ▸ h.ev x)
  cases t
  · exact gives_put h (h.ev z) (by simp [execOp, ho, e, Go.asBool])
  · exact gives_put h (h.ev y) (by simp [execOp, ho, e, Go.asBool])
theorem sound_nilCheck {o : Oper} (h : Inv c γ D st a w) {x : Operand} (ho : o.op = .nilCheck x) {st' : St}
    (hs : (match st.ev x with | .ptr k g off => some (st.put o.dst (.ptr k g off)) | .rp s e j => some (st.put o.dst (.rp s e j)) | .fn f => some (st.put o.dst (.fn f)) | _ => none) = some st') : Gives P c o a w st' := by
  have hx := h.ev x
  have hc := st.ev_isCur x
  split at hs <;> simp only [Option.some.injEq, reduceCtorEq] at hs <;> subst hs
  · rename_i k g off e
    rw [e] at hx hc
    exact gives_put h hx (by simp [execOp, ho, inv_ptr hx hc])
  · rename_i s el j e
    rw [e] at hx
    obtain ⟨b, o', f, hv, _⟩ := inv_rp hx
    exact gives_put h hx (by simp [execOp, ho, hv])
  · rename_i f e
    rw [e] at hx
    exact gives_put h hx (by simp [execOp, ho, inv_fn hx])
theorem run_eqGuard_int (op : BinOp) (t : Nat) (x y : Operand) (k k' : IntKind) (m n : Int) : (eqGuard op t x y (.int k m) (.int k' n)).run P w = .ok () w := by
  unfold eqGuard
  split <;> simp
theorem run_eqGuard_str (op : BinOp) (t : Nat) (x y : Operand) (s s' : ByteArray) : (eqGuard op t x y (.string s) (.string s')).run P w = .ok () w := by
  unfold eqGuard
  split <;> simp
theorem intA_sound {op : BinOp} {k : IntKind} {m n : Int} {v : AV} (hv : intA op k m n = some v) (t : Nat) : ∃ cv, (binOp op t (.int k m) (.int k n)).run P w = .ok cv w ∧ RepV γ w D st v cv := by
  unfold intA at hv
  split at hv <;> try (simp only [Option.some.injEq, reduceCtorEq] at hv)
  all_goals first
    | (subst hv; exact ⟨_, by simp [binOp, Op.intArith, Op.intBits, Op.intCmp], .of (.int _ _)⟩)
    | (subst hv; exact ⟨_, by simp [binOp, Op.intArith, Op.intBits, Op.intCmp], .of (.bool _)⟩)
    | (split at hv
       · simp at hv
       · rename_i hne
         simp only [Option.some.injEq] at hv
         subst hv
         exact ⟨_, by simp [binOp, Op.intDiv, hne], .of (.int _ _)⟩)
theorem shiftA_sound {op : BinOp} {k k' : IntKind} {m n : Int} {v : AV} (hop : op = .shl ∨ op = .shr) (hv : shiftA op k m n = some v) (t : Nat) : ∃ cv, (binOp op t (.int k m) (.int k' n)).run P w = .ok cv w ∧ RepV γ w D st v cv := by
  unfold shiftA at hv
  split at hv
  · simp at hv
  · rename_i hn
    rcases hop with rfl | rfl <;> simp only [Option.some.injEq] at hv <;> subst hv
    · exact ⟨_, by simp [binOp, Op.shift, hn], .of (.int _ _)⟩
    · exact ⟨_, by simp [binOp, Op.shift, hn], .of (.int _ _)⟩
theorem strA_sound {op : BinOp} {s s' : ByteArray} {v : AV} (hv : strA op s.data.toList s'.data.toList = some v) (t : Nat) : ∃ cv, (binOp op t (.string s) (.string s')).run P w = .ok cv w ∧ RepV γ w D st v cv := by
  have htl : ∀ x : ByteArray, x.toList = x.data.toList := fun x => by
    exact ByteArray.toList_eq x
  unfold strA at hv
  split at hv <;> try (simp only [Option.some.injEq, reduceCtorEq] at hv)
  · split at hv
    · rename_i hle
      simp only [Option.some.injEq] at hv
      subst hv
      have hs : s.size = s.data.toList.length := by rw [Array.length_toList]; rfl
      have hs' : s'.size = s'.data.toList.length := by rw [Array.length_toList]; rfl
      have hmax : IntKind.i64.max = 9223372036854775807 := by decide
      refine ⟨.string (s ++ s'), ?_, .of (.str _ _ (by simp))⟩
      have : ¬ ((s.size + s'.size : Nat) : Int) > IntKind.i64.max := by rw [hmax, hs, hs']; omega
      simp only [binOp, Op.stringOp]
      rw [if_neg this]
      rfl
    · simp at hv
  · subst hv
    exact ⟨_, by simp [binOp, Op.stringOp, htl], .of (.bool _)⟩
  · subst hv
    exact ⟨_, by simp [binOp, Op.stringOp, htl], .of (.bool _)⟩
end
section
variable {P : Program} {c : Ctx} {γ : Gh} {D : Dead} {st : St} {a : Act} {w : World} {tb : Tb}
theorem ty_bool {t : Nat} {ti : TI} (h : tyOf P t = some ti) (hk : ti.k = .bool) : P.underlying t = some .bool := by
 obtain ⟨i, d, _, hd, hk', _⟩ := tyOf.parts h
 rw [hd]
 rw [hk] at hk'
 cases d <;> simp only [kindOf] at hk' <;> first | rfl | (simp at hk'; done) | (split at hk' <;> simp at hk'; done)
theorem ty_ptr {t : Nat} {ti : TI} (h : tyOf P t = some ti) (hk : ti.k = .ptr) : ∃ e, P.underlying t = some (.pointer e) := by
 obtain ⟨i, d, _, hd, hk', _⟩ := tyOf.parts h
 rw [hk] at hk'
 cases d <;> simp only [kindOf] at hk' <;> first | exact ⟨_, hd⟩ | (simp at hk'; done) | (split at hk' <;> simp at hk'; done)
theorem equal_bool {t : Nat} (hu : P.underlying t = some .bool) (x y : Bool) : (Op.equal t (.bool x) (.bool y)).run P w = .ok (x == y) w := by
 unfold Op.equal Op.maxDepth Op.equalIn
 simp only [Sem.run_bind, run_underlying' w hu, Result.andThen_ok]
 rfl
theorem equal_nil {t e : Nat} (hu : P.underlying t = some (.pointer e)) (y : Option Addr) : (Op.equal t (.pointer none) (.pointer y)).run P w = .ok y.isNone w := by
 unfold Op.equal Op.maxDepth Op.equalIn
 simp only [Sem.run_bind, run_underlying' w hu, Result.andThen_ok]
 rfl
theorem equal_to_nil {t e : Nat} (hu : P.underlying t = some (.pointer e)) (x : Addr) : (Op.equal t (.pointer (some x)) (.pointer none)).run P w = .ok false w := by
 unfold Op.equal Op.maxDepth Op.equalIn
 simp only [Sem.run_bind, run_underlying' w hu, Result.andThen_ok]
 rfl
theorem ty_plain {t : Nat} {ti : TI} (h : tyOf P t = some ti) {x y : AV} {r : Bool} (he : eqCell ti.k x y = some r) : P.plainKey t = true := by
 obtain ⟨i, d, _, hd, hk', _⟩ := tyOf.parts h
 unfold Program.plainKey
 rw [hd]
 unfold eqCell at he
 split at he <;> rename_i hk <;> first | (simp at he; done) | (rw [hk] at hk'; cases d <;> simp only [kindOf] at hk' <;> first | rfl | (simp at hk'; done) | (split at hk' <;> simp at hk'; done))
theorem eqCell_sound {t : Nat} {ti : TI} (h : tyOf P t = some ti) {x y : AV} {vx vy : Value} (hx : RepD w D x vx) (hy : RepD w D y vy) {r : Bool} (he : eqCell ti.k x y = some r) (d : Nat) : (Op.equalIn (d + 1) t vx vy).run P w = .ok r w := by
 obtain ⟨i, ds, _, hd, hk', _⟩ := tyOf.parts h
 unfold eqCell at he
 split at he
 ·rename_i q k a k' b hk
  split at he
  ·rename_i e
   subst e
   cases hx
   cases hy
   simp only [Option.some.injEq] at he
   subst he
   rw [hk] at hk'
   have hu : P.underlying t = some (.int q) := by
    rw [hd]
    cases ds <;> simp only [kindOf] at hk' <;> first | (simp at hk'; subst hk'; rfl) | (simp at hk'; done) | (split at hk' <;> simp at hk'; done)
   exact run_equalIn_int w d t _ q a b hu
  ·simp at he
 ·rename_i a b hk
  cases hx
  cases hy
  simp only [Option.some.injEq] at he
  subst he
  exact run_equalIn_bool w d t a b (ty_bool h hk)
 ·rename_i a b hk
  cases hx
  cases hy
  simp only [Option.some.injEq] at he
  subst he
  rw [hk] at hk'
  have hu : P.underlying t = some .string := by
   rw [hd]
   cases ds <;> simp only [kindOf] at hk' <;> first | rfl | (simp at hk'; done) | (split at hk' <;> simp at hk'; done)
  rw [run_equalIn_string w d t _ _ hu, ByteArray.toList_eq, ByteArray.toList_eq]
  subst_vars
  rfl
 ·simp at he
theorem eqFs_sound (hT : TbOk P tb) (d : Nat) {vs us : Array Value} : ∀ (F : List Field) (i : Nat) (xs ys : List AV) (r : Bool), eqFs tb i (F.map fun f => (f.offset, f.type)) xs ys = some r →
  (∀ (j : Nat) (c : AV), xs[j]? = some c → ∃ v, vs[i + j]? = some v ∧ RepD w D c v) → (∀ (j : Nat) (c : AV), ys[j]? = some c → ∃ v, us[i + j]? = some v ∧ RepD w D c v) →
  (∀ f ∈ F, P.plainKey f.type = true) ∧ ((∀ f ∈ F, f.name ≠ "_") → (Op.eqFields (d + 1) vs us F).run P w = .ok r w)
 | [], i, xs, ys, r, he, hx, hy => by
  cases xs <;> cases ys <;> simp [eqFs] at he
  subst he
  exact ⟨by simp, fun _ => by simp [Op.eqFields]⟩
 | f :: F, i, [], ys, r, he, hx, hy => by simp [eqFs] at he
 | f :: F, i, x :: xs, [], r, he, hx, hy => by simp [eqFs] at he
 | f :: F, i, x :: xs, y :: ys, r, he, hx, hy => by
  simp only [List.map_cons, eqFs] at he
  split at he
  ·rename_i ho
   split at he
   ·rename_i ti hti
    split at he
    ·rename_i a b ha hb
     simp only [Option.some.injEq] at he
     subst he
     obtain ⟨h1, h2⟩ := eqFs_sound hT d F (i + 1) xs ys b hb (fun j c hj => by rw [Nat.add_assoc, Nat.add_comm 1 j]; exact hx (j + 1) c (by simpa using hj)) (fun j c hj => by rw [Nat.add_assoc, Nat.add_comm 1 j]; exact hy (j + 1) c (by simpa using hj))
     obtain ⟨v, hv, rv⟩ := hx 0 x rfl
     obtain ⟨u, hu, ru⟩ := hy 0 y rfl
     have ht := hT _ _ hti
     have hp := ty_plain ht ha
     refine ⟨fun g hg => ?_, fun hn => ?_⟩
     ·rcases List.mem_cons.1 hg with rfl | hg
      ·exact hp
      ·exact h1 g hg
     ·rw [Nat.add_zero, ← ho] at hv hu
      simp only [Op.eqFields, hn f (by simp), ne_eq, not_false_eq_true, if_true, Sem.run_bind, run_part_plain w hp hv, run_part_plain w hp hu, Result.andThen_ok, eqCell_sound ht rv ru ha d]
      cases a
      ·simp
      ·simpa using h2 fun g hg => hn g (by simp [hg])
    ·simp at he
   ·simp at he
  ·simp at he
theorem rep_cells {cs : List AV} {v : Value} (h : RepV γ w D st (.agg cs) v) : ∃ vs : Array Value, v = .agg vs ∧ ∀ (j : Nat) (c : AV), cs[j]? = some c → ∃ v, vs[0 + j]? = some v ∧ RepD w D c v := by
 obtain ⟨vs, rfl, hs, _, hc⟩ := inv_agg h
 refine ⟨vs, rfl, fun j c hj => ?_⟩
 have hl : j < cs.length := (List.getElem?_eq_some_iff.1 hj).1
 rw [Nat.zero_add]
 have hv : vs[j]? = some vs[j] := Array.getElem?_eq_getElem (by omega)
 exact ⟨_, hv, hc j c _ hj hv⟩
theorem eqA_sound (hT : TbOk P tb) {t : Nat} {ti : TI} (ht : tyOf P t = some ti) {x y : AV} {vx vy : Value} (hx : RepV γ w D st x vx) (hy : RepV γ w D st y vy) (cx : st.isCur x) (cy : st.isCur y) {r : Bool} (he : eqA tb ti.k x y = some r) :
  (∀ op xo yo, (eqGuard op t xo yo vx vy).run P w = .ok () w) ∧ (binOp .eql t vx vy).run P w = .ok (.bool r) w ∧ (binOp .neq t vx vy).run P w = .ok (.bool (!r)) w := by
 unfold eqA at he
 split at he <;> try simp only [Option.some.injEq, reduceCtorEq] at he
 ·rename_i fs a b hk
  obtain ⟨F, hu, rfl, _⟩ := ty_struct ht hk
  obtain ⟨vs, rfl, h1⟩ := rep_cells hx
  obtain ⟨us, rfl, h2⟩ := rep_cells hy
  obtain ⟨p1, p2⟩ := eqFs_sound (w := w) (D := D) hT 9998 F.toList 0 a b r he h1 h2
  have hq := tyOf.structEq ht hu
  have hall : (F.toList.all fun f => P.plainKey f.type) = true := List.all_eq_true.2 p1
  simp only [structEqB, hall, Bool.not_true, Bool.false_or, Bool.and_eq_true, Bool.not_eq_true'] at hq
  have hn : ∀ f ∈ F.toList, f.name ≠ "_" := fun f hf => by simpa using List.all_eq_true.1 hq.2 f hf
  have hfo : P.fieldsOf t = F := by simp [Program.fieldsOf, hu]
  have hr : (Op.equalIn 10000 t (.agg vs) (.agg us)).run P w = .ok r w := by
   have := run_equalIn_struct w 9999 t vs us (by rw [hfo]; exact hu) hq.1.1 (P := P)
   rw [this, hfo]
   exact p2 hn
  exact ⟨fun op xo yo => run_eqGuard_agg w op t xo yo vs us hq.1.2, by rw [run_eql_struct, hr]; rfl, by rw [run_neq_struct, hr]; rfl⟩
 ·rename_i hk
  obtain rfl := inv_bool hx
  obtain rfl := inv_bool hy
  subst he
  exact ⟨fun op xo yo => by unfold eqGuard; split <;> simp, by simp [binOp, equal_bool (ty_bool ht hk)], by simp [binOp, equal_bool (ty_bool ht hk)]⟩
 all_goals
  rename_i hk
  subst he
  obtain ⟨e, hu⟩ := ty_ptr ht hk
 ·cases (show RepD w D .nilp vx from hx)
  cases (show RepD w D .nilp vy from hy)
  exact ⟨fun op xo yo => by unfold eqGuard; split <;> simp, by simp [binOp, equal_nil hu], by simp [binOp, equal_nil hu]⟩
 ·obtain rfl := inv_ptr hx cx
  cases (show RepD w D .nilp vy from hy)
  exact ⟨fun op xo yo => by unfold eqGuard; split <;> simp, by simp [binOp, equal_to_nil hu], by simp [binOp, equal_to_nil hu]⟩
 ·obtain rfl := inv_ptr hy cy
  cases (show RepD w D .nilp vx from hx)
  exact ⟨fun op xo yo => by unfold eqGuard; split <;> simp, by simp [binOp, equal_nil hu], by simp [binOp, equal_nil hu]⟩
 ·obtain ⟨b, o, f, rfl, _⟩ := inv_rp hx
  cases (show RepD w D .nilp vy from hy)
  exact ⟨fun op xo yo => by unfold eqGuard; split <;> simp, by simp [binOp, equal_to_nil hu], by simp [binOp, equal_to_nil hu]⟩
 ·obtain ⟨b, o, f, rfl, _⟩ := inv_rp hy
  cases (show RepD w D .nilp vx from hx)
  exact ⟨fun op xo yo => by unfold eqGuard; split <;> simp, by simp [binOp, equal_nil hu], by simp [binOp, equal_nil hu]⟩
theorem sound_binOp (hT : TbOk P tb) {o : Oper} (h : Inv c γ D st a w) {op : BinOp} {t u : Nat} {x y : Operand} (ho : o.op = .binOp op t x y u) {v : AV} (hv : binA tb op t (st.ev x) (st.ev y) = some v) :
  Gives P c o a w (st.put o.dst v) := by
 have hx := h.ev x
 have hy := h.ev y
 have cx := st.ev_isCur x
 have cy := st.ev_isCur y
 suffices hs : ∃ cv, (eqGuard op t x y (a.eval x) (a.eval y)).run P w = .ok () w ∧ (binOp op t (a.eval x) (a.eval y)).run P w = .ok cv w ∧ RepV γ w D st v cv by
  obtain ⟨cv, h1, h2, h3⟩ := hs
  exact gives_put h h3 (by simp [execOp, ho, h1, h2])
 generalize st.ev x = X at hx hv cx
 generalize st.ev y = Y at hy hv cy
 unfold binA at hv
 split at hv
 ·rename_i k m k' n
  rw [inv_int hx, inv_int hy]
  split at hv
  ·obtain ⟨cv, h1, h2⟩ := shiftA_sound (P := P) (γ := γ) (w := w) (D := D) (st := st) (k' := k') (.inl rfl) hv t
   exact ⟨cv, run_eqGuard_int _ _ _ _ _ _ _ _, h1, h2⟩
  ·obtain ⟨cv, h1, h2⟩ := shiftA_sound (P := P) (γ := γ) (w := w) (D := D) (st := st) (k' := k') (.inr rfl) hv t
   exact ⟨cv, run_eqGuard_int _ _ _ _ _ _ _ _, h1, h2⟩
  ·split at hv
   ·rename_i e
    subst e
    obtain ⟨cv, h1, h2⟩ := intA_sound (P := P) (γ := γ) (w := w) (D := D) (st := st) hv t
    exact ⟨cv, run_eqGuard_int _ _ _ _ _ _ _ _, h1, h2⟩
   ·simp at hv
 ·rename_i l l'
  obtain ⟨s, e, hs⟩ := inv_str hx
  obtain ⟨s', e', hs'⟩ := inv_str hy
  rw [e, e']
  subst hs
  subst hs'
  obtain ⟨cv, h1, h2⟩ := strA_sound (P := P) (γ := γ) (w := w) (D := D) (st := st) hv t
  exact ⟨cv, run_eqGuard_str _ _ _ _ _ _, h1, h2⟩
 ·split at hv
  ·rename_i ti hti
   have ht := hT _ _ hti
   split at hv
   ·split at hv
    ·rename_i r he
     simp only [Option.some.injEq] at hv
     subst hv
     obtain ⟨h2, h3, _⟩ := eqA_sound hT ht hx hy cx cy he
     exact ⟨_, h2 _ _ _, h3, .of (.bool _)⟩
    ·simp at hv
   ·split at hv
    ·rename_i r he
     simp only [Option.some.injEq] at hv
     subst hv
     obtain ⟨h2, _, h3⟩ := eqA_sound hT ht hx hy cx cy he
     exact ⟨_, h2 _ _ _, h3, .of (.bool _)⟩
    ·simp at hv
   ·simp at hv
  ·simp at hv
theorem sound_unOp {o : Oper} (h : Inv c γ D st a w) {op : UnOp} {t : Nat} {x : Operand} (ho : o.op = .unOp op t x) {v : AV} (hv : unA op (st.ev x) = some v) : Gives P c o a w (st.put o.dst v) := by
 have hx := h.ev x
 suffices hs : ∃ cv, (Op.unary op (a.eval x)).run P w = .ok cv w ∧ RepV γ w D st v cv by
  obtain ⟨cv, h1, h2⟩ := hs
  exact gives_put h h2 (by simp [execOp, ho, h1])
 generalize st.ev x = X at hx hv
 unfold unA at hv
 split at hv <;> try (simp only [Option.some.injEq, reduceCtorEq] at hv)
 ·subst hv
  rw [inv_bool hx]
  exact ⟨_, by simp [Op.unary], .of (.bool _)⟩
 ·subst hv
  rw [inv_int hx]
  exact ⟨_, by simp [Op.unary, Op.intArith], .of (.int _ _)⟩
 ·rw [inv_int hx]
  unfold intA at hv
  simp only [Option.some.injEq] at hv
  subst hv
  exact ⟨_, by simp [Op.unary, Op.intBits], .of (.int _ _)⟩
theorem sound_extract {o : Oper} (h : Inv c γ D st a w) {x : Operand} {i : Nat} (ho : o.op = .extract x i) {vs : List AV} (hx : st.ev x = .tup vs) {v : AV} (hv : vs[i]? = some v) : Gives P c o a w (st.put o.dst v) := by
 have hx' := h.ev x
 rw [hx] at hx'
 obtain ⟨arr, e, hn, hh⟩ := hx'
 have hi : i < arr.size := by rw [hn]; exact (List.getElem?_eq_some_iff.1 hv).1
 refine gives_put h (.of (hh i v arr[i] hv (Array.getElem?_eq_getElem hi))) ?_
 simp [execOp, ho, e, Instr.extract, Array.getElem?_eq_getElem hi]
theorem sound_makeInterface {o : Oper} (h : Inv c γ D st a w) {t : Nat} {x : Operand} (ho : o.op = .makeInterface t x) {v : AV} (hv : (st.ev x).dat = some v) (hu : ∃ d, P.underlying t = some d ∧ ∀ ms, d ≠ .interface ms) :
  Gives P c o a w (st.put o.dst (.iface t v)) := by
 obtain ⟨d, hd, hne⟩ := hu
 refine gives_put h (cv := .iface t (a.eval x)) (.of (.iface _ _ _ ((h.ev x).dat hv))) ?_
 cases d <;> first | exact absurd rfl (hne _) | simp [execOp, ho, Instr.makeInterface, run_underlying' w hd]
theorem sound_fieldAddr (hT : TbOk P tb) {o : Oper} (h : Inv c γ D st a w) {s f : Nat} {x : Operand} (ho : o.op = .fieldAddr s x f) {ti : TI} (ht : find s tb = some ti) {fs : List (Nat × Nat)} (hk : ti.k = .struct fs) {off ft : Nat} (hf : fs[f]? = some (off, ft)) :
  (∀ k g o', st.ev x = .ptr k g o' → Gives P c o a w (st.put o.dst (.ptr k g (o' + off)))) ∧ (∀ s' el j, st.ev x = .rp s' el j → Gives P c o a w (st.put o.dst (.rp s' el (j + off)))) := by
 obtain ⟨arr, hu, hfs, hsz⟩ := ty_struct (hT _ _ ht) hk
 have hx := h.ev x
 have cx := st.ev_isCur x
 obtain ⟨fl, hfl, e1⟩ : ∃ fl, arr[f]? = some fl ∧ (fl.offset, fl.type) = (off, ft) := by
  rw [hfs, List.getElem?_map, Array.getElem?_toList, Option.map_eq_some_iff] at hf
  exact hf
 have hoff : fl.offset = off := (Prod.mk.inj e1).1
 have hz : P.cellsOf fl.type ≠ 0 := hsz fl (Array.mem_of_getElem? hfl)
 have hplace : ∀ A : Addr, (fieldPlace A fl).run P w = .ok (A.add off) w := by
  intro A
  have hi : ∃ i, P.info? fl.type = some i := by
   cases hh : P.info? fl.type with
   | none => simp [Program.cellsOf, hh] at hz
   | some i => exact ⟨i, rfl⟩
  obtain ⟨i, hi⟩ := hi
  have hsz' : i.size ≠ 0 := by simpa [Program.cellsOf, hi] using hz
  simp [fieldPlace, sizeOf, run_typeInfo' w hi, hsz', hoff]
 constructor
 ·intro k g o' e
  rw [e] at hx cx
  have hv := inv_ptr hx cx
  refine gives_put h (v := .ptr k g (o' + off)) (cv := .pointer (some ⟨γ.bx k, o' + off, none⟩)) ⟨Nat.le_of_eq cx, fun _ => rfl⟩ ?_
  simp [execOp, ho, hv, Instr.fieldAt, run_underlying' w hu, hfl, Instr.sureAddr, hplace, addr_add]
 ·intro s' el j e
  rw [e] at hx
  obtain ⟨b, o', g, hv, hs, hc, hr⟩ := inv_rp hx
  refine gives_put h (v := .rp s' el (j + off)) (cv := .pointer (some ⟨b, o' + (j + off), none⟩)) (.of (.rp _ _ _ _ _ g hs hc hr)) ?_
  simp [execOp, ho, hv, Instr.fieldAt, run_underlying' w hu, hfl, Instr.sureAddr, hplace, addr_add, Nat.add_assoc]
end
def Els (w : World) (D : Dead) (s : Nat) (xs : List AV) (b o : Nat) (f : Nat → Nat → Value) : Prop :=
 (∀ (i : Nat) (e : AV), xs[i]? = some e → e.cells.length = s) ∧
 (∀ (i : Nat) (e : AV) (j : Nat) (c : AV), xs[i]? = some e → e.cells[j]? = some c → c.cell1 = true ∧ D b (o + (i * s + j)) ∧ w.cell? ⟨b, o + (i * s + j), none⟩ = some (f i j)) ∧
 (∀ (i : Nat) (e : AV) (j : Nat) (c : AV), xs[i]? = some e → e.cells[j]? = some c → RepD w D c (f i j))
section
variable {P : Program} {c : Ctx} {γ : Gh} {D : Dead} {st : St} {a : Act} {w : World} {tb : Tb}
theorem inv_sl {s : Nat} {full : Bool} {xs : List AV} {v : Value} (h : RepD w D (.sl s full xs) v) : ∃ A cap, v = .slice A xs.length cap ∧ xs.length ≤ cap ∧ (full = true → cap = xs.length) ∧ (xs = [] ∨ ∃ b o f, A = some ⟨b, o, none⟩ ∧ Els w D s xs b o f) := by
 cases h with
 | slN _ _ A cap hf => exact ⟨A, cap, rfl, Nat.zero_le _, hf, .inl rfl⟩
 | sl _ _ _ b o cap f hlc hf hs hc hr => exact ⟨_, cap, rfl, hlc, hf, .inr ⟨b, o, f, rfl, hs, hc, hr⟩⟩
theorem mk_sl {s : Nat} {full : Bool} {xs : List AV} {A : Option Addr} {cap : Nat} (h1 : xs.length ≤ cap) (h2 : full = true → cap = xs.length) (h3 : xs = [] ∨ ∃ b o f, A = some ⟨b, o, none⟩ ∧ Els w D s xs b o f) :
  RepD w D (.sl s full xs) (.slice A xs.length cap) := by
 rcases h3 with rfl | ⟨b, o, f, rfl, hs, hc, hr⟩
 ·exact .slN s full A cap h2
 ·exact .sl s full xs b o cap f h1 h2 hs hc hr
theorem Els.sub {s : Nat} {xs : List AV} {b o : Nat} {f : Nat → Nat → Value} (h : Els w D s xs b o f) (l h' : Nat) : Els w D s ((xs.take h').drop l) b (o + l * s) (fun i j => f (l + i) j) := by
 have key : ∀ (i : Nat) (e : AV), ((xs.take h').drop l)[i]? = some e → xs[l + i]? = some e := by
  intro i e hi
  rw [List.getElem?_drop, List.getElem?_take] at hi
  split at hi
  ·exact hi
  ·simp at hi
 have ad : ∀ i j, o + l * s + (i * s + j) = o + ((l + i) * s + j) := fun i j => by rw [Nat.add_mul]; omega
 refine ⟨fun i e hi => h.1 _ _ (key i e hi), fun i e j c hi hj => ?_, fun i e j c hi hj => h.2.2 _ _ _ _ (key i e hi) hj⟩
 rw [ad]
 exact h.2.1 _ _ _ _ (key i e hi) hj
theorem sub_sound {s : Nat} {full : Bool} {xs : List AV} {v : Value} (hx : RepD w D (.sl s full xs) v) {e : Nat} {sz : Nat} (hsz : (sizeOf e).run P w = .ok sz w) (hs : s = sz ∨ xs = []) {l h m : Int} {hasMax : Bool} {r : AV}
  (hr : subA s xs l h m hasMax = some r) : ∃ A cap, v = .slice A xs.length cap ∧ 0 ≤ l ∧ l ≤ h ∧ h ≤ m ∧ h ≤ xs.length ∧ xs.length ≤ cap ∧ (hasMax = true → m ≤ xs.length) ∧
   ∀ M : Nat, (M : Int) = (if hasMax then m else cap) → RepV γ w D st r (.slice (if M = l.toNat then A else A.map (·.add (l.toNat * sz))) (h.toNat - l.toNat) (M - l.toNat)) := by
 obtain ⟨A, cap, rfl, h1, h2, h3⟩ := inv_sl hx
 unfold subA at hr
 split at hr
 ·rename_i hc
  obtain ⟨c1, c2, c3, c4, c5⟩ := hc
  simp only [Option.some.injEq] at hr
  subst hr
  refine ⟨A, cap, rfl, c1, c2, c3, c4, h1, c5, fun M hM => ?_⟩
  have hlen : ((xs.take h.toNat).drop l.toNat).length = h.toNat - l.toNat := by
   rw [List.length_drop, List.length_take]; omega
  rw [← hlen]
  refine .of (mk_sl ?_ ?_ ?_)
  ·rw [hlen]
   cases hasMax <;> simp at hM ⊢ <;> omega
  ·intro hf
   simp only [Bool.and_eq_true, decide_eq_true_eq] at hf
   obtain ⟨hm, hh⟩ := hf
   subst hm
   simp at hM
   rw [hlen]
   omega
  ·by_cases hn : (xs.take h.toNat).drop l.toNat = []
   ·exact .inl hn
   ·right
    have hx0 : xs ≠ [] := fun e => hn (by simp [e])
    rcases h3 with h3 | ⟨b, o, f, rfl, hE⟩
    ·exact absurd h3 hx0
    have hs' : s = sz := hs.resolve_right hx0
    subst hs'
    have hpos : 0 < h.toNat - l.toNat := by rw [← hlen]; exact List.length_pos_iff.2 hn
    have hM' : ¬ M = l.toNat := by
     cases hasMax <;> simp at hM <;> omega
    refine ⟨b, o + l.toNat * s, _, ?_, hE.sub _ _⟩
    rw [if_neg hM']
    simp [addr_add]
 ·simp at hr
theorem loA_run {lo : Option Operand} (h : Inv c γ D st a w) {l : Int} (hl : loA (lo.map st.ev) = some l) : (lo = none ∧ l = 0) ∨ ∃ x k, lo = some x ∧ a.eval x = .int k l := by
 cases lo with
 | none => simp [loA] at hl; exact .inl ⟨rfl, hl.symm⟩
 | some x =>
  right
  have hx := h.ev x
  simp only [Option.map_some] at hl
  generalize st.ev x = X at hx hl
  cases X <;> simp only [loA, Option.some.injEq, reduceCtorEq] at hl
  subst hl
  exact ⟨x, _, rfl, inv_int hx⟩
theorem hiA_run {hi : Option Operand} (h : Inv c γ D st a w) {d l : Int} (hl : hiA d (hi.map st.ev) = some l) : (hi = none ∧ l = d) ∨ ∃ x k, hi = some x ∧ a.eval x = .int k l := by
 cases hi with
 | none => simp [hiA] at hl; exact .inl ⟨rfl, hl.symm⟩
 | some x =>
  right
  have hx := h.ev x
  simp only [Option.map_some] at hl
  generalize st.ev x = X at hx hl
  cases X <;> simp only [hiA, Option.some.injEq, reduceCtorEq] at hl
  subst hl
  exact ⟨x, _, rfl, inv_int hx⟩
theorem run_sliceBound {k : IntKind} {i : Int} {y : Nat} {code : BoundsCode} (h0 : 0 ≤ i) (h1 : i ≤ y) : (Instr.sliceBound (.int k i) y code).run P w = .ok i.toNat w := by
 simp [Instr.sliceBound, asIntOf, h0, h1]
theorem run_bounds {isS : Bool} {len cap : Nat} (h : Inv c γ D st a w) {lo hi : Option Operand} {l hh : Int} (hl : (lo = none ∧ l = 0) ∨ ∃ x k, lo = some x ∧ a.eval x = .int k l) (hhi : (hi = none ∧ hh = (len : Int)) ∨ ∃ x k, hi = some x ∧ a.eval x = .int k hh)
  (h0 : 0 ≤ l) (h1 : l ≤ hh) (h2 : hh ≤ cap) : (Instr.sliceBounds isS len cap (lo.map a.eval) (hi.map a.eval) none).run P w = .ok (l.toNat, hh.toNat, cap) w := by
 rcases hl with ⟨rfl, rfl⟩ | ⟨x, k, rfl, hx⟩ <;> rcases hhi with ⟨rfl, rfl⟩ | ⟨y, k', rfl, hy⟩
 ·simp [Instr.sliceBounds]
 ·simp [Instr.sliceBounds, hy, run_sliceBound (P := P) (w := w) (show 0 ≤ hh by omega) h2]
 ·have e : (Instr.sliceBound (.int k l) len .sliceB).run P w = .ok l.toNat w := run_sliceBound h0 h1
  simp [Instr.sliceBounds, hx, e]
 ·have e : (Instr.sliceBound (.int k l) hh.toNat .sliceB).run P w = .ok l.toNat w := run_sliceBound h0 (by omega)
  simp [Instr.sliceBounds, hx, hy, run_sliceBound (P := P) (w := w) (show 0 ≤ hh by omega) h2, e]
theorem run_bounds_max {len cap : Nat} (h : Inv c γ D st a w) {lo : Option Operand} {hi mx : Operand} {l hh m : Int} {k' k'' : IntKind} (hl : (lo = none ∧ l = 0) ∨ ∃ x k, lo = some x ∧ a.eval x = .int k l) (hhi : a.eval hi = .int k' hh) (hm : a.eval mx = .int k'' m)
  (h0 : 0 ≤ l) (h1 : l ≤ hh) (h2 : hh ≤ m) (h3 : m ≤ cap) : (Instr.sliceBounds true len cap (lo.map a.eval) (some (a.eval hi)) (some (a.eval mx))).run P w = .ok (l.toNat, hh.toNat, m.toNat) w := by
 have e1 : ∀ code, (Instr.sliceBound (.int k'' m) cap code).run P w = .ok m.toNat w := fun code => run_sliceBound (by omega) h3
 have e2 : ∀ code, (Instr.sliceBound (.int k' hh) m.toNat code).run P w = .ok hh.toNat w := fun code => run_sliceBound (by omega) (by omega)
 rcases hl with ⟨rfl, rfl⟩ | ⟨x, k, rfl, hx⟩
 ·simp [Instr.sliceBounds, hhi, hm, e1, e2]
 ·have e3 : ∀ code, (Instr.sliceBound (.int k l) hh.toNat code).run P w = .ok l.toNat w := fun code => run_sliceBound h0 (by omega)
  simp [Instr.sliceBounds, hhi, hm, hx, e1, e2, e3]
theorem sound_slice (hT : TbOk P tb) {o : Oper} (h : Inv c γ D st a w) {t : Nat} {x : Operand} {lo hi mx : Option Operand} (ho : o.op = .slice t x lo hi mx) {v : AV} (hv : sliceA tb t (st.ev x) (lo.map st.ev) (hi.map st.ev) (mx.map st.ev) = some v) :
  Gives P c o a w (st.put o.dst v) := by
 have hx := h.ev x
 unfold sliceA at hv
 split at hv
 ·simp at hv
 rename_i ti hti
 have ht := hT _ _ hti
 split at hv
 ·rename_i s l hk ex el
  have hu := ty_str ht hk
  split at hv
  ·rename_i hh ehi emx
   have hmx : mx = none := by cases mx <;> simp at emx ⊢
   subst hmx
   split at hv
   ·rename_i hb
    obtain ⟨b0, b1, b2⟩ := hb
    simp only [Option.some.injEq] at hv
    subst hv
    rw [ex] at hx
    obtain ⟨sb, e, hs⟩ := inv_str hx
    have hsz : sb.size = s.length := by rw [← hs, Array.length_toList]; rfl
    have hbd : (Instr.sliceBounds false sb.size sb.size (lo.map a.eval) (hi.map a.eval) none).run P w = .ok (l.toNat, hh.toNat, sb.size) w :=
     run_bounds h (loA_run h el) (by rw [hsz]; exact hiA_run h ehi) b0 b1 (by rw [hsz]; exact b2)
    refine gives_put h (cv := .string (sb.extract l.toNat hh.toNat)) (.of (.str _ _ ?_)) ?_
    ·rw [ByteArray.data_extract, Array.toList_extract, hs]
     simp [List.extract_eq_take_drop, List.drop_take]
    ·simp [execOp, ho, e, Instr.sliceAt, Instr.slice, run_underlying' w hu, hbd]
   ·simp at hv
  ·simp at hv
 ·rename_i e l hk el
  have hu := ty_sl ht hk
  split at hv
  ·rename_i s xs te exs ete
   have hte := hT _ _ ete
   split at hv
   ·rename_i hs
    have hx' : ∃ full, RepD w D (.sl s full xs) (a.eval x) := by
     generalize st.ev x = X at hx exs
     cases X <;> simp only [Option.some.injEq, Prod.mk.injEq, reduceCtorEq] at exs
     ·obtain ⟨rfl, rfl⟩ := exs; exact ⟨_, hx⟩
     ·obtain ⟨rfl, rfl⟩ := exs; exact ⟨_, hx.2.1⟩
    obtain ⟨full, hx'⟩ := hx'
    split at hv
    ·rename_i emx
     have hmx : mx = none := by cases mx <;> simp at emx ⊢
     subst hmx
     split at hv
     ·rename_i hh ehi
      obtain ⟨A, cap, ev, c1, c2, c3, c4, c5, _, c6⟩ := sub_sound (P := P) (γ := γ) (st := st) hx' (ty_size hte w) hs hv
      have hbd : (Instr.sliceBounds true xs.length cap (lo.map a.eval) (hi.map a.eval) none).run P w = .ok (l.toNat, hh.toNat, cap) w :=
       run_bounds h (loA_run h el) (hiA_run h ehi) c1 c2 (by omega)
      refine gives_put h (c6 cap (by simp)) ?_
      simp [execOp, ho, ev, Instr.sliceAt, Instr.slice, run_underlying' w hu, hbd, ty_size hte]
     ·simp at hv
    ·rename_i km m emx
     split at hv
     ·rename_i kh hh ehi
      cases mx with
      | none => simp at emx
      | some y =>
      cases hi with
      | none => simp at ehi
      | some z =>
      simp only [Option.map_some, Option.some.injEq] at emx ehi
      have ey := inv_int (emx ▸ h.ev y)
      have ez := inv_int (ehi ▸ h.ev z)
      obtain ⟨A, cap, ev, c1, c2, c3, c4, c5, c7, c6⟩ := sub_sound (P := P) (γ := γ) (st := st) hx' (ty_size hte w) hs hv
      have hm := c7 rfl
      have hbd : (Instr.sliceBounds true xs.length cap (lo.map a.eval) (some (a.eval z)) (some (a.eval y))).run P w = .ok (l.toNat, hh.toNat, m.toNat) w :=
       run_bounds_max h (loA_run h el) ez ey c1 c2 c3 (by omega)
      refine gives_put h (c6 m.toNat (by simp; omega)) ?_
      simp only [execOp, ho, ev, Instr.sliceAt, Instr.slice, Sem.run_bind, run_underlying' w hu, Result.andThen_ok, Option.map_some, hbd, ty_size hte, Sem.run_pure]
     ·simp at hv
    ·simp at hv
   ·simp at hv
  ·simp at hv
 ·simp at hv
end
section
variable {P : Program} {c : Ctx} {γ : Gh} {D : Dead} {st : St} {a : Act} {w : World} {tb : Tb}
theorem bytes_get (s : ByteArray) (i : Nat) : s[i]? = s.data.toList[i]? := by
 rw [Array.getElem?_toList]
 by_cases h : i < s.size
 ·rw [getElem?_pos s i h, Array.getElem?_eq_getElem (show i < s.data.size from h)]
  rfl
 ·rw [getElem?_neg s i h, Array.getElem?_eq_none (show s.data.size ≤ i from Nat.le_of_not_lt h)]
theorem sound_index_str {o : Oper} (h : Inv c γ D st a w) {t : Nat} {x i : Operand} (ho : o.op = .index t x i) (hu : P.underlying t = some .string) {s : List UInt8} {k : IntKind} {n : Int} (hx : st.ev x = .str s) (hi : st.ev i = .int k n) (h0 : 0 ≤ n) {b : UInt8} (hb : s[n.toNat]? = some b) :
  Gives P c o a w (st.put o.dst (.int .u8 b.toNat)) := by
 obtain ⟨sb, e, hs⟩ := inv_str (hx ▸ h.ev x)
 have ei := inv_int (hi ▸ h.ev i)
 refine gives_put h (cv := .int .u8 b.toNat) (.of (.int _ _)) ?_
 have hb' : sb[n.toNat]? = some b := by rw [bytes_get, hs, hb]
 simp [execOp, ho, e, ei, Instr.index, asIntOf, run_underlying' w hu, h0, hb']
theorem part_sound {t : Nat} {ti : TI} (ht : tyOf P t = some ti) {cs : List AV} {vs : Array Value} (hn : vs.size = cs.length) (h1 : ∀ c ∈ cs, c.cell1 = true) (hh : ∀ (i : Nat) (c : AV) (v : Value), cs[i]? = some c → vs[i]? = some v → RepD w D c v) {off : Nat} {v : AV} (hp : partOf ti cs off = some v) :
  ∃ cv, (part t vs off).run P w = .ok cv w ∧ RepV γ w D st v cv := by
 unfold partOf at hp
 unfold part
 simp only [Sem.run_bind, ty_agg ht, Result.andThen_ok]
 split at hp
 ·rename_i hagg
  split at hp
  ·rename_i hle
   split at hp
   ·rename_i l hl
    simp only [Option.some.injEq] at hp
    subst hp
    obtain ⟨hl1, hl2⟩ := datAll_spec hl
    have hlen : l.length = ti.sz := by rw [hl1, List.length_take, List.length_drop]; omega
    have hget : ∀ (i : Nat), i < ti.sz → ∃ c, cs[off + i]? = some c ∧ ∃ d, l[i]? = some d ∧ c.dat = some d := by
     intro i hi
     have hlt : off + i < cs.length := by omega
     obtain ⟨d, hd1, hd2⟩ := hl2 i cs[off + i] (by simp [List.getElem?_take, List.getElem?_drop, hi, List.getElem?_eq_getElem hlt])
     exact ⟨_, List.getElem?_eq_getElem hlt, d, hd1, hd2⟩
    refine ⟨.agg (vs.extract off (off + ti.sz)), by simp [hagg, ty_size ht], .of (.agg _ _ ?_ (fun c hc => ?_) (fun i c v hi hj => ?_))⟩
    ·simp [hlen]; omega
    ·obtain ⟨i, hi⟩ := List.getElem?_of_mem hc
     have hi' : i < l.length := (List.getElem?_eq_some_iff.1 hi).1
     obtain ⟨c', h2, d, h3, h4⟩ := hget i (by omega)
     rw [hi] at h3
     simp only [Option.some.injEq] at h3
     subst h3
     exact dat_cell1 h4 (h1 c' (List.mem_of_getElem? h2))
    ·have hi' : i < l.length := (List.getElem?_eq_some_iff.1 hi).1
     obtain ⟨c', h2, d, h3, h4⟩ := hget i (by omega)
     rw [hi] at h3
     simp only [Option.some.injEq] at h3
     subst h3
     have hv : vs[off + i]? = some v := by
      rw [Array.getElem?_extract] at hj
      split at hj
      ·exact hj
      ·simp at hj
     exact RepV.dat (γ := γ) (st := st) (.of (hh _ _ _ h2 hv)) h4
   ·simp at hp
  ·simp at hp
 ·rename_i hagg
  have hlt : off < cs.length := (List.getElem?_eq_some_iff.1 hp).1
  have hv : vs[off]? = some vs[off] := Array.getElem?_eq_getElem (by omega)
  exact ⟨vs[off], by simp [hagg, hv], .of (hh _ _ _ hp hv)⟩
theorem sound_index_arr (hT : TbOk P tb) {o : Oper} (h : Inv c γ D st a w) {t : Nat} {x i : Operand} (ho : o.op = .index t x i) {n e : Nat} (hu : P.underlying t = some (.array n e)) {te : TI} (hte : find e tb = some te) {cs : List AV} {k : IntKind} {m : Int}
  (hx : st.ev x = .agg cs) (hi : st.ev i = .int k m) (h0 : 0 ≤ m) (h1 : m < n) {v : AV} (hp : partOf te cs (m.toNat * te.sz) = some v) : Gives P c o a w (st.put o.dst v) := by
 obtain ⟨vs, e, hn, hc1, hh⟩ := inv_agg (hx ▸ h.ev x)
 have ei := inv_int (hi ▸ h.ev i)
 obtain ⟨cv, hr, hv⟩ := part_sound (γ := γ) (st := st) (hT _ _ hte) hn hc1 hh hp
 refine gives_put h hv ?_
 simp [execOp, ho, e, ei, Instr.index, asIntOf, run_underlying' w hu, h0, h1, ty_size (hT _ _ hte), hr]
theorem sound_field (hT : TbOk P tb) {o : Oper} (h : Inv c γ D st a w) {s f : Nat} {x : Operand} (ho : o.op = .field s x f) {ti : TI} (ht : find s tb = some ti) {fs : List (Nat × Nat)} (hk : ti.k = .struct fs) {off ft : Nat} (hf : fs[f]? = some (off, ft)) {cs : List AV} (hx : st.ev x = .agg cs)
  {tf : TI} (htf : find ft tb = some tf) {v : AV} (hp : partOf tf cs off = some v) : Gives P c o a w (st.put o.dst v) := by
 obtain ⟨arr, hu, hfs, hsz⟩ := ty_struct (hT _ _ ht) hk
 obtain ⟨fl, hfl, e1⟩ : ∃ fl, arr[f]? = some fl ∧ (fl.offset, fl.type) = (off, ft) := by
  rw [hfs, List.getElem?_map, Array.getElem?_toList, Option.map_eq_some_iff] at hf
  exact hf
 obtain ⟨e2, e3⟩ := Prod.mk.inj e1
 obtain ⟨vs, e, hn, hc1, hh⟩ := inv_agg (hx ▸ h.ev x)
 obtain ⟨cv, hr, hv⟩ := part_sound (γ := γ) (st := st) (hT _ _ htf) hn hc1 hh hp
 refine gives_put h hv ?_
 simp [execOp, ho, e, Instr.field, run_underlying' w hu, hfl, e2, e3, zAg, Go.asAgg, hr]
theorem sound_indexAddr (hT : TbOk P tb) {o : Oper} (h : Inv c γ D st a w) {t : Nat} {x i : Operand} (ho : o.op = .indexAddr t x i) {k : IntKind} {n : Int} (hi : st.ev i = .int k n) {v : AV} (hv : indexAddrA tb st t (st.ev x) n = some v) : Gives P c o a w (st.put o.dst v) := by
 have ei := inv_int (hi ▸ h.ev i)
 have hx := h.ev x
 have cx := st.ev_isCur x
 generalize st.ev x = X at hx hv cx
 unfold indexAddrA at hv
 split at hv
 ·rename_i e sz by_ z hti
  have hu := ty_sl (hT _ _ hti) rfl
  have hrun : ∀ (s : Nat) (full : Bool) (xs : List AV) (te : TI) (el : AV), find e tb = some te → s = te.sz ∧ 0 ≤ n → xs[n.toNat]? = some el → RepD w D (.sl s full xs) (a.eval x) → Gives P c o a w (st.put o.dst (.rp s el 0)) := by
   intro s full xs te el hte hc hel hD
   obtain ⟨hs, h0⟩ := hc
   have h1 : n < xs.length := by have := (List.getElem?_eq_some_iff.1 hel).1; omega
   obtain ⟨A, cap, ev, _, _, h3⟩ := inv_sl hD
   rcases h3 with h3 | ⟨b, o', f, rfl, hE⟩
   ·subst h3; simp at h1; omega
   ·refine gives_put h (cv := .pointer (some ⟨b, (o' + n.toNat * s) + 0, none⟩)) (.of (.rp s el 0 b (o' + n.toNat * s) (f n.toNat) (hE.1 _ _ hel) (fun j c hj => ?_) (fun j c hj => hE.2.2 _ _ j c hel hj))) ?_
    ·have := hE.2.1 _ _ j c hel hj
     rw [Nat.add_assoc]
     exact this
    ·subst hs
     simp [execOp, ho, ev, ei, Instr.indexAt, asIntOf, run_underlying' w hu, h0, h1, ty_size (hT _ _ hte), addr_add]
  split at hv
  ·rename_i te s full xs hte
   split at hv
   ·rename_i hc
    split at hv
    ·rename_i el hel
     simp only [Option.some.injEq] at hv
     subst hv
     exact hrun s full xs te el hte hc hel hx
    ·simp at hv
   ·simp at hv
  ·rename_i te k' g' s xs hte
   split at hv
   ·rename_i hc
    split at hv
    ·rename_i el hel
     simp only [Option.some.injEq] at hv
     subst hv
     exact hrun s false xs te el hte hc hel hx.2.1
    ·simp at hv
   ·simp at hv
  ·rename_i te k' g' hte
   split at hv
   ·rename_i hs
    split at hv
    ·rename_i xs hr
     split at hv
     ·rename_i hc
      obtain ⟨h0, h1⟩ := hc
      simp only [Option.some.injEq] at hv
      subst hv
      have ev := hx.2 cx xs hr
      refine gives_put h (v := .rowp k' g' n.toNat) (cv := .pointer (some ⟨γ.rw k', n.toNat, none⟩)) ⟨hx.1, fun _ => rfl⟩ ?_
      simp [execOp, ho, ev, ei, Instr.indexAt, asIntOf, run_underlying' w hu, h0, h1, ty_size (hT _ _ hte), addr_add, hs]
     ·simp at hv
    ·simp at hv
   ·simp at hv
  ·simp at hv
 ·rename_i m e sz by_ z hti
  have hu := ty_arr (hT _ _ hti) rfl
  split at hv
  ·rename_i te k' g' off hte
   split at hv
   ·rename_i hc
    obtain ⟨h0, h1⟩ := hc
    simp only [Option.some.injEq] at hv
    subst hv
    have ev := inv_ptr hx cx
    refine gives_put h (v := .ptr k' g' (off + n.toNat * te.sz)) (cv := .pointer (some ⟨γ.bx k', off + n.toNat * te.sz, none⟩)) ⟨hx.1, fun _ => rfl⟩ ?_
    simp [execOp, ho, ev, ei, Instr.indexAt, asIntOf, run_underlying' w hu, h0, h1, ty_size (hT _ _ hte), addr_add, Instr.sureAddr]
   ·simp at hv
  ·rename_i te s el off hte
   split at hv
   ·rename_i hc
    obtain ⟨h0, h1⟩ := hc
    simp only [Option.some.injEq] at hv
    subst hv
    obtain ⟨b, o', f, ev, hs, hc', hr⟩ := inv_rp hx
    refine gives_put h (v := .rp s el (off + n.toNat * te.sz)) (cv := .pointer (some ⟨b, o' + (off + n.toNat * te.sz), none⟩)) (.of (.rp _ _ _ _ _ f hs hc' hr)) ?_
    simp [execOp, ho, ev, ei, Instr.indexAt, asIntOf, run_underlying' w hu, h0, h1, ty_size (hT _ _ hte), addr_add, Instr.sureAddr, Nat.add_assoc]
   ·simp at hv
  ·rename_i te k' g' off hte
   split at hv
   ·rename_i hc
    obtain ⟨h0, h1⟩ := hc
    simp only [Option.some.injEq] at hv
    subst hv
    have ev : a.eval x = .pointer (some ⟨γ.rw k', off, none⟩) := hx.2 cx
    refine gives_put h (v := .rowp k' g' (off + n.toNat * te.sz)) (cv := .pointer (some ⟨γ.rw k', off + n.toNat * te.sz, none⟩)) ⟨hx.1, fun _ => rfl⟩ ?_
    simp [execOp, ho, ev, ei, Instr.indexAt, asIntOf, run_underlying' w hu, h0, h1, ty_size (hT _ _ hte), addr_add, Instr.sureAddr]
   ·simp at hv
  ·simp at hv
 ·simp at hv
end
section
variable {P : Program} {c : Ctx} {γ : Gh} {D : Dead} {st : St} {a : Act} {w : World} {tb : Tb}
theorem Inv.logs (h : Inv c γ D st a w) (rd wr : List Nat) : Inv c γ D { st with rd := rd, wr := wr } a w := by
 have hg : ∀ k, St.gen { st with rd := rd, wr := wr } k = st.gen k := fun _ => rfl
 exact ⟨h.nt, h.dfr, fun t => RepV.st (st := st) hg rfl (h.tm t), fun k cs hk => by
  obtain ⟨h1, vs, E, h2, h3, h4⟩ := h.bx k cs hk
  exact ⟨h1, vs, E, h2, h3, fun i c v hi hj => ⟨RepV.st (st := st) hg rfl (h4 i c v hi hj).1, (h4 i c v hi hj).2⟩⟩, h.rw, h.own, h.live, h.fr, h.dold, h.dlt, h.pk⟩
theorem cur_cell1 {v : AV} (h : v = .undef ∨ v.cell1 = true) : st.cur v = .undef ∨ (st.cur v).cell1 = true := by
 cases v <;> first | exact h | (exfalso; simp [AV.cell1] at h; done) | (simp only [St.cur]; split <;> first | exact .inr rfl | exact .inl rfl)
theorem cell_of_block {b j : Nat} {vs : Array Value} {E : Nat} {fr : Nat × Nat} (h : w.heap[b]? = some (.cells vs E fr)) : w.cell? ⟨b, j, none⟩ = vs[j]? := by
 simp [World.cell?, h]
theorem load_core (hT : TbOk P tb) (h : Inv c γ D st a w) {t : Nat} {x : Operand} {draw : Bool} {v : AV} {rd : List Nat} (hv : loadA tb draw st t (st.ev x) = some (v, rd)) : ∃ A cv, a.eval x = .pointer (some A) ∧ (loadVar t A).run P w = .ok cv w ∧ RepV γ w D st v cv := by
 have hx := h.ev x
 have cx := st.ev_isCur x
 generalize st.ev x = X at hx hv cx
 unfold loadA at hv
 split at hv
 ·simp at hv
 rename_i ti hti
 have ht := hT _ _ hti
 split at hv
 ·rename_i k g off
  split at hv
  ·split at hv
   ·rename_i cs hcs
    split at hv
    ·rename_i v' hp
     simp only [Option.some.injEq, Prod.mk.injEq] at hv
     obtain ⟨rfl, rfl⟩ := hv
     obtain ⟨_, vs, E, h2, h3, h4⟩ := h.bx k cs hcs
     obtain ⟨cv, hr, hR, _⟩ := load_view (P := P) (w := w) (D := D) (γ := γ) (st := st) ht (cs := cs.map st.cur) (f := fun j => vs.getD j Go.undef) (b := γ.bx k) (base := 0) (off := off) (av := v') (fun j c' hj => by
      rw [List.getElem?_map, Option.map_eq_some_iff] at hj
      obtain ⟨c0, hj0, rfl⟩ := hj
      have hlt : j < vs.size := by rw [h3]; exact (List.getElem?_eq_some_iff.1 hj0).1
      obtain ⟨r1, r2⟩ := h4 j c0 vs[j] hj0 (Array.getElem?_eq_getElem hlt)
      have e : vs.getD j Go.undef = vs[j] := by simp [hlt]
      simp only [e]
      exact ⟨by rw [Nat.zero_add, cell_of_block h2, Array.getElem?_eq_getElem hlt], r1.cur, cur_cell1 r2⟩) hp
     rw [Nat.zero_add] at hr
     exact ⟨_, cv, inv_ptr hx cx, hr, hR⟩
    ·simp at hv
   ·simp at hv
  ·simp at hv
 ·rename_i s e j
  obtain ⟨b, o', f, ev, hs, hc, hr⟩ := inv_rp hx
  split at hv
  ·rename_i hcond
   simp only [Bool.and_eq_true, beq_iff_eq] at hcond
   obtain ⟨⟨hagg, hj0⟩, hsz⟩ := hcond
   split at hv
   ·rename_i cs
    simp only [Option.some.injEq, Prod.mk.injEq] at hv
    obtain ⟨rfl, rfl⟩ := hv
    subst hj0
    have hlen : cs.length = ti.sz := by rw [hsz]; exact hs
    have hrun : (loadCells ⟨b, o' + 0, none⟩ ti.sz).run P w = .ok ((List.range ti.sz).map fun j => f j).toArray w :=
     run_loadCells w _ _ (fun j => f j) fun j hj => by
      rw [addr_add, Nat.add_zero]
      have hlt : j < cs.length := by omega
      exact (hc j cs[j] (List.getElem?_eq_getElem hlt)).2.2
    refine ⟨_, .agg ((List.range ti.sz).map fun j => f j).toArray, ev, ?_, .of (.agg _ _ (by simp [hlen]) (fun c' hc' => ?_) (fun m c' v' hm hm' => ?_))⟩
    ·simp only [loadVar, Sem.run_bind, ty_agg ht, hagg, Result.andThen_ok, if_true, ty_size ht, hrun, Sem.run_pure]
    ·obtain ⟨m, hm⟩ := List.getElem?_of_mem hc'
     exact (hc m c' hm).1
    ·have hlt : m < ti.sz := by rw [← hlen]; exact (List.getElem?_eq_some_iff.1 hm).1
     have : v' = f m := by simp [hlt] at hm'; exact hm'.symm
     subst this
     exact hr m c' hm
   ·simp at hv
  ·split at hv
   ·rename_i v' hp
    split at hv
    case isFalse => simp at hv
    simp only [Option.some.injEq, Prod.mk.injEq] at hv
    obtain ⟨rfl, rfl⟩ := hv
    obtain ⟨cv, hrun, hR, _⟩ := load_view (P := P) (w := w) (D := D) (γ := γ) (st := st) ht (cs := e.cells) (f := f) (b := b) (base := o') (off := j) (av := v') (fun j' c' hj' => by
     obtain ⟨q1, q2, q3⟩ := hc j' c' hj'
     exact ⟨q3, .of (hr j' c' hj'), .inr q1⟩) hp
    exact ⟨_, cv, ev, hrun, hR⟩
   ·simp at hv
 ·rename_i k g i
  split at hv
  ·rename_i hagg
   split at hv
   ·rename_i xs hxs
    split at hv
    ·rename_i v' hp
     split at hv
     case isFalse => simp at hv
     simp only [Option.some.injEq, Prod.mk.injEq] at hv
     obtain ⟨rfl, rfl⟩ := hv
     obtain ⟨_, vs, E, h2, h3, h4⟩ := h.rw k xs hxs
     have hlt : i < vs.size := by rw [h3]; exact (List.getElem?_eq_some_iff.1 hp).1
     have hagg' : ti.isAgg = false := by simpa using hagg
     refine ⟨_, vs[i], hx.2 cx, ?_, .of (h4 i v' vs[i] hp (Array.getElem?_eq_getElem hlt)).1⟩
     simp [loadVar, ty_agg ht, hagg', cell_of_block h2, hlt]
    ·simp at hv
   ·simp at hv
  ·simp at hv
 ·simp at hv
theorem sound_load (hT : TbOk P tb) {o : Oper} (h : Inv c γ D st a w) {t : Nat} {x : Operand} (ho : o.op = .load t x) {draw : Bool} {v : AV} {rd : List Nat} (hv : loadA tb draw st t (st.ev x) = some (v, rd)) : Gives P c o a w ({ st with rd := rd }.put o.dst v) := by
 obtain ⟨A, cv, h1, h2, h3⟩ := load_core hT h hv
 exact gives_put (st := { st with rd := rd }) (h.logs rd st.wr) (RepV.st (st := st) (fun _ => rfl) rfl h3) (by simp [execOp, ho, h1, Instr.loadAt, Instr.sureAddr, h2])
theorem inv_elems (h : Inv c γ D st a w) {X : AV} {V : Value} (hx : RepV γ w D st X V) (cx : st.isCur X) {s : Nat} {xs : List AV} (he : st.elems X = some (s, xs)) :
  ∃ A cap, V = .slice A xs.length cap ∧ xs.length ≤ cap ∧ (xs = [] ∨ ∃ b o, A = some ⟨b, o, none⟩ ∧ (∀ (i : Nat) (e : AV), xs[i]? = some e → e.cells.length = s) ∧
   ∃ f : Nat → Nat → Value, ∀ (i : Nat) (e : AV) (j : Nat) (c : AV), xs[i]? = some e → e.cells[j]? = some c → c.cell1 = true ∧ w.cell? ⟨b, o + (i * s + j), none⟩ = some (f i j) ∧ RepD w D c (f i j)) := by
 unfold St.elems at he
 split at he <;> try simp only [Option.some.injEq, Prod.mk.injEq, reduceCtorEq] at he
 ·obtain ⟨rfl, rfl⟩ := he
  obtain ⟨A, cap, ev, h1, _, h3⟩ := inv_sl hx
  refine ⟨A, cap, ev, h1, h3.imp id ?_⟩
  rintro ⟨b, o, f, e, hE⟩
  exact ⟨b, o, e, hE.1, f, fun i e j c hi hj => ⟨(hE.2.1 i e j c hi hj).1, (hE.2.1 i e j c hi hj).2.2, hE.2.2 i e j c hi hj⟩⟩
 ·obtain ⟨rfl, rfl⟩ := he
  obtain ⟨A, cap, ev, h1, _, h3⟩ := inv_sl hx.2.1
  refine ⟨A, cap, ev, h1, h3.imp id ?_⟩
  rintro ⟨b, o, f, e, hE⟩
  exact ⟨b, o, e, hE.1, f, fun i e j c hi hj => ⟨(hE.2.1 i e j c hi hj).1, (hE.2.1 i e j c hi hj).2.2, hE.2.2 i e j c hi hj⟩⟩
 ·rename_i k g
  split at he <;> simp only [Option.some.injEq, Prod.mk.injEq, reduceCtorEq] at he
  rename_i ys hr
  obtain ⟨rfl, rfl⟩ := he
  obtain ⟨_, vs, E, h2, h3, h4⟩ := h.rw k ys hr
  refine ⟨_, _, hx.2 cx ys hr, Nat.le_refl _, .inr ⟨_, 0, rfl, fun i e hi => ?_, fun i _ => vs.getD i Go.undef, fun i e j c' hi hj => ?_⟩⟩
  ·have hlt : i < vs.size := by rw [h3]; exact (List.getElem?_eq_some_iff.1 hi).1
   have hc1 := (h4 i e vs[i] hi (Array.getElem?_eq_getElem hlt)).2
   cases e <;> first | rfl | simp [AV.cell1] at hc1
  ·have hlt : i < vs.size := by rw [h3]; exact (List.getElem?_eq_some_iff.1 hi).1
   have hc1 := (h4 i e vs[i] hi (Array.getElem?_eq_getElem hlt)).2
   have hce : e.cells = [e] := by cases e <;> first | rfl | simp [AV.cell1] at hc1
   rw [hce] at hj
   cases j with
   | zero =>
    simp at hj
    subst hj
    refine ⟨hc1, ?_, ?_⟩
    ·simp [cell_of_block h2, hlt]
    ·simp only [Array.getD_eq_getD_getElem?, Array.getElem?_eq_getElem hlt, Option.getD_some]
     exact (h4 i e vs[i] hi (Array.getElem?_eq_getElem hlt)).1
   | succ j => simp at hj
theorem sound_len (hT : TbOk P tb) {o : Oper} (h : Inv c γ D st a w) {t : Nat} {x : Operand} (ho : o.op = .call { callee := .builtin .len, args := #[x], argTypes := #[t] }) {v : AV} (hv : lenA tb st t (st.ev x) = some v) : Gives P c o a w (st.put o.dst v) := by
 have hx := h.ev x
 have cx := st.ev_isCur x
 suffices hs : ∃ cv, (Builtin.len_ #[t] o.type #[a.eval x]).run P w = .ok cv w ∧ RepV γ w D st v cv by
  obtain ⟨cv, h1, h2⟩ := hs
  exact gives_put h h2 (by simp [execOp, ho, resolve, invoke, builtin, h1])
 generalize st.ev x = X at hx hv cx
 unfold lenA at hv
 split at hv
 ·simp at hv
 rename_i ti hti
 have ht := hT _ _ hti
 split at hv
 ·rename_i s hk
  simp only [Option.some.injEq] at hv
  subst hv
  obtain ⟨sb, ev, hs⟩ := inv_str hx
  have hsz : sb.size = s.length := by rw [← hs, Array.length_toList]; rfl
  exact ⟨_, by simp [Builtin.len_, run_underlying' w (ty_str ht hk), ev, goInt, hsz], .of (.int _ _)⟩
 ·rename_i e hk
  split at hv
  ·rename_i s xs he
   simp only [Option.some.injEq] at hv
   subst hv
   obtain ⟨A, cap, ev, _⟩ := inv_elems h hx cx he
   exact ⟨_, by simp [Builtin.len_, run_underlying' w (ty_sl ht hk), ev, goInt], .of (.int _ _)⟩
  ·simp at hv
 ·rename_i n e hk
  simp only [Option.some.injEq] at hv
  subst hv
  exact ⟨_, by simp [Builtin.len_, run_underlying' w (ty_arr ht hk), goInt], .of (.int _ _)⟩
 ·simp at hv
theorem sound_min {o : Oper} (h : Inv c γ D st a w) {x y : Operand} {ts : Array Nat} (ho : o.op = .call { callee := .builtin .min, args := #[x, y], argTypes := ts }) {k k' : IntKind} {m n : Int} (hx : st.ev x = .int k m) (hy : st.ev y = .int k' n) :
  Gives P c o a w (st.put o.dst (.int k (if n < m then n else m))) := by
 have ex := inv_int (hx ▸ h.ev x)
 have ey := inv_int (hy ▸ h.ev y)
 exact gives_put h (.of (.int _ _)) (by simp [execOp, ho, resolve, invoke, builtin, Builtin.min_, Builtin.min2, ex, ey])
theorem sound_max {o : Oper} (h : Inv c γ D st a w) {x y : Operand} {ts : Array Nat} (ho : o.op = .call { callee := .builtin .max, args := #[x, y], argTypes := ts }) {k k' : IntKind} {m n : Int} (hx : st.ev x = .int k m) (hy : st.ev y = .int k' n) :
  Gives P c o a w (st.put o.dst (.int k (if n > m then n else m))) := by
 have ex := inv_int (hx ▸ h.ev x)
 have ey := inv_int (hy ▸ h.ev y)
 exact gives_put h (.of (.int _ _)) (by simp [execOp, ho, resolve, invoke, builtin, Builtin.max_, Builtin.max2, ex, ey])
end
theorem fold_set (cells : List Value) : ∀ (k off : Nat) (C : Array Value), off + k + cells.length ≤ C.size →
  ((cells.zipIdx k).foldl (fun cs (x : Value × Nat) => cs.setIfInBounds (off + x.2) x.1) C).size = C.size ∧
  ∀ j, ((cells.zipIdx k).foldl (fun cs (x : Value × Nat) => cs.setIfInBounds (off + x.2) x.1) C)[j]? = if off + k ≤ j ∧ j < off + k + cells.length then cells[j - (off + k)]? else C[j]? := by
 induction cells with
 | nil =>
  intro k off C h
  refine ⟨rfl, fun j => ?_⟩
  have : ¬ (off + k ≤ j ∧ j < off + k + ([] : List Value).length) := by simp
  rw [if_neg this]
  rfl
 | cons v r ih =>
  intro k off C h
  simp only [List.length_cons] at h
  obtain ⟨h1, h2⟩ := ih (k + 1) off (C.setIfInBounds (off + k) v) (by simp; omega)
  simp only [List.zipIdx_cons, List.foldl_cons]
  refine ⟨by rw [h1]; simp, fun j => ?_⟩
  rw [h2 j]
  by_cases e : j = off + k
  ·subst e
   have e1 : ¬ (off + (k + 1) ≤ off + k ∧ off + k < off + (k + 1) + r.length) := by omega
   have e2 : off + k ≤ off + k ∧ off + k < off + k + (v :: r).length := by simp
   have e3 : off + k < C.size := by omega
   rw [if_neg e1, if_pos e2]
   simp [Array.getElem?_setIfInBounds, e3]
  ·by_cases e4 : off + (k + 1) ≤ j ∧ j < off + (k + 1) + r.length
   ·have e5 : off + k ≤ j ∧ j < off + k + (v :: r).length := by simp; omega
    rw [if_pos e4, if_pos e5]
    have : j - (off + k) = (j - (off + (k + 1))) + 1 := by omega
    rw [this, List.getElem?_cons_succ]
   ·have e5 : ¬ (off + k ≤ j ∧ j < off + k + (v :: r).length) := by simp; omega
    rw [if_neg e4, if_neg e5, Array.getElem?_setIfInBounds_ne (by omega)]
theorem array_fold_set (v : Array Value) (off : Nat) (C : Array Value) (h : off + v.size ≤ C.size) :
  (v.zipIdx.foldl (fun cs (x : Value × Nat) => cs.setIfInBounds (off + x.2) x.1) C).size = C.size ∧
  ∀ j, (v.zipIdx.foldl (fun cs (x : Value × Nat) => cs.setIfInBounds (off + x.2) x.1) C)[j]? = if off ≤ j ∧ j < off + v.size then v[j - off]? else C[j]? := by
 have e : v.zipIdx.foldl (fun cs (x : Value × Nat) => cs.setIfInBounds (off + x.2) x.1) C = (v.toList.zipIdx 0).foldl (fun cs (x : Value × Nat) => cs.setIfInBounds (off + x.2) x.1) C := by
  rw [← Array.foldl_toList, Array.toList_zipIdx]
 rw [e]
 obtain ⟨h1, h2⟩ := fold_set v.toList 0 off C (by simpa using h)
 refine ⟨h1, fun j => ?_⟩
 rw [h2 j]
 simp
theorem setCells_len : ∀ (l : List AV) (cs : List AV) (off : Nat), (setCells cs off l).length = cs.length
 | [], cs, off => rfl
 | v :: r, cs, off => by rw [setCells, setCells_len r]; simp
theorem setCells_get : ∀ (l : List AV) (cs : List AV) (off j : Nat), off + l.length ≤ cs.length → (setCells cs off l)[j]? = if off ≤ j ∧ j < off + l.length then l[j - off]? else cs[j]?
 | [], cs, off, j, h => by
  have : ¬ (off ≤ j ∧ j < off + ([] : List AV).length) := by simp
  rw [if_neg this]
  rfl
 | v :: r, cs, off, j, h => by
  simp only [List.length_cons] at h
  rw [setCells, setCells_get r _ _ _ (by simp; omega)]
  by_cases e : j = off
  ·subst e
   have e1 : ¬ (j + 1 ≤ j ∧ j < j + 1 + r.length) := by omega
   have e2 : j ≤ j ∧ j < j + (v :: r).length := by simp
   rw [if_neg e1, if_pos e2]
   simp [show j < cs.length by omega]
  ·by_cases e4 : off + 1 ≤ j ∧ j < off + 1 + r.length
   ·have e5 : off ≤ j ∧ j < off + (v :: r).length := by simp; omega
    rw [if_pos e4, if_pos e5]
    have : j - off = (j - (off + 1)) + 1 := by omega
    rw [this, List.getElem?_cons_succ]
   ·have e5 : ¬ (off ≤ j ∧ j < off + (v :: r).length) := by simp; omega
    rw [if_neg e4, if_neg e5, List.getElem?_set_ne (by omega)]
def RepL (w : World) (D : Dead) (cs : List AV) (vs : Array Value) : Prop :=
 vs.size = cs.length ∧ (∀ c ∈ cs, c.cell1 = true) ∧ ∀ (i : Nat) (c : AV) (v : Value), cs[i]? = some c → vs[i]? = some v → RepD w D c v
section
variable {P : Program} {c : Ctx} {γ : Gh} {D : Dead} {st : St} {a : Act} {w : World} {tb : Tb}
theorem RepD.cells {v : AV} {cv : Value} (h : RepD w D v cv) : RepL w D v.cells cv.cells := by
 cases h with
 | agg cs vs hn h1 hh => exact ⟨hn, h1, hh⟩
 | _ =>
  refine ⟨rfl, fun c hc => ?_, fun i c v hi hj => ?_⟩
  ·simp [AV.cells] at hc
   subst hc
   rfl
  ·cases i with
   | zero =>
    simp [AV.cells] at hi
    simp [Value.cells] at hj
    subst hi
    subst hj
    first | exact .int _ _ | exact .bool _ | (exact .str _ _ (by assumption)) | exact .slN _ _ _ _ (by assumption) | (exact .sl _ _ _ _ _ _ _ (by assumption) (by assumption) (by assumption) (by assumption) (by assumption)) | (exact .rp _ _ _ _ _ _ (by assumption) (by assumption) (by assumption)) | exact .nilp | exact .fn _ | exact .nilfn | (exact .iface _ _ _ (by assumption)) | exact .nili
   | succ i => simp [AV.cells] at hi
theorem RepL.set {cs : List AV} {vs : Array Value} (h : RepL w D cs vs) {l : List AV} {us : Array Value} (h' : RepL w D l us) {off : Nat} (hle : off + l.length ≤ cs.length) :
  RepL w D (setCells cs off l) (us.zipIdx.foldl (fun x (y : Value × Nat) => x.setIfInBounds (off + y.2) y.1) vs) := by
 obtain ⟨h1, h2⟩ := array_fold_set us off vs (by rw [h.1, h'.1]; exact hle)
 refine ⟨by rw [h1, setCells_len, h.1], fun c hc => ?_, fun i c v hi hj => ?_⟩
 ·obtain ⟨i, hi⟩ := List.getElem?_of_mem hc
  rw [setCells_get _ _ _ _ hle] at hi
  split at hi
  ·exact h'.2.1 c (List.mem_of_getElem? hi)
  ·exact h.2.1 c (List.mem_of_getElem? hi)
 ·rw [setCells_get _ _ _ _ hle] at hi
  rw [h2, h'.1] at hj
  split at hi
  ·rename_i hc
   rw [if_pos hc] at hj
   exact h'.2.2 _ _ _ hi hj
  ·rename_i hc
   rw [if_neg hc] at hj
   exact h.2.2 _ _ _ hi hj
theorem fillParts_sound (hT : TbOk P tb) (h : Inv c γ D st a w) {fs : List (Nat × Nat)} {places : List (Nat × Nat)} (hp : places = fs.map fun f => (f.1, P.cellsOf f.2)) : ∀ (ps : List (Nat × Operand)) (cs : List AV) (vs : Array Value) (r : List AV), RepL w D cs vs → TI.fillParts tb fs st cs ps = some r →
  ∃ us, Instr.fill (fun i => places[i]?) vs (ps.map fun p => (p.1, a.eval p.2)) = some us ∧ RepL w D r us
 | [], cs, vs, r, hR, hf => by
  simp only [TI.fillParts, Option.some.injEq] at hf
  subst hf
  exact ⟨vs, rfl, hR⟩
 | (i, x) :: ps, cs, vs, r, hR, hf => by
  simp only [TI.fillParts] at hf
  split at hf
  ·simp at hf
  rename_i off t hi
  split at hf
  ·rename_i ti v hti hv
   split at hf
   ·rename_i hc
    obtain ⟨c1, c2⟩ := hc
    have hD := (h.ev x).dat hv
    have hcl := hD.cells
    obtain ⟨us, h1, h2⟩ := fillParts_sound hT h hp ps _ _ _ (hR.set hcl (off := off) (by rw [c1]; exact c2)) hf
    refine ⟨us, ?_, h2⟩
    simp only [List.map_cons, Instr.fill]
    have e : places[i]? = some (off, ti.sz) := by rw [hp, List.getElem?_map, hi]; simp [ty_cells (hT _ _ hti)]
    have e1 : ¬ ((a.eval x).cells.size ≠ ti.sz ∨ off + (a.eval x).cells.size > vs.size) := by
     rw [hcl.1, c1, hR.1]; omega
    rw [e]
    simp only [Bool.or_eq_true, decide_eq_true_eq]
    rw [if_neg e1]
    exact h1
   ·simp at hf
  ·simp at hf
theorem mapM_places : ∀ fs : List Field, (∀ f ∈ fs, P.cellsOf f.type ≠ 0) → fs.mapM (fun f => (P.info? f.type).map fun i => (f.offset, i.size)) = some (fs.map fun f => (f.offset, P.cellsOf f.type))
 | [], _ => rfl
 | f :: fs, h => by
  have h1 := h f (by simp)
  cases hi : P.info? f.type with
  | none => simp [Program.cellsOf, hi] at h1
  | some i =>
   have ih := mapM_places fs (fun g hg => h g (by simp [hg]))
   simp [List.mapM_cons, hi, ih, Program.cellsOf]
theorem sound_build (hT : TbOk P tb) {o : Oper} (h : Inv c γ D st a w) {t : Nat} {ps : Array (Nat × Operand)} (ho : o.op = .build t ps) {ti : TI} (hti : find t tb = some ti) {fs : List (Nat × Nat)} (hk : ti.k = .struct fs) {z z' : List AV} (hz : ti.z = .agg z) (hz' : datAll z = some z') {cs : List AV}
  (hf : TI.fillParts tb fs st z' ps.toList = some cs) : Gives P c o a w (st.put o.dst (.agg cs)) := by
 obtain ⟨arr, hu, hfs, hsz⟩ := ty_struct (hT _ _ hti) hk
 obtain ⟨it, d, hit, _, _, _, _, hz1, hz2⟩ := tyOf.parts (hT _ _ hti)
 obtain ⟨zv, hzv⟩ : ∃ zv, it.zero = some zv := by
  cases hh : it.zero with
  | none => rw [hz2 hh] at hz; simp at hz
  | some zv => exact ⟨zv, rfl⟩
 have hze := hz1 zv hzv
 have hzR : RepV γ w D st (.agg z) zv := by rw [← hz, ← hze]; exact RepV.ofVal zv
 obtain ⟨vs, rfl, hn, h1, hh⟩ := inv_agg hzR
 have hzz : RepL w D z' vs := by
  obtain ⟨d1, d2⟩ := datAll_spec hz'
  refine ⟨by rw [hn, d1], fun c hc => ?_, fun i c v hi hj => ?_⟩
  ·obtain ⟨i, hi⟩ := List.getElem?_of_mem hc
   have hlt : i < z.length := by rw [← d1]; exact (List.getElem?_eq_some_iff.1 hi).1
   obtain ⟨d, e1, e2⟩ := d2 i z[i] (List.getElem?_eq_getElem hlt)
   rw [hi] at e1
   simp only [Option.some.injEq] at e1
   subst e1
   exact dat_cell1 e2 (h1 _ (List.getElem_mem hlt))
  ·have hlt : i < z.length := by rw [← d1]; exact (List.getElem?_eq_some_iff.1 hi).1
   obtain ⟨d, e1, e2⟩ := d2 i z[i] (List.getElem?_eq_getElem hlt)
   rw [hi] at e1
   simp only [Option.some.injEq] at e1
   subst e1
   exact RepV.dat (γ := γ) (st := st) (.of (hh i _ v (List.getElem?_eq_getElem hlt) hj)) e2
 obtain ⟨us, hfill, hR⟩ := fillParts_sound hT h (places := arr.toList.map fun f => (f.offset, P.cellsOf f.type)) (by rw [hfs]; simp) ps.toList z' vs cs hzz hf
 refine gives_put h (cv := .agg us) (.of (.agg _ _ hR.1 hR.2.1 hR.2.2)) ?_
 have hb : P.built t (ps.map fun (i, x) => (i, a.eval x)).toList = some us := by
  unfold Program.built
  simp only [hit, hu, hzv, mapM_places arr.toList (fun f hf => hsz f (by simpa using hf))]
  rw [← hfill]
  simp [Value.cells]
 simp [execOp, ho, run_build w t _ us hb]
end
open Go.RowKit
def RowRep (w : World) (D : Dead) (s : Nat) (xs : List AV) (vs : Array Value) : Prop :=
 (∀ (i : Nat) (e : AV), xs[i]? = some e → e.cells.length = s) ∧ vs.size = xs.length * s ∧
 ∀ (i : Nat) (e : AV) (j : Nat) (c : AV) (v : Value), xs[i]? = some e → e.cells[j]? = some c → vs[i * s + j]? = some v → c.cell1 = true ∧ RepD w D c v
section
variable {P : Program} {c : Ctx} {γ : Gh} {D D' : Dead} {st : St} {a : Act} {w w' : World} {tb : Tb}
theorem Inv.pres (h : Inv c γ D st a w) (hb : Below w.heap.size w w') : Pres D w w' := fun b o hd => by
 simp [World.cell?, hb.block b (h.dlt b o hd)]
theorem Inv.grow (h : Inv c γ D st a w) (hb : Below w.heap.size w w') (h1 : ∀ b o, D b o → D' b o) (h2 : ∀ b o, b < w.heap.size → D' b o → D b o) (h3 : ∀ b o, D' b o → b < w'.heap.size) : Inv c γ D' st a w' := by
 have hp := h.pres hb
 have hV : ∀ {av : AV} {v : Value}, RepV γ w D st av v → RepV γ w' D' st av v := fun {av v} hv =>
  RepV.mono hp h1 (fun _ => Nat.le_refl _) (fun k _ => ⟨rfl, rfl, fun xs hx => ⟨xs, hx, rfl⟩, fun s xs v => by
   rintro ⟨A, cap, e, hc⟩
   refine ⟨A, cap, e, hc.imp id ?_⟩
   rintro ⟨hA, ho, q1, q2, q4⟩
   have hlt := (h.own _ _ ho).1
   have hbk := hb.block _ hlt
   exact ⟨hA, ho, q1, fun o hlt' => ⟨by rw [World.cell?_of_block (a := ⟨γ.tp k, o, none⟩) hbk]; exact (q2 o hlt').1, by rw [World.frozen?_of_block (a := ⟨γ.tp k, o, none⟩) hbk]; exact (q2 o hlt').2⟩, fun o hd => q4 o (h2 _ _ hlt hd)⟩⟩) hv
 refine ⟨h.nt, h.dfr, fun t => hV (h.tm t), fun k cs hk => ?_, fun k xs hk => ?_, fun b q hq => ⟨Nat.lt_of_lt_of_le (h.own b q hq).1 hb.size, (h.own b q hq).2⟩, fun b k ho o hd => ?_, ?_, fun b o hlt => ?_, h3, h.pk⟩
 ·obtain ⟨q1, vs, E, q2, q3, q4⟩ := h.bx k cs hk
  exact ⟨q1, vs, E, (hb.block _ (h.own _ _ q1).1).trans q2, q3, fun i c v hi hj => ⟨hV (q4 i c v hi hj).1, (q4 i c v hi hj).2⟩⟩
 ·obtain ⟨q1, vs, E, q2, q3, q4⟩ := h.rw k xs hk
  exact ⟨q1, vs, E, (hb.block _ (h.own _ _ q1).1).trans q2, q3, fun i c v hi hj => ⟨(q4 i c v hi hj).1.mono hp h1, (q4 i c v hi hj).2⟩⟩
 ·have hlt : b < w.heap.size := by rcases ho with ho | ho <;> exact (h.own b _ ho).1
  exact h.live b k ho o (h2 b o hlt hd)
 ·exact ⟨hb.os.trans h.fr.os, hb.tape.trans h.fr.tape, hb.output.trans h.fr.output, Nat.le_trans h.fr.size hb.size, fun b hlt hn => (hb.block b (Nat.lt_of_lt_of_le hlt h.fr.size)).trans (h.fr.block b hlt hn)⟩
 ·have hlt' : b < w.heap.size := Nat.lt_of_lt_of_le hlt h.fr.size
  exact ⟨fun hd => (h.dold b o hlt).1 (h2 b o hlt' hd), fun hd => h1 b o ((h.dold b o hlt).2 hd)⟩
def deadNew (D : Dead) (b n : Nat) : Dead := fun b' o => D b' o ∨ (b' = b ∧ o < n)
theorem below_alloc (w : World) (o : Obj) : Below w.heap.size w (w.alloc o) := (Below.refl _ _).alloc (Nat.le_refl _) o
theorem Inv.newDead (h : Inv c γ D st a w) (vs : Array Value) (E : Nat) : Inv c γ (deadNew D w.heap.size vs.size) st a (w.alloc (.cells vs E)) := by
 refine h.grow (below_alloc w _) (fun b o hd => .inl hd) (fun b o hlt hd => hd.resolve_right (fun hh => by omega)) (fun b o hd => ?_)
 rw [World.size_alloc]
 rcases hd with hd | ⟨rfl, _⟩
 ·have := h.dlt b o hd; omega
 ·omega
theorem RowRep.rep (h : Inv c γ D st a w) {s : Nat} {xs : List AV} {vs : Array Value} (hr : RowRep w D s xs vs) (E : Nat) :
  RepD (w.alloc (.cells vs E)) (deadNew D w.heap.size vs.size) (.sl s true xs) (.slice (some ⟨w.heap.size, 0, none⟩) xs.length xs.length) := by
 have hidx : ∀ (i : Nat) (e : AV) (j : Nat) (c : AV), xs[i]? = some e → e.cells[j]? = some c → i * s + j < vs.size := by
  intro i e j c hi hj
  have h1 : i < xs.length := (List.getElem?_eq_some_iff.1 hi).1
  have h2 : j < s := by rw [← hr.1 i e hi]; exact (List.getElem?_eq_some_iff.1 hj).1
  rw [hr.2.1]
  calc i * s + j < i * s + s := by omega
   _ = (i + 1) * s := by rw [Nat.add_mul]; simp
   _ ≤ xs.length * s := Nat.mul_le_mul_right _ h1
 refine .sl s true xs w.heap.size 0 xs.length (fun i j => vs.getD (i * s + j) Go.undef) (Nat.le_refl _) (fun _ => rfl) hr.1 (fun i e j c hi hj => ?_) (fun i e j c hi hj => ?_)
 ·have hlt := hidx i e j c hi hj
  refine ⟨(hr.2.2 i e j c vs[i * s + j] hi hj (Array.getElem?_eq_getElem hlt)).1, .inr ⟨rfl, by omega⟩, ?_⟩
  rw [Nat.zero_add, World.cell?_alloc_new]
  simp [hlt]
 ·have hlt := hidx i e j c hi hj
  have e1 : vs.getD (i * s + j) Go.undef = vs[i * s + j] := by simp [hlt]
  simp only [e1]
  exact (hr.2.2 i e j c vs[i * s + j] hi hj (Array.getElem?_eq_getElem hlt)).2.mono (h.pres (below_alloc w _)) (fun b o hd => .inl hd)
theorem RowRep.set {s : Nat} {xs : List AV} {vs : Array Value} (h : RowRep w D s xs vs) {v : AV} {us : Array Value} (hv : RepL w D v.cells us) (hs : v.cells.length = s) {i : Nat} (hi : i < xs.length) :
  RowRep w D s (xs.set i v) (us.zipIdx.foldl (fun x (y : Value × Nat) => x.setIfInBounds (i * s + y.2) y.1) vs) := by
 have hle : i * s + us.size ≤ vs.size := by
  rw [hv.1, hs, h.2.1]
  calc i * s + s = (i + 1) * s := by rw [Nat.add_mul]; simp
   _ ≤ xs.length * s := Nat.mul_le_mul_right _ hi
 obtain ⟨h1, h2⟩ := array_fold_set us (i * s) vs hle
 refine ⟨fun m e hm => ?_, by rw [h1, List.length_set]; exact h.2.1, fun m e j c x hm hj hx => ?_⟩
 ·rw [List.getElem?_set] at hm
  split at hm
  ·rename_i e1
   subst e1
   have hm' : v = e := by simpa [hi] using hm
   subst hm'
   exact hs
  ·exact h.1 m e hm
 ·rw [h2, hv.1, hs] at hx
  rw [List.getElem?_set] at hm
  split at hm
  ·rename_i e1
   subst e1
   have hm' : v = e := by simpa [hi] using hm
   subst hm'
   have hj' : j < s := by rw [← hs]; exact (List.getElem?_eq_some_iff.1 hj).1
   rw [if_pos (by omega)] at hx
   have : i * s + j - i * s = j := by omega
   rw [this] at hx
   exact ⟨hv.2.1 c (List.mem_of_getElem? hj), hv.2.2 j c x hj hx⟩
  ·rename_i e1
   have hj' : j < s := by rw [← h.1 m e hm]; exact (List.getElem?_eq_some_iff.1 hj).1
   have : ¬ (i * s ≤ m * s + j ∧ m * s + j < i * s + s) := by
    rintro ⟨q1, q2⟩
    rcases Nat.lt_or_gt_of_ne e1 with hlt | hlt
    ·have : (i + 1) * s ≤ m * s := Nat.mul_le_mul_right _ hlt
     rw [Nat.add_mul] at this
     omega
    ·have : (m + 1) * s ≤ i * s := Nat.mul_le_mul_right _ hlt
     rw [Nat.add_mul] at this
     omega
   rw [if_neg this] at hx
   exact h.2.2 m e j c x hm hj hx
theorem fillElems_sound (h : Inv c γ D st a w) {s : Nat} {z : AV} : ∀ (ps : List (Nat × Operand)) (xs : List AV) (vs : Array Value) (r : List AV), RowRep w D s xs vs → fillElems z s st xs ps = some r →
  ∃ us, Instr.fill (fun i => some (i * s, s)) vs (ps.map fun p => (p.1, a.eval p.2)) = some us ∧ RowRep w D s r us ∧ r.length = xs.length
 | [], xs, vs, r, hR, hf => by
  simp only [fillElems, Option.some.injEq] at hf
  subst hf
  exact ⟨vs, rfl, hR, rfl⟩
 | (i, x) :: ps, xs, vs, r, hR, hf => by
  simp only [fillElems] at hf
  split at hf
  ·rename_i v hv
   split at hf
   ·rename_i hc
    obtain ⟨c1, c2⟩ := hc
    have hcl := ((h.ev x).dat hv).cells
    obtain ⟨us, h1, h2, h3⟩ := fillElems_sound h ps _ _ _ (hR.set hcl c1 c2) hf
    refine ⟨us, ?_, h2, by rw [h3]; simp⟩
    simp only [List.map_cons, Instr.fill]
    have hle : i * s + s ≤ vs.size := by
     rw [hR.2.1]
     calc i * s + s = (i + 1) * s := by rw [Nat.add_mul]; simp
      _ ≤ xs.length * s := Nat.mul_le_mul_right _ c2
    have e1 : ¬ ((a.eval x).cells.size ≠ s ∨ i * s + (a.eval x).cells.size > vs.size) := by
     rw [hcl.1, c1]; omega
    simp only [Bool.or_eq_true, decide_eq_true_eq]
    rw [if_neg e1]
    exact h1
   ·simp at hf
  ·simp at hf
theorem zeroRow {z : AV} {zc : Array Value} {s : Nat} (hz : RepL w D z.cells zc) (hs : z.cells.length = s) (n : Nat) : RowRep w D s (List.replicate n z) ((Array.range (n * s)).map (zc[· % zc.size]!)) := by
 refine ⟨fun i e hi => ?_, by simp, fun i e j c v hi hj hv => ?_⟩
 ·rw [List.getElem?_replicate] at hi
  split at hi
  ·simp at hi; subst hi; exact hs
  ·simp at hi
 ·rw [List.getElem?_replicate] at hi
  split at hi
  ·simp at hi
   subst hi
   have hj' : j < s := by rw [← hs]; exact (List.getElem?_eq_some_iff.1 hj).1
   have hzs : zc.size = s := by rw [hz.1, hs]
   have hlt : i * s + j < n * s := by
    calc i * s + j < i * s + s := by omega
     _ = (i + 1) * s := by rw [Nat.add_mul]; simp
     _ ≤ n * s := Nat.mul_le_mul_right _ (by assumption)
   have hm : (i * s + j) % s = j := by rw [Nat.mul_comm, Nat.mul_add_mod, Nat.mod_eq_of_lt hj']
   have hv' : v = zc[j]! := by
    simp [hlt, hzs, hm] at hv
    exact hv.symm
   have hjz : j < zc.size := by omega
   rw [getElem!_pos zc j hjz] at hv'
   subst hv'
   exact ⟨hz.2.1 c (List.mem_of_getElem? hj), hz.2.2 j c zc[j] hj (Array.getElem?_eq_getElem hjz)⟩
  ·simp at hi
theorem ty_zero' {t : Nat} {ti : TI} (h : tyOf P t = some ti) {z : AV} (hz : ti.z.dat = some z) : ∃ i zv, P.info? t = some i ∧ i.zero = some zv ∧ i.size = ti.sz ∧ i.bytes = ti.bytes ∧ ∀ (γ : Gh) (w : World) (D : Dead) (st : St), RepD w D z zv := by
 obtain ⟨it, d, hit, _, _, hs, hb, hz1, hz2⟩ := tyOf.parts h
 obtain ⟨zv, hzv⟩ : ∃ zv, it.zero = some zv := by
  cases hh : it.zero with
  | none => rw [hz2 hh] at hz; simp [AV.dat] at hz
  | some zv => exact ⟨zv, rfl⟩
 refine ⟨it, zv, hit, hzv, hs, hb, fun γ w D st => ?_⟩
 have := hz1 zv hzv
 exact RepV.dat (γ := γ) (st := st) (by rw [← this]; exact RepV.ofVal zv) hz
theorem dat_cells_len {v d : AV} (h : v.dat = some d) : d.cells.length = v.cells.length := by
 cases v <;> simp only [AV.dat, Option.some.injEq, reduceCtorEq] at h <;> subst h <;> rfl
theorem gives_alloc {o : Oper} {v : AV} {cv : Value} {vs : Array Value} {E : Nat} (h : Inv c γ D st a w) (hv : RepD (w.alloc (.cells vs E)) (deadNew D w.heap.size vs.size) v cv) (hr : (execOp a.eval o).run P w = .ok (.value cv) (w.alloc (.cells vs E))) : Gives P c o a w (st.put o.dst v) :=
 ⟨cv, _, .inl hr, γ, _, (h.newDead vs E).put (.of hv) o.dst⟩
theorem sound_buildSlice (hT : TbOk P tb) {o : Oper} (h : Inv c γ D st a w) {t n : Nat} {ps : Array (Nat × Operand)} (ho : o.op = .buildSlice t n ps) {ti te : TI} (hti : find t tb = some ti) {e : Nat} (hk : ti.k = .sl e) (hte : find e tb = some te)
  (hsm : n * te.sz ≤ 16777216) (hsz : te.sz ≠ 0) (hzl : te.z.cells.length = te.sz) {z : AV} (hz : te.z.dat = some z) {xs : List AV} (hf : fillElems z te.sz st (List.replicate n z) ps.toList = some xs) (hn : n ≠ 0) : Gives P c o a w (st.put o.dst (.sl te.sz true xs)) := by
 have hu := ty_sl (hT _ _ hti) hk
 obtain ⟨ie, zv, hie, hzv, hs, _, hzr⟩ := ty_zero' (hT _ _ hte) hz
 have hzl' : z.cells.length = te.sz := by rw [dat_cells_len hz, hzl]
 have hzc := (hzr γ w D st).cells
 obtain ⟨us, h1, h2, h3⟩ := fillElems_sound h ps.toList _ _ xs (zeroRow hzc hzl' n) hf
 have hlen : xs.length = n := by rw [h3]; simp
 have hpos : ¬ n * ie.size = 0 := by rw [hs]; exact Nat.mul_ne_zero hn hsz
 refine gives_alloc h (h2.rep h e) ?_
 rw [hlen]
 have := run_buildSlice (P := P) w t e n (ps.map fun (i, x) => (i, a.eval x)) us ie zv hu hie hzv (by rw [hs]; omega) hpos (by rw [hs, ← h1]; simp)
 simp [execOp, ho, this]
end
end Go.AM
