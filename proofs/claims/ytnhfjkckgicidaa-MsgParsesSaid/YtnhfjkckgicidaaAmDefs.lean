/- The abstract machine: values, states, one operation, code, functions. Plain definitions: nothing is proved here. -/
import Derived.Calls
namespace Go.AM

/-- A value as the machine has it. 'sl': a slice of finished elements (never written again; 'full': its capacity is its length); 'rp': a pointer to cell j of such an element, of s cells;
 'ptr': a pointer into a box of the call's own, 'tip': a slice that may still be appended to, both with a key and a generation; 'row', 'rowp': a row that was made and is written, and a pointer into it. -/
inductive AV where
  | undef
  | int (k : IntKind) (n : Int)
  | bool (b : Bool)
  | str (s : List UInt8)
  | agg (cs : List AV)
  | tup (vs : List AV)
  | sl (s : Nat) (full : Bool) (xs : List AV)
  | rp (s : Nat) (e : AV) (j : Nat)
  | nilp
  | fn (f : Nat)
  | nilfn
  | ptr (k g off : Nat)
  | tip (k g s : Nat) (xs : List AV)
  | row (k g : Nat)
  | rowp (k g i : Nat)
  | iface (t : Nat) (v : AV)
  | nili
  deriving Inhabited

def AV.cells : AV → List AV
  | .agg cs => cs
  | v => [v]

/-- What a value is when nothing may be appended to it any more; none: it is no finished value. -/
def AV.dat : AV → Option AV
  | .tip _ _ s xs => some (.sl s false xs)
  | .undef | .tup _ | .ptr .. | .row .. | .rowp .. => none
  | v => some v

def datAll : List AV → Option (List AV)
  | [] => some []
  | v :: r => match v.dat, datAll r with
    | some a, some l => some (a :: l)
    | _, _ => none

/-! ### Types -/
inductive TK where
  | int (k : IntKind)
  | bool
  | str
  | struct (fs : List (Nat × Nat))     -- of each field: offset, type
  | arr (n : Nat) (e : Nat)
  | sl (e : Nat)
  | ptr
  | other

/-- What a cell looks like: for what calls answer. -/
inductive Sh where
  | int (k : IntKind)
  | bool
  | str
  | sl
  | agg (l : List Sh)
  | tup (l : List Sh)
  | any

structure TI where
  k : TK
  sz : Nat
  bytes : Nat
  z : AV

def ofVal1 : Value → AV
  | .int k n => .int k n
  | .bool b => .bool b
  | .string s => .str s.data.toList
  | .pointer none => .nilp
  | .slice none 0 0 => .sl 0 true []
  | .nilIface => .nili
  | .nilFunc => .nilfn
  | _ => .undef
/-- May a value lie in one cell? -/
def AV.cell1 : AV → Bool
  | .undef | .agg _ | .tup _ | .row _ _ | .rowp _ _ _ => false
  | _ => true
def ofVal : Value → AV
  | .agg cs => if (cs.toList.map ofVal1).all AV.cell1 then .agg (cs.toList.map ofVal1) else .undef
  | v => ofVal1 v

abbrev Tb := List (Nat × TI)
def find {α : Type} (k : Nat) : List (Nat × α) → Option α
  | [] => none
  | (m, v) :: r => if k = m then some v else find k r
def put {α : Type} (k : Nat) (v : α) : List (Nat × α) → List (Nat × α)
  | [] => [(k, v)]
  | (m, u) :: r => if k = m then (k, v) :: r else if k < m then (k, v) :: (m, u) :: r else (m, u) :: put k v r
def del {α : Type} (k : Nat) : List (Nat × α) → List (Nat × α)
  | [] => []
  | (m, u) :: r => if k = m then del k r else (m, u) :: del k r

def TI.isAgg (t : TI) : Bool := match t.k with | .struct _ | .arr _ _ => true | _ => false

/-! ### States -/
structure St where
  nt : Nat
  t : List (Nat × AV)
  b : List (Nat × List AV)
  r : List (Nat × List AV)
  g : List (Nat × Nat)
  rd : List Nat
  wr : List Nat

def St.get (st : St) (k : Nat) : AV := match find k st.t with | some v => v | none => .undef
def St.gen (st : St) (k : Nat) : Nat := match find k st.g with | some n => n | none => 0
/-- A value as it counts now: what is older is forgotten, or finished. -/
def St.cur (st : St) : AV → AV
  | .tip k g s xs => if g = st.gen k then .tip k g s xs else .sl s false xs
  | .ptr k g off => if g = st.gen k then .ptr k g off else .undef
  | .row k g => if g = st.gen k then .row k g else .undef
  | .rowp k g i => if g = st.gen k then .rowp k g i else .undef
  | v => v
def St.ev (st : St) : Operand → AV
  | .tmp t => st.cur (st.get t)
  | .const v => ofVal v
  | .func f => .fn f
  | .global _ => .undef
def St.put (st : St) (dst : Option Nat) (v : AV) : St := match dst with | some d => (if d < st.nt then { st with t := AM.put d v st.t } else st) | none => st

/-- A part of a row of cells, at a type. -/
def partOf (ti : TI) (cs : List AV) (off : Nat) : Option AV :=
  if ti.isAgg then (if off + ti.sz ≤ cs.length then (match datAll ((cs.drop off).take ti.sz) with | some l => some (.agg l) | none => none) else none) else cs[off]?

def setCells (cs : List AV) (off : Nat) : List AV → List AV
  | [] => cs
  | v :: r => setCells (cs.set off v) (off + 1) r

/-! ### Operations on values -/
def intA (op : BinOp) (k : IntKind) (a b : Int) : Option AV :=
  match op with
  | .add => some (.int k (k.wrap (a + b)))
  | .sub => some (.int k (k.wrap (a - b)))
  | .mul => some (.int k (k.wrap (a * b)))
  | .quo => if b = 0 then none else some (.int k (k.wrap (a.tdiv b)))
  | .rem => if b = 0 then none else some (.int k (a.tmod b))
  | .and => some (.int k (k.wrap ((BitVec.ofInt k.bits a &&& BitVec.ofInt k.bits b).toNat)))
  | .or => some (.int k (k.wrap ((BitVec.ofInt k.bits a ||| BitVec.ofInt k.bits b).toNat)))
  | .xor => some (.int k (k.wrap ((BitVec.ofInt k.bits a ^^^ BitVec.ofInt k.bits b).toNat)))
  | .andNot => some (.int k (k.wrap ((BitVec.ofInt k.bits a &&& ~~~ BitVec.ofInt k.bits b).toNat)))
  | .eql => some (.bool (a == b))
  | .neq => some (.bool (a != b))
  | .lss => some (.bool (decide (a < b)))
  | .leq => some (.bool (decide (a ≤ b)))
  | .gtr => some (.bool (decide (a > b)))
  | .geq => some (.bool (decide (a ≥ b)))
  | _ => none

def shiftA (op : BinOp) (k : IntKind) (a b : Int) : Option AV :=
  if b < 0 then none else
  match op with
  | .shl => some (.int k (k.wrap (a * 2 ^ (min b.toNat k.bits))))
  | .shr => some (.int k (a.fdiv (2 ^ (min b.toNat k.bits))))
  | _ => none

def strA (op : BinOp) (a b : List UInt8) : Option AV :=
  match op with
  | .add => if a.length + b.length ≤ 4611686018427387904 then some (.str (a ++ b)) else none
  | .eql => some (.bool (a == b))
  | .neq => some (.bool (!(a == b)))
  | _ => none

def eqCell (k : TK) (x y : AV) : Option Bool :=
  match k, x, y with
  | .int _, .int k a, .int k' b => if k = k' then some (a == b) else none
  | .bool, .bool a, .bool b => some (a == b)
  | .str, .str a, .str b => some (a == b)
  | _, _, _ => none
/-- Structs of plain fields, field by field. -/
def eqFs (tb : Tb) (i : Nat) : List (Nat × Nat) → List AV → List AV → Option Bool
  | [], [], [] => some true
  | (o, t) :: fs, x :: xs, y :: ys =>
    if o = i then (match find t tb with
      | some ti => (match eqCell ti.k x y, eqFs tb (i + 1) fs xs ys with
        | some a, some b => some (a && b)
        | _, _ => none)
      | none => none) else none
  | _, _, _ => none

def eqA (tb : Tb) (k : TK) (x y : AV) : Option Bool :=
  match k, x, y with
  | .struct fs, .agg a, .agg b => eqFs tb 0 fs a b
  | .bool, .bool a, .bool b => some (a == b)
  | .ptr, .nilp, .nilp => some true
  | .ptr, .ptr _ _ _, .nilp => some false
  | .ptr, .nilp, .ptr _ _ _ => some false
  | .ptr, .rp _ _ _, .nilp => some false
  | .ptr, .nilp, .rp _ _ _ => some false
  | _, _, _ => none

def binA (tb : Tb) (op : BinOp) (t : Nat) (x y : AV) : Option AV :=
  match x, y with
  | .int k a, .int k' b =>
    (match op with
    | .shl | .shr => shiftA op k a b
    | _ => if k = k' then intA op k a b else none)
  | .str a, .str b => strA op a b
  | x, y =>
    match find t tb with
    | some ti =>
      (match op with
      | .eql => (match eqA tb ti.k x y with | some b => some (.bool b) | none => none)
      | .neq => (match eqA tb ti.k x y with | some b => some (.bool (!b)) | none => none)
      | _ => none)
    | none => none

def unA (op : UnOp) (x : AV) : Option AV :=
  match op, x with
  | .not, .bool b => some (.bool !b)
  | .neg, .int k n => some (.int k (k.wrap (0 - n)))
  | .xor, .int k n => intA .xor k (if k.signed then -1 else k.max) n
  | _, _ => none

def bytesOf : List AV → Option (List UInt8)
  | [] => some []
  | .int .u8 n :: r => match bytesOf r with | some l => some (UInt8.ofNat n.toNat :: l) | none => none
  | _ :: _ => none
def ofBytes (l : List UInt8) : List AV := l.map fun b => .int .u8 b.toNat

/-- The elements of a slice: its cells' size (0: it has none), the elements. -/
def St.elems (st : St) : AV → Option (Nat × List AV)
  | .sl s _ xs => some (s, xs)
  | .tip _ _ s xs => some (s, xs)
  | .row k _ => (match find k st.r with | some xs => some (1, xs) | none => none)
  | _ => none

def roomB : Nat := 140737488355328
/-- 2^47, the most bytes of a row. -/
def fitsB (n bytes : Nat) : Bool := decide (n * bytes ≤ roomB)

def TI.fillParts (tb : Tb) (fs : List (Nat × Nat)) (st : St) (cs : List AV) : List (Nat × Operand) → Option (List AV)
  | [] => some cs
  | (i, x) :: r =>
    match fs[i]? with
    | none => none
    | some (off, t) =>
      match find t tb, (st.ev x).dat with
      | some ti, some v => if v.cells.length = ti.sz ∧ off + ti.sz ≤ cs.length then fillParts tb fs st (setCells cs off v.cells) r else none
      | _, _ => none

def fillElems (z : AV) (sz : Nat) (st : St) (xs : List AV) : List (Nat × Operand) → Option (List AV)
  | [] => some xs
  | (i, x) :: r => match (st.ev x).dat with
    | some v => if v.cells.length = sz ∧ i < xs.length then fillElems z sz st (xs.set i v) r else none
    | none => none

abbrev Boxes := List (List AV)
abbrev Res := Option (AV × Boxes)
/-- What a call of a function answers: its arguments, what the boxes hold that it is handed pointers to; the result, what they hold then. -/
abbrev Fns := Nat → List AV → Boxes → Option (AV × Boxes)

/-- The arguments as the callee has them: pointers into boxes are numbered from 0. -/
def St.pass (st : St) (n : Nat) : List AV → Option (List AV × List Nat)
  | [] => some ([], [])
  | .ptr k _ off :: r =>
    (match st.pass (n + 1) r with
      | some (vs, ks) => if ks.contains k then none else some (.ptr n 0 off :: vs, k :: ks)
      | none => none)
  | v :: r => match v.dat, st.pass n r with
    | some a, some (vs, ks) => some (a :: vs, ks)
    | _, _ => none

def St.boxesAt (st : St) : List Nat → Option Boxes
  | [] => some []
  | k :: r => match find k st.b, st.boxesAt r with
    | some cs, some l => (match datAll (cs.map st.cur) with | some c => some (c :: l) | none => none)
    | _, _ => none

def putBoxes (b : List (Nat × List AV)) : List Nat → Boxes → List (Nat × List AV)
  | k :: ks, cs :: r => putBoxes (put k cs b) ks r
  | _, _ => b

def disj (a b : List Nat) : Bool := a.all fun k => !b.contains k

/-! What a call answers, taken apart by what its type says. -/
def asInt (k : IntKind) (v : AV) (K : Int → Res) : Res := match v with | .int k' n => (if k' = k then K n else none) | _ => none
def asBool (v : AV) (K : Bool → Res) : Res := match v with | .bool b => K b | _ => none
def asStr (v : AV) (K : List UInt8 → Res) : Res := match v with | .str s => K s | _ => none
def asSl (v : AV) (K : Nat → Bool → List AV → Res) : Res := match v with | .sl s f xs => K s f xs | _ => none
def asAgg (v : AV) (K : List AV → Res) : Res := match v with | .agg l => K l | _ => none
def asTup (v : AV) (K : List AV → Res) : Res := match v with | .tup l => K l | _ => none
def asCons {α : Type} (l : List α) (K : α → List α → Res) : Res := match l with | v :: r => K v r | [] => none
def asNil {α : Type} (l : List α) (K : Res) : Res := match l with | [] => K | _ => none
def onRes (x : Res) (K : AV → Boxes → Res) : Res := match x with | some (v, bs) => K v bs | none => none

def shCell (s : Sh) (v : AV) (K : AV → Res) : Res :=
  match s with
  | .int k => asInt k v fun n => K (.int k n)
  | .bool => asBool v fun b => K (.bool b)
  | .str => asStr v fun s => K (.str s)
  | .sl => asSl v fun s f xs => K (.sl s f xs)
  | _ => K v
def shCells : List Sh → List AV → (List AV → Res) → Res
  | [], l, K => asNil l (K [])
  | s :: r, l, K => asCons l fun v l' => shCell s v fun v' => shCells r l' fun vs => K (v' :: vs)
def shVal (s : Sh) (v : AV) (K : AV → Res) : Res :=
  match s with
  | .agg l => asAgg v fun cs => shCells l cs fun cs' => K (.agg cs')
  | s => shCell s v K
def shVals : List Sh → List AV → (List AV → Res) → Res
  | [], l, K => asNil l (K [])
  | s :: r, l, K => asCons l fun v l' => shVal s v fun v' => shVals r l' fun vs => K (v' :: vs)
def shRes (s : Sh) (v : AV) (K : AV → Res) : Res :=
  match s with
  | .tup l => asTup v fun cs => shVals l cs fun cs' => K (.tup cs')
  | s => shVal s v K
/-- As a value that is known. -/
def likeA : AV → Sh
  | .int k _ => .int k
  | .bool _ => .bool
  | .str _ => .str
  | .sl _ _ _ => .sl
  | _ => .any
def shBoxes : Boxes → Boxes → (Boxes → Res) → Res
  | [], l, K => asNil l (K [])
  | b :: r, l, K => asCons l fun v l' => shCells (b.map likeA) v fun v' => shBoxes r l' fun vs => K (v' :: vs)

/-- May it turn what other slots hold? -/
def isBump (tb : Tb) (o : Oper) : Bool :=
  match o.op with
  | .call { callee := .builtin .append, .. } => true
  | .store .. => true
  | .convert _ d _ => (match find d tb with | some td => (match td.k with | .sl _ => true | _ => false) | none => true)
  | _ => false
/-- Does no pointer grow old? -/
def keepsPtr (st' : St) : List (Nat × AV) → Bool
  | [] => true
  | (_, v) :: r => (match v with
    | .ptr k g _ => g == st'.gen k
    | .row k g => g == st'.gen k
    | .rowp k g _ => g == st'.gen k
    | _ => true) && keepsPtr st' r
def keepsPtrL (st' : St) : List AV → Bool
  | [] => true
  | v :: r => (match v with
    | .ptr k g _ => g == st'.gen k
    | .row k g => g == st'.gen k
    | .rowp k g _ => g == st'.gen k
    | _ => true) && keepsPtrL st' r
def keepsPtrB (st' : St) : List (Nat × List AV) → Bool
  | [] => true
  | (_, cs) :: r => keepsPtrL st' cs && keepsPtrB st' r
/-- Does it count now? -/
def isCurB (st : St) : AV → Bool
  | .tip k g _ _ => g == st.gen k
  | .ptr k g _ => g == st.gen k
  | .row k g => g == st.gen k
  | .rowp k g _ => g == st.gen k
  | _ => true
def curAt (st : St) (dst : Option Nat) : Bool := match dst with | some d => if d < st.nt then isCurB st (st.get d) else true | none => true
def curBx (st : St) : Boxes → Bool
  | [] => true
  | cs :: r => cs.all (isCurB st) && curBx st r
def curT (st : St) : List (Nat × AV) → List (Nat × AV)
  | [] => []
  | (k, v) :: r => (k, st.cur v) :: curT st r
def curB (st : St) : List (Nat × List AV) → List (Nat × List AV)
  | [] => []
  | (k, v) :: r => (k, v.map st.cur) :: curB st r
/-- Only what counts now. -/
def St.canon (st : St) : St := { st with t := curT st st.t, b := curB st st.b }

def callK (F : Fns) (sh : List (Nat × Sh)) (draw : Bool) (st : St) (dst : Option Nat) (ty : Nat) (f : AV) (args : List AV) (K : St → Res) : Res :=
  match f with
  | .fn n =>
    (match st.pass 0 args with
    | some (vs, ks) =>
      (match st.boxesAt ks with
      | some bs =>
        if !draw || disj ks st.rd then
          onRes (F n vs bs) fun v bs' =>
            shRes (match find ty sh with | some s => s | none => .any) v fun v' =>
              shBoxes bs bs' fun bs'' => bif draw then (bif curBx st bs'' && curAt ({ st with b := putBoxes st.b ks bs'', wr := ks ++ st.wr }.put dst v') dst then K ({ st with b := putBoxes st.b ks bs'', wr := ks ++ st.wr }.put dst v') else none)
                else K ({ st with b := putBoxes st.b ks bs'', wr := ks ++ st.wr }.put dst v')
        else none
      | none => none)
    | none => none)
  | _ => none

/-- append: a new chain under the key d, or the chain goes on. -/
def appendA (st : St) (d : Nat) (ti : TI) (x : AV) (ys : List AV) (sy : Nat) : Option (AV × List (Nat × Nat)) :=
  if sy = ti.sz ∧ ti.sz ≠ 0 ∧ ti.z.cells.length = ti.sz ∧ ti.z.dat.isSome then
    (match x with
    | .sl s true xs => if (s = ti.sz ∨ xs = []) ∧ fitsB (xs.length + ys.length) ti.bytes ∧ xs.length + ys.length ≤ 4611686018427387904 then some (.tip d (st.gen d + 1) ti.sz (xs ++ ys), AM.put d (st.gen d + 1) st.g) else none
    | .tip k g s xs => if s = ti.sz ∧ fitsB (xs.length + ys.length) ti.bytes ∧ xs.length + ys.length ≤ 4611686018427387904 then some (.tip k (st.gen k + 1) s (xs ++ ys), AM.put k (st.gen k + 1) st.g) else none
    | _ => none)
  else none

def lenA (tb : Tb) (st : St) (t : Nat) (x : AV) : Option AV :=
  match find t tb with
  | none => none
  | some ti =>
    match ti.k, x with
    | .str, .str s => some (.int .i64 s.length)
    | .sl _, x => (match st.elems x with | some (_, xs) => some (.int .i64 xs.length) | none => none)
    | .arr n _, _ => some (.int .i64 n)
    | _, _ => none

/-- What is appended: a slice's elements, or a string's bytes. -/
def srcA (tb : Tb) (st : St) (u : Nat) (y : AV) : Option (Nat × List AV) :=
  match find u tb with
  | none => none
  | some tu => match tu.k, y with
    | .sl _, y => st.elems y
    | .str, .str s => some (1, ofBytes s)
    | _, _ => none

def builtinA (tb : Tb) (st : St) (dst : Option Nat) (b : Builtin) (argTypes : List Nat) (args : List AV) : Option St :=
  match b, argTypes, args with
  | .len, [t], [x] => (match lenA tb st t x with | some v => some (st.put dst v) | none => none)
  | .min, _, [.int k a, .int _ b] => some (st.put dst (.int k (if b < a then b else a)))
  | .max, _, [.int k a, .int _ b] => some (st.put dst (.int k (if b > a then b else a)))
  | .append, [t, u], [x, y] =>
    (match dst, find t tb, srcA tb st u y with
    | some d, some ⟨.sl e, _, _, _⟩, some (sy, ys) =>
      (match find e tb with
      | some ti => (match appendA st d ti x ys sy with | some (v, g) => some ({ st with g := g }.put dst v) | none => none)
      | none => none)
    | _, _, _ => none)
  | _, _, _ => none

def subA (s : Nat) (xs : List AV) (l h m : Int) (hasMax : Bool) : Option AV :=
  if 0 ≤ l ∧ l ≤ h ∧ h ≤ m ∧ h ≤ xs.length ∧ (hasMax = true → m ≤ xs.length) then some (.sl s (hasMax && decide (h = m)) ((xs.take h.toNat).drop l.toNat)) else none
def loA : Option AV → Option Int
  | none => some 0
  | some (.int _ n) => some n
  | _ => none
def hiA (d : Int) : Option AV → Option Int
  | none => some d
  | some (.int _ n) => some n
  | _ => none

def sliceA (tb : Tb) (t : Nat) (x : AV) (lo hi mx : Option AV) : Option AV :=
  match find t tb with
  | none => none
  | some ti =>
    match ti.k, x, loA lo with
    | .str, .str s, some l =>
      (match hiA s.length hi, mx with
      | some h, none => if 0 ≤ l ∧ l ≤ h ∧ h ≤ s.length then some (.str ((s.take h.toNat).drop l.toNat)) else none
      | _, _ => none)
    | .sl e, x, some l =>
      (match (match x with | .sl s _ xs => some (s, xs) | .tip _ _ s xs => some (s, xs) | _ => none), find e tb with
      | some (s, xs), some te =>
        if s = te.sz ∨ xs = [] then
          (match mx with
          | none => (match hiA xs.length hi with | some h => subA s xs l h h false | none => none)
          | some (.int _ m) => (match hi with | some (.int _ h) => subA s xs l h m true | _ => none)
          | _ => none)
        else none
      | _, _ => none)
    | _, _, _ => none

def indexAddrA (tb : Tb) (st : St) (t : Nat) (x : AV) (i : Int) : Option AV :=
  match find t tb with
  | some ⟨.sl e, _, _, _⟩ =>
    (match find e tb, x with
    | some ti, .sl s _ xs => if s = ti.sz ∧ 0 ≤ i then (match xs[i.toNat]? with | some e => some (.rp s e 0) | none => none) else none
    | some ti, .tip _ _ s xs => if s = ti.sz ∧ 0 ≤ i then (match xs[i.toNat]? with | some e => some (.rp s e 0) | none => none) else none
    | some ti, .row k g => if ti.sz = 1 then (match find k st.r with | some xs => if 0 ≤ i ∧ i < xs.length then some (.rowp k g i.toNat) else none | none => none) else none
    | _, _ => none)
  | some ⟨.arr n e, _, _, _⟩ =>
    (match find e tb, x with
    | some ti, .ptr k g off => if 0 ≤ i ∧ i < n then some (.ptr k g (off + i.toNat * ti.sz)) else none
    | some ti, .rp s e off => if 0 ≤ i ∧ i < n then some (.rp s e (off + i.toNat * ti.sz)) else none
    | _, _ => none)
  | _ => none

/-- It does not grow old. -/
def AV.fixed : AV → Bool
  | .tip .. | .ptr .. | .row .. | .rowp .. => false
  | _ => true
/-- A key into a list that is kept in order. -/
def insN (k : Nat) : List Nat → List Nat
  | [] => [k]
  | m :: r => if k = m then m :: r else if k < m then k :: m :: r else m :: insN k r

def loadA (tb : Tb) (draw : Bool) (st : St) (t : Nat) (x : AV) : Option (AV × List Nat) :=
  match find t tb with
  | none => none
  | some ti =>
    match x with
    | .ptr k _ off => if !draw || !st.wr.contains k then (match find k st.b with | some cs => (match partOf ti (cs.map st.cur) off with | some v => some (v, insN k st.rd) | none => none) | none => none) else none
    | .rp s e j =>
      if ti.isAgg && j == 0 && ti.sz == s then (match e with | .agg cs => some (.agg cs, st.rd) | _ => none) else (match partOf ti e.cells j with | some v => if v.fixed then some (v, st.rd) else none | none => none)
    | .rowp k _ i => if !ti.isAgg then (match find k st.r with | some xs => (match xs[i]? with | some v => if v.fixed then some (v, st.rd) else none | none => none) | none => none) else none
    | _ => none

def storeA (tb : Tb) (st : St) (t : Nat) (x v : AV) : Option St :=
  match find t tb with
  | none => none
  | some ti =>
    match x with
    | .ptr k _ off =>
      (match find k st.b with
        | some cs =>
          (match v with
          | .agg l => if l.length = ti.sz ∧ off + l.length ≤ cs.length then some { st with b := put k (setCells cs off l) st.b } else none
          | v => if v.cell1 ∧ ti.sz = 1 ∧ off < cs.length then some { st with b := put k (cs.set off v) st.b } else none)
        | none => none)
    | .rowp k _ i =>
      if ti.sz = 1 then (match find k st.r, v.dat with
        | some xs, some v => if v.cell1 ∧ i < xs.length then some { st with r := put k (xs.set i v) st.r } else none
        | _, _ => none) else none
    | _ => none

def AV.boxable : AV → Bool
  | .agg _ => true
  | v => v.cell1
def newBox (st : St) (dst : Option Nat) (v : AV) : Option St :=
  match dst with
  | none => none
  | some d => if v.boxable && decide (d < 1000000) then some ({ st with b := put d v.cells st.b, g := put d (st.gen d + 1) st.g }.put dst (.ptr d (st.gen d + 1) 0)) else none

def isU8 (tb : Tb) (e : Nat) : Bool := match find e tb with | some te => (match te.k with | .int .u8 => true | _ => false) | none => false
def convertA (tb : Tb) (st : St) (ts td : TI) (dst : Option Nat) (x : AV) : Option St :=
  match td.k, x with
  | .int k, .int _ n => some (st.put dst (.int k (k.wrap n)))
  | .str, .str s => some (st.put dst (.str s))
  | .str, x =>
    (match ts.k with
    | .sl e => if isU8 tb e then (match st.elems x with | some (_, xs) => (match bytesOf xs with | some l => some (st.put dst (.str l)) | none => none) | none => none) else none
    | _ => none)
  | .sl e, .str s =>
    (match dst with
    | some d => if isU8 tb e ∧ s.length ≤ 4611686018427387904 then some ({ st with g := put d (st.gen d + 1) st.g }.put (some d) (.tip d (st.gen d + 1) 1 (ofBytes s))) else none
    | none => none)
  | _, _ => none

def stepA (tb : Tb) (draw : Bool) (st : St) (o : Oper) : Option St :=
  match o.op with
  | .move x | .assign x => some (st.put o.dst (st.ev x))
  | .pick c a b => (match st.ev c with | .bool t => some (st.put o.dst (bif t then st.ev a else st.ev b)) | _ => none)
  | .alloc e => if draw then none else (match find e tb with | some ti => newBox st o.dst ti.z | none => none)
  | .box _ x => if draw then none else newBox st o.dst (st.ev x)
  | .build t ps =>
    (match find t tb with
    | some ⟨.struct fs, _, _, .agg z⟩ => (match datAll z with | some z => (match TI.fillParts tb fs st z ps.toList with | some cs => some (st.put o.dst (.agg cs)) | none => none) | none => none)
    | _ => none)
  | .buildSlice t n ps =>
    (match find t tb with
    | some ⟨.sl e, _, _, _⟩ =>
      (match find e tb with
      | some ti => if n * ti.sz ≤ 16777216 ∧ ti.sz ≠ 0 ∧ ti.z.cells.length = ti.sz ∧ n ≠ 0 then (match ti.z.dat with
          | some z => (match fillElems z ti.sz st (List.replicate n z) ps.toList with | some xs => some (st.put o.dst (.sl ti.sz true xs)) | none => none)
          | none => none) else none
      | none => none)
    | _ => none)
  | .load t x => (match loadA tb draw st t (st.ev x) with | some (v, rd) => some ({ st with rd := rd }.put o.dst v) | none => none)
  | .store t x v => (match o.dst with | none => storeA tb st t (st.ev x) (st.ev v) | some _ => none)
  | .nilCheck x => (match st.ev x with | .ptr k g off => some (st.put o.dst (.ptr k g off)) | .rp s e j => some (st.put o.dst (.rp s e j)) | .fn f => some (st.put o.dst (.fn f)) | _ => none)
  | .binOp op t x y _ => (match binA tb op t (st.ev x) (st.ev y) with | some v => some (st.put o.dst v) | none => none)
  | .unOp op _ x => (match unA op (st.ev x) with | some v => some (st.put o.dst v) | none => none)
  | .convert s d x =>
    (match find s tb, find d tb with
    | some ts, some td => convertA tb st ts td o.dst (st.ev x)
    | _, _ => none)
  | .makeInterface t x => (match find t tb, (st.ev x).dat with | some ti, some v => (match ti.k with | .other => none | _ => some (st.put o.dst (.iface t v))) | _, _ => none)
  | .makeSlice t l c =>
    (match find t tb, st.ev l, st.ev c with
    | some ⟨.sl e, _, _, _⟩, .int _ n, .int _ m =>
      (match find e tb with
      | some ti =>
        if n = m ∧ 0 ≤ n ∧ n ≤ 9223372036854775807 ∧ fitsB n.toNat ti.bytes then
          (match ti.z.dat with
          | some z => if draw then (if ti.z.cells.length = ti.sz then some (st.put o.dst (.sl ti.sz true (List.replicate n.toNat z))) else none)
            else (match o.dst with
              | some d => if ti.sz = 1 ∧ z.cell1 then some ({ st with r := put d (List.replicate n.toNat z) st.r, g := put d (st.gen d + 1) st.g }.put (some d) (.row d (st.gen d + 1))) else none
              | none => none)
          | none => none)
        else none
      | none => none)
    | _, _, _ => none)
  | .slice t x lo hi mx => (match sliceA tb t (st.ev x) (lo.map st.ev) (hi.map st.ev) (mx.map st.ev) with | some v => some (st.put o.dst v) | none => none)
  | .fieldAddr s x f =>
    (match find s tb with
    | some ⟨.struct fs, _, _, _⟩ =>
      (match fs[f]?, st.ev x with
      | some (off, _), .ptr k g o' => some (st.put o.dst (.ptr k g (o' + off)))
      | some (off, _), .rp s e j => some (st.put o.dst (.rp s e (j + off)))
      | _, _ => none)
    | _ => none)
  | .field s x f =>
    (match find s tb, st.ev x with
    | some ⟨.struct fs, _, _, _⟩, .agg cs =>
      (match fs[f]? with
      | some (off, t) => (match find t tb with | some ti => (match partOf ti cs off with | some v => some (st.put o.dst v) | none => none) | none => none)
      | none => none)
    | _, _ => none)
  | .indexAddr t x i => (match st.ev i with | .int _ n => (match indexAddrA tb st t (st.ev x) n with | some v => some (st.put o.dst v) | none => none) | _ => none)
  | .index t x i =>
    (match find t tb, st.ev x, st.ev i with
    | some ⟨.str, _, _, _⟩, .str s, .int _ n => if 0 ≤ n then (match s[n.toNat]? with | some b => some (st.put o.dst (.int .u8 b.toNat)) | none => none) else none
    | some ⟨.arr n e, _, _, _⟩, .agg cs, .int _ i =>
      if 0 ≤ i ∧ i < n then (match find e tb with | some ti => (match partOf ti cs (i.toNat * ti.sz) with | some v => some (st.put o.dst v) | none => none) | none => none) else none
    | _, _, _ => none)
  | .extract x i => (match st.ev x with | .tup vs => (match vs[i]? with | some v => some (st.put o.dst v) | none => none) | _ => none)
  | .call c =>
    (match c.callee with
    | .builtin b => builtinA tb st o.dst b c.argTypes.toList (c.args.toList.map st.ev)
    | _ => none)
  | _ => none

structure Ev where
  F : Fns
  tb : Tb
  sh : List (Nat × Sh)

/-! What an operation asks before it goes on, as one Bool; the value that it takes out of a row; what the state is then. -/
def onOpt {α : Type} (x : Option α) (K : α → Res) : Res := match x with | some v => K v | none => none
def shOf : AV → Sh
  | .agg l => .agg (l.map likeA)
  | v => likeA v
abbrev Ask := Option (Bool × Option AV × Sh × (AV → St))
def ask1 (c : Bool) (st : St) : Ask := some (c, some .undef, .any, fun _ => st)

def indexAddrU (tb : Tb) (st : St) (dst : Option Nat) (t : Nat) (x : AV) (i : AV) : Ask :=
  match i, find t tb with
  | .int _ n, some ⟨.sl e, _, _, _⟩ =>
    (match find e tb, x with
    | some ti, .sl s _ xs => some (decide (s = ti.sz) && decide (0 ≤ n), xs[n.toNat]?, shOf ti.z, fun e => st.put dst (.rp s e 0))
    | some ti, .tip _ _ s xs => some (decide (s = ti.sz) && decide (0 ≤ n), xs[n.toNat]?, shOf ti.z, fun e => st.put dst (.rp s e 0))
    | some ti, .row k g => (match find k st.r with | some xs => ask1 (decide (ti.sz = 1) && decide (0 ≤ n ∧ n < xs.length)) (st.put dst (.rowp k g n.toNat)) | none => none)
    | _, _ => none)
  | _, _ => none
def indexU (tb : Tb) (st : St) (dst : Option Nat) (t : Nat) (x i : AV) : Ask :=
  match find t tb, x, i with
  | some ⟨.str, _, _, _⟩, .str s, .int _ n => some (decide (0 ≤ n), (s[n.toNat]?).map (fun b => AV.int .u8 b.toNat), .int .u8, fun e => st.put dst e)
  | _, _, _ => none
def subU (s : Nat) (xs : List AV) (l h m : Int) (hasMax : Bool) : Bool × AV :=
  (decide (0 ≤ l ∧ l ≤ h ∧ h ≤ m ∧ h ≤ xs.length ∧ (hasMax = true → m ≤ xs.length)), .sl s (hasMax && decide (h = m)) ((xs.take h.toNat).drop l.toNat))
def sliceU (tb : Tb) (t : Nat) (x : AV) (lo hi mx : Option AV) : Option (Bool × AV) :=
  match find t tb with
  | none => none
  | some ti =>
    match ti.k, x, loA lo with
    | .str, .str s, some l =>
      (match hiA s.length hi, mx with
      | some h, none => some (decide (0 ≤ l ∧ l ≤ h ∧ h ≤ s.length), .str ((s.take h.toNat).drop l.toNat))
      | _, _ => none)
    | .sl e, x, some l =>
      (match (match x with | .sl s _ xs => some (s, xs) | .tip _ _ s xs => some (s, xs) | _ => none), find e tb with
      | some (s, xs), some te =>
          (match mx with
          | none => (match hiA xs.length hi with | some h => (match subU s xs l h h false with | (c, v) => some (decide (s = te.sz ∨ xs = []) && c, v)) | none => none)
          | some (.int _ m) => (match hi with | some (.int _ h) => (match subU s xs l h m true with | (c, v) => some (decide (s = te.sz ∨ xs = []) && c, v)) | _ => none)
          | _ => none)
      | _, _ => none)
    | _, _, _ => none
def binU (op : BinOp) (x y : AV) : Option (Bool × AV) :=
  match op, x, y with
  | .add, .str a, .str b => some (decide (a.length + b.length ≤ 4611686018427387904), .str (a ++ b))
  | .shl, .int k a, .int _ b => some (decide (0 ≤ b), .int k (k.wrap (a * 2 ^ (min b.toNat k.bits))))
  | .shr, .int k a, .int _ b => some (decide (0 ≤ b), .int k (a.fdiv (2 ^ (min b.toNat k.bits))))
  | .quo, .int k a, .int k' b => some (decide (k = k') && !decide (b = 0), .int k (k.wrap (a.tdiv b)))
  | .rem, .int k a, .int k' b => some (decide (k = k') && !decide (b = 0), .int k (a.tmod b))
  | _, _, _ => none
def makeU (tb : Tb) (draw : Bool) (st : St) (dst : Option Nat) (t : Nat) (l c : AV) : Ask :=
  match find t tb, l, c with
  | some ⟨.sl e, _, _, _⟩, .int _ n, .int _ m =>
    (match find e tb with
    | some ti =>
      (match ti.z.dat with
      | some z =>
        bif draw then ask1 (decide (ti.z.cells.length = ti.sz) && decide (n = m ∧ 0 ≤ n ∧ n ≤ 9223372036854775807 ∧ fitsB n.toNat ti.bytes)) (st.put dst (.sl ti.sz true (List.replicate n.toNat z)))
        else (match dst with
          | some d => ask1 ((decide (ti.sz = 1) && z.cell1) && decide (n = m ∧ 0 ≤ n ∧ n ≤ 9223372036854775807 ∧ fitsB n.toNat ti.bytes)) ({ st with r := AM.put d (List.replicate n.toNat z) st.r, g := AM.put d (st.gen d + 1) st.g }.put (some d) (.row d (st.gen d + 1)))
          | none => none)
      | none => none)
    | none => none)
  | _, _, _ => none
def convU (tb : Tb) (st : St) (dst : Option Nat) (s d : Nat) (x : AV) : Ask :=
  match find s tb, find d tb with
  | some ts, some td =>
    (match td.k, ts.k with
    | .sl e, .str => (match x, dst with
      | .str l, some d => ask1 (isU8 tb e && decide (l.length ≤ 4611686018427387904)) ({ st with g := AM.put d (st.gen d + 1) st.g }.put (some d) (.tip d (st.gen d + 1) 1 (ofBytes l)))
      | _, _ => none)
    | .str, .sl e => (match st.elems x with
      | some (_, xs) => some (isU8 tb e, (bytesOf xs).map AV.str, .str, fun v => st.put dst v)
      | none => none)
    | _, _ => none)
  | _, _ => none
def appendU (tb : Tb) (st : St) (dst : Option Nat) (ts : List Nat) (args : List AV) : Ask :=
  match ts, args, dst with
  | [t, u], [x, y], some d =>
    (match find t tb, srcA tb st u y with
    | some ⟨.sl e, _, _, _⟩, some (sy, ys) =>
      (match find e tb with
      | some ti =>
        (match x with
        | .sl s true xs => ask1 (decide (sy = ti.sz ∧ ti.sz ≠ 0 ∧ ti.z.cells.length = ti.sz ∧ ti.z.dat.isSome) && decide ((s = ti.sz ∨ xs = []) ∧ fitsB (xs.length + ys.length) ti.bytes ∧ xs.length + ys.length ≤ 4611686018427387904)) ({ st with g := AM.put d (st.gen d + 1) st.g }.put (some d) (.tip d (st.gen d + 1) ti.sz (xs ++ ys)))
        | .tip k _ s xs => ask1 (decide (sy = ti.sz ∧ ti.sz ≠ 0 ∧ ti.z.cells.length = ti.sz ∧ ti.z.dat.isSome) && decide (s = ti.sz ∧ fitsB (xs.length + ys.length) ti.bytes ∧ xs.length + ys.length ≤ 4611686018427387904)) ({ st with g := AM.put k (st.gen k + 1) st.g }.put (some d) (.tip k (st.gen k + 1) s (xs ++ ys)))
        | _ => none)
      | none => none)
    | _, _ => none)
  | _, _, _ => none

def storeU (tb : Tb) (st : St) (t : Nat) (x v : AV) : Ask :=
  match find t tb, x, v.dat with
  | some ti, .rowp k _ i, some u => (match find k st.r with
    | some xs => ask1 (decide (ti.sz = 1) && (u.cell1 && decide (i < xs.length))) { st with r := put k (xs.set i u) st.r }
    | none => none)
  | _, _, _ => none

def stepU (tb : Tb) (draw : Bool) (st : St) (o : Oper) : Ask :=
  match o.op with
  | .indexAddr t x i => indexAddrU tb st o.dst t (st.ev x) (st.ev i)
  | .index t x i => indexU tb st o.dst t (st.ev x) (st.ev i)
  | .slice t x lo hi mx => (match sliceU tb t (st.ev x) (lo.map st.ev) (hi.map st.ev) (mx.map st.ev) with | some (c, v) => ask1 c (st.put o.dst v) | none => none)
  | .binOp op _ x y _ => (match binU op (st.ev x) (st.ev y) with | some (c, v) => ask1 c (st.put o.dst v) | none => none)
  | .makeSlice t l c => makeU tb draw st o.dst t (st.ev l) (st.ev c)
  | .convert s d x => convU tb st o.dst s d (st.ev x)
  | .store t x v => (match o.dst with | none => storeU tb st t (st.ev x) (st.ev v) | some _ => none)
  | .call { callee := .builtin .append, argTypes := ts, args := args } => appendU tb st o.dst ts.toList (args.toList.map st.ev)
  | _ => none

/-- Behind an operation. -/
def goOn (tb : Tb) (draw : Bool) (st : St) (o : Oper) (K : St → Res) (st' : St) : Res :=
  bif draw then (bif isBump tb o then (bif keepsPtr st' st.t && keepsPtrB st' st.b then K st'.canon else none) else (bif curAt st' o.dst then K st' else none)) else K st'

def stepK (E : Ev) (draw : Bool) (st : St) (o : Oper) (K : St → Res) : Res :=
  match o.op with
  | .call { callee := .value f, args, .. } => callK E.F E.sh draw st o.dst o.type (st.ev f) (args.toList.map st.ev) K
  | _ => (match stepU E.tb draw st o with
    | some (c, x, sh, f) => bif c then onOpt x fun e => shVal sh e fun e' => goOn E.tb draw st o K (f e') else none
    | none => (match stepA E.tb draw st o with
      | some st' => goOn E.tb draw st o K st'
      | none => none))

/-- The slot that an operation's guard looks at. -/
inductive Gd where
  | free
  | at_ (t : Nat) (want : Bool)
  | bad
def guardOf (ops : Array Oper) (o : Oper) : Gd :=
  match o.guard with
  | none => .free
  | some (j, want) => match (ops[j]?).bind (·.dst) with
    | some t => .at_ t want
    | none => .bad

def runOps (E : Ev) (draw : Bool) (ops : Array Oper) (K : St → Res) : List Oper → St → Res
  | [], st => K st
  | o :: r, st =>
    match guardOf ops o with
    | .bad => none
    | .free => stepK E draw st o fun st' => runOps E draw ops K r st'
    | .at_ t true => (match st.get t with
      | .bool b => bif b then stepK E draw (st.put (some t) (.bool true)) o fun st' => runOps E draw ops K r st'
        else runOps E draw ops K r ((st.put (some t) (.bool false)).put o.dst (.tup []))
      | .tup [] => runOps E draw ops K r (st.put o.dst (.tup []))
      | _ => none)
    | .at_ t false => (match st.get t with
      | .bool b => bif b then runOps E draw ops K r ((st.put (some t) (.bool true)).put o.dst (.tup []))
        else stepK E draw (st.put (some t) (.bool false)) o fun st' => runOps E draw ops K r st'
      | .tup [] => runOps E draw ops K r (st.put o.dst (.tup []))
      | _ => none)

/-! ### Which slots outlive their region -/
/-- A loop is known by the first region of its body. -/
def headId : Code → Nat
  | .region id _ _ => id
  | .seq a _ => headId a
  | .block _ c => headId c
  | .loop c => headId c
  | .scope c => headId c
  | _ => 0
def without {α : Type} (dead : List Nat) : List (Nat × α) → List (Nat × α)
  | [] => []
  | (k, v) :: r => if dead.contains k then without dead r else (k, v) :: without dead r
def St.clean (dead : List Nat) (st : St) : St := { st with t := without dead st.t, b := without dead st.b, r := without dead st.r }

/-- Behind a region: generations begin anew; what is older is forgotten, or finished. -/
def St.norm (st : St) (v : AV) : AV :=
  match st.cur v with
  | .tip k _ s xs => .tip k 0 s xs
  | .ptr k _ off => .ptr k 0 off
  | .row k _ => .row k 0
  | .rowp k _ i => .rowp k 0 i
  | v => v
def normT (st : St) (kp : List Nat) : List (Nat × AV) → List (Nat × AV)
  | [] => []
  | (k, v) :: r => if kp.contains k then (k, st.norm v) :: normT st kp r else normT st kp r
def normB (st : St) : List (Nat × List AV) → List (Nat × List AV)
  | [] => []
  | (k, cs) :: r => (k, cs.map st.norm) :: normB st r
def St.fin (kp : List Nat) (st : St) : St := { nt := st.nt, t := normT st kp st.t, b := normB st st.b, r := st.r, g := [], rd := [], wr := [] }

inductive Ex where
  | normal
  | exit (id : Nat)
  | ret

def loopA (body : St → (Ex → St → Res) → Res) (dead : List Nat) (K : Ex → St → Res) : Nat → St → Res
  | 0, _ => none
  | n + 1, st => body (st.clean dead) fun e st' => match e with
    | .normal => loopA body dead K n st'
    | .exit id => K (.exit id) st'
    | .ret => K .ret st'

/-- A function as the machine has it: its text, the slots that outlive their region, the slots that are dead at a loop's head, summaries of loops. -/
structure Fx where
  fn : Func
  kp : List Nat
  dead : List (Nat × List Nat)
  ls : List (Nat × (St → (Ex → St → Res) → Res))
def Fx.deadAt (fx : Fx) (c : Code) : List Nat := match find (headId c) fx.dead with | some l => l | none => []

def evC (E : Ev) (fx : Fx) (n : Nat) : Code → St → (Ex → St → Res) → Res
  | .skip, st, K => K .normal st
  | .label _, st, K => K .normal st
  | .region _ ops draw, st, K =>
    runOps E draw ops (fun st' => K .normal (st'.fin fx.kp)) ops.toList (bif draw then st.canon else st)
  | .seq a b, st, K => evC E fx n a st fun e st' => match e with
    | .normal => evC E fx n b st' K
    | .exit id => K (.exit id) st'
    | .ret => K .ret st'
  | .cond c a b, st, K => (match st.ev c with
    | .bool t => bif t then evC E fx n a st K else evC E fx n b st K
    | _ => none)
  | .block id c, st, K => evC E fx n c st fun e st' => match e with
    | .normal => K .normal st'
    | .exit id' => if id' = id then K .normal st' else K (.exit id') st'
    | .ret => K .ret st'
  | .loop c, st, K => (match find (headId c) fx.ls with
    | some LS => LS st K
    | none => loopA (evC E fx n c) (fx.deadAt c) K n st)
  | .exit id, st, K => K (.exit id) st
  | .ret, st, K => K .ret st
  | _, _, _ => none

def resA (tb : Tb) (st : St) : List ResultVar → Option (List AV)
  | [] => some []
  | .tmp t :: r => (match (st.get t).dat, resA tb st r with | some v, some l => some (v :: l) | _, _ => none)
  | .cell a t :: r => (match loadA tb false st t (st.cur (st.get a)) with
    | some (v, _) => (match v.dat, resA tb st r with | some v, some l => some (v :: l) | _, _ => none)
    | none => none)

def paramKeys (n : Nat) : List Nat := (List.range n).map (1000000 + ·)

def argT (i : Nat) : List AV → List (Nat × AV)
  | [] => []
  | .ptr k _ off :: r => (i, .ptr (1000000 + k) 0 off) :: argT (i + 1) r
  | v :: r => (i, v) :: argT (i + 1) r
def boxB (i : Nat) : Boxes → List (Nat × List AV)
  | [] => []
  | cs :: r => (1000000 + i, cs) :: boxB (i + 1) r

/-- The program's side: of each function its text and the slots that outlive their region, or a function on values; the types; what calls answer looks like. -/
abbrev Over := List AV → Boxes → Option (AV × Boxes)
structure Prg where
  f : Nat → Option (Fx ⊕ Over)
  tb : Tb
  sh : List (Nat × Sh)

def endA (tb : Tb) (fn : Func) (nb : Nat) (st : St) : Res :=
  match resA tb st fn.results.toList, st.boxesAt (paramKeys nb) with
  | some [v], some bs => some (v, bs)
  | some l, some bs => some (.tup l, bs)
  | _, _ => none

def startA (nt : Nat) (args : List AV) (bs : Boxes) : St := { nt := nt, t := argT 0 args, b := boxB 0 bs, r := [], g := [], rd := [], wr := [] }
def endK (tb : Tb) (fn : Func) (nb : Nat) : Ex → St → Res
  | .exit _, _ => none
  | .normal, st => endA tb fn nb st
  | .ret, st => endA tb fn nb st

/-- One function's body, the callees by F. -/
def evFn (F : Fns) (tb : Tb) (sh : List (Nat × Sh)) (fx : Fx) (n : Nat) (args : List AV) (bs : Boxes) : Res :=
  match fx.fn.body with
  | some c => if args.length = fx.fn.params.size ∧ fx.fn.params.size ≤ fx.fn.ntmps ∧ fx.fn.nfree = 0 then
      evC ⟨F, tb, sh⟩ fx n c (startA fx.fn.ntmps args bs) (endK tb fx.fn bs.length)
      else none
  | none => none

def evF (pr : Prg) : Nat → Fns
  | 0, f, args, bs => (match pr.f f with
    | some (.inr g) => g args bs
    | _ => none)
  | k + 1, f, args, bs => (match pr.f f with
    | some (.inl fx) => evFn (evF pr k) pr.tb pr.sh fx k args bs
    | some (.inr g) => g args bs
    | none => none)

end Go.AM
