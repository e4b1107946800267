/- The abstract machine: what turns memory; calls; code; functions. Plain definitions. -/
import Derived.Test.YtpdifkaeiecdpaaAmMA
namespace Go.AM
section
variable [Reg]

def AV.dat : AV → Option AV
  | .tip _ t xs => some (.sl t false xs)
  | .undef | .agg _ | .tup _ | .fn .. | .ptr .. | .vw .. | .sv .. | .ep .. | .ow .. => none
  | v => some v
def mapO {α β : Type} (f : α → Option β) : List α → Option (List β)
  | [] => some []
  | a :: r => match f a, mapO f r with | some b, some l => some (b :: l) | _, _ => none

/-- A number for an object that an operation makes. -/
def nk (dst : Option Nat) (j : Nat) : Nat := 1000000 + (match dst with | some d => d | none => 99999) * 16384 + j
def isNew (u : List Nat) (k : Nat) : Bool := !u.contains k
/-- What is said of the program's text beside it: of operations (by what they write to), of types. -/
structure Hints where
  fl : List (Nat × Nat)                    -- 1: a row is made; 2: what is appended lies in it; 4: rows are lent; 8: what is answered is the call's own
  rs : List (Nat × Nat)                    -- slice types that are rows in boxes: the elements'
  rb : List (Nat × List (Nat × Nat))       -- of types of boxes: where rows are
def flag (H : Hints) (dst : Option Nat) (b : Nat) : Bool := match dst with | some d => (match find d H.fl with | some n => n.testBit b | none => false) | none => false

abbrev Eff := AV × Heap × List Nat × List Nat
/-- A box, with rows for nils where rows are. -/
def boxRows (dst : Option Nat) : List (Nat × Nat) → List AV → Heap → List Nat → Option (List AV × Heap × List Nat)
  | [], cs, h, u => some (cs, h, u)
  | (off, e) :: l, cs, h, u => match cs[off]? with
    | some .nils => bif isNew u (nk dst (off + 1)) then boxRows dst l (cs.set off (.vw (nk dst (off + 1)) e)) (AM.put (nk dst (off + 1)) (.row e []) h) (nk dst (off + 1) :: u) else none
    | _ => boxRows dst l cs h u
def newBox (H : Hints) (h : Heap) (u : List Nat) (dst : Option Nat) (e : Nat) (cs : List AV) : Q Eff :=
  bif one1 cs then
    (match boxRows dst (match find e H.rb with | some l => l | none => []) cs h u with
    | some (cs', h', u') => bif isNew u' (nk dst 0) then .ret (.ptr (nk dst 0) 0, AM.put (nk dst 0) (.box cs') h', nk dst 0 :: u', nk dst 0 :: (match find e H.rb with | some l => l.map fun p => nk dst (p.1 + 1) | none => [])) else .fail
    | none => .fail)
  else .fail
def newRow (h : Heap) (u : List Nat) (dst : Option Nat) (t : Nat) (xs : List (R t)) (v : AV) : Q Eff :=
  bif isNew u (nk dst 0) then .ret (v, AM.put (nk dst 0) (.row t xs) h, nk dst 0 :: u, [nk dst 0]) else .fail

def allZ (k : IntKind) (cs : List AV) : Bool := cs.all fun c => match c with | .int k' n => decide (k' = k ∧ n = 0) | _ => false
def srcT (tb : Tb) (h : Heap) (u e : Nat) (y : AV) : Option (List (R e)) :=
  match find u tb with
  | none => none
  | some tu => match tu.k, y with
    | .str, .str s => byteT e s
    | .sl _, y => elemsOf h e y
    | _, _ => none

def appendQ (_tb : Tb) (H : Hints) (h : Heap) (u : List Nat) (dst : Option Nat) (e : Nat) (ti : TI) (x : AV) (ys : List (R e)) (wr : List Nat) : Q Eff :=
  bif Nat.beq ti.sz (szR e) && (Nat.blt 0 ti.sz && (Nat.beq ti.z.cells.length ti.sz && one1 ti.z.cells)) then
    match x with
    | .nils => bif flag H dst 0 then .ask (fitsB ys.length ti.bytes && decide (ys.length ≤ big62)) (newRow h u dst e ys (.vw (nk dst 0) e))
        else bif isNew u (nk dst 0) then .ask (fitsB ys.length ti.bytes && decide (ys.length ≤ big62)) (.ret (.tip (nk dst 0) e ys, AM.put (nk dst 0) .tok h, nk dst 0 :: u, [nk dst 0])) else .fail
    | .sl t true xs => bif flag H dst 0 then
          (match xs with | [] => .ask (fitsB ys.length ti.bytes && decide (ys.length ≤ big62)) (newRow h u dst e ys (.vw (nk dst 0) e)) | _ => .fail)
        else (match castL t e xs with
          | some xs => bif isNew u (nk dst 0) then .ask (fitsB (xs.length + ys.length) ti.bytes && decide (xs.length + ys.length ≤ big62)) (.ret (.tip (nk dst 0) e (xs ++ ys), AM.put (nk dst 0) .tok h, nk dst 0 :: u, [nk dst 0])) else .fail
          | none => .fail)
    | .tip k t xs => (match castL t e xs, find k h with
        | some xs, some .tok => bif isNew u (nk dst 0) then .ask (fitsB (xs.length + ys.length) ti.bytes && decide (xs.length + ys.length ≤ big62)) (.ret (.tip (nk dst 0) e (xs ++ ys), AM.put (nk dst 0) .tok (del k h), nk dst 0 :: u, [nk dst 0, k])) else .fail
        | _, _ => .fail)
    | .vw k t => (match find k h with
        | some (.row t' xs) => if t = e then (match castL t' e xs with
          | some xs => bif isNew u (nk dst 0) then .ask (fitsB (xs.length + ys.length) ti.bytes && decide (xs.length + ys.length ≤ big62)) (.ret (.vw (nk dst 0) e, AM.put (nk dst 0) (.row e (xs ++ ys)) (del k h), nk dst 0 :: u, nk dst 0 :: k :: wr)) else .fail
          | none => .fail) else .fail
        | _ => .fail)
    | .sv k t lo n => (match find k h with
        | some (.row t' xs) => if t = e ∧ t' = e then (match castL t' e xs with
          | some xs' => .ask (decide (lo + n + ys.length ≤ xs'.length)) (.ret (.sv k t lo (n + ys.length), AM.put k (.row e (xs'.take (lo + n) ++ ys ++ xs'.drop (lo + n + ys.length))) h, u, k :: wr))
          | none => .fail) else .fail
        | _ => .fail)
    | _ => .fail
  else .fail

def rsOf (H : Hints) (t : Nat) (v : AV) : Option Nat := match v with | .nils => find t H.rs | _ => none
def storeQ (tb : Tb) (H : Hints) (h : Heap) (u : List Nat) (_dst : Option Nat) (t : Nat) (x v : AV) : Q Eff :=
  match find t tb with
  | none => .fail
  | some ti =>
    match x with
    | .ptr k off =>
      (match find k h with
        | some (.box cs) =>
          (match rsOf H t v with
          | some e => bif isNew u (nk (some (50000 + off)) t) && (Nat.blt off cs.length && Nat.beq ti.sz 1) then .ret (.undef, AM.put k (.box (cs.set off (.vw (nk (some (50000 + off)) t) e))) (AM.put (nk (some (50000 + off)) t) (.row e []) h), nk (some (50000 + off)) t :: u, [k, nk (some (50000 + off)) t]) else .fail
          | none => bif (Nat.beq v.cells.length ti.sz && Nat.ble (off + ti.sz) cs.length) && one1 v.cells then .ret (.undef, AM.put k (.box (setCells cs off v.cells)) h, u, [k]) else .fail)
        | _ => .fail)
    | .ep k t' i j =>
      (match find k h with
        | some (.row t2 xs) => if t2 = t' ∧ v.cells.length = ti.sz ∧ j + ti.sz ≤ szR t2 then .get xs[i]? fun y => (match dnc t2 (setCells (cel t2 y) j v.cells) with
          | some y' => .ret (.undef, AM.put k (.row t2 (xs.set i y')) h, u, [k])
          | none => .fail) else .fail
        | _ => .fail)
    | _ => .fail

/-- What an operation that may turn memory does. -/
def effQ (tb : Tb) (H : Hints) (ev : Operand → AV) (h : Heap) (u : List Nat) (dst : Option Nat) (op : Op) : Q Eff :=
  match op with
  | .alloc e =>
    (match find e tb with
    | some ti => (match ti.k with
      | .arr n e' => bif Nat.blt 16 n then (match find e' tb with
          | some te => (match te.k with
            | .int k => (match dnc e' [.int k 0] with
              | some z => bif Nat.beq (szR e') 1 && (Nat.beq ti.z.cells.length n && allZ k ti.z.cells) then newRow h u dst e' (List.replicate n z) (.ep (nk dst 0) e' 0 0) else .fail
              | none => .fail)
            | _ => .fail)
          | none => .fail) else newBox H h u dst e ti.z.cells
      | _ => newBox H h u dst e ti.z.cells)
    | none => .fail)
  | .box e x => newBox H h u dst e (ev x).cells
  | .store t x v => storeQ tb H h u dst t (ev x) (ev v)
  | .makeInterface t x => (match ev x with
    | .ptr k off => (match find k h with
      | some (.box cs) => bif Nat.beq off 0 && Nat.ble 1000 k then (match mapO AV.dat cs with
        | some ds => .ret (.iface t (.rp ds 0), del k h, u, [k])
        | none => .fail) else .fail
      | _ => .fail)
    | .rp cs j => .ret (.iface t (.rp cs j), h, u, [])
    | _ => .fail)
  | .convert s d x =>
    (match find s tb, find d tb, ev x with
    | some _ts, some td, .str l => (match td.k with
      | .sl e => (match byteT e l with
        | some xs => bif isU8 tb e && isNew u (nk dst 0) then .ask (decide (l.length ≤ big62)) (.ret (.tip (nk dst 0) e xs, AM.put (nk dst 0) .tok h, nk dst 0 :: u, [nk dst 0])) else .fail
        | none => .fail)
      | _ => .fail)
    | _, _, _ => .fail)
  | .makeSlice t l c =>
    (match find t tb, ev l, ev c with
    | some ⟨.sl e, _, _, _⟩, .int _ n, .int _ m =>
      (match find e tb with
      | some te => (match dnc e te.z.cells with
        | some z => bif Nat.beq te.sz (szR e) then .ask (decide (n = m ∧ 0 ≤ n ∧ n ≤ 9223372036854775807) && fitsB n.toNat te.bytes)
            (bif flag H dst 0 then newRow h u dst e (List.replicate n.toNat z) (.vw (nk dst 0) e) else .ret (.sl e true (List.replicate n.toNat z), h, u, [])) else .fail
        | none => .fail)
      | none => .fail)
    | _, _, _ => .fail)
  | .call { callee := .builtin b, args := args, argTypes := ts } =>
    (match b, ts.toList, args.toList.map ev with
    | .append, [t, t'], [x, y] =>
      (match find t tb with
      | some ⟨.sl e, _, _, _⟩ => (match find e tb, srcT tb h t' e y with
        | some te, some ys => appendQ tb H h u dst e te (bif flag H dst 1 then asSv h x else x) ys (match keyOf y with | some k => [k] | none => [])
        | _, _ => .fail)
      | _ => .fail)
    | _, _, _ => .fail)
  | _ => .fail
end
end Go.AM
