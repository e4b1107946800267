/- A part of the proof: machine and program. -/
import Derived.Calls
namespace Go.AM
universe u
def find {α : Type u} (k : Nat) : List (Nat × α) → Option α
  | [] => none
  | (m, v) :: r => if k = m then some v else find k r
def put {α : Type u} (k : Nat) (v : α) : List (Nat × α) → List (Nat × α)
  | [] => [(k, v)]
  | (m, u) :: r => if k = m then (k, v) :: r else if k < m then (k, v) :: (m, u) :: r else (m, u) :: put k v r
def del {α : Type u} (k : Nat) : List (Nat × α) → List (Nat × α)
  | [] => []
  | (m, u) :: r => if k = m then del k r else (m, u) :: del k r

/-- What an operation asks before it goes on. -/
inductive Q (α : Type) : Type 1 where
  | ret (a : α)
  | fail
  | ask (c : Bool) (q : Q α)
  | br (c : Bool) (a b : Q α)
  | get {T : Type} (o : Option T) (k : T → Q α)
def getO {T ρ : Type} (o : Option T) (k : T → Option ρ) : Option ρ := match o with | some x => k x | none => none
def Q.run {α ρ : Type} (K : α → Option ρ) : Q α → Option ρ
  | .ret a => K a
  | .fail => none
  | .ask c q => bif c then q.run K else none
  | .br c a b => bif c then a.run K else b.run K
  | .get o k => getO o fun x => (k x).run K
def Q.bind {α β : Type} (K : α → Q β) : Q α → Q β
  | .ret a => K a
  | .fail => .fail
  | .ask c q => .ask c (q.bind K)
  | .br c a b => .br c (a.bind K) (b.bind K)
  | .get o k => .get o fun x => (k x).bind K
/-- The answer, if there is one. -/
def Q.val {α : Type} (q : Q α) : Option α := q.run some
def Q.of {α : Type} : Option α → Q α
  | some a => .ret a
  | none => .fail

theorem Q.run_val {α ρ : Type} {K : α → Option ρ} {r : ρ} : ∀ {q : Q α}, q.run K = some r → ∃ a, q.val = some a ∧ K a = some r
  | .ret a, h => ⟨a, rfl, h⟩
  | .ask c q, h => by
    cases c
    · cases h
    · exact Q.run_val (q := q) h
  | .br c a b, h => by
    cases c
    · exact Q.run_val (q := b) h
    · exact Q.run_val (q := a) h
  | .get o k, h => by
    cases o
    · cases h
    · exact Q.run_val (q := k _) h
theorem Q.val_bind {α β : Type} {K : α → Q β} {b : β} : ∀ {q : Q α}, (q.bind K).val = some b → ∃ a, q.val = some a ∧ (K a).val = some b
  | .ret a, h => ⟨a, rfl, h⟩
  | .ask c q, h => by
    cases c
    · cases h
    · exact Q.val_bind (q := q) h
  | .br c x y, h => by
    cases c
    · exact Q.val_bind (q := y) h
    · exact Q.val_bind (q := x) h
  | .get o k, h => by
    cases o
    · cases h
    · exact Q.val_bind (q := k _) h
theorem Q.val_ask {α : Type} {c : Bool} {q : Q α} {a : α} (h : (Q.ask c q).val = some a) : c = true ∧ q.val = some a := by
  cases c
  · cases h
  · exact ⟨rfl, h⟩
theorem Q.val_br {α : Type} {c : Bool} {p q : Q α} {a : α} (h : (Q.br c p q).val = some a) : (c = true ∧ p.val = some a) ∨ (c = false ∧ q.val = some a) := by
  cases c
  · exact .inr ⟨rfl, h⟩
  · exact .inl ⟨rfl, h⟩
theorem Q.val_get {α T : Type} {o : Option T} {k : T → Q α} {a : α} (h : (Q.get o k).val = some a) : ∃ x, o = some x ∧ (k x).val = some a := by
  cases o
  · cases h
  · exact ⟨_, rfl, h⟩
theorem Q.val_of {α : Type} {o : Option α} {a : α} (h : (Q.of o).val = some a) : o = some a := by
  cases o
  · cases h
  · exact h

theorem find_put_same {α : Type} (k : Nat) (v : α) : ∀ l : List (Nat × α), find k (put k v l) = some v
  | [] => by simp [put, find]
  | (m, u) :: r => by
    unfold put
    split
    · simp [find]
    · split
      · simp [find]
      · simp only [find, *, if_false]
        exact find_put_same k v r
theorem find_put_ne {α : Type} {j k : Nat} (h : j ≠ k) (v : α) : ∀ l : List (Nat × α), find j (put k v l) = find j l
  | [] => by simp [put, find, h]
  | (m, u) :: r => by
    unfold put
    split
    · rename_i e
      subst e
      simp [find, h]
    · split
      · simp [find, h]
      · simp only [find]
        split
        · rfl
        · exact find_put_ne h v r
theorem find_put {α : Type} (j k : Nat) (v : α) (l : List (Nat × α)) : find j (put k v l) = if j = k then some v else find j l := by
  split
  · rename_i e
    subst e
    exact find_put_same j v l
  · rename_i e
    exact find_put_ne e v l
theorem find_del {α : Type} (j k : Nat) : ∀ l : List (Nat × α), find j (del k l) = if j = k then none else find j l
  | [] => by simp [del, find]
  | (m, u) :: r => by
    have ih := find_del j k r
    unfold del
    split
    · rename_i e
      subst e
      rw [ih]
      simp only [find]
      split
      · rfl
      · rfl
    · rename_i e
      simp only [find, ih]
      split
      · rename_i e2
        subst e2
        rw [if_neg (fun e3 => e e3.symm)]
      · rfl
end Go.AM
namespace Go.AM

/-! ### Lean's types for Go's -/
inductive CK where
  | int (k : IntKind)
  | bool
  | str
  | sl (t : Nat)
  deriving DecidableEq
abbrev CK.den (T : Nat → Type) : CK → Type
  | .int _ => Int
  | .bool => Bool
  | .str => List UInt8
  | .sl t => List (T t)
def HL (T : Nat → Type) : List CK → Type
  | [] => Unit
  | k :: r => k.den T × HL T r
/-- A type of values that need no memory of the call's own: its cells' kinds. -/
structure Ent (T : Nat → Type) (t : Nat) where
  agg : Bool
  ks : List CK
  to : T t → HL T ks
  of : HL T ks → T t
  h : ∀ x, to (of x) = x
class Reg where
  T : Nat → Type
  ent : (t : Nat) → Option (Ent T t)
/-- An entry out of a list. -/
def entOf {T : Nat → Type} (t : Nat) : List (Σ u, Ent T u) → Option (Ent T t)
  | [] => none
  | ⟨u, e⟩ :: r => if h : u = t then some (h ▸ e) else entOf t r
def typOf (l : List (Nat × Type)) (t : Nat) : Type := match find t l with | some T => T | none => Empty

section
variable [Reg]
abbrev R (t : Nat) : Type := Reg.T t

/-- A value as the machine has it. 'sl': a slice of finished elements (never written again; 'full': its capacity is its length); 'rp': a pointer to cell j of finished cells; 'ra': to a finished array;
 'tip': a slice that may still be appended to; 'ptr': into a box; 'vw': a row as a whole; 'sv': some elements of it; 'ep': a pointer to a cell of an element of a row; 'ow': a row as it is handed over. -/
inductive AV where
  | undef
  | nilp
  | nilfn
  | nili
  | nils
  | int (k : IntKind) (n : Int)
  | bool (b : Bool)
  | str (s : List UInt8)
  | agg (cs : List AV)
  | tup (vs : List AV)
  | fn (f : Nat) (cs : List AV)
  | iface (t : Nat) (v : AV)
  | sl (t : Nat) (full : Bool) (xs : List (R t))
  | rp (cs : List AV) (j : Nat)
  | ra (t : Nat) (xs : List (R t))
  | tip (k t : Nat) (xs : List (R t))
  | ptr (k off : Nat)
  | vw (k t : Nat)
  | sv (k t lo n : Nat)
  | ep (k t i j : Nat)
  | ow (t : Nat) (xs : List (R t))
  deriving Inhabited

def AV.cells : AV → List AV
  | .agg cs => cs
  | v => [v]
/-- May a value lie in one cell? -/
def AV.cell1 : AV → Bool
  | .undef | .agg _ | .tup _ | .ow .. => false
  | _ => true
def AV.atom : AV → Bool
  | .fn .. => false
  | v => v.cell1
def one1 (cs : List AV) : Bool := cs.all AV.cell1

/-! cells of Lean's values, and back -/
def CK.up : (k : CK) → k.den Reg.T → AV
  | .int k, n => .int k n
  | .bool, b => .bool b
  | .str, s => .str s
  | .sl t, xs => .sl t false xs
def CK.dn : (k : CK) → AV → Option (k.den Reg.T)
  | .int k, .int k' n => if k' = k then some n else none
  | .bool, .bool b => some b
  | .str, .str s => some s
  | .sl t, .sl t' _ xs => if h : t' = t then some (h ▸ xs) else none
  | .sl t, .tip _ t' xs => if h : t' = t then some (h ▸ xs) else none
  | .sl _, .nils => some []
  | _, _ => none
def ups : (ks : List CK) → HL Reg.T ks → List AV
  | [], _ => []
  | k :: r, x => k.up x.1 :: ups r x.2
def dns : (ks : List CK) → List AV → Option (HL Reg.T ks)
  | [], [] => some ()
  | k :: r, c :: cs => match k.dn c, dns r cs with
    | some x, some y => some (x, y)
    | _, _ => none
  | _, _ => none
def cel (t : Nat) (x : R t) : List AV := match Reg.ent t with | some e => ups e.ks (e.to x) | none => []
def szR (t : Nat) : Nat := match Reg.ent t with | some e => e.ks.length | none => 0
/-- A value out of its cells. -/
def dnc (t : Nat) (cs : List AV) : Option (R t) := match Reg.ent t with | some e => (match dns e.ks cs with | some x => some (e.of x) | none => none) | none => none
def ofCells (agg : Bool) (cs : List AV) : AV := bif agg then .agg cs else match cs with | [c] => c | _ => .undef
def up (t : Nat) (x : R t) : AV := match Reg.ent t with | some e => ofCells e.agg (ups e.ks (e.to x)) | none => .undef
def dn (t : Nat) (v : AV) : Option (R t) := dnc t v.cells
def flat (t : Nat) (xs : List (R t)) : List AV := xs.flatMap (cel t)
/-- Elements, one by one out of a row's cells. -/
def dnRow (t : Nat) : Nat → List AV → Option (List (R t))
  | 0, _ => some []
  | n + 1, cs => match dnc t (cs.take (szR t)), dnRow t n (cs.drop (szR t)) with
    | some x, some l => some (x :: l)
    | _, _ => none
/-- Some times the same cells. -/
def repC (cs : List AV) : Nat → List AV
  | 0 => []
  | n + 1 => cs ++ repC cs n
def castL (t u : Nat) (xs : List (R t)) : Option (List (R u)) := if h : t = u then some (h ▸ xs) else none

/-! ### Types -/
inductive TK where
  | int (k : IntKind)
  | bool
  | str
  | struct (fs : List (Nat × Nat))
  | arr (n : Nat) (e : Nat)
  | sl (e : Nat)
  | ptr
  | iface
  | other
structure TI where
  k : TK
  sz : Nat
  bytes : Nat
  z : AV
def ofVal1 : Value → AV
  | .int k n => .int k n
  | .bool b => .bool b
  | .string s => .str s.data.toList
  | .pointer none => .nilp
  | .slice none 0 0 => .nils
  | .nilIface => .nili
  | .nilFunc => .nilfn
  | _ => .undef
def ofVal : Value → AV
  | .agg cs => .agg (cs.toList.map ofVal1)
  | v => ofVal1 v
abbrev Tb := List (Nat × TI)
def TI.isAgg (t : TI) : Bool := match t.k with | .struct _ | .arr _ _ => true | _ => false

/-! ### States -/
inductive Ob where
  | box (cs : List AV)
  | row (t : Nat) (xs : List (R t))
  | fz (t : Nat) (xs : List (R t))
  | tok
abbrev Heap := List (Nat × Ob)
structure St where
  nt : Nat
  t : List (Nat × AV)
  h : Heap
  u : List Nat        -- the objects' numbers that were ever used
def St.get (st : St) (k : Nat) : AV := match find k st.t with | some v => v | none => .undef
def St.ev (st : St) : Operand → AV
  | .tmp t => st.get t
  | .const v => ofVal v
  | .func f => .fn f []
  | .global _ => .undef
def St.put (st : St) (dst : Option Nat) (v : AV) : St := match dst with | some d => bif Nat.blt d st.nt then { st with t := AM.put d v st.t } else st | none => st

def partOf (ti : TI) (cs : List AV) (off : Nat) : Option AV :=
  bif ti.isAgg then (bif Nat.ble (off + ti.sz) cs.length then some (.agg ((cs.drop off).take ti.sz)) else none) else cs[off]?
def setCells (cs : List AV) (off : Nat) : List AV → List AV
  | [] => cs
  | v :: r => setCells (cs.set off v) (off + 1) r

/-! ### Operations on values -/
def intQ (op : BinOp) (k : IntKind) (a b : Int) : Q AV :=
  match op with
  | .add => .ret (.int k (k.wrap (a + b)))
  | .sub => .ret (.int k (k.wrap (a - b)))
  | .mul => .ret (.int k (k.wrap (a * b)))
  | .quo => .ask (!decide (b = 0)) (.ret (.int k (k.wrap (a.tdiv b))))
  | .rem => .ask (!decide (b = 0)) (.ret (.int k (a.tmod b)))
  | .and => .ret (.int k (k.wrap ((BitVec.ofInt k.bits a &&& BitVec.ofInt k.bits b).toNat)))
  | .or => .ret (.int k (k.wrap ((BitVec.ofInt k.bits a ||| BitVec.ofInt k.bits b).toNat)))
  | .xor => .ret (.int k (k.wrap ((BitVec.ofInt k.bits a ^^^ BitVec.ofInt k.bits b).toNat)))
  | .andNot => .ret (.int k (k.wrap ((BitVec.ofInt k.bits a &&& ~~~ BitVec.ofInt k.bits b).toNat)))
  | .eql => .ret (.bool (a == b))
  | .neq => .ret (.bool (a != b))
  | .lss => .ret (.bool (decide (a < b)))
  | .leq => .ret (.bool (decide (a ≤ b)))
  | .gtr => .ret (.bool (decide (a > b)))
  | .geq => .ret (.bool (decide (a ≥ b)))
  | _ => .fail
def shiftQ (op : BinOp) (k : IntKind) (a b : Int) : Q AV :=
  match op with
  | .shl => .ask (decide (0 ≤ b)) (.ret (.int k (k.wrap (a * 2 ^ (min b.toNat k.bits)))))
  | .shr => .ask (decide (0 ≤ b)) (.ret (.int k (a.fdiv (2 ^ (min b.toNat k.bits)))))
  | _ => .fail
def big62 : Nat := 4611686018427387904
def strQ (op : BinOp) (a b : List UInt8) : Q AV :=
  match op with
  | .add => .ask (decide (a.length + b.length ≤ big62)) (.ret (.str (a ++ b)))
  | .eql => .ret (.bool (a == b))
  | .neq => .ret (.bool (!(a == b)))
  | _ => .fail
def eqCell (k : TK) (x y : AV) : Option Bool :=
  match k, x, y with
  | .int _, .int k a, .int k' b => if k = k' then some (a == b) else none
  | .bool, .bool a, .bool b => some (a == b)
  | .str, .str a, .str b => some (a == b)
  | _, _, _ => none
def eqFs (tb : Tb) (i : Nat) : List (Nat × Nat) → List AV → List AV → Option Bool
  | [], [], [] => some true
  | (o, t) :: fs, x :: xs, y :: ys =>
    if o = i then (match find t tb with
      | some ti => (match eqCell ti.k x y, eqFs tb (i + 1) fs xs ys with
        | some a, some b => some (a && b)
        | _, _ => none)
      | none => none) else none
  | _, _, _ => none
def eqA (tb : Tb) (k : TK) (cst : Bool) (x y : AV) : Option Bool :=
  match k, x, y with
  | .struct fs, .agg a, .agg b => eqFs tb 0 fs a b
  | .bool, .bool a, .bool b => some (a == b)
  | .ptr, .nilp, .nilp => some true
  | .ptr, .rp _ _, .nilp => some false
  | .ptr, .nilp, .rp _ _ => some false
  | .ptr, .ra _ _, .nilp => some false
  | .ptr, .ptr _ _, .nilp => some false
  | .ptr, .nilp, .ptr _ _ => some false
  | .iface, .nili, .nili => bif cst then some true else none
  | .iface, .iface _ _, .nili => some false
  | .iface, .nili, .iface _ _ => some false
  | _, _, _ => none
def isConst : Operand → Bool
  | .const _ => true
  | _ => false
def binQ (tb : Tb) (op : BinOp) (t : Nat) (cst : Bool) (x y : AV) : Q AV :=
  match x, y with
  | .int k a, .int k' b =>
    (match op with
    | .shl | .shr => shiftQ op k a b
    | _ => if k = k' then intQ op k a b else .fail)
  | .str a, .str b => strQ op a b
  | x, y =>
    match find t tb with
    | some ti =>
      (match op with
      | .eql => (match eqA tb ti.k cst x y with | some b => .ret (.bool b) | none => .fail)
      | .neq => (match eqA tb ti.k cst x y with | some b => .ret (.bool (!b)) | none => .fail)
      | _ => .fail)
    | none => .fail
def unQ (op : UnOp) (x : AV) : Q AV :=
  match op, x with
  | .not, .bool b => .ret (.bool !b)
  | .neg, .int k n => .ret (.int k (k.wrap (0 - n)))
  | .xor, .int k n => intQ .xor k (if k.signed then -1 else k.max) n
  | _, _ => .fail

def pickAV (t : Bool) (a b : AV) : AV :=
  match a, b with
  | .int k m, .int k' n => if k = k' then .int k (bif t then m else n) else .undef
  | .bool m, .bool n => .bool (bif t then m else n)
  | .str m, .str n => .str (bif t then m else n)
  | .sl u f xs, .sl u' f' ys => if h : u' = u then (if f = f' then .sl u f (bif t then xs else h ▸ ys) else .undef) else .undef
  | a, b => bif t then a else b

def toByte : List AV → List UInt8
  | [.int .u8 n] => [UInt8.ofNat n.toNat]
  | _ => []
def bytesT (t : Nat) (xs : List (R t)) : List UInt8 := xs.flatMap fun x => toByte (cel t x)
def byteEnt (e : Nat) : Bool := match Reg.ent e with | some en => (match en.ks with | [.int .u8] => true | _ => false) | none => false
def byteOf (t : Nat) (d : R t) (b : UInt8) : R t := match dnc t [.int .u8 b.toNat] with | some x => x | none => d
def byteT (t : Nat) (l : List UInt8) : Option (List (R t)) := bif byteEnt t then (match dnc t [.int .u8 0] with | some d => some (l.map (byteOf t d)) | none => none) else none
def isU8 (tb : Tb) (e : Nat) : Bool := match find e tb with | some te => (match te.k with | .int .u8 => true | _ => false) | none => false

/-- The elements of a slice that need no look at the memory. -/
def slOf : AV → Option (Σ t, List (R t))
  | .sl t _ xs => some ⟨t, xs⟩
  | .tip _ t xs => some ⟨t, xs⟩
  | _ => none
/-- What a row holds. -/
def rowAt (h : Heap) (k : Nat) : Option (Σ t, List (R t)) := match find k h with
  | some (.row u xs) => some ⟨u, xs⟩
  | some (.fz u xs) => some ⟨u, xs⟩
  | _ => none
/-- .. of a slice of elements of that type, by a look at it. -/
def elemsOf (h : Heap) (e : Nat) : AV → Option (List (R e))
  | .sl t _ xs => castL t e xs
  | .tip _ t xs => castL t e xs
  | .nils => some []
  | .vw k t => if t = e then (match rowAt h k with | some ⟨u, xs⟩ => castL u e xs | none => none) else none
  | .sv k t lo n => if t = e then (match rowAt h k with | some ⟨u, xs⟩ => (match castL u e xs with | some l => some ((l.drop lo).take n) | none => none) | none => none) else none
  | _ => none

def roomB : Nat := 140737488355328
def fitsB (n bytes : Nat) : Bool := decide (n * bytes ≤ roomB)

def fillParts (tb : Tb) (fs : List (Nat × Nat)) (ev : Operand → AV) (cs : List AV) : List (Nat × Operand) → Option (List AV)
  | [] => some cs
  | (i, x) :: r =>
    match fs[i]? with
    | none => none
    | some (off, t) =>
      match find t tb with
      | some ti => bif (Nat.beq (ev x).cells.length ti.sz && Nat.ble (off + ti.sz) cs.length) && one1 (ev x).cells then fillParts tb fs ev (setCells cs off (ev x).cells) r else none
      | none => none
def loA : Option AV → Option Int
  | none => some 0
  | some (.int _ n) => some n
  | _ => none
def hiA (d : Int) : Option AV → Option Int
  | none => some d
  | some (.int _ n) => some n
  | _ => none

/-- One of some, by a number that need not be known. -/
def among (i : Int) (f : Nat → Q AV) : Nat → Q AV
  | 0 => .fail
  | n + 1 => .br (decide (i = n)) (f n) (among i f n)

/-- Is it a type whose elements' size is known? -/
def elOk (tb : Tb) (e : Nat) : Bool := match find e tb with | some te => Nat.beq te.sz (szR e) | none => false
def sliceQ (tb : Tb) (t : Nat) (x : AV) (lo hi mx : Option AV) : Q AV :=
  match find t tb with
  | none => .fail
  | some ti =>
    match ti.k, loA lo with
    | .str, some l =>
      (match x, mx with
      | .str s, none => (match hiA s.length hi with
        | some h => .ask (decide (0 ≤ l ∧ l ≤ h ∧ h ≤ s.length)) (.ret (.str ((s.take h.toNat).drop l.toNat)))
        | none => .fail)
      | _, _ => .fail)
    | .sl e, some l => bif elOk tb e then
      (match x with
      | .nils => (match hiA 0 hi, mx with
        | some h, none => .ask (decide (0 = l ∧ h = 0)) (.ret .nils)
        | _, _ => .fail)
      | .sv k t' b n => (match hiA n hi, mx with
        | some h, none => if t' = e then .ask (decide (0 ≤ l ∧ l ≤ h ∧ h ≤ n)) (.ret (.sv k t' (b + l.toNat) (h.toNat - l.toNat))) else .fail
        | _, _ => .fail)
      | x => (match slOf x with
        | some ⟨t', xs⟩ => if t' = e then
          (match mx with
          | none => (match hiA xs.length hi with | some h => .ask (decide (0 ≤ l ∧ l ≤ h ∧ h ≤ xs.length)) (.ret (.sl t' false ((xs.take h.toNat).drop l.toNat))) | none => .fail)
          | some (.int _ m) => (match hi with | some (.int _ h) => .ask (decide (0 ≤ l ∧ l ≤ h ∧ h = m ∧ m ≤ xs.length)) (.ret (.sl t' true ((xs.take h.toNat).drop l.toNat))) | _ => .fail)
          | _ => .fail) else .fail
        | none => .fail)) else .fail
    | _, _ => .fail

def indexAddrQ (tb : Tb) (t : Nat) (x : AV) (i : Int) : Q AV :=
  match find t tb with
  | some ⟨.sl e, _, _, _⟩ => bif elOk tb e then
    (match x with
    | .sv k t' lo n => if t' = e then .ask (decide (0 ≤ i ∧ i < n)) (.ret (.ep k t' (lo + i.toNat) 0)) else .fail
    | x => (match slOf x with
      | some ⟨t', xs⟩ => if t' = e then .ask (decide (0 ≤ i)) (.get xs[i.toNat]? fun y => .ret (.rp (cel t' y) 0)) else .fail
      | none => .fail)) else .fail
  | some ⟨.arr n e, _, _, _⟩ =>
    (match find e tb, x with
    | some te, .ptr k off => among i (fun j => .ret (.ptr k (off + j * te.sz))) n
    | some te, .rp cs off => among i (fun j => .ret (.rp cs (off + j * te.sz))) n
    | some te, .ra t' xs => if t' = e ∧ te.sz = szR e then .ask (decide (0 ≤ i ∧ i < n)) (.get xs[i.toNat]? fun y => .ret (.rp (cel t' y) 0)) else .fail
    | some te, .ep k t' j q => if q = 0 ∧ te.sz = szR t' then .ask (decide (0 ≤ i ∧ i < n)) (.ret (.ep k t' (j + i.toNat) 0)) else .fail
    | _, _ => .fail)
  | _ => .fail

def convQ (tb : Tb) (ts td : TI) (x : AV) : Q AV :=
  match td.k, x with
  | .int k, .int _ n => .ret (.int k (k.wrap n))
  | .str, .str s => .ret (.str s)
  | .str, .nils => (match ts.k with | .sl e => if isU8 tb e then .ret (.str []) else .fail | _ => .fail)
  | .str, x =>
    (match ts.k, slOf x with
    | .sl e, some ⟨t, xs⟩ => if isU8 tb e ∧ t = e ∧ byteEnt e = true then .ret (.str (bytesT t xs)) else .fail
    | _, _ => .fail)
  | _, _ => .fail

/-- What an operation that looks at no memory answers. -/
def pureQ (tb : Tb) (ev : Operand → AV) (op : Op) : Q AV :=
  match op with
  | .move x | .assign x => .ret (ev x)
  | .pick c a b => (match ev c with | .bool t => .ret (pickAV t (ev a) (ev b)) | _ => .fail)
  | .build t ps =>
    (match find t tb with
    | some ⟨.struct fs, _, _, .agg z⟩ => bif one1 z then (match fillParts tb fs ev z ps.toList with | some cs => .ret (.agg cs) | none => .fail) else .fail
    | some ⟨.arr n e, _, _, .agg z⟩ => (match find e tb with
      | some te => bif one1 z then (match fillParts tb ((List.range n).map fun i => (i * te.sz, e)) ev z ps.toList with | some cs => .ret (.agg cs) | none => .fail) else .fail
      | none => .fail)
    | _ => .fail)
  | .buildSlice t n ps =>
    (match find t tb with
    | some ⟨.sl e, _, _, _⟩ =>
      (match find e tb with
      | some te => bif (Nat.ble (n * te.sz) 16777216 && Nat.beq te.z.cells.length te.sz) && ((!Nat.beq n 0 && Nat.blt 0 te.sz) && (Nat.beq te.sz (szR e) && one1 te.z.cells)) then
          (match fillParts tb ((List.range n).map fun i => (i * te.sz, e)) ev (repC te.z.cells n) ps.toList with
            | some cs => (match dnRow e n cs with | some l => .ret (.sl e true l) | none => .fail)
            | none => .fail) else .fail
      | none => .fail)
    | _ => .fail)
  | .nilCheck x => (match ev x with | .ptr k off => .ret (.ptr k off) | .rp cs j => .ret (.rp cs j) | .ra t xs => .ret (.ra t xs) | .ep k t i j => .ret (.ep k t i j) | .fn f cs => .ret (.fn f cs) | _ => .fail)
  | .binOp op t x y _ => binQ tb op t (isConst x || isConst y) (ev x) (ev y)
  | .unOp op _ x => unQ op (ev x)
  | .convert s d x =>
    (match find s tb, find d tb with
    | some ts, some td => convQ tb ts td (ev x)
    | _, _ => .fail)
  | .makeInterface t x => (match find t tb, ev x with
    | some ti, v => (match ti.k, v with | .int _, .int k n => .ret (.iface t (.int k n)) | .str, .str s => .ret (.iface t (.str s)) | .ptr, .rp cs j => .ret (.iface t (.rp cs j)) | _, _ => .fail)
    | _, _ => .fail)
  | .makeFunc (.func f) first cap => if first.size = 0 then (bif (cap.toList.map ev).all AV.atom then .ret (.fn f (cap.toList.map ev)) else .fail) else .fail
  | .fieldAddr s x f =>
    (match find s tb with
    | some ⟨.struct fs, _, _, _⟩ =>
      (match fs[f]?, ev x with
      | some (off, _), .ptr k o' => .ret (.ptr k (o' + off))
      | some (off, _), .rp cs j => .ret (.rp cs (j + off))
      | some (off, _), .ep k t i j => .ret (.ep k t i (j + off))
      | _, _ => .fail)
    | _ => .fail)
  | .field s x f =>
    (match find s tb, ev x with
    | some ⟨.struct fs, _, _, _⟩, .agg cs =>
      (match fs[f]? with
      | some (off, t) => (match find t tb with | some ti => (match partOf ti cs off with | some v => .ret v | none => .fail) | none => .fail)
      | none => .fail)
    | _, _ => .fail)
  | .index t x i =>
    (match find t tb, ev x, ev i with
    | some ⟨.str, _, _, _⟩, .str s, .int _ n => .ask (decide (0 ≤ n)) (.get s[n.toNat]? fun b => .ret (.int .u8 b.toNat))
    | some ⟨.arr n e, _, _, _⟩, .agg cs, .int _ i =>
      (match find e tb with
      | some te => among i (fun j => match partOf te cs (j * te.sz) with | some v => .ret v | none => .fail) n
      | none => .fail)
    | _, _, _ => .fail)
  | .extract x i => (match ev x with | .tup vs => (match vs[i]? with | some v => .ret v | none => .fail) | _ => .fail)
  | .call { callee := .builtin b, args := args, .. } =>
    (match b, args.toList.map ev with
    | .min, [.int k a, .int _ b] => .ret (.int k (if b < a then b else a))
    | .max, [.int k a, .int _ b] => .ret (.int k (if b > a then b else a))
    | _, _ => .fail)
  | _ => .fail

/-- Does a conversion look at memory, or make a row? -/
def convK (tb : Tb) (s d : Nat) : Nat := match find s tb, find d tb with
  | some ts, some td => (match td.k, ts.k with | .sl _, _ => 2 | .str, .sl _ => 1 | _, _ => 0)
  | _, _ => 0
def isPtrT (tb : Tb) (t : Nat) : Bool := match find t tb with | some ti => (match ti.k with | .ptr => true | _ => false) | none => false
/-- 0: it looks at no memory; 1: it only looks; 2: it may turn it. -/
def kindA (tb : Tb) (o : Op) : Nat :=
  match o with
  | .move _ | .assign _ | .pick .. | .build .. | .buildSlice .. | .nilCheck _ | .binOp .. | .unOp .. | .makeFunc .. | .fieldAddr .. | .field .. | .index .. | .extract .. => 0
  | .load .. | .slice .. | .indexAddr .. => 1
  | .convert s d _ => convK tb s d
  | .makeInterface t _ => bif isPtrT tb t then 2 else 0
  | .call { callee := .builtin .min, .. } | .call { callee := .builtin .max, .. } => 0
  | .call { callee := .builtin .len, .. } | .call { callee := .builtin .cap, .. } => 1
  | _ => 2

def vwN (h : Heap) (t k : Nat) : Option Nat := match rowAt h k with | some ⟨u, xs⟩ => if u = t then some xs.length else none | none => none
/-- A whole row, as some elements of it. -/
def asSv (h : Heap) (v : AV) : AV := match v with
  | .vw k t => (match vwN h t k with | some n => .sv k t 0 n | none => .undef)
  | .sv k t lo n => (match vwN h t k with | some _ => .sv k t lo n | none => .undef)
  | .ep k t i j => (match find k h with | some (.row _ _) => .ep k t i j | _ => .undef)
  | v => v
def keyOf (v : AV) : Option Nat := match v with | .vw k _ | .sv k _ _ _ | .ep k _ _ _ => some k | _ => none
/-- What an operation that looks answers, and at which object. -/
def lookQ (tb : Tb) (ev : Operand → AV) (h : Heap) (op : Op) : Q (AV × Option Nat) :=
  match op with
  | .load t x =>
    (match find t tb with
    | none => .fail
    | some ti =>
      match ev x with
      | .ptr k off => (match find k h with
        | some (.box cs) => (match partOf ti cs off with | some v => .ret (v, some k) | none => .fail)
        | _ => .fail)
      | .rp cs j => (match partOf ti cs j with | some v => .ret (v, none) | none => .fail)
      | .ep k t' i j => (match rowAt h k with
        | some ⟨u, xs⟩ => if u = t' then .get xs[i]? fun y => (match partOf ti (cel u y) j with | some v => .ret (v, some k) | none => .fail) else .fail
        | _ => .fail)
      | _ => .fail)
  | .convert s d x =>
    (match find s tb, find d tb, ev x with
    | some ts, some td, v => (match keyOf v with
      | some k => (match td.k, ts.k with
        | .str, .sl e => (match elemsOf h e v with
          | some l => if isU8 tb e ∧ byteEnt e = true then .ret (.str (bytesT e l), some k) else .fail
          | none => .fail)
        | _, _ => .fail)
      | none => (convQ tb ts td v).bind fun v => .ret (v, none))
    | _, _, _ => .fail)
  | .slice t x lo hi mx => (sliceQ tb t (asSv h (ev x)) (lo.map ev) (hi.map ev) (mx.map ev)).bind fun v => .ret (v, keyOf (ev x))
  | .indexAddr t x i => (match ev i with | .int _ n => (indexAddrQ tb t (asSv h (ev x)) n).bind fun v => .ret (v, keyOf (ev x)) | _ => .fail)
  | .call { callee := .builtin b, args := args, argTypes := ts } =>
    (match b, ts.toList, args.toList.map ev with
    | .len, [t], [x] =>
      (match find t tb with
      | some ti => (match ti.k, asSv h x with
        | .str, .str s => .ret (.int .i64 s.length, keyOf x)
        | .sl _, .nils => .ret (.int .i64 0, keyOf x)
        | .sl _, .sv _ _ _ n => .ret (.int .i64 n, keyOf x)
        | .sl _, y => (match slOf y with | some ⟨_, xs⟩ => .ret (.int .i64 xs.length, keyOf x) | none => .fail)
        | .arr n _, _ => .ret (.int .i64 n, keyOf x)
        | _, _ => .fail)
      | none => .fail)
    | .cap, [t], [x] =>
      (match find t tb with
      | some ti => (match ti.k, x with
        | .sl _, .nils => .ret (.int .i64 0, none)
        | .sl _, .sl _ true xs => .ret (.int .i64 xs.length, none)
        | _, _ => .fail)
      | none => .fail)
    | _, _, _ => .fail)
  | _ => .fail

end
end Go.AM
namespace Go.AM
section
variable [Reg]

def AV.dat : AV → Option AV
  | .tip _ t xs => some (.sl t false xs)
  | .undef | .agg _ | .tup _ | .fn .. | .ptr .. | .vw .. | .sv .. | .ep .. | .ow .. => none
  | v => some v
def mapO {α β : Type} (f : α → Option β) : List α → Option (List β)
  | [] => some []
  | a :: r => match f a, mapO f r with | some b, some l => some (b :: l) | _, _ => none

/-- A number for an object that an operation makes. -/
def nk (dst : Option Nat) (j : Nat) : Nat := 1000000 + (match dst with | some d => d | none => 99999) * 16384 + j
def isNew (u : List Nat) (k : Nat) : Bool := !u.contains k
/-- What is said of the program's text beside it: of operations (by what they write to), of types. -/
structure Hints where
  fl : List (Nat × Nat)                    -- 1: a row is made; 2: what is appended lies in it; 4: rows are lent; 8: what is answered is the call's own
  rs : List (Nat × Nat)                    -- slice types that are rows in boxes: the elements'
  rb : List (Nat × List (Nat × Nat))       -- of types of boxes: where rows are
def flag (H : Hints) (dst : Option Nat) (b : Nat) : Bool := match dst with | some d => (match find d H.fl with | some n => n.testBit b | none => false) | none => false

abbrev Eff := AV × Heap × List Nat × List Nat
/-- A box, with rows for nils where rows are. -/
def boxRows (dst : Option Nat) : List (Nat × Nat) → List AV → Heap → List Nat → Option (List AV × Heap × List Nat)
  | [], cs, h, u => some (cs, h, u)
  | (off, e) :: l, cs, h, u => match cs[off]? with
    | some .nils => bif isNew u (nk dst (off + 1)) then boxRows dst l (cs.set off (.vw (nk dst (off + 1)) e)) (AM.put (nk dst (off + 1)) (.row e []) h) (nk dst (off + 1) :: u) else none
    | _ => boxRows dst l cs h u
def newBox (H : Hints) (h : Heap) (u : List Nat) (dst : Option Nat) (e : Nat) (cs : List AV) : Q Eff :=
  bif one1 cs then
    (match boxRows dst (match find e H.rb with | some l => l | none => []) cs h u with
    | some (cs', h', u') => bif isNew u' (nk dst 0) then .ret (.ptr (nk dst 0) 0, AM.put (nk dst 0) (.box cs') h', nk dst 0 :: u', nk dst 0 :: (match find e H.rb with | some l => l.map fun p => nk dst (p.1 + 1) | none => [])) else .fail
    | none => .fail)
  else .fail
def newRow (h : Heap) (u : List Nat) (dst : Option Nat) (t : Nat) (xs : List (R t)) (v : AV) : Q Eff :=
  bif isNew u (nk dst 0) then .ret (v, AM.put (nk dst 0) (.row t xs) h, nk dst 0 :: u, [nk dst 0]) else .fail

def allZ (k : IntKind) (cs : List AV) : Bool := cs.all fun c => match c with | .int k' n => decide (k' = k ∧ n = 0) | _ => false
def srcT (tb : Tb) (h : Heap) (u e : Nat) (y : AV) : Option (List (R e)) :=
  match find u tb with
  | none => none
  | some tu => match tu.k, y with
    | .str, .str s => byteT e s
    | .sl _, y => elemsOf h e y
    | _, _ => none

def appendQ (_tb : Tb) (H : Hints) (h : Heap) (u : List Nat) (dst : Option Nat) (e : Nat) (ti : TI) (x : AV) (ys : List (R e)) (wr : List Nat) : Q Eff :=
  bif Nat.beq ti.sz (szR e) && (Nat.blt 0 ti.sz && (Nat.beq ti.z.cells.length ti.sz && one1 ti.z.cells)) then
    match x with
    | .nils => bif flag H dst 0 then .ask (fitsB ys.length ti.bytes && decide (ys.length ≤ big62)) (newRow h u dst e ys (.vw (nk dst 0) e))
        else bif isNew u (nk dst 0) then .ask (fitsB ys.length ti.bytes && decide (ys.length ≤ big62)) (.ret (.tip (nk dst 0) e ys, AM.put (nk dst 0) .tok h, nk dst 0 :: u, [nk dst 0])) else .fail
    | .sl t true xs => bif flag H dst 0 then
          (match xs with | [] => .ask (fitsB ys.length ti.bytes && decide (ys.length ≤ big62)) (newRow h u dst e ys (.vw (nk dst 0) e)) | _ => .fail)
        else (match castL t e xs with
          | some xs => bif isNew u (nk dst 0) then .ask (fitsB (xs.length + ys.length) ti.bytes && decide (xs.length + ys.length ≤ big62)) (.ret (.tip (nk dst 0) e (xs ++ ys), AM.put (nk dst 0) .tok h, nk dst 0 :: u, [nk dst 0])) else .fail
          | none => .fail)
    | .tip k t xs => (match castL t e xs, find k h with
        | some xs, some .tok => bif isNew u (nk dst 0) then .ask (fitsB (xs.length + ys.length) ti.bytes && decide (xs.length + ys.length ≤ big62)) (.ret (.tip (nk dst 0) e (xs ++ ys), AM.put (nk dst 0) .tok (del k h), nk dst 0 :: u, [nk dst 0, k])) else .fail
        | _, _ => .fail)
    | .vw k t => (match find k h with
        | some (.row t' xs) => if t = e then (match castL t' e xs with
          | some xs => bif isNew u (nk dst 0) then .ask (fitsB (xs.length + ys.length) ti.bytes && decide (xs.length + ys.length ≤ big62)) (.ret (.vw (nk dst 0) e, AM.put (nk dst 0) (.row e (xs ++ ys)) (del k h), nk dst 0 :: u, nk dst 0 :: k :: wr)) else .fail
          | none => .fail) else .fail
        | _ => .fail)
    | .sv k t lo n => (match find k h with
        | some (.row t' xs) => if t = e ∧ t' = e then (match castL t' e xs with
          | some xs' => .ask (decide (lo + n + ys.length ≤ xs'.length)) (.ret (.sv k t lo (n + ys.length), AM.put k (.row e (xs'.take (lo + n) ++ ys ++ xs'.drop (lo + n + ys.length))) h, u, k :: wr))
          | none => .fail) else .fail
        | _ => .fail)
    | _ => .fail
  else .fail

def rsOf (H : Hints) (t : Nat) (v : AV) : Option Nat := match v with | .nils => find t H.rs | _ => none
def storeQ (tb : Tb) (H : Hints) (h : Heap) (u : List Nat) (_dst : Option Nat) (t : Nat) (x v : AV) : Q Eff :=
  match find t tb with
  | none => .fail
  | some ti =>
    match x with
    | .ptr k off =>
      (match find k h with
        | some (.box cs) =>
          (match rsOf H t v with
          | some e => bif isNew u (nk (some (50000 + off)) t) && (Nat.blt off cs.length && Nat.beq ti.sz 1) then .ret (.undef, AM.put k (.box (cs.set off (.vw (nk (some (50000 + off)) t) e))) (AM.put (nk (some (50000 + off)) t) (.row e []) h), nk (some (50000 + off)) t :: u, [k, nk (some (50000 + off)) t]) else .fail
          | none => bif (Nat.beq v.cells.length ti.sz && Nat.ble (off + ti.sz) cs.length) && one1 v.cells then .ret (.undef, AM.put k (.box (setCells cs off v.cells)) h, u, [k]) else .fail)
        | _ => .fail)
    | .ep k t' i j =>
      (match find k h with
        | some (.row t2 xs) => if t2 = t' ∧ v.cells.length = ti.sz ∧ j + ti.sz ≤ szR t2 then .get xs[i]? fun y => (match dnc t2 (setCells (cel t2 y) j v.cells) with
          | some y' => .ret (.undef, AM.put k (.row t2 (xs.set i y')) h, u, [k])
          | none => .fail) else .fail
        | _ => .fail)
    | _ => .fail

/-- Elements of a row are written anew: the first ones of a slice of it. -/
def overQ (h : Heap) (u : List Nat) (e : Nat) (x : AV) (ys : Nat → List (R e)) (val : Nat → AV) (wr : List Nat) : Q Eff :=
  match x with
  | .nils => .ret (val 0, h, u, wr)
  | .sl _ _ [] => .ret (val 0, h, u, wr)
  | .sv k t lo n => (match find k h with
    | some (.row t' xs) => if t = e ∧ t' = e then (match castL t' e xs with
      | some xs => .ret (val n, AM.put k (.row e (xs.take lo ++ ys n ++ xs.drop (lo + (ys n).length))) h, u, k :: wr)
      | none => .fail) else .fail
    | _ => .fail)
  | _ => .fail
/-- What an operation that may turn memory does. -/
def effQ (tb : Tb) (H : Hints) (ev : Operand → AV) (h : Heap) (u : List Nat) (dst : Option Nat) (op : Op) : Q Eff :=
  match op with
  | .alloc e =>
    (match find e tb with
    | some ti => (match ti.k with
      | .arr n e' => bif Nat.blt 16 n then (match find e' tb with
          | some te => (match te.k with
            | .int k => (match dnc e' [.int k 0] with
              | some z => bif Nat.beq (szR e') 1 && (Nat.beq ti.z.cells.length n && allZ k ti.z.cells) then newRow h u dst e' (List.replicate n z) (.ep (nk dst 0) e' 0 0) else .fail
              | none => .fail)
            | _ => .fail)
          | none => .fail) else newBox H h u dst e ti.z.cells
      | _ => newBox H h u dst e ti.z.cells)
    | none => .fail)
  | .box e x => newBox H h u dst e (ev x).cells
  | .store t x v => storeQ tb H h u dst t (ev x) (ev v)
  | .makeInterface t x => (match ev x with
    | .ptr k off => (match find k h with
      | some (.box cs) => bif Nat.beq off 0 && Nat.ble 1000 k then (match mapO AV.dat cs with
        | some ds => .ret (.iface t (.rp ds 0), del k h, u, [k])
        | none => .fail) else .fail
      | _ => .fail)
    | .rp cs j => .ret (.iface t (.rp cs j), h, u, [])
    | _ => .fail)
  | .convert s d x =>
    (match find s tb, find d tb, ev x with
    | some _ts, some td, .str l => (match td.k with
      | .sl e => (match byteT e l with
        | some xs => bif isU8 tb e && isNew u (nk dst 0) then .ask (decide (l.length ≤ big62)) (.ret (.tip (nk dst 0) e xs, AM.put (nk dst 0) .tok h, nk dst 0 :: u, [nk dst 0])) else .fail
        | none => .fail)
      | _ => .fail)
    | _, _, _ => .fail)
  | .makeSlice t l c =>
    (match find t tb, ev l, ev c with
    | some ⟨.sl e, _, _, _⟩, .int _ n, .int _ m =>
      (match find e tb with
      | some te => (match dnc e te.z.cells with
        | some z => bif Nat.beq te.sz (szR e) then .ask (decide (n = m ∧ 0 ≤ n ∧ n ≤ 9223372036854775807) && fitsB n.toNat te.bytes)
            (bif flag H dst 0 then newRow h u dst e (List.replicate n.toNat z) (.vw (nk dst 0) e) else .ret (.sl e true (List.replicate n.toNat z), h, u, [])) else .fail
        | none => .fail)
      | none => .fail)
    | _, _, _ => .fail)
  | .call { callee := .builtin b, args := args, argTypes := ts } =>
    (match b, ts.toList, args.toList.map ev with
    | .append, [t, t'], [x, y] =>
      (match find t tb with
      | some ⟨.sl e, _, _, _⟩ => (match find e tb, srcT tb h t' e y with
        | some te, some ys => appendQ tb H h u dst e te (bif flag H dst 1 then asSv h x else x) ys (match keyOf y with | some k => [k] | none => [])
        | _, _ => .fail)
      | _ => .fail)
    | .clear, [t], [x] =>
      (match find t tb with
      | some ⟨.sl e, _, _, _⟩ => (match find e tb with
        | some te => (match dnc e te.z.cells with
          | some z => bif Nat.beq te.sz (szR e) then overQ h u e (asSv h x) (fun n => List.replicate n z) (fun _ => .tup []) [] else .fail
          | none => .fail)
        | none => .fail)
      | _ => .fail)
    | .copy, [t, _], [x, y] =>
      (match find t tb with
      | some ⟨.sl e, _, _, _⟩ => (match find e tb, elemsOf h e y with
        | some te, some ys => bif Nat.beq te.sz (szR e) then overQ h u e (asSv h x) (fun n => ys.take n) (fun n => .int .i64 ((ys.take n).length : Nat)) (match keyOf y with | some k => [k] | none => []) else .fail
        | _, _ => .fail)
      | _ => .fail)
    | _, _, _ => .fail)
  | _ => .fail
end
end Go.AM
