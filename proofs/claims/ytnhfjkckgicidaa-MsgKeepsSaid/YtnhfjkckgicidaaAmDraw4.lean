/- Regions that draw their order (4): what an operation does, written down; two that do not meet change places. -/
import Derived.Test.YtnhfjkckgicidaaAmDraw3
set_option linter.unusedVariables false
set_option linter.unusedSimpArgs false
namespace Go.AM
open Go.RowKit Go.Lib

def putT (nt : Nat) (dst : Option Nat) (v : AV) (t : List (Nat × AV)) : List (Nat × AV) :=
  match dst with | some d => if d < nt then put d v t else t | none => t
def putG (nt : Nat) (g : Option (Nat × Bool)) (t : List (Nat × AV)) : List (Nat × AV) :=
  match g with | some (d, b) => putT nt (some d) (.bool b) t | none => t
def insO (k : Option Nat) (l : List Nat) : List Nat := match k with | some k => insN k l | none => l

theorem putT_comm {nt : Nat} {d d' : Option Nat} (h : ∀ k, d = some k → d' ≠ some k) (v v' : AV) (t : List (Nat × AV)) : putT nt d v (putT nt d' v' t) = putT nt d' v' (putT nt d v t) := by
  cases d with
  | none => cases d' <;> rfl
  | some k =>
    cases d' with
    | none => rfl
    | some k' =>
      have hne : k ≠ k' := fun e => h k rfl (by rw [e])
      simp only [putT]
      split <;> split <;> first | rfl | exact put_comm hne _ _ _

structure Eff where
  gs : Option (Nat × Bool)
  v : AV
  rds : Option Nat
  ks : List Nat
  bs : Boxes

def Eff.ap (e : Eff) (dst : Option Nat) (st : St) : St :=
  { nt := st.nt, t := putT st.nt dst e.v (putG st.nt e.gs st.t), b := putBoxes st.b e.ks e.bs, r := st.r, g := st.g, rd := insO e.rds st.rd, wr := e.ks ++ st.wr }

structure Same (ops : Array Oper) (o : Oper) (e : Eff) (st st2 : St) : Prop where
  nt : st2.nt = st.nt
  g : st2.g = st.g
  r : st2.r = st.r
  sl : ∀ t ∈ o.looksAt ops, st2.get t = st.get t
  bx : ∀ k, (e.rds = some k ∨ k ∈ e.ks) → find k st2.b = find k st.b
  rw : ∀ k, e.rds = some k → k ∉ st2.wr
  wr : ∀ k ∈ e.ks, k ∉ st2.rd

/-- What an operation does. -/
structure Does (E : Ev) (ops : Array Oper) (o : Oper) (e : Eff) (st : St) : Prop where
  gs : ∀ t b, e.gs = some (t, b) → st.get t = .bool b ∧ t ∈ o.looksAt ops
  rw : ∀ k, e.rds = some k → k ∉ st.wr
  wr : ∀ k ∈ e.ks, k ∉ st.rd
  at_ : opD E true ops st o = some (e.ap o.dst st)
  again : ∀ st2, Same ops o e st st2 → opD E true ops st2 o = some (e.ap o.dst st2)

section
variable {E : Ev} {ops : Array Oper} {st st2 : St} {o : Oper}

theorem St.put_eq (st : St) (dst : Option Nat) (v : AV) : st.put dst v = { st with t := putT st.nt dst v st.t } := by
  cases dst with
  | none => rfl
  | some d => simp only [St.put, putT]; split <;> rfl

theorem get_putT (nt : Nat) (t : List (Nat × AV)) (d : Option Nat) (v : AV) {k : Nat} (h : d ≠ some k) : find k (putT nt d v t) = find k t := by
  cases d with
  | none => rfl
  | some d =>
    have hne : k ≠ d := fun e => h (by rw [e])
    simp only [putT]
    split
    · exact find_put_ne hne _ _
    · rfl

/-- The state behind the guard. -/
def gput (st : St) (g : Option (Nat × Bool)) : St := { st with t := putG st.nt g st.t }

theorem get_gput {g : Option (Nat × Bool)} (hg : ∀ t b, g = some (t, b) → st.get t = .bool b) (k : Nat) : (gput st g).get k = st.get k := by
  cases g with
  | none => rfl
  | some p =>
    obtain ⟨t, b⟩ := p
    have e : gput st (some (t, b)) = st.put (some t) (.bool b) := by rw [St.put_eq]; rfl
    rw [e, St.get_put]
    split
    · rename_i h; rw [h.1, hg t b rfl]
    · rfl

theorem Eff.get_ap {e : Eff} (hg : ∀ t b, e.gs = some (t, b) → st.get t = .bool b) {dst : Option Nat} {k : Nat} (h : dst ≠ some k) : (e.ap dst st).get k = st.get k := by
  have := get_gput (st := st) hg k
  unfold St.get Eff.ap gput at *
  simp only at *
  rw [get_putT _ _ _ _ h]
  exact this

theorem ev_congr (hg : st2.g = st.g) {x : Operand} (h : ∀ t, x = .tmp t → st2.get t = st.get t) : st2.ev x = st.ev x := by
  cases x with
  | tmp t =>
    have hgen : ∀ j, st2.gen j = st.gen j := fun j => by unfold St.gen; rw [hg]
    simp only [St.ev, h t rfl]
    cases st.get t <;> simp only [St.cur, hgen]
  | _ => rfl

theorem looks_operand {x : Operand} (hx : x ∈ o.op.operands.toList) : ∀ t, x = .tmp t → t ∈ o.looksAt ops := by
  intro t e
  subst e
  unfold Oper.looksAt
  exact List.mem_append.2 (.inl (List.mem_filterMap.2 ⟨_, hx, rfl⟩))

def callOp (o : Oper) : Bool := match o.op with | .call { callee := .value _, .. } => true | _ => false
def loadOp (o : Oper) : Bool := match o.op with | .load _ _ => true | _ => false

theorem isCurB_congr (hg : st2.g = st.g) (v : AV) : isCurB st2 v = isCurB st v := by
  have hgen : ∀ j, st2.gen j = st.gen j := fun j => by unfold St.gen; rw [hg]
  cases v <;> simp only [isCurB, hgen]
theorem curAt_put (dst : Option Nat) (v : AV) (st : St) : curAt (st.put dst v) dst = match dst with | some d => if d < st.nt then isCurB st v else true | none => true := by
  cases dst with
  | none => rfl
  | some d =>
    have hgen : ∀ u, isCurB (st.put (some d) v) u = isCurB st u := fun u => by
      cases u <;> simp only [isCurB, St.gen_put]
    simp only [curAt, St.nt_put, hgen]
    split
    · rename_i h; rw [St.get_put, if_pos ⟨rfl, h⟩]
    · rfl

end
end Go.AM
