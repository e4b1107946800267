/- ref18.Right answers as node.Right does. -/
import Derived.Test.YtnhfjkckgicidaaGreatAmP06
set_option linter.unusedVariables false
set_option linter.unusedSimpArgs false
set_option linter.unusedVariables false
set_option linter.unusedSimpArgs false
namespace Go.AM.YtnhfjkckgicidaaGreat
open Go.AM Go.Proofs Go
section
variable (k : Nat) (n : Nd)
noncomputable def G10 (k j s : Nat) (n : Nd) (b : Bool) : Res := joinA j (joinOf (W k) 10 j k 0) (rrS n s b)
def T15 (n : Nd) : Bool := (decide (n.ss.length ≤ 2) && (!decide (n.ro = 2) || (decide (n.md = 0) && decide (n.ss.length = 0)))) && (shsOk n.sn n.sq n.vs 0 n.ss && sendsOk n)
theorem r17f (b : Bool) (hb : b = true) : G10 k 17 187 n b = some (.bool false, []) := by
  subst hb
  rw [G10, joinA_eq, j17]; rfl
theorem r17g (hk : 70600 ≤ k) (hb : NdB n) (H : n.ro = 2 ∧ n.md = 0 ∨ lineOk n.ln = true) (b : Bool) : G10 k 17 187 n b = some (.bool (!b && (shsOk n.sn n.sq n.vs 0 n.ss && sendsOk n)), []) :=
  r17 k hk n hb (fun h => by rcases H with H | H; omega; exact H) b
theorem tree15 (hk : 70600 ≤ k) (hb : NdB n) (H : n.ro = 2 ∨ lineOk n.ln = true) : (bif n.ro == 2 then bif n.md != 0 then G10 k 17 187 n true else bif decide (((n.ss.length : Nat) : Int) > 0) then G10 k 17 187 n true else G10 k 17 187 n (decide (((n.ss.length : Nat) : Int) > 2)) else G10 k 17 187 n (decide (((n.ss.length : Nat) : Int) > 2))) = some (.bool (T15 n), []) := by
  unfold T15
  rw [show (n.ro == 2) = decide (n.ro = 2) from rfl, show (n.md != 0) = !decide (n.md = 0) from rfl]
  have e2 : decide (((n.ss.length : Nat) : Int) > 2) = !decide (n.ss.length ≤ 2) := by
    by_cases h : n.ss.length ≤ 2
    · rw [decide_eq_true h, decide_eq_false (by omega)]; rfl
    · rw [decide_eq_false h, decide_eq_true (by omega)]; rfl
  have e0 : decide (((n.ss.length : Nat) : Int) > 0) = !decide (n.ss.length = 0) := by
    by_cases h : n.ss.length = 0
    · rw [decide_eq_true h, decide_eq_false (by omega)]; rfl
    · rw [decide_eq_false h, decide_eq_true (by omega)]; rfl
  rw [e2, e0]
  by_cases h2 : n.ro = 2
  · rw [decide_eq_true h2]
    by_cases h3 : n.md = 0
    · rw [decide_eq_true h3, r17f k n true rfl, r17g k n hk hb (.inl ⟨h2, h3⟩)]
      cases decide (n.ss.length = 0) <;> cases decide (n.ss.length ≤ 2) <;> rfl
    · rw [decide_eq_false h3, r17f k n true rfl]
      cases decide (n.ss.length ≤ 2) <;> rfl
  · rw [decide_eq_false h2]
    simp only [cond_false]
    rw [r17g k n hk hb (.inr (H.resolve_left h2))]
    cases decide (n.ss.length ≤ 2) <;> rfl
theorem r15 (hk : 70600 ≤ k) (hb : NdB n) (H : n.ro = 2 ∨ lineOk n.ln = true) (b : Bool) : G10 k 15 167 n b = some (.bool (!b && T15 n), []) := by
  rw [G10, joinA_eq, j15]
  simp only [List.length_map]
  cases b with
  | true => rfl
  | false => exact tree15 k n hk hb H
def T12 (n : Nd) (b : Bool) : Bool := (bif b then decide (n.ch.length = 0) else decide (comE n.al n.aq n.ln n.sq = n.aq) && (placedOk n.al n.aq && withinOk n.ch n.vs)) && T15 n
theorem r12 (hk : 70600 ≤ k) (hb : NdB n) (H : n.ro = 2 ∨ lineOk n.ln = true) (b : Bool) : G10 k 12 140 n b = some (.bool (T12 n b), []) := by
  rw [G10, joinA_eq, j12]
  unfold T12
  cases b with
  | true =>
    simp only [List.length_map, cond_true]
    have e0 : decide (((n.ch.length : Nat) : Int) > 0) = !decide (n.ch.length = 0) := by
      by_cases h : n.ch.length = 0
      · rw [decide_eq_true h, decide_eq_false (by omega)]; rfl
      · rw [decide_eq_false h, decide_eq_true (by omega)]; rfl
    rw [e0]
    cases decide (n.ch.length = 0) with
    | false => rfl
    | true => exact tree15 k n hk hb H
  | false =>
    simp only [cond_false]
    rw [x32 k (by omega) n, x33 k (by omega), x38 k n.ch n.vs hb.ch hb.vs hb.um (by omega)]
    simp only [onRes, asAgg, asCons, asSl, asInt, asBool, if_true, asNil]
    rw [x37 k (by omega) n.al n.aq n.ln n.sq]
    simp only [onRes, asInt, if_true, asNil]
    rw [show (comE n.al n.aq n.ln n.sq != n.aq) = !decide (comE n.al n.aq n.ln n.sq = n.aq) from rfl]
    have e := r15 k n hk hb H
    unfold G10 at e
    rw [e, e]
    cases decide (comE n.al n.aq n.ln n.sq = n.aq) with
    | false => rfl
    | true =>
      cases placedOk n.al n.aq with
      | false => rfl
      | true => simp
theorem r10 (hk : 70600 ≤ k) (hb : NdB n) (H : n.ro = 2 ∨ lineOk n.ln = true) (b : Bool) : G10 k 10 137 n b = some (.bool (!b && T12 n (noneOk n.al n.aq)), []) := by
  rw [G10, joinA_eq, j10, x31 k (by omega)]
  simp only [onRes, asBool, asNil]
  have e := r12 k n hk hb H (noneOk n.al n.aq)
  unfold G10 at e
  rw [e]
  cases b <;> rfl
def T8 (n : Nd) : Bool := vOk n.vs && (keptOk n.kp n.vs && ((decide (n.kp.length = 0) || n.sh) && ((!n.sh || !decide (n.ro = 1) && n.va) && T12 n (noneOk n.al n.aq))))
theorem r8 (hk : 70600 ≤ k) (hb : NdB n) (H : n.ro = 2 ∨ lineOk n.ln = true) (b : Bool) : G10 k 8 100 n b = some (.bool (!b && T8 n), []) := by
  rw [G10, joinA_eq, j8, x35 k n.vs (by omega), x36 k n.vs n.kp (by have := hb.kp; omega) (by omega), List.length_map]
  simp only [onRes, asBool, asNil]
  have e := r10 k n hk hb H
  unfold G10 at e
  have e0 : decide (((n.kp.length : Nat) : Int) > 0) = !decide (n.kp.length = 0) := by
    by_cases h : n.kp.length = 0
    · rw [decide_eq_true h, decide_eq_false (by omega)]; rfl
    · rw [decide_eq_false h, decide_eq_true (by omega)]; rfl
  rw [e, e, e, e0, show (n.ro == 1) = decide (n.ro = 1) from rfl]
  unfold T8
  generalize T12 n (noneOk n.al n.aq) = t
  generalize vOk n.vs = c1
  generalize keptOk n.kp n.vs = c2
  generalize decide (n.kp.length = 0) = c3
  generalize decide (n.ro = 1) = c4
  generalize n.sh = c5
  generalize n.va = c6
  cases b <;> cases c1 <;> cases c2 <;> cases c3 <;> cases c4 <;> cases c5 <;> cases c6 <;> cases t <;> rfl
def lastD (n : Nd) : Int := (n.ln.getD (n.ln.length - 1) (0, 0)).1
def T6 (n : Nd) : Bool := (!decide (n.ro = 1) || (n.va && (!n.st && decide (n.kn = lastD n)))) && T8 n
theorem tree6 (hk : 70600 ≤ k) (hb : NdB n) (H : n.ro = 2 ∨ lineOk n.ln = true) (hro : n.ro = 1 ∨ n.ro = 2) : (bif n.ro == 1 then bif !n.va then G10 k 8 100 n true else bif n.st then G10 k 8 100 n true else onRes (W k 34 [lnV n.ln] []) fun v bs => asInt .i64 v fun n_1 => asNil bs (G10 k 8 100 n (n.kn != n_1)) else G10 k 8 100 n false) = some (.bool (T6 n), []) := by
  unfold T6
  rw [show (n.ro == 1) = decide (n.ro = 1) from rfl]
  by_cases h : n.ro = 1
  · have hl := H.resolve_left (by omega)
    obtain ⟨l1, l2⟩ := line_len hl
    rw [decide_eq_true h, x34 k (by omega) n.ln l1 (by omega)]
    simp only [cond_true, onRes, asInt, if_true, asNil]
    rw [r8 k n hk hb H, r8 k n hk hb H, show (n.kn != (n.ln.getD (n.ln.length - 1) (0, 0)).1) = !decide (n.kn = lastD n) from rfl]
    cases n.va <;> cases n.st <;> cases decide (n.kn = lastD n) <;> rfl
  · rw [decide_eq_false h]
    simp only [cond_false]
    rw [r8 k n hk hb H]; rfl
theorem r6 (hk : 70600 ≤ k) (hb : NdB n) (H : n.ro = 2 ∨ lineOk n.ln = true) (hro : n.ro = 1 ∨ n.ro = 2) (b : Bool) : G10 k 6 80 n b = some (.bool (!b && T6 n), []) := by
  rw [G10, joinA_eq, j6]
  cases b with
  | true => rfl
  | false => exact tree6 k n hk hb H hro
theorem r6f : G10 k 6 80 n true = some (.bool false, []) := by
  rw [G10, joinA_eq, j6]; rfl
def T3 (n : Nd) (b : Bool) : Bool := bif b then !decide (n.ro = 1) && (!n.va && T6 n) else placedOk n.ln n.sq && (decide (lastD n ≤ n.kn) && T6 n)
theorem r3 (hk : 70600 ≤ k) (hb : NdB n) (hro : n.ro = 1 ∨ n.ro = 2) (b : Bool) : G10 k 3 61 n b = some (.bool (T3 n b), []) := by
  rw [G10, joinA_eq, j3]
  unfold T3
  cases b with
  | true =>
    simp only [cond_true]
    by_cases h : n.ro = 1
    · rw [show (n.ro == 1) = true by simp [h], decide_eq_true h]; rfl
    · rw [decide_eq_false h]
      have := tree6 k n hk hb (.inl (by omega)) hro
      rw [show (n.ro == 1) = false by simp [h]] at this ⊢
      cases n.va with
      | true => rfl
      | false => exact this
  | false =>
    simp only [cond_false]
    rw [x32 k (by omega) n]
    simp only [onRes, asAgg, asCons, asSl, asInt, asBool, if_true, asNil]
    rw [x33 k (by omega) n.ln n.sq]
    simp only [onRes, asBool, asNil]
    cases hp : placedOk n.ln n.sq with
    | false => exact r6f k n
    | true =>
      obtain ⟨l1, l2⟩ := line_len (placed_line hp)
      rw [x34 k (by omega) n.ln l1 (by omega)]
      simp only [onRes, asInt, if_true, asNil, Bool.not_true, cond_false]
      refine (r6 k n hk hb (.inr (placed_line hp)) hro _).trans ?_
      rw [show decide ((n.ln.getD (n.ln.length - 1) (0, 0)).1 > n.kn) = !decide (lastD n ≤ n.kn) from lt_le _ _]
      simp
theorem r1 (hk : 70600 ≤ k) (hb : NdB n) (b : Bool) (hro : b = false → n.ro = 1 ∨ n.ro = 2) : G10 k 1 58 n b = some (.bool (!b && T3 n (noneOk n.ln n.sq)), []) := by
  rw [G10, joinA_eq, j1]
  cases b with
  | true => rfl
  | false =>
    simp only [cond_false]
    rw [x32 k (by omega) n]
    simp only [onRes, asAgg, asCons, asSl, asInt, asBool, if_true, asNil]
    rw [x31 k (by omega) n.ln n.sq]
    exact r3 k n hk hb (hro rfl) _
end
def T0 (n : Nd) : Bool := decide ((n.ro = 1 ∨ n.ro = 2) ∧ 0 ≤ n.md ∧ n.md ≤ 4) && [n.kn, n.sy, n.sn, n.fr, n.fn, n.nx].all fitsI && T3 n (noneOk n.ln n.sq)
theorem T8_eq (n : Nd) (hro : n.ro = 1 ∨ n.ro = 2) : T8 n = (holdsOk n && (shotsOk n && sendsOk n)) := by
  have hr2 : decide (n.ro = 2) = !decide (n.ro = 1) := by
    rcases hro with h | h <;> rw [h] <;> rfl
  unfold T8 T12 T15 holdsOk shotsOk
  rw [hr2]
  generalize sendsOk n = c1
  generalize shsOk n.sn n.sq n.vs 0 n.ss = c2
  generalize decide (n.ss.length ≤ 2) = c3
  generalize decide (n.ro = 1) = c4
  generalize decide (n.md = 0) = c5
  generalize decide (n.ss.length = 0) = c6
  generalize withinOk n.ch n.vs = c9
  generalize decide (n.ch.length = 0) = d1
  generalize decide (comE n.al n.aq n.ln n.sq = n.aq) = d2
  generalize noneOk n.al n.aq = d3
  generalize placedOk n.al n.aq = d4
  generalize vOk n.vs = d5
  generalize keptOk n.kp n.vs = d6
  generalize decide (n.kp.length = 0) = d7
  generalize n.sh = d8
  generalize n.va = d9
  cases d5 with
  | false => rfl
  | true =>
  cases d6 with
  | false => rfl
  | true =>
  cases c1 with
  | false => simp
  | true =>
  cases c2 with
  | false => simp
  | true =>
  cases c3 with
  | false => simp
  | true => cases d3 <;> cases c4 <;> cases d8 <;> cases d9 <;> cases d7 <;> cases c5 <;> cases c6 <;> cases d1 <;> cases d2 <;> cases d4 <;> cases c9 <;> rfl
theorem T0_eq (n : Nd) : T0 n = nodeOk n := by
  unfold T0 nodeOk standsOk
  cases h0 : (decide ((n.ro = 1 ∨ n.ro = 2) ∧ 0 ≤ n.md ∧ n.md ≤ 4) && [n.kn, n.sy, n.sn, n.fr, n.fn, n.nx].all fitsI) with
  | false => rfl
  | true =>
    have hro : n.ro = 1 ∨ n.ro = 2 := by
      rw [Bool.and_eq_true, decide_eq_true_eq] at h0; exact h0.1.1
    have hr2 : decide (n.ro = 2) = !decide (n.ro = 1) := by
      rcases hro with h | h <;> rw [h] <;> rfl
    unfold T3 T6
    rw [T8_eq n hro, hr2]
    generalize (holdsOk n && (shotsOk n && sendsOk n)) = t
    cases hn : noneOk n.ln n.sq with
    | true =>
      simp only [cond_true, if_true, Bool.true_and]
      cases decide (n.ro = 1) <;> cases n.va <;> rfl
    | false =>
      cases hp : placedOk n.ln n.sq with
      | false => rfl
      | true =>
        have hl : lastE n.ln = lastD n := by unfold lastE; rw [if_pos (placed_line hp)]; rfl
        rw [hl]
        cases decide (lastD n ≤ n.kn) <;> cases decide (n.ro = 1) <;> cases n.va <;> cases n.st <;> cases decide (n.kn = lastD n) <;> rfl
theorem x10 (k : Nat) (hk : 70700 ≤ k) (n : Nd) (hb : NdB n) : W k 10 [.agg (ndL n)] [] = some (.bool (nodeOk n), []) := by
  obtain ⟨k, rfl⟩ := succ1 (show 1 ≤ k by omega)
  rw [← T0_eq]
  have e := fun b h => r1 k n (by omega) hb b h
  unfold G10 at e
  refine (W_tree0 (t10 (W k) k n) (by kernel_rfl)).trans ?_
  have bad := e true (fun h => by simp at h)
  rw [bad]
  simp only [x30 k (by omega), onRes, asBool, asNil, Bool.not_true, Bool.false_and]
  unfold T0
  rw [show (n.ro != 1) = !decide (n.ro = 1) from rfl, show (n.ro != 2) = !decide (n.ro = 2) from rfl]
  simp only [List.all_cons, List.all_nil, Bool.and_true]
  by_cases h3 : n.md < 0
  · rw [decide_eq_true h3, decide_eq_false (show ¬ ((n.ro = 1 ∨ n.ro = 2) ∧ 0 ≤ n.md ∧ n.md ≤ 4) by omega)]
    cases decide (n.ro = 1) <;> cases decide (n.ro = 2) <;> rfl
  by_cases h4 : n.md > 4
  · rw [decide_eq_false h3, decide_eq_true h4, decide_eq_false (show ¬ ((n.ro = 1 ∨ n.ro = 2) ∧ 0 ≤ n.md ∧ n.md ≤ 4) by omega)]
    cases decide (n.ro = 1) <;> cases decide (n.ro = 2) <;> rfl
  rw [decide_eq_false h3, decide_eq_false h4]
  by_cases hro : n.ro = 1 ∨ n.ro = 2
  · rw [decide_eq_true (show ((n.ro = 1 ∨ n.ro = 2) ∧ 0 ≤ n.md ∧ n.md ≤ 4) by omega), e _ (fun _ => hro)]
    rcases hro with h | h
    · rw [decide_eq_true h]
      cases fitsI n.kn <;> cases fitsI n.sy <;> cases fitsI n.sn <;> cases fitsI n.fr <;> cases fitsI n.fn <;> cases fitsI n.nx <;> rfl
    · rw [decide_eq_false (show ¬ n.ro = 1 by omega), decide_eq_true h]
      cases fitsI n.kn <;> cases fitsI n.sy <;> cases fitsI n.sn <;> cases fitsI n.fr <;> cases fitsI n.fn <;> cases fitsI n.nx <;> rfl
  · rw [decide_eq_false (show ¬ n.ro = 1 by omega), decide_eq_false (show ¬ n.ro = 2 by omega), decide_eq_false (show ¬ ((n.ro = 1 ∨ n.ro = 2) ∧ 0 ≤ n.md ∧ n.md ≤ 4) by omega)]
    rfl
end Go.AM.YtnhfjkckgicidaaGreat

set_option linter.unusedVariables false
set_option linter.unusedSimpArgs false
namespace Go.AM.YtnhfjkckgicidaaGreat
open Go.AM Go.Proofs Go
theorem vol_eq (a b : Vol) : (a.1 = b.1 ∧ a.2 = b.2) ↔ a = b := by
  obtain ⟨a1, a2⟩ := a
  obtain ⟨b1, b2⟩ := b
  simp
instance dVol : DecidableEq Vol := fun a b => decidable_of_iff _ (vol_eq a b)
def veS (a b : List Vol) (i : Int) (c : Bool) : St := ⟨71, [(0, vsV a), (1, vsV b), (4, .bool false), (5, .int .i64 i), (11, .bool c)], [], [], [], [], []⟩
theorem b57 (F : Fns) (N : Nat) (a b : List Vol) (i : Int) (c : Bool) (KN : St → Res) : bodyOf F 57 0 N (veS a b i c) (brk (contOf F 57 0 N 0) KN) =
  bif decide (i < ((List.length (List.map (volV false) a) : Nat) : Int)) then bif decide (0 ≤ i) then onOpt (List.map (volV false) a)[Int.toNat i]? fun x => asAgg x fun cs => asCons cs fun v r => asInt .i64 v fun n => asCons r fun v r => asSl v fun m fl xs => asNil r (bif decide (0 ≤ i) then onOpt (List.map (volV false) b)[Int.toNat i]? fun x => asAgg x fun cs => asCons cs fun v r => asInt .i64 v fun n_1 => asCons r fun v r => asSl v fun m fl xs => asNil r (bif n != n_1 then some (AV.bool false, []) else bif decide (0 ≤ i) then onOpt (List.map (volV false) a)[Int.toNat i]? fun x => asAgg x fun cs => asCons cs fun v r => asInt .i64 v fun n => asCons r fun v r => asSl v fun m fl xs => asNil r (bif decide (0 ≤ i) then onOpt (List.map (volV false) b)[Int.toNat i]? fun x => asAgg x fun cs => asCons cs fun v r => asInt .i64 v fun n => asCons r fun v r => asSl v fun m fl xs_1 => asNil r (bif ((List.length xs : Nat) : Int) != ((List.length xs_1 : Nat) : Int) then some (AV.bool false, []) else loopA (bodyOf F 57 1 N) (deadOf 57 1) (contBOf F 57 0 0 N (brk (contOf F 57 0 N 0) KN)) N { nt := 71, t := [(0, vsV a), (1, vsV b), (4, AV.bool false), (5, AV.int .i64 i), (6, AV.int .i64 0), (11, AV.bool c), (15, AV.bool (decide (i < ((List.length (List.map (volV false) a) : Nat) : Int)))), (43, AV.bool (((List.length xs : Nat) : Int) != ((List.length xs_1 : Nat) : Int)))], b := [], r := [], g := [], rd := [], wr := [] }) else none) else none) else none) else none else some (AV.bool true, []) := by kernel_rfl
def veT (a b : List Vol) (i j : Int) (c d e : Bool) : St := ⟨71, [(0, vsV a), (1, vsV b), (4, .bool false), (5, .int .i64 i), (6, .int .i64 j), (11, .bool c), (15, .bool d), (43, .bool e)], [], [], [], [], []⟩
theorem c57 (F : Fns) (N : Nat) (a b : List Vol) (i j : Int) (c d e : Bool) (KO KN : St → Res) : bodyOf F 57 1 N (veT a b i j c d e) (brk (contBOf F 57 0 0 N (brk (contOf F 57 0 N 0) KO)) KN) =
  bif decide (0 ≤ i) then onOpt (List.map (volV false) a)[Int.toNat i]? fun x => asAgg x fun cs => asCons cs fun v r => asInt .i64 v fun n => asCons r fun v r => asSl v fun m fl xs => asNil r (bif decide (j < ((List.length xs : Nat) : Int)) then bif decide (0 ≤ i) then onOpt (List.map (volV false) a)[Int.toNat i]? fun x => asAgg x fun cs => asCons cs fun v r => asInt .i64 v fun n => asCons r fun v r => asSl v fun m fl xs_1 => asNil r (bif decide (m = 1) && decide (0 ≤ j) then onOpt xs_1[Int.toNat j]? fun x => asStr x fun s => bif decide (0 ≤ i) then onOpt (List.map (volV false) b)[Int.toNat i]? fun x => asAgg x fun cs => asCons cs fun v r => asInt .i64 v fun n => asCons r fun v r => asSl v fun m fl xs_2 => asNil r (bif decide (m = 1) && decide (0 ≤ j) then onOpt xs_2[Int.toNat j]? fun x => asStr x fun s_1 => bif !s == s_1 then some (AV.bool false, []) else KN { nt := 71, t := [(0, vsV a), (1, vsV b), (4, AV.bool false), (5, AV.int .i64 i), (6, AV.int .i64 (IntKind.wrap .i64 (j + 1))), (11, AV.bool c), (15, AV.bool d), (43, AV.bool e), (51, AV.bool (decide (j < ((List.length xs : Nat) : Int)))), (70, AV.bool !s == s_1)], b := [], r := [], g := [], rd := [], wr := [] } else none) else none else none) else none else KO { nt := 71, t := [(0, vsV a), (1, vsV b), (4, AV.bool false), (5, AV.int .i64 (IntKind.wrap .i64 (i + 1))), (6, AV.int .i64 j), (11, AV.bool c), (15, AV.bool d), (43, AV.bool e), (51, AV.bool (decide (j < ((List.length xs : Nat) : Int))))], b := [], r := [], g := [], rd := [], wr := [] }) else none := by kernel_rfl
theorem t57 (F : Fns) (N : Nat) (a b : List Vol) : runOf F 57 N [vsV a, vsV b] [] =
  bif ((List.length (List.map (volV false) a) : Nat) : Int) != ((List.length (List.map (volV false) b) : Nat) : Int) then some (AV.bool false, []) else loopA (bodyOf F 57 0 N) (deadOf 57 0) (contOf F 57 0 N 0) N { nt := 71, t := [(0, vsV a), (1, vsV b), (4, AV.bool false), (5, AV.int .i64 0), (11, AV.bool (((List.length (List.map (volV false) a) : Nat) : Int) != ((List.length (List.map (volV false) b) : Nat) : Int)))], b := [], r := [], g := [], rd := [], wr := [] } := by kernel_rfl
theorem str_get (l : List (List UInt8)) (j : Nat) (h : j < l.length) : (l.map AV.str)[Int.toNat (j : Int)]? = some (.str l[j]) := getM AV.str l j h
theorem x57 (k : Nat) (hk : 70100 ≤ k) (a b : List Vol) (ha : a.length ≤ 70000) (hB : ∀ v ∈ a, v.2.length ≤ 70000) : W k 57 [vsV a, vsV b] [] = some (.bool (decide (a = b)), []) := by
  obtain ⟨k, rfl⟩ := succ1 (show 1 ≤ k by omega)
  rw [W_tree0 (t57 (W k) k a b) (by kernel_rfl), List.length_map, List.length_map, nat_bne]
  by_cases hl : a.length = b.length
  · rw [decide_eq_true hl]
    simp only [Bool.not_true, cond_false]
    refine loopA_ind (fun i : Nat => veS a b i false) (fun i => a.length - i) (fun i r => r = some (.bool (decide (a.drop i = b.drop i)), [])) (fun i m ih => ?_) k 0 _ (by omega) (by kernel_rfl)
    rw [b57, List.length_map]
    by_cases hi : i < a.length
    · have hj : i < b.length := by omega
      have hv := hB _ (List.getElem_mem hi)
      rw [getM _ _ _ hi, getM _ _ _ hj, List.drop_eq_getElem_cons hi, List.drop_eq_getElem_cons hj]
      simp only [decide_eq_true (show (i : Int) < a.length by omega), decide_eq_true (show (0 : Int) ≤ i by omega), onOpt, volV, asAgg, asCons, asInt, asSl, if_true, asNil, cond_true, List.length_map, nat_bne]
      rw [show (a[i].1 != b[i].1) = !decide (a[i].1 = b[i].1) from rfl, show decide (a[i] :: a.drop (i + 1) = b[i] :: b.drop (i + 1)) = ((decide (a[i].1 = b[i].1) && decide (a[i].2 = b[i].2)) && decide (a.drop (i + 1) = b.drop (i + 1))) by rw [Bool.eq_iff_iff, decide_eq_true_eq, Bool.and_eq_true, Bool.and_eq_true, decide_eq_true_eq, decide_eq_true_eq, decide_eq_true_eq, List.cons.injEq, ← vol_eq]]
      cases decide (a[i].1 = b[i].1) with
      | false => rfl
      | true =>
        by_cases h2 : a[i].2.length = b[i].2.length
        · rw [decide_eq_true h2]
          simp only [Bool.not_true, cond_false, Bool.true_and]
          refine loopA_ind (fun j : Nat => veT a b i j false true false) (fun j => a[i].2.length - j) (fun j r => r = some (.bool (decide (a[i].2.drop j = b[i].2.drop j) && decide (a.drop (i + 1) = b.drop (i + 1))), [])) (fun j m2 ih2 => ?_) k 0 _ (by omega) (by kernel_rfl)
          rw [c57, getM _ _ _ hi, getM _ _ _ hj]
          simp only [decide_eq_true (show (0 : Int) ≤ i by omega), onOpt, volV, asAgg, asCons, asInt, asSl, if_true, asNil, cond_true, List.length_map]
          by_cases hjj : j < a[i].2.length
          · rw [str_get _ _ hjj, str_get _ _ (show j < b[i].2.length by omega), List.drop_eq_getElem_cons hjj, List.drop_eq_getElem_cons (show j < b[i].2.length by omega), wi (show j < 1000000000 by omega)]
            simp only [decide_eq_true (show (j : Int) < a[i].2.length by omega), decide_eq_true (show (0 : Int) ≤ j by omega), onOpt, asStr, cond_true, show (decide True) = true from rfl, Bool.true_and]
            by_cases he : a[i].2[j] = b[i].2[j]
            · rw [show (a[i].2[j] == b[i].2[j]) = true by simp [he], show decide (a[i].2[j] :: a[i].2.drop (j + 1) = b[i].2[j] :: b[i].2.drop (j + 1)) = decide (a[i].2.drop (j + 1) = b[i].2.drop (j + 1)) by rw [decide_eq_decide, List.cons.injEq]; exact ⟨fun h => h.2, fun h => ⟨he, h⟩⟩]
              exact ih2 (j + 1) _ (by omega) (by kernel_rfl)
            · rw [show (a[i].2[j] == b[i].2[j]) = false by simp [he], decide_eq_false (show ¬ a[i].2[j] :: a[i].2.drop (j + 1) = b[i].2[j] :: b[i].2.drop (j + 1) from fun h => he (List.cons.inj h).1)]; rfl
          · simp only [decide_eq_false (show ¬ (j : Int) < a[i].2.length by omega), cond_false]
            rw [List.drop_eq_nil_of_le (show a[i].2.length ≤ j by omega), List.drop_eq_nil_of_le (show b[i].2.length ≤ j by omega), wi (show i < 1000000000 by omega)]
            exact ih (i + 1) _ (by omega) (by kernel_rfl)
        · rw [decide_eq_false h2, decide_eq_false (show ¬ a[i].2 = b[i].2 from fun e => h2 (by rw [e]))]; rfl
    · rw [decide_eq_false (show ¬ (i : Int) < a.length by omega), List.drop_eq_nil_of_le (by omega), List.drop_eq_nil_of_le (by omega)]; rfl
  · rw [decide_eq_false hl, decide_eq_false (show ¬ a = b from fun e => hl (by rw [e]))]; rfl
theorem x56 (k : Nat) (l l' : List (Int × Int)) (hk : l.length + 3 ≤ k) (hb : l.length ≤ 70000) : W k 56 [lnV l, lnV l'] [] = some (.bool (decide (l = l')), []) := W_old0 (e22' k (.inl ⟨false, rfl⟩) (.inl ⟨false, rfl⟩) hk (by omega)) (by omega) (by kernel_rfl)
theorem x58 (k : Nat) (l l' : List (Int × Int)) (hk : l.length + 3 ≤ k) (hb : l.length ≤ 70000) : W k 58 [btsV l, btsV l'] [] = some (.bool (decide (l = l')), []) := W_old0 (e52' k (.inl ⟨false, rfl⟩) (.inl ⟨false, rfl⟩) hk (by omega)) (by omega) (by kernel_rfl)
def eqN (n m : Nd) : Bool := decide (n.ss = m.ss) && (decide (n.ro = m.ro ∧ n.st = m.st ∧ n.va = m.va ∧ n.kn = m.kn ∧ n.sq = m.sq ∧ n.sh = m.sh ∧ n.sn = m.sn ∧ n.md = m.md ∧ n.sy = m.sy ∧ n.fu = m.fu ∧ n.go = m.go ∧ n.fr = m.fr ∧ n.fn = m.fn ∧ n.nx = m.nx) &&
  (decide (n.ln = m.ln) && (decide (n.vs = m.vs) && (decide (n.kp = m.kp) && (decide (n.al = m.al) && (decide (n.aq = m.aq) && (decide (n.ch = m.ch) && (decide (n.cp = m.cp) && (decide (n.qs = m.qs) && (decide (n.qf = m.qf) && (decide (n.qt = m.qt) && decide (n.qo = m.qo))))))))))))
theorem eqN_iff (n m : Nd) : eqN n m = true ↔ n = m := by
  constructor
  · intro h
    simp only [eqN, Bool.and_eq_true, decide_eq_true_eq] at h
    obtain ⟨h1, ⟨g1, g2, g3, g4, g5, g6, g7, g8, g9, g10, g11, g12, g13, g14⟩, h2, h3, h4, h5, h6, h7, h8, h9, h10, h11, h12⟩ := h
    cases n; cases m
    simp only at *
    subst_vars
    rfl
  · rintro rfl
    simp [eqN]
structure NdC (n : Nd) : Prop where
  ln : n.ln.length ≤ 70000
  al : n.al.length ≤ 70000
  vs : n.vs.length ≤ 70000
  vb : ∀ v ∈ n.vs, v.2.length ≤ 70000
  kp : n.kp.length ≤ 70000
  ch : n.ch.length ≤ 70000
  ss : n.ss.length ≤ 70000
  sk : ∀ s ∈ n.ss, s.2.2.length ≤ 70000
  cp : n.cp.length ≤ 70000
  qs : n.qs.length ≤ 70000
  qk : ∀ s ∈ n.qs, s.2.2.length ≤ 70000
  qo : n.qo.length ≤ 70000
def neS (n m : Nd) (i : Int) (b : Bool) : St := ⟨218, [(0, .agg (ndL n)), (1, .agg (ndL m)), (2, .ptr 2 0 0), (3, .ptr 3 0 0), (4, .bool false), (5, .int .i64 i), (12, .bool b)], [(2, ndL n), (3, ndL m)], [], [], [], []⟩
def neJ (n m : Nd) (b : Bool) : St := ⟨218, [(2, .ptr 2 0 0), (3, .ptr 3 0 0), (4, .bool false), (159, .bool b)], [(2, ndL n), (3, ndL m)], [], [], [], []⟩
theorem k13 (F : Fns) (N : Nat) (n m : Nd) (i : Int) (b : Bool) : contOf F 13 0 N 0 (.exit 0) ⟨218, [(0, .agg (ndL n)), (1, .agg (ndL m)), (2, .ptr 2 0 0), (3, .ptr 3 0 0), (4, .bool false), (5, .int .i64 i), (12, .bool b), (17, .bool false)], [(2, ndL n), (3, ndL m)], [], [], [], []⟩ =
  bif Nd.ro n != Nd.ro m then joinA 8 (joinOf F 13 8 N 0) (neJ n m true) else bif !Nd.st n == Nd.st m then joinA 8 (joinOf F 13 8 N 0) (neJ n m true) else bif !Nd.va n == Nd.va m then joinA 8 (joinOf F 13 8 N 0) (neJ n m true) else bif Nd.kn n != Nd.kn m then joinA 8 (joinOf F 13 8 N 0) (neJ n m true) else bif Nd.sq n != Nd.sq m then joinA 8 (joinOf F 13 8 N 0) (neJ n m true) else bif !Nd.sh n == Nd.sh m then joinA 8 (joinOf F 13 8 N 0) (neJ n m true) else bif Nd.sn n != Nd.sn m then joinA 8 (joinOf F 13 8 N 0) (neJ n m true) else bif Nd.md n != Nd.md m then joinA 8 (joinOf F 13 8 N 0) (neJ n m true) else bif Nd.sy n != Nd.sy m then joinA 8 (joinOf F 13 8 N 0) (neJ n m true) else bif !Nd.fu n == Nd.fu m then joinA 8 (joinOf F 13 8 N 0) (neJ n m true) else bif Nd.go n != Nd.go m then joinA 8 (joinOf F 13 8 N 0) (neJ n m true) else bif Nd.fr n != Nd.fr m then joinA 8 (joinOf F 13 8 N 0) (neJ n m true) else bif Nd.fn n != Nd.fn m then joinA 8 (joinOf F 13 8 N 0) (neJ n m true) else joinA 8 (joinOf F 13 8 N 0) (neJ n m (Nd.nx n != Nd.nx m)) := by kernel_rfl
theorem j13 (F : Fns) (N : Nat) (n m : Nd) (b : Bool) : joinOf F 13 8 N 0 (neJ n m b) =
  bif b then some (AV.bool false, []) else onRes (F 56 [lnV (Nd.ln n), lnV (Nd.ln m)] []) fun v bs => asBool v fun b => asNil bs (bif b then onRes (F 57 [vsV (Nd.vs n), vsV (Nd.vs m)] []) fun v bs => asBool v fun b => asNil bs (bif b then onRes (F 55 [wsV (Nd.kp n), wsV (Nd.kp m)] []) fun v bs => asBool v fun b => asNil bs (bif b then onRes (F 56 [lnV (Nd.al n), lnV (Nd.al m)] []) fun v bs => asBool v fun b => asNil bs (bif b then bif Nd.aq n == Nd.aq m then onRes (F 58 [btsV (Nd.ch n), btsV (Nd.ch m)] []) fun v bs => asBool v fun b => asNil bs (bif b then onRes (F 55 [wsV (Nd.cp n), wsV (Nd.cp m)] []) fun v bs => asBool v fun b => asNil bs (bif b then onRes (F 59 [AV.agg [shsV (Nd.qs n), wsV (Nd.qo n), AV.int .i64 (Nd.qf n), AV.int .i64 (Nd.qt n)], AV.agg [shsV (Nd.qs m), wsV (Nd.qo m), AV.int .i64 (Nd.qf m), AV.int .i64 (Nd.qt m)]] []) fun v bs => asBool v fun b => asNil bs (some (AV.bool b, [])) else some (AV.bool false, [])) else some (AV.bool false, [])) else some (AV.bool false, []) else some (AV.bool false, [])) else some (AV.bool false, [])) else some (AV.bool false, [])) else some (AV.bool false, [])) := by kernel_rfl
theorem b13 (F : Fns) (N : Nat) (n m : Nd) (i : Int) (b : Bool) (KN : St → Res) (KO : Ex → St → Res) : bodyOf F 13 0 N (neS n m i b) (brk KO KN) =
  bif decide (i < ((List.length (List.map shV (Nd.ss n)) : Nat) : Int)) then bif decide (0 ≤ i) then onOpt (List.map shV (Nd.ss n))[Int.toNat i]? fun x => asAgg x fun cs => asCons cs fun v r => asInt .i64 v fun n_1 => asCons r fun v r => asInt .i64 v fun n_2 => asCons r fun v r => asSl v fun m_1 fl xs => asNil r (bif decide (0 ≤ i) then onOpt (List.map shV (Nd.ss m))[Int.toNat i]? fun x => asAgg x fun cs => asCons cs fun v r => asInt .i64 v fun n_3 => asCons r fun v r => asInt .i64 v fun n_4 => asCons r fun v r => asSl v fun m_2 fl xs => asNil r (bif n_1 != n_3 then KO Ex.ret { nt := 218, t := [(0, AV.agg (ndL n)), (1, AV.agg (ndL m)), (2, AV.ptr 2 0 0), (3, AV.ptr 3 0 0), (4, AV.bool false), (5, AV.int .i64 i), (12, AV.bool b), (17, AV.bool (decide (i < ((List.length (List.map shV (Nd.ss n)) : Nat) : Int)))), (63, AV.bool true)], b := [(2, (ndL n)), (3, (ndL m))], r := [], g := [], rd := [], wr := [] } else bif decide (0 ≤ i) then onOpt (List.map shV (Nd.ss n))[Int.toNat i]? fun x => asAgg x fun cs => asCons cs fun v r => asInt .i64 v fun n_5 => asCons r fun v r => asInt .i64 v fun n_6 => asCons r fun v r => asSl v fun m_3 fl xs => asNil r (bif decide (0 ≤ i) then onOpt (List.map shV (Nd.ss m))[Int.toNat i]? fun x => asAgg x fun cs => asCons cs fun v r => asInt .i64 v fun n_7 => asCons r fun v r => asInt .i64 v fun n_8 => asCons r fun v r => asSl v fun m_4 fl xs => asNil r (bif n_6 != n_8 then KO Ex.ret { nt := 218, t := [(0, AV.agg (ndL n)), (1, AV.agg (ndL m)), (2, AV.ptr 2 0 0), (3, AV.ptr 3 0 0), (4, AV.bool false), (5, AV.int .i64 i), (12, AV.bool b), (17, AV.bool (decide (i < ((List.length (List.map shV (Nd.ss n)) : Nat) : Int)))), (63, AV.bool true)], b := [(2, (ndL n)), (3, (ndL m))], r := [], g := [], rd := [], wr := [] } else bif decide (0 ≤ i) then onOpt (List.map shV (Nd.ss n))[Int.toNat i]? fun x => asAgg x fun cs => asCons cs fun v r => asInt .i64 v fun n_9 => asCons r fun v r => asInt .i64 v fun n_10 => asCons r fun v r => asSl v fun m_5 fl xs => asNil r (bif decide (0 ≤ i) then onOpt (List.map shV (Nd.ss m))[Int.toNat i]? fun x => asAgg x fun cs => asCons cs fun v r => asInt .i64 v fun n_11 => asCons r fun v r => asInt .i64 v fun n_12 => asCons r fun v r => asSl v fun m_6 fl_1 xs_1 => asNil r (onRes (F 55 [AV.sl m_5 fl xs, AV.sl m_6 fl_1 xs_1] []) fun v bs => asBool v fun b_1 => asNil bs (bif !b_1 then KO Ex.ret { nt := 218, t := [(0, AV.agg (ndL n)), (1, AV.agg (ndL m)), (2, AV.ptr 2 0 0), (3, AV.ptr 3 0 0), (4, AV.bool false), (5, AV.int .i64 i), (12, AV.bool b), (17, AV.bool (decide (i < ((List.length (List.map shV (Nd.ss n)) : Nat) : Int)))), (63, AV.bool !b_1)], b := [(2, (ndL n)), (3, (ndL m))], r := [], g := [], rd := [], wr := [] } else KN { nt := 218, t := [(0, AV.agg (ndL n)), (1, AV.agg (ndL m)), (2, AV.ptr 2 0 0), (3, AV.ptr 3 0 0), (4, AV.bool false), (5, AV.int .i64 (IntKind.wrap .i64 (i + 1))), (12, AV.bool b), (17, AV.bool (decide (i < ((List.length (List.map shV (Nd.ss n)) : Nat) : Int)))), (63, AV.bool !b_1)], b := [(2, (ndL n)), (3, (ndL m))], r := [], g := [], rd := [], wr := [] })) else none) else none) else none) else none) else none) else none else KO (Ex.exit 0) { nt := 218, t := [(0, AV.agg (ndL n)), (1, AV.agg (ndL m)), (2, AV.ptr 2 0 0), (3, AV.ptr 3 0 0), (4, AV.bool false), (5, AV.int .i64 i), (12, AV.bool b), (17, AV.bool (decide (i < ((List.length (List.map shV (Nd.ss n)) : Nat) : Int))))], b := [(2, (ndL n)), (3, (ndL m))], r := [], g := [], rd := [], wr := [] } := by kernel_rfl
theorem t13 (F : Fns) (N : Nat) (n m : Nd) : runOf F 13 N [.agg (ndL n), .agg (ndL m)] [] =
  bif ((List.length (List.map shV (Nd.ss n)) : Nat) : Int) != ((List.length (List.map shV (Nd.ss m)) : Nat) : Int) then some (AV.bool false, []) else loopA (bodyOf F 13 0 N) (deadOf 13 0) (contOf F 13 0 N 0) N { nt := 218, t := [(0, AV.agg (ndL n)), (1, AV.agg (ndL m)), (2, AV.ptr 2 0 0), (3, AV.ptr 3 0 0), (4, AV.bool false), (5, AV.int .i64 0), (12, AV.bool (((List.length (List.map shV (Nd.ss n)) : Nat) : Int) != ((List.length (List.map shV (Nd.ss m)) : Nat) : Int)))], b := [(2, (ndL n)), (3, (ndL m))], r := [], g := [], rd := [], wr := [] } := by kernel_rfl
theorem ret13 (F : Fns) (N : Nat) (n m : Nd) (i : Int) (b c d : Bool) : contOf F 13 0 N 0 .ret ⟨218, [(0, .agg (ndL n)), (1, .agg (ndL m)), (2, .ptr 2 0 0), (3, .ptr 3 0 0), (4, .bool false), (5, .int .i64 i), (12, .bool b), (17, .bool c), (63, .bool d)], [(2, ndL n), (3, ndL m)], [], [], [], []⟩ = some (.bool false, []) := by kernel_rfl
theorem rest13 (k : Nat) (hk : 70400 ≤ k) (n m : Nd) (hc : NdC n) (b : Bool) : joinA 8 (joinOf (W k) 13 8 k 0) (neJ n m b) = some (.bool (!b && (decide (n.ln = m.ln) && (decide (n.vs = m.vs) && (decide (n.kp = m.kp) && (decide (n.al = m.al) && (decide (n.aq = m.aq) && (decide (n.ch = m.ch) && (decide (n.cp = m.cp) && (decide (n.qs = m.qs) && (decide (n.qf = m.qf) && (decide (n.qt = m.qt) && decide (n.qo = m.qo)))))))))))), []) := by
  rw [joinA_eq, j13, x56 k n.ln m.ln (by have := hc.ln; omega) hc.ln, x57 k (by omega) n.vs m.vs hc.vs hc.vb, x55 k n.kp m.kp (by have := hc.kp; omega) hc.kp, x56 k n.al m.al (by have := hc.al; omega) hc.al, x58 k n.ch m.ch (by have := hc.ch; omega) hc.ch, x55 k n.cp m.cp (by have := hc.cp; omega) hc.cp, x59 k (by omega) n.qs n.qo n.qf n.qt m.qs m.qo m.qf m.qt hc.qs hc.qk hc.qo]
  simp only [onRes, asBool, asNil]
  rw [show (n.aq == m.aq) = decide (n.aq = m.aq) from rfl]
  cases b with
  | true => rfl
  | false => cases decide (n.ln = m.ln) <;> cases decide (n.vs = m.vs) <;> cases decide (n.kp = m.kp) <;> cases decide (n.al = m.al) <;> cases decide (n.aq = m.aq) <;> cases decide (n.ch = m.ch) <;> cases decide (n.cp = m.cp) <;> rfl
theorem x13 (k : Nat) (hk : 70500 ≤ k) (n m : Nd) (hc : NdC n) : W k 13 [.agg (ndL n), .agg (ndL m)] [] = some (.bool (eqN n m), []) := by
  obtain ⟨k, rfl⟩ := succ1 (show 1 ≤ k by omega)
  rw [W_tree0 (t13 (W k) k n m) (by kernel_rfl), List.length_map, List.length_map, nat_bne]
  by_cases hl : n.ss.length = m.ss.length
  · rw [decide_eq_true hl]
    simp only [Bool.not_true, cond_false]
    generalize hT : (decide (n.ln = m.ln) && (decide (n.vs = m.vs) && (decide (n.kp = m.kp) && (decide (n.al = m.al) && (decide (n.aq = m.aq) && (decide (n.ch = m.ch) && (decide (n.cp = m.cp) && (decide (n.qs = m.qs) && (decide (n.qf = m.qf) && (decide (n.qt = m.qt) && decide (n.qo = m.qo))))))))))) = T
    obtain ⟨P, hP⟩ : ∃ P, P = decide (n.ro = m.ro ∧ n.st = m.st ∧ n.va = m.va ∧ n.kn = m.kn ∧ n.sq = m.sq ∧ n.sh = m.sh ∧ n.sn = m.sn ∧ n.md = m.md ∧ n.sy = m.sy ∧ n.fu = m.fu ∧ n.go = m.go ∧ n.fr = m.fr ∧ n.fn = m.fn ∧ n.nx = m.nx) := ⟨_, rfl⟩
    have hE : eqN n m = (decide (n.ss = m.ss) && (P && T)) := by
      rw [hP, ← hT]; rfl
    rw [hE]
    have hs := hc.ss
    refine loopA_ind (fun i : Nat => neS n m i false) (fun i => n.ss.length - i) (fun i r => r = some (.bool (decide (n.ss.drop i = m.ss.drop i) && (P && T)), [])) (fun i m2 ih => ?_) k 0 _ (by omega) (by kernel_rfl)
    rw [b13, List.length_map]
    by_cases hi : i < n.ss.length
    · have hj : i < m.ss.length := by omega
      have hk2 := hc.sk _ (List.getElem_mem hi)
      rw [getM _ _ _ hi, getM _ _ _ hj, List.drop_eq_getElem_cons hi, List.drop_eq_getElem_cons hj, wi (by omega)]
      simp only [decide_eq_true (show (i : Int) < n.ss.length by omega), decide_eq_true (show (0 : Int) ≤ i by omega), onOpt, shV, asAgg, asCons, asInt, asSl, if_true, asNil, cond_true]
      rw [x55 k n.ss[i].2.2 m.ss[i].2.2 (by omega) hk2, show (n.ss[i].1 != m.ss[i].1) = !decide (n.ss[i].1 = m.ss[i].1) from rfl, show (n.ss[i].2.1 != m.ss[i].2.1) = !decide (n.ss[i].2.1 = m.ss[i].2.1) from rfl]
      simp only [onRes, asBool, asNil]
      rw [show decide (n.ss[i] :: n.ss.drop (i + 1) = m.ss[i] :: m.ss.drop (i + 1)) = (decide (n.ss[i] = m.ss[i]) && decide (n.ss.drop (i + 1) = m.ss.drop (i + 1))) by rw [Bool.eq_iff_iff, decide_eq_true_eq, Bool.and_eq_true, decide_eq_true_eq, decide_eq_true_eq, List.cons.injEq], shot_ext]
      cases decide (n.ss[i].1 = m.ss[i].1) with
      | false => simp only [Bool.not_false, Bool.not_true, cond_true, cond_false, ret13, Bool.false_and, Bool.true_and, Bool.and_false]
      | true =>
        cases decide (n.ss[i].2.1 = m.ss[i].2.1) with
        | false => simp only [Bool.not_false, Bool.not_true, cond_true, cond_false, ret13, Bool.false_and, Bool.true_and, Bool.and_false]
        | true =>
          cases decide (n.ss[i].2.2 = m.ss[i].2.2) with
          | false => simp only [Bool.not_false, Bool.not_true, cond_true, cond_false, ret13, Bool.false_and, Bool.true_and, Bool.and_false]
          | true => exact ih (i + 1) _ (by omega) (by kernel_rfl)
    · have e0 : decide (n.ss.drop i = m.ss.drop i) = true := decide_eq_true (by rw [List.drop_eq_nil_of_le (by omega), List.drop_eq_nil_of_le (by omega)])
      rw [e0, Bool.true_and]
      rw [decide_eq_false (show ¬ (i : Int) < n.ss.length by omega), cond_false, k13]
      have r := rest13 k (by omega) n m hc
      rw [hT] at r
      rw [r, r]
      subst hP
      have b1 : ∀ x y : Bool, (!(x == y)) = !decide (x = y) := by decide
      simp only [b1, show ∀ x y : Int, (x != y) = !decide (x = y) from fun _ _ => rfl]
      by_cases g1 : n.ro = m.ro
      · by_cases g2 : n.st = m.st
        · by_cases g3 : n.va = m.va
          · by_cases g4 : n.kn = m.kn
            · by_cases g5 : n.sq = m.sq
              · by_cases g6 : n.sh = m.sh
                · by_cases g7 : n.sn = m.sn
                  · by_cases g8 : n.md = m.md
                    · by_cases g9 : n.sy = m.sy
                      · by_cases g10 : n.fu = m.fu
                        · by_cases g11 : n.go = m.go
                          · by_cases g12 : n.fr = m.fr
                            · by_cases g13 : n.fn = m.fn
                              · by_cases g14 : n.nx = m.nx <;> simp [g1, g2, g3, g4, g5, g6, g7, g8, g9, g10, g11, g12, g13, g14]
                              · simp [g1, g2, g3, g4, g5, g6, g7, g8, g9, g10, g11, g12, g13]
                            · simp [g1, g2, g3, g4, g5, g6, g7, g8, g9, g10, g11, g12]
                          · simp [g1, g2, g3, g4, g5, g6, g7, g8, g9, g10, g11]
                        · simp [g1, g2, g3, g4, g5, g6, g7, g8, g9, g10]
                      · simp [g1, g2, g3, g4, g5, g6, g7, g8, g9]
                    · simp [g1, g2, g3, g4, g5, g6, g7, g8]
                  · simp [g1, g2, g3, g4, g5, g6, g7]
                · simp [g1, g2, g3, g4, g5, g6]
              · simp [g1, g2, g3, g4, g5]
            · simp [g1, g2, g3, g4]
          · simp [g1, g2, g3]
        · simp [g1, g2]
      · simp [g1]
  · rw [decide_eq_false hl]
    have : eqN n m = false := by
      unfold eqN
      rw [decide_eq_false (show ¬ n.ss = m.ss from fun e => hl (by rw [e]))]; rfl
    rw [this]; rfl
end Go.AM.YtnhfjkckgicidaaGreat

set_option linter.unusedVariables false
set_option linter.unusedSimpArgs false
namespace Go.AM.YtnhfjkckgicidaaGreat
open Go.AM Go.Proofs Go
abbrev ssV (l : List (List UInt8)) : AV := .sl 1 false (l.map AV.str)
theorem t25 (F : Fns) (N : Nat) (b : Bool) : runOf F 25 N [.bool b] [] =
  bif b then some (AV.int .u8 1, []) else some (AV.int .u8 0, []) := by kernel_rfl
theorem x25 (k : Nat) (hk : 1 ≤ k) (b : Bool) : W k 25 [.bool b] [] = some (.int .u8 (bif b then 1 else 0), []) := by
  obtain ⟨k, rfl⟩ := succ1 (show 1 ≤ k by omega)
  rw [W_tree0 (t25 (W k) k b) (by kernel_rfl)]
  cases b <;> rfl
theorem x73 (k : Nat) (l : List (Int × Int)) (hk : 1100 ≤ k) (hs : Sm l) (hl : l.length ≤ 1000) : W k 73 [lnV l] [] = some (if lined l then .tup [.str (putL l), .int .i64 0] else .tup [.str [], .int .i64 1], []) := W_old0 (e17' k (.inl ⟨false, rfl⟩) (by omega) hs hl) (by omega) (by kernel_rfl)
theorem t27 (F : Fns) (N : Nat) (l : List (Int × Int)) : runOf F 27 N [lnV l] [] =
  onRes (F 73 [lnV l] []) fun v bs => asTup v fun cs => asCons cs fun v r => asStr v fun s => asCons r fun v r => asInt .i64 v fun n => asNil r (asNil bs (some (AV.str s, []))) := by kernel_rfl
theorem x27 (k : Nat) (l : List (Int × Int)) (hk : 1200 ≤ k) (hs : Sm l) (hl : l.length ≤ 1000) (hok : lined l = true) : W k 27 [lnV l] [] = some (.str (putL l), []) := by
  obtain ⟨k, rfl⟩ := succ1 (show 1 ≤ k by omega)
  rw [W_tree0 (t27 (W k) k l) (by kernel_rfl), x73 k l (by omega) hs hl, if_pos hok]
  rfl
theorem t29 (F : Fns) (N : Nat) (l : List Wr) : runOf F 29 N [wsV l] [] =
  onRes (F 74 [wsV l] []) fun v bs => asTup v fun cs => asCons cs fun v r => asStr v fun s => asCons r fun v r => asInt .i64 v fun n => asNil r (asNil bs (some (AV.str s, []))) := by kernel_rfl
theorem x29 (k : Nat) (l : List Wr) (hk : 1200 ≤ k) (hl : l.length ≤ 200) (hok : wOk l = true) : W k 29 [wsV l] [] = some (.str (putW l), []) := by
  obtain ⟨k, rfl⟩ := succ1 (show 1 ≤ k by omega)
  rw [W_tree0 (t29 (W k) k l) (by kernel_rfl), x74 k l hl (by omega), if_pos hok]
  rfl
theorem t47 (F : Fns) (N : Nat) (z : Int) : runOf F 47 N [.int .i64 z] [] =
  some (AV.str [UInt8.ofNat (Int.toNat (IntKind.wrap .u8 z))], []) := by kernel_rfl
theorem x47 (k : Nat) (hk : 1 ≤ k) (z : Int) : W k 47 [.int .i64 z] [] = some (.str [UInt8.ofNat (Int.toNat (IntKind.wrap .u8 z))], []) := by
  obtain ⟨k, rfl⟩ := succ1 (show 1 ≤ k by omega)
  rw [W_tree0 (t47 (W k) k z) (by kernel_rfl)]
theorem x47n (k : Nat) (hk : 1 ≤ k) (n : Nat) : W k 47 [.int .i64 (n : Int)] [] = some (.str [UInt8.ofNat n], []) := by
  rw [x47 k hk, byte_wrap]
def flB (b : Bool) : List UInt8 := [if b then 1 else 0]
theorem t48 (F : Fns) (N : Nat) (b : Bool) : runOf F 48 N [.bool b] [] =
  bif b then onRes (F 47 [AV.int .i64 1] []) fun v bs => asStr v fun s => asNil bs (some (AV.str s, [])) else onRes (F 47 [AV.int .i64 0] []) fun v bs => asStr v fun s => asNil bs (some (AV.str s, [])) := by kernel_rfl
theorem x48 (k : Nat) (hk : 2 ≤ k) (b : Bool) : W k 48 [.bool b] [] = some (.str (flB b), []) := by
  obtain ⟨k, rfl⟩ := succ1 (show 1 ≤ k by omega)
  have h1 := x47n k (by omega) 1
  have h0 := x47n k (by omega) 0
  rw [W_tree0 (t48 (W k) k b) (by kernel_rfl), show W k 47 [AV.int .i64 1] [] = some (AV.str [UInt8.ofNat 1], []) from h1, show W k 47 [AV.int .i64 0] [] = some (AV.str [UInt8.ofNat 0], []) from h0]
  cases b <;> rfl
theorem x96 (k : Nat) (hk : 10 ≤ k) (z : Int) (hz : z < 9223372036854775808) : W k 96 [.int .i64 z, .int .i64 8] [] = some (.tup [.str (putV z 8).1, .int .i64 (putV z 8).2], []) := W_old0 (e87 k hk z hz 8 (by omega) (by omega)) (by omega) (by kernel_rfl)
theorem t49 (F : Fns) (N : Nat) (z : Int) : runOf F 49 N [.int .i64 z] [] =
  onRes (F 96 [AV.int .i64 z, AV.int .i64 8] []) fun v bs => asTup v fun cs => asCons cs fun v r => asStr v fun s => asCons r fun v r => asInt .i64 v fun n => asNil r (asNil bs (some (AV.str s, []))) := by kernel_rfl
theorem x49 (k : Nat) (hk : 11 ≤ k) (z : Int) (hz : z < 9223372036854775808) : W k 49 [.int .i64 z] [] = some (.str (be8 z), []) := by
  obtain ⟨k, rfl⟩ := succ1 (show 1 ≤ k by omega)
  rw [W_tree0 (t49 (W k) k z) (by kernel_rfl), x96 k (by omega) z hz]
  rfl
def beightS (fl : Bool) (xs : List AV) (len i : Int) (v : AV) : St := ⟨25, [(0, AV.sl 1 fl xs), (2, AV.str []), (3, v), (8, AV.sl 1 fl xs), (9, AV.int .i64 len), (10, AV.int .i64 i)], [], [], [], [], []⟩
theorem beight_tree (F : Fns) (N : Nat) (fl : Bool) (xs : List AV) : runOf F 26 N [.sl 1 fl xs] [] =
  loopA (bodyOf F 26 0 N) (deadOf 26 0) (contOf F 26 0 N 0) N { nt := 25, t := [(0, AV.sl 1 fl xs), (2, AV.str []), (3, AV.sl 0 true []), (8, AV.sl 1 fl xs), (9, AV.int .i64 ((List.length xs : Nat) : Int)), (10, AV.int .i64 0)], b := [], r := [], g := [], rd := [], wr := [] } := by kernel_rfl
theorem beight_body0 (F : Fns) (N : Nat) (fl : Bool) (xs : List AV) (len i : Int) (KN : St → Res) : bodyOf F 26 0 N (beightS fl xs len i (.sl 0 true [])) (brk (contOf F 26 0 N 0) KN) =
  bif decide (i < len) then bif decide (0 ≤ i) then onOpt xs[Int.toNat i]? fun x => asInt .i64 x fun n => onRes (F 23 [AV.int .i64 n, AV.int .i64 8] []) fun v bs => asTup v fun cs => asCons cs fun v r => asStr v fun s => asCons r fun v r => asInt .i64 v fun n_1 => asNil r (asNil bs (bif decide ((0 = 1 ∨ ([] : List AV) = []) ∧ fitsB (List.length ([] : List AV) + List.length (ofBytes s)) 1 = true ∧ List.length ([] : List AV) + List.length (ofBytes s) ≤ 4611686018427387904) then KN { nt := 25, t := [(0, AV.sl 1 fl xs), (2, AV.str []), (3, AV.tip 21 0 1 ([] ++ ofBytes s)), (5, AV.int .i64 n), (6, AV.str s), (8, AV.sl 1 fl xs), (9, AV.int .i64 len), (10, AV.int .i64 (IntKind.wrap .i64 (i + 1))), (11, AV.bool (decide (i < len)))], b := [], r := [], g := [], rd := [], wr := [] } else none)) else none else some (AV.str [], []) := by kernel_rfl
theorem beight_body1 (F : Fns) (N : Nat) (fl : Bool) (xs ys : List AV) (len i : Int) (KN : St → Res) : bodyOf F 26 0 N (beightS fl xs len i (.tip 21 0 1 ys)) (brk (contOf F 26 0 N 0) KN) =
  bif decide (i < len) then bif decide (0 ≤ i) then onOpt xs[Int.toNat i]? fun x => asInt .i64 x fun n => onRes (F 23 [AV.int .i64 n, AV.int .i64 8] []) fun v bs => asTup v fun cs => asCons cs fun v r => asStr v fun s => asCons r fun v r => asInt .i64 v fun n_1 => asNil r (asNil bs (bif decide (1 = 1 ∧ fitsB (List.length ys + List.length (ofBytes s)) 1 = true ∧ List.length ys + List.length (ofBytes s) ≤ 4611686018427387904) then KN { nt := 25, t := [(0, AV.sl 1 fl xs), (2, AV.str []), (3, AV.tip 21 0 1 (ys ++ ofBytes s)), (5, AV.int .i64 n), (6, AV.str s), (8, AV.sl 1 fl xs), (9, AV.int .i64 len), (10, AV.int .i64 (IntKind.wrap .i64 (i + 1))), (11, AV.bool (decide (i < len)))], b := [], r := [], g := [], rd := [], wr := [] } else none)) else none else onOpt (Option.map AV.str (bytesOf ys)) fun x => asStr x fun s => some (AV.str s, []) := by kernel_rfl
theorem beight_loop (k : Nat) (hk : 12 ≤ k) (fl : Bool) (ns : List Int) (hn : ∀ n ∈ ns, n < 9223372036854775808) (hl : ns.length ≤ 1000) : ∀ (dd i m : Nat) (acc : List UInt8) (st : St), i + dd = ns.length → dd < m → acc.length ≤ 8 * i →
    st.clean (deadOf 26 0) = beightS fl (ns.map (AV.int .i64)) ns.length i (.tip 21 0 1 (ofBytes acc)) →
    loopA (bodyOf (evF pr k) 26 0 k) (deadOf 26 0) (contOf (evF pr k) 26 0 k 0) m st = some (.str (acc ++ (ns.drop i).flatMap be8), []) := by
  intro dd
  induction dd with
  | zero =>
    intro i m acc st hi hm ha hst
    obtain ⟨m, rfl⟩ : ∃ m', m = m' + 1 := ⟨m - 1, by omega⟩
    have : i = ns.length := by omega
    subst this
    rw [loopA_succ, hst, beight_body1, decide_eq_false (by omega), bytesOf_ofBytes, List.drop_length]
    simp [onOpt, asStr]
  | succ dd ih =>
    intro i m acc st hi hm ha hst
    obtain ⟨m, rfl⟩ : ∃ m', m = m' + 1 := ⟨m - 1, by omega⟩
    have hlt : i < ns.length := by omega
    have h8 := be8_length ns[i]
    rw [loopA_succ, hst, beight_body1, decide_eq_true (show (i : Int) < ns.length by omega), decide_eq_true (show (0 : Int) ≤ i by omega), Int.toNat_natCast, List.getElem?_map, List.getElem?_eq_getElem hlt]
    simp only [cond_true, Option.map_some, onOpt, asInt, if_true]
    rw [show (8 : Int) = ((8 : Nat) : Int) from rfl, e37 k (by omega) _ (hn _ (List.getElem_mem hlt)) 8 (by omega) (by omega)]
    simp only [onRes, asTup, asCons, asStr, asInt, if_true, asNil]
    rw [ofBytes_append, decide_eq_true (by
      have hb : (putV ns[i] ((8 : Nat) : Int)).1.length ≤ 8 := h8
      refine ⟨trivial, fitsB_small ?_, ?_⟩ <;> simp only [ofBytes, List.length_map] <;> omega)]
    simp only [cond_true]
    rw [wrap_small (n := (i : Int) + 1) (by omega) (by omega), List.drop_eq_getElem_cons hlt, List.flatMap_cons, ← List.append_assoc]
    exact ih (i + 1) m _ _ (by omega) (by omega) (by
      have hb : (putV ns[i] ((8 : Nat) : Int)).1.length ≤ 8 := h8
      rw [List.length_append]
      omega) (by kernel_rfl)
theorem e45b (k : Nat) (fl : Bool) (ns : List Int) (hk : 13 + ns.length ≤ k) (hn : ∀ n ∈ ns, n < 9223372036854775808) (hl : ns.length ≤ 1000) : evF pr k 26 [.sl 1 fl (ns.map (AV.int .i64))] [] = some (.str (ns.flatMap be8), []) := by
  obtain ⟨k, rfl⟩ : ∃ m, k = m + 1 := ⟨k - 1, by omega⟩
  rw [ev_step _ _ _ _ (by kernel_rfl), beight_tree, List.length_map]
  cases ns with
  | nil =>
    obtain ⟨k, rfl⟩ : ∃ m, k = m + 1 := ⟨k - 1, by omega⟩
    rw [loopA_succ]
    exact beight_body0 _ _ fl [] 0 0 _
  | cons n r =>
    obtain ⟨k', hk'⟩ : ∃ m, k = m + 1 := ⟨k - 1, by omega⟩
    have h8 := be8_length n
    have hb : (putV n ((8 : Nat) : Int)).1.length ≤ 8 := h8
    conv => lhs; arg 4; rw [hk']
    rw [loopA_succ]
    refine (beight_body0 _ _ fl ((n :: r).map (AV.int .i64)) ((n :: r).length) 0 _).trans ?_
    simp only [List.length_cons] at hk
    rw [decide_eq_true (show (0 : Int) < ((n :: r).length : Nat) by simp only [List.length_cons]; omega)]
    simp only [cond_true, Int.toNat_zero, List.map_cons, List.getElem?_cons_zero, onOpt, asInt, if_true, show decide ((0 : Int) ≤ 0) = true from rfl]
    rw [show (8 : Int) = ((8 : Nat) : Int) from rfl, e37 k (by omega) _ (hn _ (List.mem_cons_self ..)) 8 (by omega) (by omega)]
    simp only [onRes, asTup, asCons, asStr, asInt, if_true, asNil]
    rw [decide_eq_true (by
      refine ⟨.inr trivial, fitsB_small ?_, ?_⟩ <;> simp only [ofBytes, List.length_map, List.length_nil] <;> omega)]
    simp only [cond_true, List.nil_append]
    exact beight_loop k (by omega) fl (n :: r) hn hl r.length 1 k' _ _ (by simp only [List.length_cons]; omega) (by omega) (by omega) (by kernel_rfl)
theorem x26 (k : Nat) (ns : List Int) (hk : 1100 ≤ k) (hn : ∀ n ∈ ns, n < 9223372036854775808) (hl : ns.length ≤ 1000) : W k 26 [isV ns] [] = some (.str (ns.flatMap be8), []) := W_old0 (e45b k false ns (by omega) hn hl) (by omega) (by kernel_rfl)
theorem two_be (n : Nat) (hn : n < 9223372036854775808) : [UInt8.ofNat (Int.toNat (IntKind.wrap .u8 (IntKind.wrap .i64 (Int.tdiv (n : Int) 256)))), UInt8.ofNat (Int.toNat (IntKind.wrap .u8 (Int.tmod (n : Int) 256)))] = be 2 n := by
  have e1 : Int.tdiv (n : Int) 256 = ((n / 256 : Nat) : Int) := rfl
  have e2 : Int.tmod (n : Int) 256 = ((n % 256 : Nat) : Int) := rfl
  rw [e1, e2, wrap_small (by omega) (by omega), byte_wrap, byte_wrap]
  simp only [be, List.nil_append, List.cons_append]
  have h1 : UInt8.ofNat (n / 256 % 256) = UInt8.ofNat (n / 256) := by apply UInt8.toNat_inj.1; simp
  rw [h1]
theorem t54 (F : Fns) (N : Nat) (z : Int) : runOf F 54 N [.int .i64 z] [] =
  some (AV.str [UInt8.ofNat (Int.toNat (IntKind.wrap .u8 (IntKind.wrap .i64 (Int.tdiv z 256)))), UInt8.ofNat (Int.toNat (IntKind.wrap .u8 (Int.tmod z 256)))], []) := by kernel_rfl
theorem x54 (k : Nat) (hk : 1 ≤ k) (n : Nat) (hn : n < 9223372036854775808) : W k 54 [.int .i64 (n : Int)] [] = some (.str (be 2 n), []) := by
  obtain ⟨k, rfl⟩ := succ1 (show 1 ≤ k by omega)
  rw [W_tree0 (t54 (W k) k n) (by kernel_rfl), two_be n hn]
theorem t67 (F : Fns) (N : Nat) (s : List UInt8) : runOf F 67 N [.str s] [] =
  bif decide (((List.length s : Nat) : Int) > 65535) then some (AV.tup [AV.str [], AV.int .i64 5], []) else bif decide (List.length [UInt8.ofNat (Int.toNat (IntKind.wrap .u8 (IntKind.wrap .i64 (Int.tdiv (((List.length s : Nat) : Int)) 256)))), UInt8.ofNat (Int.toNat (IntKind.wrap .u8 (Int.tmod (((List.length s : Nat) : Int)) 256)))] + List.length s ≤ 4611686018427387904) then some (AV.tup [AV.str ([UInt8.ofNat (Int.toNat (IntKind.wrap .u8 (IntKind.wrap .i64 (Int.tdiv (((List.length s : Nat) : Int)) 256)))), UInt8.ofNat (Int.toNat (IntKind.wrap .u8 (Int.tmod (((List.length s : Nat) : Int)) 256)))] ++ s), AV.int .i64 0], []) else none := by kernel_rfl
def textE (s : List UInt8) : List UInt8 × Int := if s.length > 65535 then ([], 5) else (be 2 s.length ++ s, 0)
theorem x67 (k : Nat) (hk : 1 ≤ k) (s : List UInt8) : W k 67 [.str s] [] = some (.tup [.str (textE s).1, .int .i64 (textE s).2], []) := by
  obtain ⟨k, rfl⟩ := succ1 (show 1 ≤ k by omega)
  rw [W_tree0 (t67 (W k) k s) (by kernel_rfl), textE]
  by_cases h : s.length > 65535
  · rw [decide_eq_true (by omega), if_pos h]; rfl
  · rw [if_neg h, two_be s.length (by omega)]
    have hb : (be 2 s.length).length = 2 := by simp [be]
    rw [decide_eq_false (show ¬ ((s.length : Nat) : Int) > 65535 by omega), decide_eq_true (show (be 2 s.length).length + s.length ≤ 4611686018427387904 by omega)]
    rfl
end Go.AM.YtnhfjkckgicidaaGreat

set_option linter.unusedVariables false
set_option linter.unusedSimpArgs false
namespace Go.AM.YtnhfjkckgicidaaGreat
open Go.AM Go.Proofs Go
theorem e38g (k : Nat) (hk : 12 ≤ k) (s : List UInt8) : evF pr k 104 [.str s] [] = some (.tup [.str (textE s).1, .int .i64 (textE s).2], []) := by
  unfold textE
  by_cases h : s.length > 65535
  · rw [if_pos h]
    obtain ⟨k, rfl⟩ : ∃ m, k = m + 1 := ⟨k - 1, by omega⟩
    rw [ev_step _ _ _ _ (by kernel_rfl), text_tree, decide_eq_true (show ((s.length : Nat) : Int) > 65535 by omega)]
    rfl
  · rw [if_neg h]
    exact e38 k hk s (by omega)
theorem x104g (k : Nat) (hk : 12 ≤ k) (s : List UInt8) : W k 104 [.str s] [] = some (.tup [.str (textE s).1, .int .i64 (textE s).2], []) := W_old0 (e38g k hk s) (by omega) (by kernel_rfl)
def lst : List (List UInt8) → Option (List UInt8)
  | [] => some []
  | s :: r => if s.length > 65535 then none else (lst r).map fun b => (be 2 s.length ++ s) ++ b
def listE (l : List (List UInt8)) : List UInt8 × Int := if l.length > 65535 then ([], 5) else match lst l with
  | none => ([], 5)
  | some b => (be 2 l.length ++ b, 0)
def outL (acc : List UInt8) (o : Option (List UInt8)) : Res := match o with
  | none => some (.tup [.str [], .int .i64 5], [])
  | some b => some (.tup [.str (acc ++ b), .int .i64 0], [])
theorem be2_len (n : Nat) : (be 2 n).length = 2 := by simp [be]
theorem outL_listE (l : List (List UInt8)) (h : ¬ l.length > 65535) : outL (be 2 l.length) (lst l) = some (.tup [.str (listE l).1, .int .i64 (listE l).2], []) := by
  unfold outL listE
  rw [if_neg h]
  cases lst l <;> rfl
theorem outL_long (s : List UInt8) (r : List (List UInt8)) (acc : List UInt8) (h : s.length > 65535) : outL acc (lst (s :: r)) = some (.tup [.str [], .int .i64 5], []) := by
  rw [lst, if_pos h]; rfl
theorem outL_short (s : List UInt8) (r : List (List UInt8)) (acc : List UInt8) (h : ¬ s.length > 65535) : outL acc (lst (s :: r)) = outL (acc ++ (be 2 s.length ++ s)) (lst r) := by
  rw [lst, if_neg h]
  cases lst r with
  | none => rfl
  | some b => simp [outL]
def liS (l : List (List UInt8)) (s : List UInt8) (ys : List AV) (b : Bool) (len i : Int) : St := ⟨42, [(0, ssV l), (2, .str []), (3, .int .i64 0), (4, .str s), (6, .tip 21 0 1 ys), (13, .bool b), (22, ssV l), (23, .int .i64 len), (24, .int .i64 i)], [], [], [], [], []⟩
theorem b66 (F : Fns) (N : Nat) (l : List (List UInt8)) (s : List UInt8) (ys : List AV) (b : Bool) (len i : Int) (KN : St → Res) : bodyOf F 66 0 N (liS l s ys b len i) (brk (contOf F 66 0 N 0) KN) =
  bif decide (i < len) then bif decide (0 ≤ i) then onOpt (List.map AV.str l)[Int.toNat i]? fun x => asStr x fun s_1 => onRes (F 104 [AV.str s_1] []) fun v bs => asTup v fun cs => asCons cs fun v r => asStr v fun s_2 => asCons r fun v r => asInt .i64 v fun n => asNil r (asNil bs (bif n != 0 then some (AV.tup [AV.str [], AV.int .i64 n], []) else bif decide (1 = 1 ∧ fitsB (List.length ys + List.length (ofBytes s_2)) 1 = true ∧ List.length ys + List.length (ofBytes s_2) ≤ 4611686018427387904) then KN { nt := 42, t := [(0, AV.sl 1 false (List.map AV.str l)), (2, AV.str []), (3, AV.int .i64 0), (4, AV.str s), (6, AV.tip 21 0 1 (ys ++ ofBytes s_2)), (8, AV.str s_1), (9, AV.str s_2), (10, AV.int .i64 n), (13, AV.bool b), (22, AV.sl 1 false (List.map AV.str l)), (23, AV.int .i64 len), (24, AV.int .i64 (IntKind.wrap .i64 (i + 1))), (25, AV.bool (decide (i < len))), (34, AV.bool (n != 0))], b := [], r := [], g := [], rd := [], wr := [] } else none)) else none else onOpt (Option.map AV.str (bytesOf ys)) fun x => asStr x fun s => some (AV.tup [AV.str s, AV.int .i64 0], []) := by kernel_rfl
theorem t66 (F : Fns) (N : Nat) (l : List (List UInt8)) : runOf F 66 N [ssV l] [] =
  bif decide (((List.length (List.map AV.str l) : Nat) : Int) > 65535) then some (AV.tup [AV.str [], AV.int .i64 5], []) else onRes (F 23 [AV.int .i64 ((List.length (List.map AV.str l) : Nat) : Int), AV.int .i64 2] []) fun v bs => asTup v fun cs => asCons cs fun v r => asStr v fun s => asCons r fun v r => asInt .i64 v fun n => asNil r (asNil bs (bif decide (List.length s ≤ 4611686018427387904) then loopA (bodyOf F 66 0 N) (deadOf 66 0) (contOf F 66 0 N 0) N { nt := 42, t := [(0, AV.sl 1 false (List.map AV.str l)), (2, AV.str []), (3, AV.int .i64 0), (4, AV.str s), (6, AV.tip 21 0 1 (ofBytes s)), (13, AV.bool (decide (((List.length (List.map AV.str l) : Nat) : Int) > 65535))), (22, AV.sl 1 false (List.map AV.str l)), (23, AV.int .i64 ((List.length (List.map AV.str l) : Nat) : Int)), (24, AV.int .i64 0)], b := [], r := [], g := [], rd := [], wr := [] } else none)) := by kernel_rfl
theorem x23 (k : Nat) (hk : 10 ≤ k) (n : Nat) (hn : n ≤ 65535) : W k 23 [.int .i64 (n : Int), .int .i64 2] [] = some (.tup [.str (be 2 n), .int .i64 0], []) := by
  refine W_old0 (vs' := [.int .i64 (n : Int), .int .i64 2]) ?_ (by omega) (by kernel_rfl)
  have := e37 k hk (n : Int) (by omega) 2 (by omega) (by omega)
  rw [putV_small n 2 (by omega) (by omega) (by omega)] at this
  exact this
theorem x66 (k : Nat) (hk : 66000 ≤ k) (l : List (List UInt8)) : W k 66 [ssV l] [] = some (.tup [.str (listE l).1, .int .i64 (listE l).2], []) := by
  obtain ⟨k, rfl⟩ := succ1 (show 1 ≤ k by omega)
  rw [W_tree0 (t66 (W k) k l) (by kernel_rfl), List.length_map]
  by_cases h : l.length > 65535
  · rw [decide_eq_true (show ((l.length : Nat) : Int) > 65535 by omega), listE, if_pos h]; rfl
  · rw [decide_eq_false (show ¬ ((l.length : Nat) : Int) > 65535 by omega), x23 k (by omega) l.length (by omega), ← outL_listE l h]
    simp only [cond_false, onRes, asTup, asCons, asStr, asInt, if_true, asNil]
    rw [decide_eq_true (show (be 2 l.length).length ≤ 4611686018427387904 by rw [be2_len]; omega)]
    simp only [cond_true]
    refine loopA_ind (fun a : Nat × List UInt8 => liS l (be 2 l.length) (ofBytes a.2) false l.length a.1) (fun a => l.length - a.1) (fun a r => a.2.length ≤ 2 + 65537 * a.1 → r = outL a.2 (lst (l.drop a.1))) (fun a m ih h1 => ?_) k (0, be 2 l.length) _ (by simp; omega) (by kernel_rfl) (by simp [be2_len])
    obtain ⟨i, acc⟩ := a
    simp only at ih h1 ⊢
    rw [b66]
    by_cases hi : i < l.length
    · rw [getM _ _ _ hi, List.drop_eq_getElem_cons hi, wi (by omega)]
      simp only [decide_eq_true (show (i : Int) < l.length by omega), decide_eq_true (show (0 : Int) ≤ i by omega), onOpt, asStr, cond_true]
      rw [x104g k (by omega) l[i]]
      simp only [onRes, asTup, asCons, asStr, asInt, if_true, asNil]
      by_cases hs : l[i].length > 65535
      · rw [outL_long _ _ _ hs, textE, if_pos hs]; rfl
      · rw [outL_short _ _ _ hs, textE, if_neg hs]
        simp only [show ((0 : Int) != 0) = false from rfl, cond_false]
        have hlen : (be 2 l[i].length ++ l[i]).length ≤ 65537 := by rw [List.length_append, be2_len]; omega
        rw [decide_eq_true (by
          refine ⟨trivial, fitsB_small ?_, ?_⟩ <;> simp only [ofBytes, List.length_map] <;> omega)]
        simp only [cond_true]
        exact ih (i + 1, acc ++ (be 2 l[i].length ++ l[i])) _ (by simp; omega) (by rw [ofBytes_append]; kernel_rfl) (by rw [List.length_append]; omega)
    · simp only [decide_eq_false (show ¬ (i : Int) < l.length by omega), cond_false]
      rw [List.drop_eq_nil_of_le (by omega), bytesOf_ofBytes]
      simp [lst, outL, onOpt, asStr]
theorem t18 (F : Fns) (N : Nat) (l : List (List UInt8)) : runOf F 18 N [ssV l] [] =
  bif decide (((List.length (List.map AV.str l) : Nat) : Int) > 65535) then some (AV.tup [AV.str [], AV.int .i64 5], []) else loopA (bodyOf F 18 0 N) (deadOf 18 0) (contOf F 18 0 N 0) N { nt := 42, t := [(0, AV.sl 1 false (List.map AV.str l)), (2, AV.str []), (3, AV.int .i64 0), (4, AV.str [UInt8.ofNat (Int.toNat (IntKind.wrap .u8 (IntKind.wrap .i64 (Int.tdiv (((List.length (List.map AV.str l) : Nat) : Int)) 256)))), UInt8.ofNat (Int.toNat (IntKind.wrap .u8 (Int.tmod (((List.length (List.map AV.str l) : Nat) : Int)) 256)))]), (5, AV.int .i64 0), (10, AV.bool (decide (((List.length (List.map AV.str l) : Nat) : Int) > 65535)))], b := [], r := [], g := [], rd := [], wr := [] } := by kernel_rfl
def rliS (l : List (List UInt8)) (s : List UInt8) (b : Bool) (i : Int) : St := ⟨42, [(0, ssV l), (2, .str []), (3, .int .i64 0), (4, .str s), (5, .int .i64 i), (10, .bool b)], [], [], [], [], []⟩
theorem b18 (F : Fns) (N : Nat) (l : List (List UInt8)) (s : List UInt8) (b : Bool) (i : Int) (KN : St → Res) : bodyOf F 18 0 N (rliS l s b i) (brk (contOf F 18 0 N 0) KN) =
  bif decide (i < ((List.length (List.map AV.str l) : Nat) : Int)) then bif decide (0 ≤ i) then onOpt (List.map AV.str l)[Int.toNat i]? fun x => asStr x fun s_1 => onRes (F 67 [AV.str s_1] []) fun v bs => asTup v fun cs => asCons cs fun v r => asStr v fun s_2 => asCons r fun v r => asInt .i64 v fun n => asNil r (asNil bs (bif n != 0 then some (AV.tup [AV.str [], AV.int .i64 n], []) else bif decide (List.length s + List.length s_2 ≤ 4611686018427387904) then KN { nt := 42, t := [(0, AV.sl 1 false (List.map AV.str l)), (2, AV.str []), (3, AV.int .i64 0), (4, AV.str (s ++ s_2)), (5, AV.int .i64 (IntKind.wrap .i64 (i + 1))), (6, AV.str s_2), (7, AV.int .i64 n), (10, AV.bool b), (24, AV.bool (decide (i < ((List.length (List.map AV.str l) : Nat) : Int)))), (36, AV.bool (n != 0))], b := [], r := [], g := [], rd := [], wr := [] } else none)) else none else some (AV.tup [AV.str s, AV.int .i64 0], []) := by kernel_rfl
theorem x18 (k : Nat) (hk : 66000 ≤ k) (l : List (List UInt8)) : W k 18 [ssV l] [] = some (.tup [.str (listE l).1, .int .i64 (listE l).2], []) := by
  obtain ⟨k, rfl⟩ := succ1 (show 1 ≤ k by omega)
  rw [W_tree0 (t18 (W k) k l) (by kernel_rfl), List.length_map]
  by_cases h : l.length > 65535
  · rw [decide_eq_true (show ((l.length : Nat) : Int) > 65535 by omega), listE, if_pos h]; rfl
  · rw [decide_eq_false (show ¬ ((l.length : Nat) : Int) > 65535 by omega), two_be l.length (by omega), ← outL_listE l h]
    simp only [cond_false]
    refine loopA_ind (fun a : Nat × List UInt8 => rliS l a.2 false a.1) (fun a => l.length - a.1) (fun a r => a.2.length ≤ 2 + 65537 * a.1 → r = outL a.2 (lst (l.drop a.1))) (fun a m ih h1 => ?_) k (0, be 2 l.length) _ (by simp; omega) (by kernel_rfl) (by simp [be2_len])
    obtain ⟨i, acc⟩ := a
    simp only at ih h1 ⊢
    rw [b18, List.length_map]
    by_cases hi : i < l.length
    · rw [getM _ _ _ hi, List.drop_eq_getElem_cons hi, wi (by omega)]
      simp only [decide_eq_true (show (i : Int) < l.length by omega), decide_eq_true (show (0 : Int) ≤ i by omega), onOpt, asStr, cond_true]
      rw [x67 k (by omega) l[i]]
      simp only [onRes, asTup, asCons, asStr, asInt, if_true, asNil]
      by_cases hs : l[i].length > 65535
      · rw [outL_long _ _ _ hs, textE, if_pos hs]; rfl
      · rw [outL_short _ _ _ hs, textE, if_neg hs]
        simp only [show ((0 : Int) != 0) = false from rfl, cond_false]
        have hlen : (be 2 l[i].length ++ l[i]).length ≤ 65537 := by rw [List.length_append, be2_len]; omega
        rw [decide_eq_true (show acc.length + (be 2 l[i].length ++ l[i]).length ≤ 4611686018427387904 by omega)]
        simp only [cond_true]
        exact ih (i + 1, acc ++ (be 2 l[i].length ++ l[i])) _ (by simp; omega) (by kernel_rfl) (by rw [List.length_append]; omega)
    · simp only [decide_eq_false (show ¬ (i : Int) < l.length by omega), cond_false]
      rw [List.drop_eq_nil_of_le (by omega)]
      simp [lst, outL]
end Go.AM.YtnhfjkckgicidaaGreat

set_option linter.unusedVariables false
set_option linter.unusedSimpArgs false
namespace Go.AM.YtnhfjkckgicidaaGreat
open Go.AM Go.Proofs Go
theorem lst_len : ∀ (l : List (List UInt8)) (b : List UInt8), lst l = some b → b.length ≤ 65537 * l.length
  | [], b, h => by simp [lst] at h; subst h; simp
  | s :: r, b, h => by
    rw [lst] at h
    split at h
    · simp at h
    · rw [Option.map_eq_some_iff] at h
      obtain ⟨c, hc, rfl⟩ := h
      have := lst_len r c hc
      simp only [List.length_append, be2_len, List.length_cons]
      omega
theorem listE_len (l : List (List UInt8)) : (listE l).1.length ≤ 5000000000 := by
  unfold listE
  split
  · simp
  · cases h : lst l with
    | none => simp
    | some b =>
      have := lst_len l b h
      simp only [List.length_append, be2_len]
      omega
def vB (v : Vol) : List UInt8 := UInt8.ofNat (Int.toNat (IntKind.wrap .u8 v.1)) :: (listE v.2).1
def volsB (vs : List Vol) : List UInt8 := UInt8.ofNat vs.length :: vs.flatMap vB
theorem t28 (F : Fns) (N : Nat) (l : List Vol) : runOf F 28 N [vsV l] [] =
  loopA (bodyOf F 28 0 N) (deadOf 28 0) (contOf F 28 0 N 0) N { nt := 36, t := [(0, vsV l), (2, AV.str []), (3, AV.str [UInt8.ofNat (Int.toNat (IntKind.wrap .u8 ((List.length (List.map (volV false) l) : Nat) : Int)))]), (13, vsV l), (14, AV.int .i64 ((List.length (List.map (volV false) l) : Nat) : Int)), (15, AV.int .i64 0)], b := [], r := [], g := [], rd := [], wr := [] } := by kernel_rfl
def blS (l : List Vol) (s : List UInt8) (len i : Int) : St := ⟨36, [(0, vsV l), (2, .str []), (3, .str s), (13, vsV l), (14, .int .i64 len), (15, .int .i64 i)], [], [], [], [], []⟩
theorem b28 (F : Fns) (N : Nat) (l : List Vol) (s : List UInt8) (len i : Int) (KN : St → Res) : bodyOf F 28 0 N (blS l s len i) (brk (contOf F 28 0 N 0) KN) =
  bif decide (i < len) then bif decide (0 ≤ i) then onOpt (List.map (volV false) l)[Int.toNat i]? fun x => asAgg x fun cs => asCons cs fun v r => asInt .i64 v fun n => asCons r fun v r => asSl v fun m fl xs => asNil r (onRes (F 66 [AV.sl m fl xs] []) fun v bs => asTup v fun cs => asCons cs fun v r => asStr v fun s_1 => asCons r fun v r => asInt .i64 v fun n_1 => asNil r (asNil bs (bif decide (List.length [UInt8.ofNat (Int.toNat (IntKind.wrap .u8 n))] + List.length s_1 ≤ 4611686018427387904) then bif decide (List.length s + List.length ([UInt8.ofNat (Int.toNat (IntKind.wrap .u8 n))] ++ s_1) ≤ 4611686018427387904) then KN { nt := 36, t := [(0, vsV l), (2, AV.str []), (3, AV.str (s ++ ([UInt8.ofNat (Int.toNat (IntKind.wrap .u8 n))] ++ s_1))), (5, AV.ptr 5 0 0), (6, AV.str s_1), (13, vsV l), (14, AV.int .i64 len), (15, AV.int .i64 (IntKind.wrap .i64 (i + 1))), (16, AV.bool (decide (i < len)))], b := [(5, [AV.int .i64 n, AV.sl m fl xs])], r := [], g := [], rd := [], wr := [] } else none else none))) else none else some (AV.str s, []) := by kernel_rfl
theorem x28 (k : Nat) (hk : 66100 ≤ k) (l : List Vol) (hl : l.length ≤ 300) : W k 28 [vsV l] [] = some (.str (volsB l), []) := by
  obtain ⟨k, rfl⟩ := succ1 (show 1 ≤ k by omega)
  rw [W_tree0 (t28 (W k) k l) (by kernel_rfl), List.length_map, byte_wrap, volsB]
  refine loopA_ind (fun a : Nat × List UInt8 => blS l a.2 l.length a.1) (fun a => l.length - a.1) (fun a r => a.2.length ≤ 1 + 5000000001 * a.1 → r = some (.str (a.2 ++ (l.drop a.1).flatMap vB), [])) (fun a m ih h1 => ?_) k (0, [UInt8.ofNat l.length]) _ (by simp; omega) (by kernel_rfl) (by simp)
  obtain ⟨i, acc⟩ := a
  simp only at ih h1 ⊢
  rw [b28]
  by_cases hi : i < l.length
  · rw [getM _ _ _ hi, List.drop_eq_getElem_cons hi, wi (by omega)]
    simp only [decide_eq_true (show (i : Int) < l.length by omega), decide_eq_true (show (0 : Int) ≤ i by omega), onOpt, volV, asAgg, asCons, asInt, asSl, if_true, asNil, cond_true]
    rw [x66 k (by omega) l[i].2]
    simp only [onRes, asTup, asCons, asStr, asInt, if_true, asNil]
    have hL := listE_len l[i].2
    rw [decide_eq_true (show (List.length [UInt8.ofNat (Int.toNat (IntKind.wrap .u8 l[i].1))]) + (listE l[i].2).1.length ≤ 4611686018427387904 by simp only [List.length_cons, List.length_nil]; omega)]
    rw [decide_eq_true (show acc.length + ([UInt8.ofNat (Int.toNat (IntKind.wrap .u8 l[i].1))] ++ (listE l[i].2).1).length ≤ 4611686018427387904 by simp only [List.length_append, List.length_cons, List.length_nil]; omega)]
    simp only [cond_true]
    refine (ih (i + 1, acc ++ ([UInt8.ofNat (Int.toNat (IntKind.wrap .u8 l[i].1))] ++ (listE l[i].2).1)) _ (by simp; omega) (by kernel_rfl) (by simp only [List.length_append, List.length_cons, List.length_nil]; omega)).trans ?_
    simp only [List.flatMap_cons, vB, List.append_assoc, List.cons_append, List.nil_append]
  · simp only [decide_eq_false (show ¬ (i : Int) < l.length by omega), cond_false]
    rw [List.drop_eq_nil_of_le (by omega)]
    simp
theorem t52 (F : Fns) (N : Nat) (l : List Vol) : runOf F 52 N [vsV l] [] =
  onRes (F 47 [AV.int .i64 ((List.length (List.map (volV false) l) : Nat) : Int)] []) fun v bs => asStr v fun s => asNil bs (loopA (bodyOf F 52 0 N) (deadOf 52 0) (contOf F 52 0 N 0) N { nt := 36, t := [(0, vsV l), (2, AV.str []), (3, AV.str s), (4, AV.int .i64 0)], b := [], r := [], g := [], rd := [], wr := [] }) := by kernel_rfl
def rvoS (l : List Vol) (s : List UInt8) (i : Int) : St := ⟨36, [(0, vsV l), (2, .str []), (3, .str s), (4, .int .i64 i)], [], [], [], [], []⟩
theorem b52 (F : Fns) (N : Nat) (l : List Vol) (s : List UInt8) (i : Int) (KN : St → Res) : bodyOf F 52 0 N (rvoS l s i) (brk (contOf F 52 0 N 0) KN) =
  bif decide (i < ((List.length (List.map (volV false) l) : Nat) : Int)) then bif decide (0 ≤ i) then onOpt (List.map (volV false) l)[Int.toNat i]? fun x => asAgg x fun cs => asCons cs fun v r => asInt .i64 v fun n => asCons r fun v r => asSl v fun m fl xs => asNil r (onRes (F 18 [AV.sl m fl xs] []) fun v bs => asTup v fun cs => asCons cs fun v r => asStr v fun s_1 => asCons r fun v r => asInt .i64 v fun n => asNil r (asNil bs (bif decide (0 ≤ i) then onOpt (List.map (volV false) l)[Int.toNat i]? fun x => asAgg x fun cs => asCons cs fun v r => asInt .i64 v fun n => asCons r fun v r => asSl v fun m fl xs => asNil r (onRes (F 47 [AV.int .i64 n] []) fun v bs => asStr v fun s_2 => asNil bs (bif decide (List.length s + List.length s_2 ≤ 4611686018427387904) then bif decide (List.length (s ++ s_2) + List.length s_1 ≤ 4611686018427387904) then KN { nt := 36, t := [(0, vsV l), (2, AV.str []), (3, AV.str (s ++ s_2 ++ s_1)), (4, AV.int .i64 (IntKind.wrap .i64 (i + 1))), (5, AV.str s_1), (13, AV.bool (decide (i < ((List.length (List.map (volV false) l) : Nat) : Int))))], b := [], r := [], g := [], rd := [], wr := [] } else none else none)) else none))) else none else some (AV.str s, []) := by kernel_rfl
theorem x52 (k : Nat) (hk : 66100 ≤ k) (l : List Vol) (hl : l.length ≤ 300) : W k 52 [vsV l] [] = some (.str (volsB l), []) := by
  obtain ⟨k, rfl⟩ := succ1 (show 1 ≤ k by omega)
  rw [W_tree0 (t52 (W k) k l) (by kernel_rfl), List.length_map, x47n k (by omega) l.length, volsB]
  simp only [onRes, asStr, asNil]
  refine loopA_ind (fun a : Nat × List UInt8 => rvoS l a.2 a.1) (fun a => l.length - a.1) (fun a r => a.2.length ≤ 1 + 5000000001 * a.1 → r = some (.str (a.2 ++ (l.drop a.1).flatMap vB), [])) (fun a m ih h1 => ?_) k (0, [UInt8.ofNat l.length]) _ (by simp; omega) (by kernel_rfl) (by simp)
  obtain ⟨i, acc⟩ := a
  simp only at ih h1 ⊢
  rw [b52, List.length_map]
  by_cases hi : i < l.length
  · rw [getM _ _ _ hi, List.drop_eq_getElem_cons hi, wi (by omega)]
    simp only [decide_eq_true (show (i : Int) < l.length by omega), decide_eq_true (show (0 : Int) ≤ i by omega), onOpt, volV, asAgg, asCons, asInt, asSl, if_true, asNil, cond_true]
    rw [x18 k (by omega) l[i].2, x47 k (by omega) l[i].1]
    simp only [onRes, asTup, asCons, asStr, asInt, if_true, asNil]
    have hL := listE_len l[i].2
    rw [decide_eq_true (show acc.length + (List.length [UInt8.ofNat (Int.toNat (IntKind.wrap .u8 l[i].1))]) ≤ 4611686018427387904 by simp only [List.length_cons, List.length_nil]; omega)]
    rw [decide_eq_true (show (acc ++ [UInt8.ofNat (Int.toNat (IntKind.wrap .u8 l[i].1))]).length + (listE l[i].2).1.length ≤ 4611686018427387904 by simp only [List.length_append, List.length_cons, List.length_nil]; omega)]
    simp only [cond_true]
    refine (ih (i + 1, acc ++ [UInt8.ofNat (Int.toNat (IntKind.wrap .u8 l[i].1))] ++ (listE l[i].2).1) _ (by simp; omega) (by kernel_rfl) (by simp only [List.length_append, List.length_cons, List.length_nil]; omega)).trans ?_
    simp only [List.flatMap_cons, vB, List.append_assoc, List.cons_append, List.nil_append]
  · simp only [decide_eq_false (show ¬ (i : Int) < l.length by omega), cond_false]
    rw [List.drop_eq_nil_of_le (by omega)]
    simp
end Go.AM.YtnhfjkckgicidaaGreat

set_option linter.unusedVariables false
set_option linter.unusedSimpArgs false
namespace Go.AM.YtnhfjkckgicidaaGreat
open Go.AM Go.Proofs Go
theorem chkW_all (vs : List Vol) : ∀ ws : List Wr, chkW vs ws = 0 → ∀ w ∈ ws, (getB vs w.1 w.2.1).2 = 0 ∧ w.2.2.length ≤ 8
  | [], _ => by simp
  | w :: r, h => by
    rw [chkW] at h
    split at h
    · rename_i h1; exact absurd h h1
    · rename_i h1
      split at h
      · simp at h
      · rename_i h2
        intro v hv
        rcases List.mem_cons.1 hv with rfl | hv
        · exact ⟨Classical.not_not.1 h1, by omega⟩
        · exact chkW_all vs r h v hv
def posOf : List Vol → Int → Nat
  | [], _ => 0
  | v :: r, a => if v.1 = a then 0 else posOf r a + 1
theorem posOf_lt : ∀ (vs : List Vol) (a : Int), 0 < lenOf vs a → posOf vs a < vs.length
  | [], a, h => by simp [lenOf] at h
  | v :: r, a, h => by
    rw [lenOf] at h
    rw [posOf, List.length_cons]
    split
    · omega
    · rename_i hn
      rw [if_neg hn] at h
      have := posOf_lt r a h
      omega
theorem pos_lt : ∀ (vs : List Vol) (e : Int), vsOk e vs = true → ∀ a b : Int, 0 < lenOf vs a → 0 < lenOf vs b → a < b → posOf vs a < posOf vs b
  | [], _, _, a, b, h, _, _ => by simp [lenOf] at h
  | v :: r, e, hok, a, b, ha, hb, hab => by
    rw [vsOk, Bool.and_eq_true, decide_eq_true_eq, Bool.and_eq_true] at hok
    have hg : ∀ x, 0 < lenOf r x → v.1 < x := fun x hx => by
      apply Classical.byContradiction
      intro hn
      rw [lenOf_gt r v.1 hok.2.2 x (by omega)] at hx
      omega
    rw [lenOf] at ha hb
    rw [posOf, posOf]
    by_cases h1 : v.1 = a
    · rw [if_pos h1, if_neg (by omega)]; omega
    · rw [if_neg h1] at ha ⊢
      have h2 : ¬ v.1 = b := by have := hg a ha; omega
      rw [if_neg h2] at hb ⊢
      have := pos_lt r v.1 hok.2.2 a b ha hb hab
      omega
theorem inc_len : ∀ (l : List Nat) (N : Nat), l.Pairwise (· < ·) → (∀ x ∈ l, x < N) → l.length ≤ N
  | [], N, _, _ => by simp
  | a :: r, N, hp, hb => by
    rw [List.pairwise_cons] at hp
    have ha := hb a (List.mem_cons_self ..)
    have h2 : ∀ m : Nat, ∀ q : List Nat, q.Pairwise (· < ·) → (∀ x ∈ q, m < x ∧ x < N) → q.length ≤ N - 1 - m := by
      intro m q
      induction q generalizing m with
      | nil => intro _ _; simp
      | cons c q ih =>
        intro hq hm
        rw [List.pairwise_cons] at hq
        have hc := hm c (List.mem_cons_self ..)
        have := ih c hq.2 fun x hx => ⟨hq.1 x hx, (hm x (List.mem_cons_of_mem _ hx)).2⟩
        rw [List.length_cons]
        omega
    have := h2 a r hp.2 fun x hx => ⟨hp.1 x hx, hb x (List.mem_cons_of_mem _ hx)⟩
    rw [List.length_cons]
    omega
theorem few (vs : List Vol) (hv : vOk vs = true) (ws : List Wr) (hc : chkW vs ws = 0) (hs : sortedW ws = true) : ws.length ≤ 128 := by
  have hall := chkW_all vs ws hc
  have hok := vOk_vs hv
  have h4 := vOk_len hv
  have hlen : ∀ w ∈ ws, 0 ≤ w.2.1 ∧ w.2.1 < 32 ∧ 0 < lenOf vs w.1 := fun w hw => by
    have h1 := (getB_err vs w.1 w.2.1).1 (hall w hw).1
    have h2 := lenOf_le hok w.1
    omega
  have hkey : (ws.map fun w => posOf vs w.1 * 32 + w.2.1.toNat).Pairwise (· < ·) := by
    rw [List.pairwise_map]
    have hp := (sortedW_iff ws).1 hs
    refine List.Pairwise.imp_of_mem (fun {a b} ha hb hab => ?_) hp
    have hA := hlen a ha
    have hB := hlen b hb
    unfold wless at hab
    rw [decide_eq_true_eq] at hab
    rcases hab with h | ⟨h1, h2⟩
    · have := pos_lt vs 0 hok a.1 b.1 hA.2.2 hB.2.2 h
      omega
    · rw [h1]; omega
  have := inc_len _ 128 hkey (fun x hx => by
    obtain ⟨w, hw, rfl⟩ := List.mem_map.1 hx
    have hA := hlen w hw
    have := posOf_lt vs w.1 hA.2.2
    omega)
  rwa [List.length_map] at this
theorem vol_ids {vs : List Vol} (hv : vOk vs = true) {a : Int} (h : 0 < lenOf vs a) : 1 ≤ a ∧ a ≤ 255 := by
  have hok := vOk_vs hv
  have : ∀ (vs : List Vol) (e : Int), vsOk e vs = true → 0 < lenOf vs a → e < a ∧ a ≤ 255 := by
    intro vs
    induction vs with
    | nil => intro e _ h; simp [lenOf] at h
    | cons v r ih =>
      intro e hok h
      rw [vsOk, Bool.and_eq_true, decide_eq_true_eq, Bool.and_eq_true] at hok
      rw [lenOf] at h
      split at h
      · omega
      · have := ih v.1 hok.2.2 h; omega
  have := this vs 0 hok h
  omega
theorem chk_wOk {vs : List Vol} (hv : vOk vs = true) {ws : List Wr} (hc : chkE vs ws = 0) (hs : sortedW ws = true) : wOk ws = true := by
  rw [chkE, if_pos hv] at hc
  have h1 := few vs hv ws hc hs
  have hall := chkW_all vs ws hc
  rw [wOk, decide_eq_true h1, hs]
  simp only [Bool.true_and, Bool.not_eq_true', List.any_eq_false]
  intro w hw
  have h2 := (getB_err vs w.1 w.2.1).1 (hall w hw).1
  have h3 := lenOf_le (vOk_vs hv) w.1
  have h4 := vol_ids hv (show 0 < lenOf vs w.1 by omega)
  have h5 := (hall w hw).2
  unfold badW
  rw [Bool.not_eq_true, decide_eq_false_iff_not]
  omega
theorem kept_wOk {vs : List Vol} (hv : vOk vs = true) {ws : List Wr} (h : keptOk ws vs = true) : wOk ws = true := by
  rw [keptOk, Bool.and_eq_true, decide_eq_true_eq] at h
  exact chk_wOk hv h.1 h.2
end Go.AM.YtnhfjkckgicidaaGreat

set_option linter.unusedVariables false
set_option linter.unusedSimpArgs false
namespace Go.AM.YtnhfjkckgicidaaGreat
open Go.AM Go.Proofs Go
theorem fits_iff {z : Int} (h : fitsI z = true) : 0 ≤ z ∧ z ≤ 1099511627776 := by
  unfold fitsI at h; rwa [decide_eq_true_eq] at h
def Fi (z : Int) : Prop := 0 ≤ z ∧ z ≤ 1099511627776
structure Rt (n : Nd) : Prop where
  ro : n.ro = 1 ∨ n.ro = 2
  md : 0 ≤ n.md ∧ n.md ≤ 4
  kn : Fi n.kn
  sy : Fi n.sy
  sn : Fi n.sn
  fr : Fi n.fr
  fn : Fi n.fn
  nx : Fi n.nx
  ln : lined n.ln = true
  sq : Fi n.sq
  vs : vOk n.vs = true
  kp : wOk n.kp = true
  al : lined n.al = true
  aq : Fi n.aq
  ch : bOk n.ch = true
  ss : n.ss.length ≤ 2
  sk : ∀ s ∈ n.ss, Fi s.1 ∧ Fi s.2.1 ∧ wOk s.2.2 = true
  cp : wOk n.cp = true
  go : -1 ≤ n.go ∧ n.go ≤ 1000
  qk : ∀ s ∈ n.qs, Fi s.1 ∧ Fi s.2.1 ∧ wOk s.2.2 = true
  qo : wOk n.qo = true
  qf : Fi n.qf
  qt : Fi n.qt
theorem lined_of_none {l : List (Int × Int)} {z : Int} (h : noneOk l z = true) : lined l = true ∧ Fi z := by
  rw [noneOk, Bool.and_eq_true, decide_eq_true_eq, decide_eq_true_eq] at h
  obtain ⟨h1, rfl⟩ := h
  rw [List.length_eq_zero_iff] at h1
  subst h1
  exact ⟨rfl, by unfold Fi; omega⟩
theorem lined_of_placed {l : List (Int × Int)} {z : Int} (h : placedOk l z = true) : lined l = true ∧ Fi z := by
  have hl := placed_line h
  have h2 := line_len hl
  rw [placedOk, Bool.and_eq_true, decide_eq_true_eq] at h
  refine ⟨by rw [lined, hl]; simp, ?_, h.2.2⟩
  have h3 : 0 ≤ lastAt l := by
    unfold lastAt
    rw [List.getD_eq_getElem?_getD, List.getElem?_eq_getElem (show l.length - 1 < l.length by omega)]
    exact line_at hl _ (List.getElem_mem _)
  omega
theorem shs_all (sn sq : Int) (vs : List Vol) (hv : vOk vs = true) (h1 : sn ≤ 1099511627776) (h2 : sq ≤ 1099511627776) : ∀ (l : List Shot) (z : Int), 0 ≤ z → shsOk sn sq vs z l = true → ∀ s ∈ l, Fi s.1 ∧ Fi s.2.1 ∧ wOk s.2.2 = true
  | [], _, _, _ => by simp
  | a :: r, z, hz, h => by
    rw [shsOk, Bool.and_eq_true, Bool.and_eq_true, decide_eq_true_eq] at h
    obtain ⟨⟨g1, g2, g3, g4, _⟩, g5, g6⟩ := h
    intro s hs
    rcases List.mem_cons.1 hs with rfl | hs
    · exact ⟨by unfold Fi; omega, by unfold Fi; omega, kept_wOk hv g5⟩
    · exact shs_all sn sq vs hv h1 h2 r a.1 (by omega) g6 s hs
theorem qch_all (x : Int) : ∀ (l : List Shot) (z : Int), qch x z l = true → ∀ s ∈ l, Fi s.1 ∧ Fi s.2.1 ∧ sortedW s.2.2 = true
  | [], _, _ => by simp
  | a :: r, z, h => by
    simp only [qch, Bool.and_eq_true] at h
    obtain ⟨g1, _, _, g4, g5, g6⟩ := h
    intro s hs
    rcases List.mem_cons.1 hs with rfl | hs
    · exact ⟨fits_iff g1, fits_iff g4, g5⟩
    · exact qch_all x r a.2.1 g6 s hs
theorem wOk_nil : wOk [] = true := rfl
theorem rt_of {n : Nd} (h : nodeOk n = true) (hcp : n.cp.length ≤ 200) : Rt n := by
  unfold nodeOk at h
  simp only [Bool.and_eq_true] at h
  obtain ⟨hS, hH, hT, hQ⟩ := h
  unfold standsOk at hS
  unfold holdsOk at hH
  unfold shotsOk at hT
  unfold sendsOk at hQ
  simp only [Bool.and_eq_true, decide_eq_true_eq, List.all_cons, List.all_nil] at hS hH hT
  obtain ⟨⟨⟨s1, s2, s3⟩, f1, f2, f3, f4, f5, f6, _⟩, s4⟩ := hS
  obtain ⟨⟨⟨⟨v1, v2⟩, _⟩, _⟩, v3⟩ := hH
  obtain ⟨t1, t2, t3⟩ := hT
  have hl : lined n.ln = true ∧ Fi n.sq := by
    split at s4
    · rename_i h; exact lined_of_none h
    · simp only [Bool.and_eq_true] at s4; exact lined_of_placed s4.1.1
  have ha : (lined n.al = true ∧ Fi n.aq) ∧ bOk n.ch = true := by
    split at v3
    · rename_i h
      refine ⟨lined_of_none h, ?_⟩
      rw [decide_eq_true_eq, List.length_eq_zero_iff] at v3
      rw [v3]; rfl
    · simp only [Bool.and_eq_true] at v3
      refine ⟨lined_of_placed v3.1.1, ?_⟩
      have := v3.2
      rw [withinOk, Bool.and_eq_true] at this
      exact this.1
  rw [Bool.and_eq_true, Bool.and_eq_true] at hQ
  obtain ⟨q1, q2, q3⟩ := hQ
  have hq : (∀ s ∈ n.qs, Fi s.1 ∧ Fi s.2.1 ∧ wOk s.2.2 = true) ∧ wOk n.qo = true ∧ Fi n.qf ∧ Fi n.qt := by
    split at q2
    · simp only [Bool.and_eq_true] at q2
      obtain ⟨g1, _, _, g2⟩ := q2
      unfold queueOk at g1
      simp only [Bool.and_eq_true] at g1
      obtain ⟨a1, a2, _, a3, a4, _⟩ := g1
      unfold ableOk at g2
      simp only [Bool.and_eq_true, decide_eq_true_eq, List.all_eq_true] at g2
      refine ⟨fun s hs => ?_, chk_wOk v1 g2.2 a4, fits_iff a2, fits_iff a3⟩
      have := qch_all _ _ _ a1 s hs
      exact ⟨this.1, this.2.1, chk_wOk v1 (g2.1 s hs) this.2.2⟩
    · simp only [Bool.and_eq_true, decide_eq_true_eq, List.length_eq_zero_iff] at q2
      obtain ⟨a1, a2, a3, a4⟩ := q2
      rw [a1, a2, a3, a4]
      exact ⟨by simp, wOk_nil, by unfold Fi; omega, by unfold Fi; omega⟩
  have hc : wOk n.cp = true ∧ -1 ≤ n.go ∧ n.go ≤ 1000 := by
    split at q1
    · simp only [Bool.and_eq_true, decide_eq_true_eq] at q1
      refine ⟨q1.1, q1.2.2.1, ?_⟩
      have := q1.2.2.2
      unfold partsN at this
      omega
    · rename_i hm
      rw [decide_eq_false hm, Bool.false_or, Bool.and_eq_true, Bool.and_eq_true, decide_eq_true_eq, decide_eq_true_eq, List.length_eq_zero_iff] at q3
      rw [q3.1, q3.2.1]
      exact ⟨wOk_nil, by omega, by omega⟩
  exact ⟨s1, ⟨s2, s3⟩, fits_iff f1, fits_iff f2, fits_iff f3, fits_iff f4, fits_iff f5, fits_iff f6, hl.1, hl.2, v1, kept_wOk v1 v2, ha.1.1, ha.1.2, ha.2, t2, shs_all n.sn n.sq n.vs v1 (fits_iff f3).2 hl.2.2 n.ss 0 (by omega) t1, hc.1, hc.2, hq.1, hq.2.1, hq.2.2.1, hq.2.2.2⟩
def shB (s : Shot) : List UInt8 := be8 s.1 ++ be8 s.2.1 ++ putW s.2.2
def hdB (n : Nd) : List UInt8 := [UInt8.ofNat n.ro.toNat] ++ flB n.st ++ flB n.va ++ flB n.sh ++ flB n.fu ++ [UInt8.ofNat n.md.toNat] ++ be8 n.kn ++ be8 n.sq ++ be8 n.sn ++ be8 n.sy ++ be8 (n.go + 1) ++ be8 n.fr ++ be8 n.fn ++ be8 n.nx ++ putL n.ln ++ putL n.al ++ be8 n.aq ++ putB n.ch ++ volsB n.vs ++ putW n.kp ++ [UInt8.ofNat n.ss.length]
def nodeB (n : Nd) : List UInt8 := hdB n ++ n.ss.flatMap shB ++ putW n.cp ++ be 2 n.qs.length ++ n.qs.flatMap shB ++ putW n.qo ++ be8 n.qf ++ be8 n.qt
end Go.AM.YtnhfjkckgicidaaGreat

set_option linter.unusedVariables false
set_option linter.unusedSimpArgs false
namespace Go.AM.YtnhfjkckgicidaaGreat
open Go.AM Go.Proofs Go
theorem chain_sm : ∀ (l : List (Int × Int)) (e a : Int), chain e a l = true → Sm l
  | [], _, _, _ => by intro b hb; simp at hb
  | c :: r, e, a, h => by
    rw [chain, Bool.and_eq_true, decide_eq_true_eq] at h
    intro b hb
    rcases List.mem_cons.1 hb with rfl | hb
    · omega
    · exact chain_sm r c.1 c.2 h.2 b hb
theorem lined_sm {l : List (Int × Int)} (h : lined l = true) : Sm l ∧ l.length ≤ 64 := by
  cases l with
  | nil => exact ⟨by intro b hb; simp at hb, by simp⟩
  | cons c r =>
    have h' : lineOk (c :: r) = true := by simpa [lined] using h
    have h2 := line_len h'
    rw [lineOk, Bool.and_eq_true, Bool.and_eq_true] at h'
    exact ⟨chain_sm _ 0 0 h'.2.2, h2.2⟩
theorem x50 (k : Nat) (hk : 1200 ≤ k) {l : List (Int × Int)} (h : lined l = true) : W k 50 [lnV l] [] = some (.str (putL l), []) := W_old0 (e19' k (.inl ⟨false, rfl⟩) (by have := (lined_sm h).2; omega) (lined_sm h).1 (by have := (lined_sm h).2; omega)) (by omega) (by kernel_rfl)
theorem x51 (k : Nat) (hk : 1200 ≤ k) {l : List (Int × Int)} (h : bOk l = true) (hu : UM l) : W k 51 [btsV l] [] = some (.str (putB l), []) := W_old0 (e63' k (.inl ⟨false, rfl⟩) hu (by have := bOk_length h; omega) h) (by omega) (by kernel_rfl)
theorem x53 (k : Nat) (hk : 1200 ≤ k) {l : List Wr} (h : wOk l = true) : W k 53 [wsV l] [] = some (.str (putW l), []) := W_old0 (e13' k (.inl ⟨false, rfl⟩) (by omega) h) (by omega) (by kernel_rfl)
theorem x47i (k : Nat) (hk : 1 ≤ k) (z : Int) (h0 : 0 ≤ z) : W k 47 [.int .i64 z] [] = some (.str [UInt8.ofNat z.toNat], []) := by
  have := x47n k hk z.toNat
  rwa [show ((z.toNat : Nat) : Int) = z by omega] at this
theorem putL_le {l : List (Int × Int)} (h : lined l = true) : (putL l).length ≤ 2000 := by
  have := putL_length l
  have := (lined_sm h).2
  omega
theorem putW_le {l : List Wr} (h : wOk l = true) : (putW l).length ≤ 2000 := by
  have := putW_length h
  rw [wOk, Bool.and_eq_true, decide_eq_true_eq] at h
  omega
theorem putB_le {l : List (Int × Int)} (h : bOk l = true) : (putB l).length ≤ 2000 := by
  have := bOk_length h
  have e : ∀ l : List (Int × Int), (l.flatMap btB).length = 5 * l.length := by
    intro l
    induction l with
    | nil => rfl
    | cons b r ih => rw [List.flatMap_cons, List.length_append, ih]; simp [btB, be]; omega
  rw [putB, List.length_cons, e]
  omega
theorem volsB_le {vs : List Vol} (h : vOk vs = true) : (volsB vs).length ≤ 30000000000 := by
  have h4 := vOk_len h
  have e : ∀ l : List Vol, (l.flatMap vB).length ≤ 5000000001 * l.length := by
    intro l
    induction l with
    | nil => simp
    | cons b r ih =>
      have := listE_len b.2
      rw [List.flatMap_cons, List.length_append, List.length_cons, vB, List.length_cons]
      omega
  have := e vs
  rw [volsB, List.length_cons]
  omega
theorem flB_len (b : Bool) : (flB b).length = 1 := rfl
theorem t12 (F : Fns) (N : Nat) (n : Nd) : runOf F 12 N [.agg (ndL n)] [] =
  onRes (F 47 [AV.int .i64 (Nd.ro n)] []) fun v bs => asStr v fun s => asNil bs (onRes (F 48 [AV.bool (Nd.st n)] []) fun v bs => asStr v fun s_1 => asNil bs (bif decide (List.length s + List.length s_1 ≤ 4611686018427387904) then onRes (F 48 [AV.bool (Nd.va n)] []) fun v bs => asStr v fun s_2 => asNil bs (bif decide (List.length (s ++ s_1) + List.length s_2 ≤ 4611686018427387904) then onRes (F 48 [AV.bool (Nd.sh n)] []) fun v bs => asStr v fun s_3 => asNil bs (bif decide (List.length (s ++ s_1 ++ s_2) + List.length s_3 ≤ 4611686018427387904) then onRes (F 48 [AV.bool (Nd.fu n)] []) fun v bs => asStr v fun s_4 => asNil bs (bif decide (List.length (s ++ s_1 ++ s_2 ++ s_3) + List.length s_4 ≤ 4611686018427387904) then onRes (F 47 [AV.int .i64 (Nd.md n)] []) fun v bs => asStr v fun s_5 => asNil bs (bif decide (List.length (s ++ s_1 ++ s_2 ++ s_3 ++ s_4) + List.length s_5 ≤ 4611686018427387904) then onRes (F 49 [AV.int .i64 (Nd.kn n)] []) fun v bs => asStr v fun s_6 => asNil bs (bif decide (List.length (s ++ s_1 ++ s_2 ++ s_3 ++ s_4 ++ s_5) + List.length s_6 ≤ 4611686018427387904) then onRes (F 49 [AV.int .i64 (Nd.sq n)] []) fun v bs => asStr v fun s_7 => asNil bs (bif decide (List.length (s ++ s_1 ++ s_2 ++ s_3 ++ s_4 ++ s_5 ++ s_6) + List.length s_7 ≤ 4611686018427387904) then onRes (F 49 [AV.int .i64 (Nd.sn n)] []) fun v bs => asStr v fun s_8 => asNil bs (bif decide (List.length (s ++ s_1 ++ s_2 ++ s_3 ++ s_4 ++ s_5 ++ s_6 ++ s_7) + List.length s_8 ≤ 4611686018427387904) then onRes (F 49 [AV.int .i64 (Nd.sy n)] []) fun v bs => asStr v fun s_9 => asNil bs (bif decide (List.length (s ++ s_1 ++ s_2 ++ s_3 ++ s_4 ++ s_5 ++ s_6 ++ s_7 ++ s_8) + List.length s_9 ≤ 4611686018427387904) then onRes (F 49 [AV.int .i64 (IntKind.wrap .i64 (Nd.go n + 1))] []) fun v bs => asStr v fun s_10 => asNil bs (bif decide (List.length (s ++ s_1 ++ s_2 ++ s_3 ++ s_4 ++ s_5 ++ s_6 ++ s_7 ++ s_8 ++ s_9) + List.length s_10 ≤ 4611686018427387904) then onRes (F 49 [AV.int .i64 (Nd.fr n)] []) fun v bs => asStr v fun s_11 => asNil bs (bif decide (List.length (s ++ s_1 ++ s_2 ++ s_3 ++ s_4 ++ s_5 ++ s_6 ++ s_7 ++ s_8 ++ s_9 ++ s_10) + List.length s_11 ≤ 4611686018427387904) then onRes (F 49 [AV.int .i64 (Nd.fn n)] []) fun v bs => asStr v fun s_12 => asNil bs (bif decide (List.length (s ++ s_1 ++ s_2 ++ s_3 ++ s_4 ++ s_5 ++ s_6 ++ s_7 ++ s_8 ++ s_9 ++ s_10 ++ s_11) + List.length s_12 ≤ 4611686018427387904) then onRes (F 49 [AV.int .i64 (Nd.nx n)] []) fun v bs => asStr v fun s_13 => asNil bs (bif decide (List.length (s ++ s_1 ++ s_2 ++ s_3 ++ s_4 ++ s_5 ++ s_6 ++ s_7 ++ s_8 ++ s_9 ++ s_10 ++ s_11 ++ s_12) + List.length s_13 ≤ 4611686018427387904) then onRes (F 50 [lnV (Nd.ln n)] []) fun v bs => asStr v fun s_14 => asNil bs (bif decide (List.length (s ++ s_1 ++ s_2 ++ s_3 ++ s_4 ++ s_5 ++ s_6 ++ s_7 ++ s_8 ++ s_9 ++ s_10 ++ s_11 ++ s_12 ++ s_13) + List.length s_14 ≤ 4611686018427387904) then onRes (F 50 [lnV (Nd.al n)] []) fun v bs => asStr v fun s_15 => asNil bs (bif decide (List.length (s ++ s_1 ++ s_2 ++ s_3 ++ s_4 ++ s_5 ++ s_6 ++ s_7 ++ s_8 ++ s_9 ++ s_10 ++ s_11 ++ s_12 ++ s_13 ++ s_14) + List.length s_15 ≤ 4611686018427387904) then onRes (F 49 [AV.int .i64 (Nd.aq n)] []) fun v bs => asStr v fun s_16 => asNil bs (bif decide (List.length (s ++ s_1 ++ s_2 ++ s_3 ++ s_4 ++ s_5 ++ s_6 ++ s_7 ++ s_8 ++ s_9 ++ s_10 ++ s_11 ++ s_12 ++ s_13 ++ s_14 ++ s_15) + List.length s_16 ≤ 4611686018427387904) then onRes (F 51 [btsV (Nd.ch n)] []) fun v bs => asStr v fun s_17 => asNil bs (bif decide (List.length (s ++ s_1 ++ s_2 ++ s_3 ++ s_4 ++ s_5 ++ s_6 ++ s_7 ++ s_8 ++ s_9 ++ s_10 ++ s_11 ++ s_12 ++ s_13 ++ s_14 ++ s_15 ++ s_16) + List.length s_17 ≤ 4611686018427387904) then onRes (F 52 [vsV (Nd.vs n)] []) fun v bs => asStr v fun s_18 => asNil bs (bif decide (List.length (s ++ s_1 ++ s_2 ++ s_3 ++ s_4 ++ s_5 ++ s_6 ++ s_7 ++ s_8 ++ s_9 ++ s_10 ++ s_11 ++ s_12 ++ s_13 ++ s_14 ++ s_15 ++ s_16 ++ s_17) + List.length s_18 ≤ 4611686018427387904) then onRes (F 53 [wsV (Nd.kp n)] []) fun v bs => asStr v fun s_19 => asNil bs (bif decide (List.length (s ++ s_1 ++ s_2 ++ s_3 ++ s_4 ++ s_5 ++ s_6 ++ s_7 ++ s_8 ++ s_9 ++ s_10 ++ s_11 ++ s_12 ++ s_13 ++ s_14 ++ s_15 ++ s_16 ++ s_17 ++ s_18) + List.length s_19 ≤ 4611686018427387904) then onRes (F 47 [AV.int .i64 ((List.length (List.map shV (Nd.ss n)) : Nat) : Int)] []) fun v bs => asStr v fun s_20 => asNil bs (bif decide (List.length (s ++ s_1 ++ s_2 ++ s_3 ++ s_4 ++ s_5 ++ s_6 ++ s_7 ++ s_8 ++ s_9 ++ s_10 ++ s_11 ++ s_12 ++ s_13 ++ s_14 ++ s_15 ++ s_16 ++ s_17 ++ s_18 ++ s_19) + List.length s_20 ≤ 4611686018427387904) then loopA (bodyOf F 12 0 N) (deadOf 12 0) (contOf F 12 0 N 0) N { nt := 182, t := [(0, AV.agg (ndL n)), (1, AV.ptr 1 0 0), (2, AV.str (Array.toList (ByteArray.data { data := #[] }))), (3, AV.str (s ++ s_1 ++ s_2 ++ s_3 ++ s_4 ++ s_5 ++ s_6 ++ s_7 ++ s_8 ++ s_9 ++ s_10 ++ s_11 ++ s_12 ++ s_13 ++ s_14 ++ s_15 ++ s_16 ++ s_17 ++ s_18 ++ s_19 ++ s_20)), (4, AV.int .i64 0)], b := [(1, (ndL n))], r := [], g := [], rd := [], wr := [] } else none) else none) else none) else none) else none) else none) else none) else none) else none) else none) else none) else none) else none) else none) else none) else none) else none) else none) else none) else none)) := by kernel_rfl
def reS (n : Nd) (s : List UInt8) (i : Int) : St := ⟨182, [(0, .agg (ndL n)), (1, .ptr 1 0 0), (2, .str []), (3, .str s), (4, .int .i64 i)], [(1, ndL n)], [], [], [], []⟩
theorem head12 (k : Nat) (hk : 66200 ≤ k) (n : Nd) (hr : Rt n) (hu : UM n.ch) : runOf (W k) 12 k [.agg (ndL n)] [] = loopA (bodyOf (W k) 12 0 k) (deadOf 12 0) (contOf (W k) 12 0 k 0) k (reS n (hdB n) 0) := by
  have a1 := hr.kn.2
  have a2 := hr.sq.2
  have a3 := hr.sn.2
  have a4 := hr.sy.2
  have a5 := hr.go
  have a6 := hr.fr.2
  have a7 := hr.fn.2
  have a8 := hr.nx.2
  have a9 := hr.aq.2
  have b1 := be8_length n.kn
  have b2 := be8_length n.sq
  have b3 := be8_length n.sn
  have b4 := be8_length n.sy
  have b5 := be8_length (n.go + 1)
  have b6 := be8_length n.fr
  have b7 := be8_length n.fn
  have b8 := be8_length n.nx
  have b9 := be8_length n.aq
  have c1 := putL_le hr.ln
  have c2 := putL_le hr.al
  have c3 := putB_le hr.ch
  have c4 := volsB_le hr.vs
  have c5 := putW_le hr.kp
  rw [t12, List.length_map, x47i k (by omega) n.ro (by have := hr.ro; omega), x48 k (by omega), x48 k (by omega), x48 k (by omega), x48 k (by omega), x47i k (by omega) n.md hr.md.1, x49 k (by omega) n.kn (by omega), x49 k (by omega) n.sq (by omega), x49 k (by omega) n.sn (by omega), x49 k (by omega) n.sy (by omega), wrap_small (n := n.go + 1) (by omega) (by omega), x49 k (by omega) (n.go + 1) (by omega), x49 k (by omega) n.fr (by omega), x49 k (by omega) n.fn (by omega), x49 k (by omega) n.nx (by omega), x50 k (by omega) hr.ln, x50 k (by omega) hr.al, x49 k (by omega) n.aq (by omega), x51 k (by omega) hr.ch hu, x52 k (by omega) n.vs (by have := vOk_len hr.vs; omega), x53 k (by omega) hr.kp, x47n k (by omega) n.ss.length]
  simp (disch := omega) only [onRes, asStr, asNil, decide_eq_true, cond_true, List.length_append, List.length_cons, List.length_nil, flB_len]
  rfl
end Go.AM.YtnhfjkckgicidaaGreat

set_option linter.unusedVariables false
set_option linter.unusedSimpArgs false
namespace Go.AM.YtnhfjkckgicidaaGreat
open Go.AM Go.Proofs Go
def reT (n : Nd) (s : List UInt8) (i j : Int) (b : Bool) : St := ⟨182, [(0, .agg (ndL n)), (1, .ptr 1 0 0), (2, .str []), (3, .str s), (4, .int .i64 i), (5, .int .i64 j), (100, .bool b)], [(1, ndL n)], [], [], [], []⟩
theorem c12 (F : Fns) (N : Nat) (n : Nd) (s : List UInt8) (i j : Int) (b : Bool) (KN : St → Res) : bodyOf F 12 1 N (reT n s i j b) (brk (contOf F 12 1 N 0) KN) =
  bif decide (j < ((List.length (List.map shV (Nd.qs n)) : Nat) : Int)) then bif decide (0 ≤ j) then onOpt (List.map shV (Nd.qs n))[Int.toNat j]? fun x => asAgg x fun cs => asCons cs fun v r => asInt .i64 v fun n_1 => asCons r fun v r => asInt .i64 v fun n_2 => asCons r fun v r => asSl v fun m fl xs => asNil r (onRes (F 49 [AV.int .i64 n_1] []) fun v bs => asStr v fun s_1 => asNil bs (bif decide (List.length s + List.length s_1 ≤ 4611686018427387904) then onRes (F 49 [AV.int .i64 n_2] []) fun v bs => asStr v fun s_2 => asNil bs (bif decide (List.length (s ++ s_1) + List.length s_2 ≤ 4611686018427387904) then onRes (F 53 [AV.sl m fl xs] []) fun v bs => asStr v fun s_3 => asNil bs (bif decide (List.length (s ++ s_1 ++ s_2) + List.length s_3 ≤ 4611686018427387904) then KN { nt := 182, t := [(0, AV.agg (ndL n)), (1, AV.ptr 1 0 0), (2, AV.str []), (3, AV.str (s ++ s_1 ++ s_2 ++ s_3)), (4, AV.int .i64 i), (5, AV.int .i64 (IntKind.wrap .i64 (j + 1))), (6, AV.ptr 6 0 0), (100, AV.bool b), (144, AV.bool (decide (j < ((List.length (List.map shV (Nd.qs n)) : Nat) : Int))))], b := [(1, (ndL n)), (6, [AV.int .i64 n_1, AV.int .i64 n_2, AV.sl m fl xs])], r := [], g := [], rd := [], wr := [] } else none) else none) else none)) else none else onRes (F 53 [wsV (Nd.qo n)] []) fun v bs => asStr v fun s_1 => asNil bs (bif decide (List.length s + List.length s_1 ≤ 4611686018427387904) then onRes (F 49 [AV.int .i64 (Nd.qf n)] []) fun v bs => asStr v fun s_2 => asNil bs (bif decide (List.length (s ++ s_1) + List.length s_2 ≤ 4611686018427387904) then onRes (F 49 [AV.int .i64 (Nd.qt n)] []) fun v bs => asStr v fun s_3 => asNil bs (bif decide (List.length (s ++ s_1 ++ s_2) + List.length s_3 ≤ 4611686018427387904) then some (AV.str (s ++ s_1 ++ s_2 ++ s_3), []) else none) else none) else none) := by kernel_rfl
theorem b12 (F : Fns) (N : Nat) (n : Nd) (s : List UInt8) (i : Int) (KN : St → Res) : bodyOf F 12 0 N (reS n s i) (brk (contOf F 12 0 N 0) KN) =
  bif decide (i < ((List.length (List.map shV (Nd.ss n)) : Nat) : Int)) then bif decide (0 ≤ i) then onOpt (List.map shV (Nd.ss n))[Int.toNat i]? fun x => asAgg x fun cs => asCons cs fun v r => asInt .i64 v fun n_1 => asCons r fun v r => asInt .i64 v fun n_2 => asCons r fun v r => asSl v fun m fl xs => asNil r (onRes (F 49 [AV.int .i64 n_1] []) fun v bs => asStr v fun s_1 => asNil bs (bif decide (List.length s + List.length s_1 ≤ 4611686018427387904) then bif decide (0 ≤ i) then onOpt (List.map shV (Nd.ss n))[Int.toNat i]? fun x => asAgg x fun cs => asCons cs fun v r => asInt .i64 v fun n_3 => asCons r fun v r => asInt .i64 v fun n_4 => asCons r fun v r => asSl v fun m fl xs => asNil r (onRes (F 49 [AV.int .i64 n_4] []) fun v bs => asStr v fun s_2 => asNil bs (bif decide (List.length (s ++ s_1) + List.length s_2 ≤ 4611686018427387904) then bif decide (0 ≤ i) then onOpt (List.map shV (Nd.ss n))[Int.toNat i]? fun x => asAgg x fun cs => asCons cs fun v r => asInt .i64 v fun n_5 => asCons r fun v r => asInt .i64 v fun n_6 => asCons r fun v r => asSl v fun m fl xs => asNil r (onRes (F 53 [AV.sl m fl xs] []) fun v bs => asStr v fun s_3 => asNil bs (bif decide (List.length (s ++ s_1 ++ s_2) + List.length s_3 ≤ 4611686018427387904) then KN { nt := 182, t := [(0, AV.agg (ndL n)), (1, AV.ptr 1 0 0), (2, AV.str []), (3, AV.str (s ++ s_1 ++ s_2 ++ s_3)), (4, AV.int .i64 (IntKind.wrap .i64 (i + 1))), (100, AV.bool (decide (i < ((List.length (List.map shV (Nd.ss n)) : Nat) : Int))))], b := [(1, (ndL n))], r := [], g := [], rd := [], wr := [] } else none)) else none else none)) else none else none)) else none else onRes (F 53 [wsV (Nd.cp n)] []) fun v bs => asStr v fun s_1 => asNil bs (bif decide (List.length s + List.length s_1 ≤ 4611686018427387904) then onRes (F 54 [AV.int .i64 ((List.length (List.map shV (Nd.qs n)) : Nat) : Int)] []) fun v bs => asStr v fun s_2 => asNil bs (bif decide (List.length (s ++ s_1) + List.length s_2 ≤ 4611686018427387904) then loopA (bodyOf F 12 1 N) (deadOf 12 1) (contOf F 12 1 N 0) N { nt := 182, t := [(0, AV.agg (ndL n)), (1, AV.ptr 1 0 0), (2, AV.str []), (3, AV.str (s ++ s_1 ++ s_2)), (4, AV.int .i64 i), (5, AV.int .i64 0), (100, AV.bool (decide (i < ((List.length (List.map shV (Nd.ss n)) : Nat) : Int))))], b := [(1, (ndL n))], r := [], g := [], rd := [], wr := [] } else none) else none) := by kernel_rfl
def endB (n : Nd) : List UInt8 := putW n.qo ++ (be8 n.qf ++ be8 n.qt)
theorem sets12 (k : Nat) (hk : 70200 ≤ k) (n : Nd) (hr : Rt n) (hq : n.qs.length ≤ 70000) (i : Int) (b : Bool) (s : List UInt8) (hs : s.length ≤ 31000000000) (st : St) (hst : st.clean (deadOf 12 1) = reT n s i (0 : Nat) b) : loopA (bodyOf (W k) 12 1 k) (deadOf 12 1) (contOf (W k) 12 1 k 0) k st = some (.str (s ++ (n.qs.flatMap shB ++ endB n)), []) := by
  refine loopA_ind (fun a : Nat × List UInt8 => reT n a.2 i a.1 b) (fun a => n.qs.length - a.1) (fun a r => a.1 ≤ n.qs.length → a.2.length ≤ 31000000000 + 3000 * a.1 → r = some (.str (a.2 ++ ((n.qs.drop a.1).flatMap shB ++ endB n)), [])) (fun a m ih h0 h1 => ?_) k (0, s) st (by simp; omega) hst (by simp) (by simpa using hs)
  obtain ⟨j, t⟩ := a
  simp only at ih h0 h1 ⊢
  rw [c12, List.length_map]
  by_cases hj : j < n.qs.length
  · obtain ⟨g1, g2, g3⟩ := hr.qk _ (List.getElem_mem hj)
    have e1 := be8_length n.qs[j].1
    have e2 := be8_length n.qs[j].2.1
    have e3 := putW_le g3
    rw [getM _ _ _ hj, List.drop_eq_getElem_cons hj, wi (by omega)]
    simp only [decide_eq_true (show (j : Int) < n.qs.length by omega), decide_eq_true (show (0 : Int) ≤ j by omega), onOpt, shV, asAgg, asCons, asInt, asSl, if_true, asNil, cond_true]
    rw [x49 k (by omega) n.qs[j].1 (by have := g1.2; omega), x49 k (by omega) n.qs[j].2.1 (by have := g2.2; omega), x53 k (by omega) g3]
    simp (disch := omega) only [onRes, asStr, asNil, decide_eq_true, cond_true, List.length_append]
    refine (ih (j + 1, t ++ be8 n.qs[j].1 ++ be8 n.qs[j].2.1 ++ putW n.qs[j].2.2) _ (by simp; omega) (by kernel_rfl) (by simp; omega) (by simp only [List.length_append]; omega)).trans ?_
    simp only [List.flatMap_cons, shB, List.append_assoc]
  · have e1 := be8_length n.qf
    have e2 := be8_length n.qt
    have e3 := putW_le hr.qo
    have f1 := hr.qf.2
    have f2 := hr.qt.2
    rw [x53 k (by omega) hr.qo, x49 k (by omega) n.qf (by omega), x49 k (by omega) n.qt (by omega), decide_eq_false (show ¬ (j : Int) < n.qs.length by omega), cond_false]
    simp (disch := omega) only [onRes, asStr, asNil, decide_eq_true, cond_true, List.length_append]
    rw [List.drop_eq_nil_of_le (by omega)]
    simp only [List.flatMap_nil, List.nil_append, endB, List.append_assoc]
theorem hdB_len {n : Nd} (hr : Rt n) : (hdB n).length ≤ 30500000000 := by
  have b1 := be8_length n.kn
  have b2 := be8_length n.sq
  have b3 := be8_length n.sn
  have b4 := be8_length n.sy
  have b5 := be8_length (n.go + 1)
  have b6 := be8_length n.fr
  have b7 := be8_length n.fn
  have b8 := be8_length n.nx
  have b9 := be8_length n.aq
  have c1 := putL_le hr.ln
  have c2 := putL_le hr.al
  have c3 := putB_le hr.ch
  have c4 := volsB_le hr.vs
  have c5 := putW_le hr.kp
  have d1 : (flB n.st).length = 1 := rfl
  have d2 : (flB n.va).length = 1 := rfl
  have d3 : (flB n.sh).length = 1 := rfl
  have d4 : (flB n.fu).length = 1 := rfl
  have d5 : ∀ x : UInt8, [x].length = 1 := fun _ => rfl
  unfold hdB
  generalize be8 n.kn = x1 at *
  generalize be8 n.sq = x2 at *
  generalize be8 n.sn = x3 at *
  generalize be8 n.sy = x4 at *
  generalize be8 (n.go + 1) = x5 at *
  generalize be8 n.fr = x6 at *
  generalize be8 n.fn = x7 at *
  generalize be8 n.nx = x8 at *
  generalize be8 n.aq = x9 at *
  generalize putL n.ln = y1 at *
  generalize putL n.al = y2 at *
  generalize putB n.ch = y3 at *
  generalize volsB n.vs = y4 at *
  generalize putW n.kp = y5 at *
  generalize flB n.st = z1 at *
  generalize flB n.va = z2 at *
  generalize flB n.sh = z3 at *
  generalize flB n.fu = z4 at *
  simp only [List.length_append, d5]
  omega
theorem x12 (k : Nat) (hk : 70300 ≤ k) (n : Nd) (hr : Rt n) (hu : UM n.ch) (hq : n.qs.length ≤ 70000) : W k 12 [.agg (ndL n)] [] = some (.str (nodeB n), []) := by
  obtain ⟨k, rfl⟩ := succ1 (show 1 ≤ k by omega)
  refine (W_tree0 (head12 k (by omega) n hr hu) (by kernel_rfl)).trans ?_
  have hs := hr.ss
  refine loopA_ind (fun a : Nat × List UInt8 => reS n a.2 a.1) (fun a => n.ss.length - a.1) (fun a r => a.1 ≤ n.ss.length → a.2.length ≤ 30500000000 + 3000 * a.1 → a.2 ++ (n.ss.drop a.1).flatMap shB = hdB n ++ n.ss.flatMap shB → r = some (.str (nodeB n), [])) (fun a m ih h0 h1 h2 => ?_) k (0, hdB n) _ (by simp; omega) (by kernel_rfl) (by simp) (by simpa using hdB_len hr) rfl
  obtain ⟨i, t⟩ := a
  simp only at ih h0 h1 h2 ⊢
  rw [b12, List.length_map]
  by_cases hi : i < n.ss.length
  · obtain ⟨g1, g2, g3⟩ := hr.sk _ (List.getElem_mem hi)
    have e1 := be8_length n.ss[i].1
    have e2 := be8_length n.ss[i].2.1
    have e3 := putW_le g3
    rw [List.drop_eq_getElem_cons hi] at h2
    rw [getM _ _ _ hi, wi (by omega)]
    simp only [decide_eq_true (show (i : Int) < n.ss.length by omega), decide_eq_true (show (0 : Int) ≤ i by omega), onOpt, shV, asAgg, asCons, asInt, asSl, if_true, asNil, cond_true]
    rw [x49 k (by omega) n.ss[i].1 (by have := g1.2; omega), x49 k (by omega) n.ss[i].2.1 (by have := g2.2; omega), x53 k (by omega) g3]
    simp (disch := omega) only [onRes, asStr, asNil, decide_eq_true, cond_true, List.length_append]
    refine ih (i + 1, t ++ be8 n.ss[i].1 ++ be8 n.ss[i].2.1 ++ putW n.ss[i].2.2) _ (by simp; omega) (by kernel_rfl) (by simp; omega) (by simp only [List.length_append]; omega) ?_
    rw [← h2]
    simp only [List.flatMap_cons, shB, List.append_assoc]
  · have e3 := putW_le hr.cp
    rw [List.drop_eq_nil_of_le (by omega), List.flatMap_nil, List.append_nil] at h2
    rw [x53 k (by omega) hr.cp, List.length_map, x54 k (by omega) n.qs.length (by omega), decide_eq_false (show ¬ (i : Int) < n.ss.length by omega), cond_false]
    simp (disch := omega) only [onRes, asStr, asNil, decide_eq_true, cond_true, List.length_append, be2_len]
    refine (sets12 k (by omega) n hr hq i false (t ++ putW n.cp ++ be 2 n.qs.length) (by simp only [List.length_append, be2_len]; omega) _ (by kernel_rfl)).trans ?_
    rw [h2, nodeB]
    simp only [endB, List.append_assoc]
end Go.AM.YtnhfjkckgicidaaGreat

set_option linter.unusedVariables false
set_option linter.unusedSimpArgs false
namespace Go.AM.YtnhfjkckgicidaaGreat
open Go.AM Go.Proofs Go
theorem x24 (k : Nat) (hk : 1200 ≤ k) {l : List (Int × Int)} (h : bOk l = true) (hu : UM l) : W k 24 [btsV l] [] = some (.tup [.str (putB l), .int .i64 0], []) := by
  have := bOk_length h
  have e := e53' k (v := btsV l) (.inl ⟨false, rfl⟩) hu (by omega) (by omega)
  rw [if_pos h] at e
  exact W_old0 e (by omega) (by kernel_rfl)
theorem t9 (F : Fns) (N : Nat) (n : Nd) : runOf F 9 N [.agg (ndL n)] [] =
  onRes (F 22 [AV.agg (ndL n)] []) fun v bs => asBool v fun b => asNil bs (bif !b then some (AV.tup [AV.str [], AV.int .i64 1], []) else onRes (F 23 [AV.int .i64 ((List.length (List.map shV (Nd.qs n)) : Nat) : Int), AV.int .i64 2] []) fun v bs => asTup v fun cs => asCons cs fun v r => asStr v fun s => asCons r fun v r => asInt .i64 v fun n_1 => asNil r (asNil bs (bif n_1 != 0 then some (AV.tup [AV.str [], AV.int .i64 5], []) else onRes (F 24 [btsV (Nd.ch n)] []) fun v bs => asTup v fun cs => asCons cs fun v r => asStr v fun s_1 => asCons r fun v r => asInt .i64 v fun n_2 => asNil r (asNil bs (onRes (F 25 [AV.bool (Nd.st n)] []) fun v bs => asInt .u8 v fun n_3 => asNil bs (onRes (F 25 [AV.bool (Nd.va n)] []) fun v bs => asInt .u8 v fun n_4 => asNil bs (onRes (F 25 [AV.bool (Nd.sh n)] []) fun v bs => asInt .u8 v fun n_5 => asNil bs (onRes (F 25 [AV.bool (Nd.fu n)] []) fun v bs => asInt .u8 v fun n_6 => asNil bs (onRes (F 26 [AV.sl 1 true [AV.int .i64 (Nd.kn n), AV.int .i64 (Nd.sq n), AV.int .i64 (Nd.sn n), AV.int .i64 (Nd.sy n), AV.int .i64 (IntKind.wrap .i64 (Nd.go n + 1)), AV.int .i64 (Nd.fr n), AV.int .i64 (Nd.fn n), AV.int .i64 (Nd.nx n)]] []) fun v bs => asStr v fun s_2 => asNil bs (onRes (F 27 [lnV (Nd.ln n)] []) fun v bs => asStr v fun s_3 => asNil bs (bif decide (List.length s_2 + List.length s_3 ≤ 4611686018427387904) then onRes (F 27 [lnV (Nd.al n)] []) fun v bs => asStr v fun s_4 => asNil bs (bif decide (List.length (s_2 ++ s_3) + List.length s_4 ≤ 4611686018427387904) then onRes (F 26 [AV.sl 1 true [AV.int .i64 (Nd.aq n)]] []) fun v bs => asStr v fun s_5 => asNil bs (bif decide (List.length (s_2 ++ s_3 ++ s_4) + List.length s_5 ≤ 4611686018427387904) then bif decide (List.length (s_2 ++ s_3 ++ s_4 ++ s_5) + List.length s_1 ≤ 4611686018427387904) then onRes (F 28 [vsV (Nd.vs n)] []) fun v bs => asStr v fun s_6 => asNil bs (bif decide (List.length (s_2 ++ s_3 ++ s_4 ++ s_5 ++ s_1) + List.length s_6 ≤ 4611686018427387904) then onRes (F 29 [wsV (Nd.kp n)] []) fun v bs => asStr v fun s_7 => asNil bs (bif decide (List.length (s_2 ++ s_3 ++ s_4 ++ s_5 ++ s_1 ++ s_6) + List.length s_7 ≤ 4611686018427387904) then bif decide (List.length [UInt8.ofNat (Int.toNat (IntKind.wrap .u8 (Nd.ro n))), UInt8.ofNat (Int.toNat n_3), UInt8.ofNat (Int.toNat n_4), UInt8.ofNat (Int.toNat n_5), UInt8.ofNat (Int.toNat n_6), UInt8.ofNat (Int.toNat (IntKind.wrap .u8 (Nd.md n)))] + List.length (s_2 ++ s_3 ++ s_4 ++ s_5 ++ s_1 ++ s_6 ++ s_7) ≤ 4611686018427387904) then bif decide (List.length ([UInt8.ofNat (Int.toNat (IntKind.wrap .u8 (Nd.ro n))), UInt8.ofNat (Int.toNat n_3), UInt8.ofNat (Int.toNat n_4), UInt8.ofNat (Int.toNat n_5), UInt8.ofNat (Int.toNat n_6), UInt8.ofNat (Int.toNat (IntKind.wrap .u8 (Nd.md n)))] ++ (s_2 ++ s_3 ++ s_4 ++ s_5 ++ s_1 ++ s_6 ++ s_7)) + List.length [UInt8.ofNat (Int.toNat (IntKind.wrap .u8 ((List.length (List.map shV (Nd.ss n)) : Nat) : Int)))] ≤ 4611686018427387904) then loopA (bodyOf F 9 0 N) (deadOf 9 0) (contOf F 9 0 N 0) N { nt := 172, t := [(0, AV.agg (ndL n)), (1, AV.ptr 1 0 0), (2, AV.str (Array.toList (ByteArray.data { data := #[] }))), (3, AV.int .i64 0), (4, AV.str s), (5, AV.int .i64 n_1), (6, AV.str s_1), (8, AV.str ([UInt8.ofNat (Int.toNat (IntKind.wrap .u8 (Nd.ro n))), UInt8.ofNat (Int.toNat n_3), UInt8.ofNat (Int.toNat n_4), UInt8.ofNat (Int.toNat n_5), UInt8.ofNat (Int.toNat n_6), UInt8.ofNat (Int.toNat (IntKind.wrap .u8 (Nd.md n)))] ++ (s_2 ++ s_3 ++ s_4 ++ s_5 ++ s_1 ++ s_6 ++ s_7) ++ [UInt8.ofNat (Int.toNat (IntKind.wrap .u8 ((List.length (List.map shV (Nd.ss n)) : Nat) : Int)))])), (16, AV.bool !b), (26, AV.bool (n_1 != 0)), (108, shsV (Nd.ss n)), (109, AV.int .i64 ((List.length (List.map shV (Nd.ss n)) : Nat) : Int)), (110, AV.int .i64 0)], b := [(1, (ndL n))], r := [], g := [], rd := [], wr := [] } else none else none else none) else none) else none else none) else none) else none))))))))))) := by kernel_rfl
def enS (n : Nd) (s p q : List UInt8) (i : Int) : St := ⟨172, [(0, .agg (ndL n)), (1, .ptr 1 0 0), (2, .str []), (3, .int .i64 0), (4, .str p), (5, .int .i64 0), (6, .str q), (8, .str s), (16, .bool false), (26, .bool false), (108, shsV n.ss), (109, .int .i64 ((List.length (List.map shV n.ss) : Nat) : Int)), (110, .int .i64 i)], [(1, ndL n)], [], [], [], []⟩
theorem flag_byte (b : Bool) : UInt8.ofNat (Int.toNat (bif b then (1 : Int) else 0)) = (if b then 1 else 0) := by cases b <;> rfl
theorem u8_byte {z : Int} (h : 0 ≤ z) : UInt8.ofNat (Int.toNat (IntKind.wrap .u8 z)) = UInt8.ofNat z.toNat := by
  have := byte_wrap z.toNat
  rwa [show ((z.toNat : Nat) : Int) = z by omega] at this
theorem bad9 (k : Nat) (hk : 70600 ≤ k) (n : Nd) (hb : NdB n) (h : nodeOk n = false) : W k 9 [.agg (ndL n)] [] = some (.tup [.str [], .int .i64 1], []) := by
  obtain ⟨k, rfl⟩ := succ1 (show 1 ≤ k by omega)
  rw [W_tree0 (t9 (W k) k n) (by kernel_rfl), x22 k (by omega) n hb, h]
  rfl
theorem hdj (x1 x2 x3 x4 x5 x6 z : UInt8) (a b c d e f g h l m q p v w : List UInt8) : ([x1, x2, x3, x4, x5, x6] ++ (a ++ (b ++ (c ++ (d ++ (e ++ (f ++ (g ++ h)))))) ++ l ++ m ++ q ++ p ++ v ++ w) ++ [z]) = [x1] ++ [x2] ++ [x3] ++ [x4] ++ [x5] ++ [x6] ++ a ++ b ++ c ++ d ++ e ++ f ++ g ++ h ++ l ++ m ++ q ++ p ++ v ++ w ++ [z] := by simp
theorem q_on {r X : Res} {v : AV} {bs : Boxes} {K : AV → Boxes → Res} (h : r = some (v, bs)) (hk : K v bs = X) : onRes r K = X := by rw [h]; exact hk
theorem q_tup {X : Res} {l : List AV} {K : List AV → Res} (hk : K l = X) : asTup (.tup l) K = X := hk
theorem q_cons {α : Type} {X : Res} {v : α} {l : List α} {K : α → List α → Res} (hk : K v l = X) : asCons (v :: l) K = X := hk
theorem q_nil {α : Type} {X K : Res} (hk : K = X) : asNil ([] : List α) K = X := hk
theorem q_str {X : Res} {l : List UInt8} {K : List UInt8 → Res} (hk : K l = X) : asStr (.str l) K = X := hk
theorem q_bool {X : Res} {b : Bool} {K : Bool → Res} (hk : K b = X) : asBool (.bool b) K = X := hk
theorem q_int {X : Res} {k : IntKind} {n : Int} {K : Int → Res} (hk : K n = X) : asInt k (.int k n) K = X := by simp only [asInt, if_true]; exact hk
theorem q_agg {X : Res} {l : List AV} {K : List AV → Res} (hk : K l = X) : asAgg (.agg l) K = X := hk
theorem q_sl {X : Res} {s : Nat} {f : Bool} {xs : List AV} {K : Nat → Bool → List AV → Res} (hk : K s f xs = X) : asSl (.sl s f xs) K = X := hk
theorem q_opt {α : Type} {X : Res} {x : Option α} {v : α} {K : α → Res} (h : x = some v) (hk : K v = X) : onOpt x K = X := by rw [h]; exact hk
theorem q_yes {X A B : Res} {b : Bool} (h : b = true) (hk : A = X) : (bif b then A else B) = X := by rw [h]; exact hk
theorem q_no {X A B : Res} {b : Bool} (h : b = false) (hk : B = X) : (bif b then A else B) = X := by rw [h]; exact hk
theorem fm8 (p : Int → List UInt8) (a b c d e f g h : Int) : [a, b, c, d, e, f, g, h].flatMap p = p a ++ (p b ++ (p c ++ (p d ++ (p e ++ (p f ++ (p g ++ p h)))))) := by simp
theorem fm1 (p : Int → List UInt8) (a : Int) : [a].flatMap p = p a := by simp
theorem head9 (k : Nat) (hk : 70600 ≤ k) (n : Nd) (hb : NdB n) (hok : nodeOk n = true) (hq : n.qs.length ≤ 65535) : runOf (W k) 9 k [.agg (ndL n)] [] = loopA (bodyOf (W k) 9 0 k) (deadOf 9 0) (contOf (W k) 9 0 k 0) k (enS n (hdB n) (be 2 n.qs.length) (putB n.ch) 0) := by
  have hr := rt_of hok hb.cp
  have hu := hb.um
  have a1 := hr.kn.2
  have a2 := hr.sq.2
  have a3 := hr.sn.2
  have a4 := hr.sy.2
  have a5 := hr.go
  have a6 := hr.fr.2
  have a7 := hr.fn.2
  have a8 := hr.nx.2
  have a9 := hr.aq.2
  have b1 := be8_length n.kn
  have b2 := be8_length n.sq
  have b3 := be8_length n.sn
  have b4 := be8_length n.sy
  have b5 := be8_length (n.go + 1)
  have b6 := be8_length n.fr
  have b7 := be8_length n.fn
  have b8 := be8_length n.nx
  have b9 := be8_length n.aq
  have c1 := putL_le hr.ln
  have c2 := putL_le hr.al
  have c3 := putB_le hr.ch
  have c4 := volsB_le hr.vs
  have c5 := putW_le hr.kp
  have l1 := lined_sm hr.ln
  have l2 := lined_sm hr.al
  have h26 := W_arg (x26 k [n.kn, n.sq, n.sn, n.sy, n.go + 1, n.fr, n.fn, n.nx] (by omega) (by simp; omega) (by simp)) (vs := [AV.sl 1 true [AV.int .i64 n.kn, AV.int .i64 n.sq, AV.int .i64 n.sn, AV.int .i64 n.sy, AV.int .i64 (n.go + 1), AV.int .i64 n.fr, AV.int .i64 n.fn, AV.int .i64 n.nx]]) (by kernel_rfl)
  rw [fm8] at h26
  have h26b := W_arg (x26 k [n.aq] (by omega) (by simp; omega) (by simp)) (vs := [AV.sl 1 true [AV.int .i64 n.aq]]) (by kernel_rfl)
  rw [fm1] at h26b
  rw [t9]
  generalize loopA (bodyOf (W k) 9 0 k) (deadOf 9 0) (contOf (W k) 9 0 k 0) k = L
  refine q_on (x22 k (by omega) n hb) ?_
  rw [hok]
  repeat first | with_reducible refine q_tup ?_ | with_reducible refine q_cons ?_ | with_reducible refine q_nil ?_ | with_reducible refine q_str ?_ | with_reducible refine q_bool ?_ | with_reducible refine q_int ?_ | with_reducible refine q_agg ?_ | with_reducible refine q_sl ?_
  refine q_no rfl ?_
  rw [List.length_map]
  refine q_on (x23 k (by omega) n.qs.length hq) ?_
  repeat first | with_reducible refine q_tup ?_ | with_reducible refine q_cons ?_ | with_reducible refine q_nil ?_ | with_reducible refine q_str ?_ | with_reducible refine q_bool ?_ | with_reducible refine q_int ?_ | with_reducible refine q_agg ?_ | with_reducible refine q_sl ?_
  refine q_no rfl ?_
  refine q_on (x24 k (by omega) hr.ch hu) ?_
  repeat first | with_reducible refine q_tup ?_ | with_reducible refine q_cons ?_ | with_reducible refine q_nil ?_ | with_reducible refine q_str ?_ | with_reducible refine q_bool ?_ | with_reducible refine q_int ?_ | with_reducible refine q_agg ?_ | with_reducible refine q_sl ?_
  refine q_on (x25 k (by omega) _) ?_
  repeat first | with_reducible refine q_tup ?_ | with_reducible refine q_cons ?_ | with_reducible refine q_nil ?_ | with_reducible refine q_str ?_ | with_reducible refine q_bool ?_ | with_reducible refine q_int ?_ | with_reducible refine q_agg ?_ | with_reducible refine q_sl ?_
  refine q_on (x25 k (by omega) _) ?_
  repeat first | with_reducible refine q_tup ?_ | with_reducible refine q_cons ?_ | with_reducible refine q_nil ?_ | with_reducible refine q_str ?_ | with_reducible refine q_bool ?_ | with_reducible refine q_int ?_ | with_reducible refine q_agg ?_ | with_reducible refine q_sl ?_
  refine q_on (x25 k (by omega) _) ?_
  repeat first | with_reducible refine q_tup ?_ | with_reducible refine q_cons ?_ | with_reducible refine q_nil ?_ | with_reducible refine q_str ?_ | with_reducible refine q_bool ?_ | with_reducible refine q_int ?_ | with_reducible refine q_agg ?_ | with_reducible refine q_sl ?_
  refine q_on (x25 k (by omega) _) ?_
  repeat first | with_reducible refine q_tup ?_ | with_reducible refine q_cons ?_ | with_reducible refine q_nil ?_ | with_reducible refine q_str ?_ | with_reducible refine q_bool ?_ | with_reducible refine q_int ?_ | with_reducible refine q_agg ?_ | with_reducible refine q_sl ?_
  rw [wrap_small (n := n.go + 1) (by omega) (by omega)]
  refine q_on h26 ?_
  repeat first | with_reducible refine q_tup ?_ | with_reducible refine q_cons ?_ | with_reducible refine q_nil ?_ | with_reducible refine q_str ?_ | with_reducible refine q_bool ?_ | with_reducible refine q_int ?_ | with_reducible refine q_agg ?_ | with_reducible refine q_sl ?_
  refine q_on (x27 k n.ln (by omega) l1.1 (by omega) hr.ln) ?_
  repeat first | with_reducible refine q_tup ?_ | with_reducible refine q_cons ?_ | with_reducible refine q_nil ?_ | with_reducible refine q_str ?_ | with_reducible refine q_bool ?_ | with_reducible refine q_int ?_ | with_reducible refine q_agg ?_ | with_reducible refine q_sl ?_
  refine q_yes (decide_eq_true (by first | omega | (simp only [List.length_append, List.length_cons, List.length_nil, List.length_map]; omega))) ?_
  refine q_on (x27 k n.al (by omega) l2.1 (by omega) hr.al) ?_
  repeat first | with_reducible refine q_tup ?_ | with_reducible refine q_cons ?_ | with_reducible refine q_nil ?_ | with_reducible refine q_str ?_ | with_reducible refine q_bool ?_ | with_reducible refine q_int ?_ | with_reducible refine q_agg ?_ | with_reducible refine q_sl ?_
  refine q_yes (decide_eq_true (by first | omega | (simp only [List.length_append, List.length_cons, List.length_nil, List.length_map]; omega))) ?_
  refine q_on h26b ?_
  repeat first | with_reducible refine q_tup ?_ | with_reducible refine q_cons ?_ | with_reducible refine q_nil ?_ | with_reducible refine q_str ?_ | with_reducible refine q_bool ?_ | with_reducible refine q_int ?_ | with_reducible refine q_agg ?_ | with_reducible refine q_sl ?_
  refine q_yes (decide_eq_true (by first | omega | (simp only [List.length_append, List.length_cons, List.length_nil, List.length_map]; omega))) ?_
  refine q_yes (decide_eq_true (by first | omega | (simp only [List.length_append, List.length_cons, List.length_nil, List.length_map]; omega))) ?_
  refine q_on (x28 k (by omega) n.vs (by have := vOk_len hr.vs; omega)) ?_
  repeat first | with_reducible refine q_tup ?_ | with_reducible refine q_cons ?_ | with_reducible refine q_nil ?_ | with_reducible refine q_str ?_ | with_reducible refine q_bool ?_ | with_reducible refine q_int ?_ | with_reducible refine q_agg ?_ | with_reducible refine q_sl ?_
  refine q_yes (decide_eq_true (by first | omega | (simp only [List.length_append, List.length_cons, List.length_nil, List.length_map]; omega))) ?_
  refine q_on (x29 k n.kp (by omega) hb.kp hr.kp) ?_
  repeat first | with_reducible refine q_tup ?_ | with_reducible refine q_cons ?_ | with_reducible refine q_nil ?_ | with_reducible refine q_str ?_ | with_reducible refine q_bool ?_ | with_reducible refine q_int ?_ | with_reducible refine q_agg ?_ | with_reducible refine q_sl ?_
  refine q_yes (decide_eq_true (by first | omega | (simp only [List.length_append, List.length_cons, List.length_nil, List.length_map]; omega))) ?_
  refine q_yes (decide_eq_true (by first | omega | (simp only [List.length_append, List.length_cons, List.length_nil, List.length_map]; omega))) ?_
  refine q_yes (decide_eq_true (by first | omega | (simp only [List.length_append, List.length_cons, List.length_nil, List.length_map]; omega))) ?_
  rw [u8_byte (show 0 ≤ n.ro by have := hr.ro; omega), u8_byte hr.md.1, byte_wrap, flag_byte, flag_byte, flag_byte, flag_byte]
  have e := hdj (UInt8.ofNat n.ro.toNat) (if n.st then 1 else 0) (if n.va then 1 else 0) (if n.sh then 1 else 0) (if n.fu then 1 else 0) (UInt8.ofNat n.md.toNat) (UInt8.ofNat n.ss.length) (be8 n.kn) (be8 n.sq) (be8 n.sn) (be8 n.sy) (be8 (n.go + 1)) (be8 n.fr) (be8 n.fn) (be8 n.nx) (putL n.ln) (putL n.al) (be8 n.aq) (putB n.ch) (volsB n.vs) (putW n.kp)
  have e' : hdB n = _ := e.symm
  rw [e', enS, List.length_map]
  rfl
end Go.AM.YtnhfjkckgicidaaGreat

set_option linter.unusedVariables false
set_option linter.unusedSimpArgs false
namespace Go.AM.YtnhfjkckgicidaaGreat
open Go.AM Go.Proofs Go
theorem bt1_put (b : Int × Int) (t : List UInt8) (h : 1 ≤ b.1 ∧ b.1 ≤ 255 ∧ b.2 ≠ 0 ∧ b.2 < 4294967296) (h0 : 0 ≤ b.2) : bt1 (btB b ++ t) = b := by
  obtain ⟨v, m⟩ := b
  simp only at h h0
  obtain ⟨v, rfl⟩ : ∃ n : Nat, v = n := ⟨v.toNat, by omega⟩
  obtain ⟨m, rfl⟩ : ∃ n : Nat, m = n := ⟨m.toNat, by omega⟩
  have hl : (be 4 m).length = 4 := be_length 4 m
  have e1 : (btB ((v : Int), (m : Int)) ++ t) = UInt8.ofNat v :: (be 4 m ++ t) := by
    rw [btB, Int.toNat_natCast, Int.toNat_natCast, List.cons_append]
  rw [e1, bt1]
  have e2 : ((UInt8.ofNat v :: (be 4 m ++ t)).drop 1).take 4 = be 4 m := by
    rw [List.drop_succ_cons, List.drop_zero, List.take_append_of_le_length (by omega), List.take_of_length_le (by omega)]
  rw [e2, unbe_be, Nat.zero_mul, Nat.zero_add, Nat.mod_eq_of_lt (by omega)]
  have e3 : ((UInt8.ofNat v :: (be 4 m ++ t)).getD 0 0).toNat = v := by
    rw [List.getD_cons_zero]
    simp
    omega
  rw [e3]
theorem bts_put : ∀ (l : List (Int × Int)) (t : List UInt8), (∀ b ∈ l, 1 ≤ b.1 ∧ b.1 ≤ 255 ∧ b.2 ≠ 0 ∧ b.2 < 4294967296) → UM l → bts l.length (l.flatMap btB ++ t) = l ∧ (l.flatMap btB ++ t).drop (5 * l.length) = t ∧ 5 * l.length ≤ (l.flatMap btB ++ t).length
  | [], t, _, _ => ⟨rfl, rfl, by simp⟩
  | b :: r, t, hp, hu => by
    have hl := btB_length b
    obtain ⟨h1, h2, h3⟩ := bts_put r t (fun c hc => hp c (List.mem_cons_of_mem _ hc)) (fun c hc => hu c (List.mem_cons_of_mem _ hc))
    have hd : (btB b ++ (r.flatMap btB ++ t)).drop 5 = r.flatMap btB ++ t := by
      rw [List.drop_append_of_le_length (by omega), List.drop_eq_nil_of_le (by omega), List.nil_append]
    rw [List.flatMap_cons, List.append_assoc, List.length_cons, bts, hd, h1, bt1_put b _ (hp b (List.mem_cons_self ..)) (hu b (List.mem_cons_self ..)).1]
    refine ⟨rfl, ?_, ?_⟩
    · rw [show 5 * (r.length + 1) = 5 + 5 * r.length by omega, ← List.drop_drop, hd, h2]
    · rw [List.length_append]
      omega
theorem parseB_put (l : List (Int × Int)) (t : List UInt8) (hok : bOk l = true) (hu : UM l) : parseB (putB l ++ t) = some (l, t) := by
  have hl := bOk_length hok
  have hp := bitsOk_parts l 0 (by omega) hok
  obtain ⟨h1, h2, h3⟩ := bts_put l t hp hu
  have e : putB l ++ t = be 1 l.length ++ (l.flatMap btB ++ t) := by
    rw [be1 _ (by omega), putB, List.cons_append, List.singleton_append]
  unfold parseB
  rw [e, num_be 1 _ _ (by omega) (by omega)]
  simp only
  rw [if_neg (by omega), h1, h2, if_pos hok]
def txts : Nat → List UInt8 → Option (List (List UInt8) × List UInt8)
  | 0, s => some ([], s)
  | n + 1, s => match takeT s with
    | none => none
    | some (t, s1) => match txts n s1 with
      | none => none
      | some (l, s2) => some (t :: l, s2)
def items (s : List UInt8) : Option (List (List UInt8) × List UInt8) := match num 2 s with
  | none => none
  | some (n, s1) => txts n s1
theorem txts_put : ∀ (l : List (List UInt8)) (b t : List UInt8), lst l = some b → txts l.length (b ++ t) = some (l, t)
  | [], b, t, h => by
    simp only [lst, Option.some.injEq] at h
    subst h
    rfl
  | s :: r, b, t, h => by
    rw [lst] at h
    split at h
    · simp at h
    · rename_i h1
      cases hr : lst r with
      | none => rw [hr] at h; simp at h
      | some c =>
        rw [hr] at h
        simp only [Option.map_some, Option.some.injEq] at h
        subst h
        have := txts_put r c t hr
        rw [List.length_cons, txts, List.append_assoc (be 2 s.length ++ s), takeT_put s _ (by omega)]
        simp only
        rw [this]
theorem items_put (l : List (List UInt8)) (b t : List UInt8) (hl : l.length ≤ 65535) (h : lst l = some b) : items (be 2 l.length ++ b ++ t) = some (l, t) := by
  unfold items
  rw [List.append_assoc, num_be 2 l.length _ (by omega) (by omega)]
  exact txts_put l b t h
end Go.AM.YtnhfjkckgicidaaGreat

set_option linter.unusedVariables false
set_option linter.unusedSimpArgs false
namespace Go.AM.YtnhfjkckgicidaaGreat
open Go.AM Go.Proofs Go
abbrev Rd := List UInt8 × Bool
def stp {α : Type} (x : Option (α × List UInt8)) (z : α) (r : Rd) : α × Rd := if r.2 then (z, r) else match x with
  | none => (z, (r.1, true))
  | some (v, t) => (v, (t, false))
theorem stp_put {α : Type} {x : Option (α × List UInt8)} {z v : α} {s t : List UInt8} (h : x = some (v, t)) : stp x z (s, false) = (v, (t, false)) := by
  subst h
  rfl
def nuR (w : Nat) (r : Rd) : Nat × Rd := stp (num w r.1) 0 r
def flR (r : Rd) : Bool × Rd := (decide ((nuR 1 r).1 = 1), ((nuR 1 r).2.1, (nuR 1 r).2.2 || decide ((nuR 1 r).1 > 1)))
def liR (r : Rd) : List (Int × Int) × Rd := stp (takeL r.1) [] r
def wrR (r : Rd) : List Wr × Rd := stp (takeW r.1) [] r
def itR (r : Rd) : List (List UInt8) × Rd := stp (items r.1) [] r
def btR (r : Rd) : List (Int × Int) × Rd := stp (parseB r.1) [] r
def voR : Nat → Rd → List Vol × Rd
  | 0, r => ([], r)
  | n + 1, r => (((((nuR 1 r).1 : Nat) : Int), (itR (nuR 1 r).2).1) :: (voR n (itR (nuR 1 r).2).2).1, (voR n (itR (nuR 1 r).2).2).2)
def vsR (r : Rd) : List Vol × Rd := voR (nuR 1 r).1 (nuR 1 r).2
def s1R (r : Rd) : Shot × Rd := (((((nuR 8 r).1 : Nat) : Int), (((nuR 8 (nuR 8 r).2).1 : Nat) : Int), (wrR (nuR 8 (nuR 8 r).2).2).1), (wrR (nuR 8 (nuR 8 r).2).2).2)
def shR : Nat → Rd → List Shot × Rd
  | 0, r => ([], r)
  | n + 1, r => ((s1R r).1 :: (shR n (s1R r).2).1, (shR n (s1R r).2).2)
def seR : Nat → Rd → List Shot × Rd
  | 0, r => ([], r)
  | n + 1, r => if (s1R r).2.2 then ([(s1R r).1], (s1R r).2) else ((s1R r).1 :: (seR n (s1R r).2).1, (seR n (s1R r).2).2)
theorem listE_some {l : List (List UInt8)} {b : List UInt8} (hl : l.length ≤ 65535) (h : lst l = some b) : (listE l).1 = be 2 l.length ++ b := by
  rw [listE, if_neg (by omega), h]
def Sk (s : Shot) : Prop := 0 ≤ s.1 ∧ s.1 < 9223372036854775808 ∧ 0 ≤ s.2.1 ∧ s.2.1 < 9223372036854775808 ∧ wOk s.2.2 = true
theorem nu_put (w n : Nat) (t : List UInt8) (h : n < 256 ^ w) (h2 : n < 9223372036854775808) : nuR w (be w n ++ t, false) = (n, (t, false)) := stp_put (num_be w n t h h2)
theorem nu_put1 (z : Int) (t : List UInt8) (h : 0 ≤ z ∧ z < 256) : nuR 1 (UInt8.ofNat z.toNat :: t, false) = (z.toNat, (t, false)) := by
  have := nu_put 1 z.toNat t (by omega) (by omega)
  rw [be1 _ (by omega)] at this
  exact this
theorem nu_put8 (z : Int) (t : List UInt8) (h : 0 ≤ z) (h2 : z < 9223372036854775808) : nuR 8 (be8 z ++ t, false) = (z.toNat, (t, false)) := by
  have := nu_put 8 z.toNat t (by omega) (by omega)
  rwa [← be8_nat _ (by omega), Int.toNat_of_nonneg h] at this
theorem fl_put (b : Bool) (t : List UInt8) : flR (flB b ++ t, false) = (b, (t, false)) := by
  have h : nuR 1 (flB b ++ t, false) = (if b then 1 else 0, (t, false)) := by
    have := nu_put 1 (if b then 1 else 0) t (by split <;> omega) (by split <;> omega)
    rw [be1 _ (by split <;> omega)] at this
    cases b <;> exact this
  unfold flR
  rw [h]
  cases b <;> rfl
theorem li_put (l : List (Int × Int)) (t : List UInt8) (h : lined l = true) : liR (putL l ++ t, false) = (l, (t, false)) := stp_put (takeL_put l t h)
theorem wr_put (l : List Wr) (t : List UInt8) (h : wOk l = true) : wrR (putW l ++ t, false) = (l, (t, false)) := stp_put (takeW_put l t h)
theorem bt_put (l : List (Int × Int)) (t : List UInt8) (h : bOk l = true) (hu : UM l) : btR (putB l ++ t, false) = (l, (t, false)) := stp_put (parseB_put l t h hu)
theorem it_put (l : List (List UInt8)) (b t : List UInt8) (hl : l.length ≤ 65535) (h : lst l = some b) : itR ((listE l).1 ++ t, false) = (l, (t, false)) := by
  rw [listE_some hl h]
  exact stp_put (items_put l b t hl h)
theorem lst_short : ∀ (l : List (List UInt8)), l.any longB = false → ∃ b, lst l = some b
  | [], _ => ⟨[], rfl⟩
  | s :: r, h => by
    rw [List.any_cons, Bool.or_eq_false_iff] at h
    obtain ⟨b, hb⟩ := lst_short r h.2
    have h1 := h.1
    rw [longB, decide_eq_false_iff_not] at h1
    exact ⟨_, by rw [lst, if_neg (by omega), hb]; rfl⟩
def Vk (v : Vol) : Prop := 0 ≤ v.1 ∧ v.1 ≤ 255 ∧ v.2.length ≤ 65535 ∧ ∃ b, lst v.2 = some b
theorem vsOk_k : ∀ (l : List Vol) (z : Int), 0 ≤ z → vsOk z l = true → ∀ v ∈ l, Vk v
  | [], z, _, _ => by simp
  | v :: r, z, hz, h => by
    rw [vsOk, Bool.and_eq_true, Bool.and_eq_true, decide_eq_true_eq] at h
    obtain ⟨⟨h1, h2, h3, h4⟩, h5, h6⟩ := h
    intro u hu
    rcases List.mem_cons.1 hu with rfl | hu
    · exact ⟨by omega, h2, by omega, lst_short _ (by simpa using h5)⟩
    · exact vsOk_k r v.1 (by omega) h6 u hu
theorem vOk_k {l : List Vol} (h : vOk l = true) : l.length ≤ 4 ∧ ∀ v ∈ l, Vk v := by
  rw [vOk, Bool.and_eq_true, decide_eq_true_eq] at h
  exact ⟨h.1, vsOk_k l 0 (by omega) h.2⟩
theorem vB_cons (v : Vol) (h : 0 ≤ v.1) : vB v = UInt8.ofNat v.1.toNat :: (listE v.2).1 := by
  have := byte_wrap v.1.toNat
  rw [Int.toNat_of_nonneg h] at this
  rw [vB, this]
theorem vo_put : ∀ (l : List Vol) (t : List UInt8), (∀ v ∈ l, Vk v) → voR l.length (l.flatMap vB ++ t, false) = (l, (t, false))
  | [], t, _ => rfl
  | v :: r, t, h => by
    obtain ⟨h1, h2, h3, b, h4⟩ := h v (List.mem_cons_self ..)
    have hr := vo_put r t fun u hu => h u (List.mem_cons_of_mem _ hu)
    rw [List.length_cons, voR, List.flatMap_cons, vB_cons v h1, List.append_assoc, List.cons_append, nu_put1 v.1 _ ⟨h1, by omega⟩]
    simp only
    rw [it_put v.2 b _ h3 h4]
    simp only
    rw [hr, Int.toNat_of_nonneg h1]
theorem vs_put (l : List Vol) (t : List UInt8) (h : vOk l = true) : vsR (volsB l ++ t, false) = (l, (t, false)) := by
  obtain ⟨h1, h2⟩ := vOk_k h
  have := nu_put1 (l.length : Int) (l.flatMap vB ++ t) ⟨by omega, by omega⟩
  rw [Int.toNat_natCast] at this
  rw [vsR, volsB, List.cons_append, this]
  exact vo_put l t h2
theorem s1_put (s : Shot) (t : List UInt8) (h : Sk s) : s1R (shB s ++ t, false) = (s, (t, false)) := by
  obtain ⟨h1, h2, h3, h4, h5⟩ := h
  unfold s1R
  rw [shB, List.append_assoc, List.append_assoc, nu_put8 s.1 _ h1 h2]
  simp only
  rw [nu_put8 s.2.1 _ h3 h4]
  simp only
  rw [wr_put s.2.2 t h5]
  simp only
  rw [Int.toNat_of_nonneg h1, Int.toNat_of_nonneg h3]
theorem sh_put : ∀ (l : List Shot) (t : List UInt8), (∀ s ∈ l, Sk s) → shR l.length (l.flatMap shB ++ t, false) = (l, (t, false))
  | [], t, _ => rfl
  | s :: r, t, h => by
    have hr := sh_put r t fun u hu => h u (List.mem_cons_of_mem _ hu)
    rw [List.length_cons, shR, List.flatMap_cons, List.append_assoc, s1_put s _ (h s (List.mem_cons_self ..))]
    simp only
    rw [hr]
theorem se_put : ∀ (l : List Shot) (t : List UInt8), (∀ s ∈ l, Sk s) → seR l.length (l.flatMap shB ++ t, false) = (l, (t, false))
  | [], t, _ => rfl
  | s :: r, t, h => by
    have hr := se_put r t fun u hu => h u (List.mem_cons_of_mem _ hu)
    rw [List.length_cons, seR, List.flatMap_cons, List.append_assoc, s1_put s _ (h s (List.mem_cons_self ..))]
    simp only [Bool.false_eq_true, if_false]
    rw [hr]
end Go.AM.YtnhfjkckgicidaaGreat

set_option linter.unusedVariables false
set_option linter.unusedSimpArgs false
namespace Go.AM.YtnhfjkckgicidaaGreat
open Go.AM Go.Proofs Go
theorem t89 (F : Fns) (N : Nat) (s rest : List UInt8) (b : Bool) (n e : Int) : runOf F 89 N [.ptr 0 0 0, .int .i64 n, .str rest, .int .i64 e] [[.str s, .bool b]] =
  bif b then some (AV.int .i64 0, [[AV.str s, AV.bool true]]) else bif e != 0 then some (AV.int .i64 0, [[AV.str s, AV.bool true]]) else some (AV.int .i64 n, [[AV.str rest, AV.bool b]]) := by kernel_rfl
theorem t91 (F : Fns) (N : Nat) (s rest : List UInt8) (b : Bool) (l : List (Int × Int)) (e : Int) : runOf F 91 N [.ptr 0 0 0, lnV l, .str rest, .int .i64 e] [[.str s, .bool b]] =
  bif b then some (AV.sl 0 true [], [[AV.str s, AV.bool true]]) else bif e != 0 then some (AV.sl 0 true [], [[AV.str s, AV.bool true]]) else some ((lnV l), [[AV.str rest, AV.bool b]]) := by kernel_rfl
theorem t44 (F : Fns) (N : Nat) (s rest : List UInt8) (b : Bool) (l : List (Int × Int)) (e : Int) : runOf F 44 N [.ptr 0 0 0, btsV l, .str rest, .int .i64 e] [[.str s, .bool b]] =
  bif b then some (AV.sl 0 true [], [[AV.str s, AV.bool true]]) else bif e != 0 then some (AV.sl 0 true [], [[AV.str s, AV.bool true]]) else some ((btsV l), [[AV.str rest, AV.bool b]]) := by kernel_rfl
theorem t93 (F : Fns) (N : Nat) (s rest : List UInt8) (b : Bool) (l : List (List UInt8)) (e : Int) : runOf F 93 N [.ptr 0 0 0, ssV l, .str rest, .int .i64 e] [[.str s, .bool b]] =
  bif b then some (AV.sl 0 true [], [[AV.str s, AV.bool true]]) else bif e != 0 then some (AV.sl 0 true [], [[AV.str s, AV.bool true]]) else some ((ssV l), [[AV.str rest, AV.bool b]]) := by kernel_rfl
theorem t95 (F : Fns) (N : Nat) (s rest : List UInt8) (b : Bool) (l : List Wr) (e : Int) : runOf F 95 N [.ptr 0 0 0, wsV l, .str rest, .int .i64 e] [[.str s, .bool b]] =
  bif b then some (AV.sl 0 true [], [[AV.str s, AV.bool true]]) else bif e != 0 then some (AV.sl 0 true [], [[AV.str s, AV.bool true]]) else some ((wsV l), [[AV.str rest, AV.bool b]]) := by kernel_rfl
theorem t40 (F : Fns) (N : Nat) (s : List UInt8) (b : Bool) (w : Int) : runOf F 40 N [.ptr 0 0 0, .int .i64 w] [[.str s, .bool b]] =
  onRes (F 88 [AV.str s, AV.int .i64 w] []) fun v bs => asTup v fun cs => asCons cs fun v r => asInt .i64 v fun n => asCons r fun v r => asStr v fun s_1 => asCons r fun v r => asInt .i64 v fun n_1 => asNil r (asNil bs (onRes (F 89 [AV.ptr 0 0 0, AV.int .i64 n, AV.str s_1, AV.int .i64 n_1] [[AV.str s, AV.bool b]]) fun v bs => asInt .i64 v fun n => asCons bs fun v r => asCons v fun v r_1 => asStr v fun s => asCons r_1 fun v r_2 => asBool v fun b => asNil r_2 (asNil r (some (AV.int .i64 n, [[AV.str s, AV.bool b]]))))) := by kernel_rfl
theorem t41 (F : Fns) (N : Nat) (s : List UInt8) (b : Bool) : runOf F 41 N [.ptr 0 0 0] [[.str s, .bool b]] =
  onRes (F 40 [AV.ptr 0 0 0, AV.int .i64 1] [[AV.str s, AV.bool b]]) fun v bs => asInt .i64 v fun n => asCons bs fun v r => asCons v fun v r_1 => asStr v fun s => asCons r_1 fun v r_2 => asBool v fun b => asNil r_2 (asNil r (bif b then some (AV.bool (n == 1), [[AV.str s, AV.bool true]]) else some (AV.bool (n == 1), [[AV.str s, AV.bool (decide (n > 1))]]))) := by kernel_rfl
theorem t42 (F : Fns) (N : Nat) (s : List UInt8) (b : Bool) : runOf F 42 N [.ptr 0 0 0] [[.str s, .bool b]] =
  onRes (F 90 [AV.str s] []) fun v bs => asTup v fun cs => asCons cs fun v r => asSl v fun m fl xs => asCons r fun v r => asStr v fun s_1 => asCons r fun v r => asInt .i64 v fun n => asNil r (asNil bs (onRes (F 91 [AV.ptr 0 0 0, AV.sl m fl xs, AV.str s_1, AV.int .i64 n] [[AV.str s, AV.bool b]]) fun v bs => asSl v fun m fl xs => asCons bs fun v r => asCons v fun v r_1 => asStr v fun s => asCons r_1 fun v r_2 => asBool v fun b => asNil r_2 (asNil r (some (AV.sl m fl xs, [[AV.str s, AV.bool b]]))))) := by kernel_rfl
theorem t46 (F : Fns) (N : Nat) (s : List UInt8) (b : Bool) : runOf F 46 N [.ptr 0 0 0] [[.str s, .bool b]] =
  onRes (F 94 [AV.str s] []) fun v bs => asTup v fun cs => asCons cs fun v r => asSl v fun m fl xs => asCons r fun v r => asStr v fun s_1 => asCons r fun v r => asInt .i64 v fun n => asNil r (asNil bs (onRes (F 95 [AV.ptr 0 0 0, AV.sl m fl xs, AV.str s_1, AV.int .i64 n] [[AV.str s, AV.bool b]]) fun v bs => asSl v fun m fl xs => asCons bs fun v r => asCons v fun v r_1 => asStr v fun s => asCons r_1 fun v r_2 => asBool v fun b => asNil r_2 (asNil r (some (AV.sl m fl xs, [[AV.str s, AV.bool b]]))))) := by kernel_rfl
abbrev bxR (r : Rd) : Boxes := [[.str r.1, .bool r.2]]
theorem x91b (k : Nat) (hk : 1 ≤ k) (r : Rd) (l : List (Int × Int)) (t : List UInt8) (e : Int) (h : r.2 = true ∨ e ≠ 0) : W k 91 [.ptr 0 0 0, lnV l, .str t, .int .i64 e] (bxR r) = some (lnV [], [[.str r.1, .bool true]]) := by
  obtain ⟨k, rfl⟩ := succ1 (show 1 ≤ k by omega)
  refine (W_tree (r := some (.sl 0 true [], [[.str r.1, .bool true]])) ((t91 (W k) k r.1 t r.2 l e).trans ?_) (by kernel_rfl)).trans (by kernel_rfl)
  rcases h with h | h
  · rw [h]; rfl
  · rw [show (e != 0) = true by simpa using h]
    cases r.2 <;> rfl
theorem x91g (k : Nat) (hk : 1 ≤ k) (s : List UInt8) (l : List (Int × Int)) (t : List UInt8) : W k 91 [.ptr 0 0 0, lnV l, .str t, .int .i64 0] [[.str s, .bool false]] = some (lnV l, [[.str t, .bool false]]) := by
  obtain ⟨k, rfl⟩ := succ1 (show 1 ≤ k by omega)
  exact (W_tree (t91 (W k) k s t false l 0) (by kernel_rfl)).trans (by kernel_rfl)
theorem x44b (k : Nat) (hk : 1 ≤ k) (r : Rd) (l : List (Int × Int)) (t : List UInt8) (e : Int) (h : r.2 = true ∨ e ≠ 0) : W k 44 [.ptr 0 0 0, btsV l, .str t, .int .i64 e] (bxR r) = some (btsV [], [[.str r.1, .bool true]]) := by
  obtain ⟨k, rfl⟩ := succ1 (show 1 ≤ k by omega)
  refine (W_tree (r := some (.sl 0 true [], [[.str r.1, .bool true]])) ((t44 (W k) k r.1 t r.2 l e).trans ?_) (by kernel_rfl)).trans (by kernel_rfl)
  rcases h with h | h
  · rw [h]; rfl
  · rw [show (e != 0) = true by simpa using h]
    cases r.2 <;> rfl
theorem x44g (k : Nat) (hk : 1 ≤ k) (s : List UInt8) (l : List (Int × Int)) (t : List UInt8) : W k 44 [.ptr 0 0 0, btsV l, .str t, .int .i64 0] [[.str s, .bool false]] = some (btsV l, [[.str t, .bool false]]) := by
  obtain ⟨k, rfl⟩ := succ1 (show 1 ≤ k by omega)
  exact (W_tree (t44 (W k) k s t false l 0) (by kernel_rfl)).trans (by kernel_rfl)
theorem x93b (k : Nat) (hk : 1 ≤ k) (r : Rd) (l : List (List UInt8)) (t : List UInt8) (e : Int) (h : r.2 = true ∨ e ≠ 0) : W k 93 [.ptr 0 0 0, ssV l, .str t, .int .i64 e] (bxR r) = some (ssV [], [[.str r.1, .bool true]]) := by
  obtain ⟨k, rfl⟩ := succ1 (show 1 ≤ k by omega)
  refine (W_tree (r := some (.sl 0 true [], [[.str r.1, .bool true]])) ((t93 (W k) k r.1 t r.2 l e).trans ?_) (by kernel_rfl)).trans (by kernel_rfl)
  rcases h with h | h
  · rw [h]; rfl
  · rw [show (e != 0) = true by simpa using h]
    cases r.2 <;> rfl
theorem x93g (k : Nat) (hk : 1 ≤ k) (s : List UInt8) (l : List (List UInt8)) (t : List UInt8) : W k 93 [.ptr 0 0 0, ssV l, .str t, .int .i64 0] [[.str s, .bool false]] = some (ssV l, [[.str t, .bool false]]) := by
  obtain ⟨k, rfl⟩ := succ1 (show 1 ≤ k by omega)
  exact (W_tree (t93 (W k) k s t false l 0) (by kernel_rfl)).trans (by kernel_rfl)
theorem x95b (k : Nat) (hk : 1 ≤ k) (r : Rd) (l : List Wr) (t : List UInt8) (e : Int) (h : r.2 = true ∨ e ≠ 0) : W k 95 [.ptr 0 0 0, wsV l, .str t, .int .i64 e] (bxR r) = some (wsV [], [[.str r.1, .bool true]]) := by
  obtain ⟨k, rfl⟩ := succ1 (show 1 ≤ k by omega)
  refine (W_tree (r := some (.sl 0 true [], [[.str r.1, .bool true]])) ((t95 (W k) k r.1 t r.2 l e).trans ?_) (by kernel_rfl)).trans (by kernel_rfl)
  rcases h with h | h
  · rw [h]; rfl
  · rw [show (e != 0) = true by simpa using h]
    cases r.2 <;> rfl
theorem x95g (k : Nat) (hk : 1 ≤ k) (s : List UInt8) (l : List Wr) (t : List UInt8) : W k 95 [.ptr 0 0 0, wsV l, .str t, .int .i64 0] [[.str s, .bool false]] = some (wsV l, [[.str t, .bool false]]) := by
  obtain ⟨k, rfl⟩ := succ1 (show 1 ≤ k by omega)
  exact (W_tree (t95 (W k) k s t false l 0) (by kernel_rfl)).trans (by kernel_rfl)
theorem x90n (k : Nat) (hk : 1200 ≤ k) {s : List UInt8} (h : takeL s = none) : W k 90 [.str s] [] = some (.tup [lnV [], .str [], .int .i64 3], []) := by
  have e := e20 k (by omega) s
  rw [h] at e
  exact (W_old e (by omega) (by kernel_rfl)).trans (by kernel_rfl)
theorem x90s (k : Nat) (hk : 1200 ≤ k) {s : List UInt8} {l : List (Int × Int)} {t : List UInt8} (h : takeL s = some (l, t)) : W k 90 [.str s] [] = some (.tup [lnV l, .str t, .int .i64 0], []) := by
  have e := e20 k (by omega) s
  rw [h] at e
  refine (W_old e (by omega) (by kernel_rfl)).trans ?_
  cases l <;> rfl
theorem x94n (k : Nat) (hk : 66100 ≤ k) {s : List UInt8} (h : takeW s = none) : W k 94 [.str s] [] = some (.tup [wsV [], .str [], .int .i64 3], []) := by
  have e := e14 k (by omega) s
  rw [h] at e
  exact (W_old e (by omega) (by kernel_rfl)).trans (by kernel_rfl)
theorem x94s (k : Nat) (hk : 66100 ≤ k) {s : List UInt8} {l : List Wr} {t : List UInt8} (h : takeW s = some (l, t)) : W k 94 [.str s] [] = some (.tup [wsV l, .str t, .int .i64 0], []) := by
  have e := e14 k (by omega) s
  rw [h] at e
  refine (W_old e (by omega) (by kernel_rfl)).trans ?_
  cases l <;> rfl
theorem x42 (k : Nat) (hk : 1300 ≤ k) (r : Rd) : W k 42 [.ptr 0 0 0] (bxR r) = some (lnV (liR r).1, bxR (liR r).2) := by
  obtain ⟨k, rfl⟩ := succ1 (show 1 ≤ k by omega)
  obtain ⟨s, b⟩ := r
  refine (W_tree (r := some (lnV (liR (s, b)).1, bxR (liR (s, b)).2)) ((t42 (W k) k s b).trans ?_) (by kernel_rfl)).trans (by kernel_rfl)
  unfold liR stp
  simp only
  cases hx : takeL s with
  | none =>
    refine q_on (x90n k (by omega) hx) ?_
    repeat first | with_reducible refine q_tup ?_ | with_reducible refine q_cons ?_ | with_reducible refine q_nil ?_ | with_reducible refine q_str ?_ | with_reducible refine q_bool ?_ | with_reducible refine q_int ?_ | with_reducible refine q_agg ?_ | with_reducible refine q_sl ?_
    refine q_on (x91b k (by omega) (s, b) [] [] 3 (.inr (by omega))) ?_
    repeat first | with_reducible refine q_tup ?_ | with_reducible refine q_cons ?_ | with_reducible refine q_nil ?_ | with_reducible refine q_str ?_ | with_reducible refine q_bool ?_ | with_reducible refine q_int ?_ | with_reducible refine q_agg ?_ | with_reducible refine q_sl ?_
    cases b <;> rfl
  | some a =>
    obtain ⟨l, u⟩ := a
    refine q_on (x90s k (by omega) hx) ?_
    repeat first | with_reducible refine q_tup ?_ | with_reducible refine q_cons ?_ | with_reducible refine q_nil ?_ | with_reducible refine q_str ?_ | with_reducible refine q_bool ?_ | with_reducible refine q_int ?_ | with_reducible refine q_agg ?_ | with_reducible refine q_sl ?_
    cases b with
    | true =>
      refine q_on (x91b k (by omega) (s, true) l u 0 (.inl rfl)) ?_
      repeat first | with_reducible refine q_tup ?_ | with_reducible refine q_cons ?_ | with_reducible refine q_nil ?_ | with_reducible refine q_str ?_ | with_reducible refine q_bool ?_ | with_reducible refine q_int ?_ | with_reducible refine q_agg ?_ | with_reducible refine q_sl ?_
      rfl
    | false =>
      refine q_on (x91g k (by omega) s l u) ?_
      repeat first | with_reducible refine q_tup ?_ | with_reducible refine q_cons ?_ | with_reducible refine q_nil ?_ | with_reducible refine q_str ?_ | with_reducible refine q_bool ?_ | with_reducible refine q_int ?_ | with_reducible refine q_agg ?_ | with_reducible refine q_sl ?_
      rfl
theorem x46 (k : Nat) (hk : 66200 ≤ k) (r : Rd) : W k 46 [.ptr 0 0 0] (bxR r) = some (wsV (wrR r).1, bxR (wrR r).2) := by
  obtain ⟨k, rfl⟩ := succ1 (show 1 ≤ k by omega)
  obtain ⟨s, b⟩ := r
  refine (W_tree (r := some (wsV (wrR (s, b)).1, bxR (wrR (s, b)).2)) ((t46 (W k) k s b).trans ?_) (by kernel_rfl)).trans (by kernel_rfl)
  unfold wrR stp
  simp only
  cases hx : takeW s with
  | none =>
    refine q_on (x94n k (by omega) hx) ?_
    repeat first | with_reducible refine q_tup ?_ | with_reducible refine q_cons ?_ | with_reducible refine q_nil ?_ | with_reducible refine q_str ?_ | with_reducible refine q_bool ?_ | with_reducible refine q_int ?_ | with_reducible refine q_agg ?_ | with_reducible refine q_sl ?_
    refine q_on (x95b k (by omega) (s, b) [] [] 3 (.inr (by omega))) ?_
    repeat first | with_reducible refine q_tup ?_ | with_reducible refine q_cons ?_ | with_reducible refine q_nil ?_ | with_reducible refine q_str ?_ | with_reducible refine q_bool ?_ | with_reducible refine q_int ?_ | with_reducible refine q_agg ?_ | with_reducible refine q_sl ?_
    cases b <;> rfl
  | some a =>
    obtain ⟨l, u⟩ := a
    refine q_on (x94s k (by omega) hx) ?_
    repeat first | with_reducible refine q_tup ?_ | with_reducible refine q_cons ?_ | with_reducible refine q_nil ?_ | with_reducible refine q_str ?_ | with_reducible refine q_bool ?_ | with_reducible refine q_int ?_ | with_reducible refine q_agg ?_ | with_reducible refine q_sl ?_
    cases b with
    | true =>
      refine q_on (x95b k (by omega) (s, true) l u 0 (.inl rfl)) ?_
      repeat first | with_reducible refine q_tup ?_ | with_reducible refine q_cons ?_ | with_reducible refine q_nil ?_ | with_reducible refine q_str ?_ | with_reducible refine q_bool ?_ | with_reducible refine q_int ?_ | with_reducible refine q_agg ?_ | with_reducible refine q_sl ?_
      rfl
    | false =>
      refine q_on (x95g k (by omega) s l u) ?_
      repeat first | with_reducible refine q_tup ?_ | with_reducible refine q_cons ?_ | with_reducible refine q_nil ?_ | with_reducible refine q_str ?_ | with_reducible refine q_bool ?_ | with_reducible refine q_int ?_ | with_reducible refine q_agg ?_ | with_reducible refine q_sl ?_
      rfl
theorem x89 (k : Nat) (hk : 1 ≤ k) (s t : List UInt8) (b : Bool) (n e : Int) : W k 89 [.ptr 0 0 0, .int .i64 n, .str t, .int .i64 e] [[.str s, .bool b]] = some (.int .i64 (if b = true ∨ e ≠ 0 then 0 else n), [[.str (if b = true ∨ e ≠ 0 then s else t), .bool (b || decide (e ≠ 0))]]) := by
  obtain ⟨k, rfl⟩ := succ1 (show 1 ≤ k by omega)
  refine (W_tree0 (t89 (W k) k s t b n e) (by kernel_rfl)).trans ?_
  cases b with
  | true => rfl
  | false =>
    by_cases he : e = 0
    · subst he; rfl
    · rw [show (e != 0) = true by simpa using he, decide_eq_true he, if_pos (.inr he), if_pos (.inr he)]
      rfl
theorem x88 (k : Nat) (hk : 11 ≤ k) (s : List UInt8) (w : Nat) (hw1 : 1 ≤ w) (hw : w ≤ 8) : W k 88 [.str s, .int .i64 w] [] = some (.tup [.int .i64 (numN w s), .str (numR w s), .int .i64 (numE w s)], []) := W_old0 (e88 k hk s w hw1 hw) (by omega) (by kernel_rfl)
theorem x40 (k : Nat) (hk : 12 ≤ k) (r : Rd) (w : Nat) (hw1 : 1 ≤ w) (hw : w ≤ 8) : W k 40 [.ptr 0 0 0, .int .i64 w] (bxR r) = some (.int .i64 ((nuR w r).1 : Nat), bxR (nuR w r).2) := by
  obtain ⟨k, rfl⟩ := succ1 (show 1 ≤ k by omega)
  refine (W_tree0 (t40 (W k) k r.1 r.2 w) (by kernel_rfl)).trans ?_
  refine q_on (x88 k (by omega) r.1 w hw1 hw) ?_
  repeat first | with_reducible refine q_tup ?_ | with_reducible refine q_cons ?_ | with_reducible refine q_nil ?_ | with_reducible refine q_str ?_ | with_reducible refine q_bool ?_ | with_reducible refine q_int ?_ | with_reducible refine q_agg ?_ | with_reducible refine q_sl ?_
  refine q_on (x89 k (by omega) r.1 (numR w r.1) r.2 (numN w r.1) (numE w r.1)) ?_
  repeat first | with_reducible refine q_tup ?_ | with_reducible refine q_cons ?_ | with_reducible refine q_nil ?_ | with_reducible refine q_str ?_ | with_reducible refine q_bool ?_ | with_reducible refine q_int ?_ | with_reducible refine q_agg ?_ | with_reducible refine q_sl ?_
  obtain ⟨s, b⟩ := r
  unfold nuR stp num
  simp only
  cases b with
  | true => rfl
  | false =>
    by_cases he : numE w s = 0
    · simp only [he, numR]
      rfl
    · simp only [if_neg he, if_pos (show false = true ∨ numE w s ≠ 0 from .inr he), decide_eq_true he]
      rfl
theorem x41 (k : Nat) (hk : 13 ≤ k) (r : Rd) : W k 41 [.ptr 0 0 0] (bxR r) = some (.bool (flR r).1, bxR (flR r).2) := by
  obtain ⟨k, rfl⟩ := succ1 (show 1 ≤ k by omega)
  refine (W_tree0 (t41 (W k) k r.1 r.2) (by kernel_rfl)).trans ?_
  refine q_on (x40 k (by omega) r 1 (by omega) (by omega)) ?_
  repeat first | with_reducible refine q_tup ?_ | with_reducible refine q_cons ?_ | with_reducible refine q_nil ?_ | with_reducible refine q_str ?_ | with_reducible refine q_bool ?_ | with_reducible refine q_int ?_ | with_reducible refine q_agg ?_ | with_reducible refine q_sl ?_
  unfold flR
  generalize nuR 1 r = a
  obtain ⟨n, s, b⟩ := a
  have e1 : (((n : Nat) : Int) == 1) = decide (n = 1) := by
    by_cases h : n = 1
    · subst h; rfl
    · rw [decide_eq_false h]; simpa using (by omega : ¬ ((n : Int) = 1))
  have e2 : decide (((n : Nat) : Int) > 1) = decide (n > 1) := decide_eq_decide.2 (by omega)
  cases b <;> simp only [e1, e2] <;> rfl
end Go.AM.YtnhfjkckgicidaaGreat
