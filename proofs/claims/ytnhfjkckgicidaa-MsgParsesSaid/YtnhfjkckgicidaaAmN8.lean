/- Writes: ref08.Fold, ref08.Equal, ref17.Writable: what they answer, plain. -/
import Derived.Test.YtnhfjkckgicidaaAmN7
set_option linter.unusedVariables false
set_option linter.unusedSimpArgs false
namespace Go.AM.Ytnhfjkckgicidaa
open Go.AM Go.Proofs Go

/-! The document's folding, plain -/
theorem wless_trans {a b c : Wr} (h1 : wless a b = true) (h2 : wless b c = true) : wless a c = true := by
  unfold wless at *
  rw [decide_eq_true_eq] at *
  omega
theorem wless_irrefl (a : Wr) : wless a a = false := by
  unfold wless
  rw [decide_eq_false_iff_not]
  omega
theorem wless_asymm {a b : Wr} (h : wless a b = true) : wless b a = false := by
  unfold wless at *
  rw [decide_eq_true_eq] at h
  rw [decide_eq_false_iff_not]
  omega
theorem sortedW_iff : ∀ l : List Wr, sortedW l = true ↔ l.Pairwise fun a b => wless a b = true
  | [] => by simp [sortedW]
  | [a] => by simp [sortedW]
  | a :: b :: r => by
    rw [sortedW, Bool.and_eq_true, sortedW_iff (b :: r), List.pairwise_cons (a := a)]
    constructor
    · rintro ⟨h1, h2⟩
      refine ⟨fun c hc => ?_, h2⟩
      rcases List.mem_cons.1 hc with rfl | hc
      · exact h1
      · exact wless_trans h1 ((List.pairwise_cons.1 h2).1 c hc)
    · rintro ⟨h1, h2⟩
      exact ⟨h1 b (List.mem_cons_self ..), h2⟩
/-- Is a write no greater than the last one? -/
def skipW (last : Option Wr) (w : Wr) : Bool := match last with
  | none => false
  | some z => !wless z w
/-- The least that is greater than the last one, of these the last. -/
def pick (last : Option Wr) : List Wr → Option Wr → Option Wr
  | [], b => b
  | w :: r, b => if skipW last w then pick last r b else match b with
    | none => pick last r (some w)
    | some x => if wless x w then pick last r (some x) else pick last r (some w)
def foldF : Nat → List Wr → List Wr → Wr → List Wr
  | 0, _, acc, z => acc ++ [z]
  | n + 1, ws, acc, z => match pick (some z) ws none with
    | none => acc ++ [z]
    | some x => foldF n ws (acc ++ [z]) x
def foldAll (ws : List Wr) : List Wr := match pick none ws none with
  | none => []
  | some x => foldF ws.length ws [] x
theorem pick_cons (last : Option Wr) (w : Wr) (r : List Wr) (b : Option Wr) : pick last (w :: r) b = if skipW last w then pick last r b else match b with
    | none => pick last r (some w)
    | some x => if wless x w then pick last r (some x) else pick last r (some w) := by cases b <;> rfl
theorem pick_mem (last : Option Wr) : ∀ (r : List Wr) (b : Option Wr) (x : Wr), pick last r b = some x → b = some x ∨ (x ∈ r ∧ skipW last x = false)
  | [], b, x, h => .inl h
  | w :: r, b, x, h => by
    rw [pick_cons] at h
    split at h
    · rcases pick_mem last r b x h with h | ⟨h1, h2⟩
      · exact .inl h
      · exact .inr ⟨List.mem_cons_of_mem _ h1, h2⟩
    · rename_i hs
      have hs : skipW last w = false := by simpa using hs
      split at h
      · rcases pick_mem last r (some w) x h with h | ⟨h1, h2⟩
        · cases h; exact .inr ⟨List.mem_cons_self .., hs⟩
        · exact .inr ⟨List.mem_cons_of_mem _ h1, h2⟩
      · split at h
        · rcases pick_mem last r _ x h with h | ⟨h1, h2⟩
          · exact .inl h
          · exact .inr ⟨List.mem_cons_of_mem _ h1, h2⟩
        · rcases pick_mem last r (some w) x h with h | ⟨h1, h2⟩
          · cases h; exact .inr ⟨List.mem_cons_self .., hs⟩
          · exact .inr ⟨List.mem_cons_of_mem _ h1, h2⟩
theorem pick_append (last : Option Wr) : ∀ (l r : List Wr) (b : Option Wr), pick last (l ++ r) b = pick last r (pick last l b)
  | [], r, b => rfl
  | w :: l, r, b => by
    rw [List.cons_append, pick_cons, pick_cons]
    split
    · exact pick_append last l r b
    · split
      · exact pick_append last l r _
      · split <;> exact pick_append last l r _
theorem pick_skip (last : Option Wr) : ∀ (l : List Wr) (b : Option Wr), (∀ w ∈ l, skipW last w = true) → pick last l b = b
  | [], b, h => rfl
  | w :: l, b, h => by
    rw [pick_cons, if_pos (h w (List.mem_cons_self ..))]
    exact pick_skip last l b fun v hv => h v (List.mem_cons_of_mem _ hv)
theorem pick_stay (last : Option Wr) (x : Wr) : ∀ (l : List Wr), (∀ w ∈ l, wless x w = true) → pick last l (some x) = some x
  | [], h => rfl
  | w :: l, h => by
    rw [pick_cons]
    have hw := h w (List.mem_cons_self ..)
    have hl := pick_stay last x l fun v hv => h v (List.mem_cons_of_mem _ hv)
    split
    · exact hl
    · simp only [hw, if_true, hl]
/-- How many are greater. -/
def cntW (z : Wr) (ws : List Wr) : Nat := ws.countP (wless z)
theorem cntW_le {z x : Wr} (h : wless z x = true) (ws : List Wr) : cntW x ws ≤ cntW z ws :=
  List.countP_mono_left fun w _ hw => wless_trans h hw
theorem cntW_lt {z x : Wr} (h : wless z x = true) : ∀ (ws : List Wr), x ∈ ws → cntW x ws < cntW z ws
  | [], hx => by simp at hx
  | w :: r, hx => by
    have hle := cntW_le h r
    unfold cntW at *
    rw [List.countP_cons, List.countP_cons]
    rcases List.mem_cons.1 hx with rfl | hx
    · rw [wless_irrefl, h]
      simp
      omega
    · have := cntW_lt h r hx
      unfold cntW at this
      by_cases hw : wless x w = true
      · rw [hw, wless_trans h hw]
        simp
        omega
      · simp only [hw, if_false]
        simp
        omega
theorem foldF_sorted : ∀ (n : Nat) (ws acc : List Wr) (z : Wr), (acc ++ [z]).Pairwise (fun a b => wless a b = true) → (foldF n ws acc z).Pairwise fun a b => wless a b = true
  | 0, ws, acc, z, h => h
  | n + 1, ws, acc, z, h => by
    rw [foldF]
    split
    · exact h
    · rename_i x hx
      refine foldF_sorted n ws _ x ?_
      rcases pick_mem _ _ _ _ hx with h0 | ⟨_, h1⟩
      · simp at h0
      have hz : wless z x = true := by simpa [skipW] using h1
      rw [List.pairwise_append]
      refine ⟨h, by simp, fun a ha b hb => ?_⟩
      rw [List.mem_singleton] at hb
      subst hb
      rcases List.mem_append.1 ha with ha | ha
      · exact wless_trans ((List.pairwise_append.1 h).2.2 a ha z (by simp)) hz
      · rw [List.mem_singleton] at ha
        subst ha
        exact hz
theorem foldF_whole : ∀ (post : List Wr) (n : Nat) (ws acc : List Wr) (z : Wr), ws = acc ++ z :: post → ws.Pairwise (fun a b => wless a b = true) → post.length ≤ n → foldF n ws acc z = ws
  | [], n, ws, acc, z, hw, hs, hn => by
    have hp : pick (some z) ws none = none := by
      refine pick_skip _ _ _ fun w hm => ?_
      rw [hw] at hm hs
      rcases List.mem_append.1 hm with hm | hm
      · have := (List.pairwise_append.1 hs).2.2 w hm z (by simp)
        simp [skipW, wless_asymm this]
      · simp at hm
        subst hm
        simp [skipW, wless_irrefl]
    cases n with
    | zero => rw [foldF, hw]
    | succ n => rw [foldF, hp, hw]
  | x :: post, n, ws, acc, z, hw, hs, hn => by
    obtain ⟨n, rfl⟩ : ∃ m, n = m + 1 := ⟨n - 1, by simp at hn; omega⟩
    have hp : pick (some z) ws none = some x := by
      rw [hw] at hs
      rw [hw, show acc ++ z :: x :: post = (acc ++ [z]) ++ x :: post by simp, pick_append]
      have hs2 := List.pairwise_append.1 hs
      have hs3 := List.pairwise_cons.1 hs2.2.1
      have hs4 := List.pairwise_cons.1 hs3.2
      rw [pick_skip _ (acc ++ [z]) _ fun w hm => ?_]
      · rw [pick_cons, if_neg (by simp [skipW, hs3.1 x (by simp)])]
        exact pick_stay _ x post hs4.1
      · rcases List.mem_append.1 hm with hm | hm
        · simp [skipW, wless_asymm (hs2.2.2 w hm z (by simp))]
        · rw [List.mem_singleton] at hm
          subst hm
          simp [skipW, wless_irrefl]
    rw [foldF, hp]
    exact foldF_whole post n ws (acc ++ [z]) x (by rw [hw]; simp) hs (by simp at hn; omega)
theorem foldAll_iff (ws : List Wr) : decide (ws = foldAll ws) = sortedW ws := by
  rw [Bool.eq_iff_iff, decide_eq_true_eq, sortedW_iff]
  constructor
  · intro h
    rw [h]
    unfold foldAll
    split
    · simp
    · exact foldF_sorted _ _ _ _ (by simp)
  · intro h
    cases ws with
    | nil => rfl
    | cons x r =>
      have hp : pick none (x :: r) none = some x := by
        rw [pick_cons, if_neg (by simp [skipW])]
        exact pick_stay _ x r (List.pairwise_cons.1 h).1
      unfold foldAll
      rw [hp]
      exact (foldF_whole r (x :: r).length (x :: r) [] x rfl h (by simp)).symm

/-! ref08.Fold -/
noncomputable def contBOf (F : Fns) (f i j n : Nat) (K : Ex → St → Res) : Ex → St → Res := contB F tb sh (fxOf f) n i j K
theorem less_tree (F : Fns) (N : Nat) (v b v' b' : Int) (s s' : List UInt8) : runOf F 84 N [.agg [.int .i64 v, .int .i64 b, .str s], .agg [.int .i64 v', .int .i64 b', .str s']] [] =
  bif decide (v < v') then some (AV.bool true, []) else bif v == v' then some (AV.bool (decide (b < b')), []) else some (AV.bool false, []) := by kernel_rfl
theorem e84 (k : Nat) (hk : 1 ≤ k) (a b : Wr) : evF pr k 84 [.agg [.int .i64 a.1, .int .i64 a.2.1, .str a.2.2], .agg [.int .i64 b.1, .int .i64 b.2.1, .str b.2.2]] [] = some (.bool (wless a b), []) := by
  obtain ⟨k, rfl⟩ : ∃ m, k = m + 1 := ⟨k - 1, by omega⟩
  rw [ev_step _ _ _ _ (by kernel_rfl), less_tree]
  by_cases h1 : a.1 < b.1
  · rw [decide_eq_true h1, show wless a b = true from decide_eq_true (.inl h1)]; rfl
  rw [decide_eq_false h1]
  by_cases h2 : a.1 = b.1
  · rw [show (a.1 == b.1) = true by simp [h2], show wless a b = decide (a.2.1 < b.2.1) by unfold wless; rw [decide_eq_decide]; omega]; rfl
  · rw [show (a.1 == b.1) = false by simp [h2], show wless a b = false by unfold wless; rw [decide_eq_false_iff_not]; omega]; rfl
def foldS (fl : Bool) (xs : List AV) (v : AV) : St := ⟨54, [(0, AV.sl 3 fl xs), (2, AV.sl 0 true []), (3, v)], [], [], [], [], []⟩
def foldI (fl : Bool) (xs : List AV) (v : AV) (best i : Int) : St := ⟨54, [(0, AV.sl 3 fl xs), (2, AV.sl 0 true []), (3, v), (4, AV.int IntKind.i64 best), (5, AV.int IntKind.i64 i)], [], [], [], [], []⟩
theorem fold_tree (F : Fns) (N : Nat) (fl : Bool) (xs : List AV) : runOf F 39 N [.sl 3 fl xs] [] =
  loopA (bodyOf F 39 0 N) (deadOf 39 0) (contOf F 39 0 N 0) N { nt := 54, t := [(0, AV.sl 3 fl xs), (2, AV.sl 0 true []), (3, AV.sl 0 true [])], b := [], r := [], g := [], rd := [], wr := [] } := by kernel_rfl
theorem fold_body0 (F : Fns) (N : Nat) (fl : Bool) (xs : List AV) (KN : St → Res) : bodyOf F 39 0 N (foldS fl xs (.sl 0 true [])) (brk (contOf F 39 0 N 0) KN) =
  loopA (bodyOf F 39 1 N) (deadOf 39 1) (contBOf F 39 0 0 N (brk (contOf F 39 0 N 0) KN)) N { nt := 54, t := [(0, AV.sl 3 fl xs), (2, AV.sl 0 true []), (3, AV.sl 0 true []), (4, AV.int IntKind.i64 (-1)), (5, AV.int IntKind.i64 0)], b := [], r := [], g := [], rd := [], wr := [] } := by kernel_rfl
theorem fold_body1 (F : Fns) (N : Nat) (fl : Bool) (xs ys : List AV) (KN : St → Res) : bodyOf F 39 0 N (foldS fl xs (.tip 53 0 3 ys)) (brk (contOf F 39 0 N 0) KN) =
  loopA (bodyOf F 39 1 N) (deadOf 39 1) (contBOf F 39 0 0 N (brk (contOf F 39 0 N 0) KN)) N { nt := 54, t := [(0, AV.sl 3 fl xs), (2, AV.sl 0 true []), (3, AV.tip 53 0 3 ys), (4, AV.int IntKind.i64 (-1)), (5, AV.int IntKind.i64 0)], b := [], r := [], g := [], rd := [], wr := [] } := by kernel_rfl
theorem fold_in0 (F : Fns) (N : Nat) (fl : Bool) (xs : List AV) (best i : Int) (KO KN : St → Res) : bodyOf F 39 1 N (foldI fl xs (.sl 0 true []) best i) (brk (contBOf F 39 0 0 N (brk (contOf F 39 0 N 0) KO)) KN) =
  bif decide (i < ((List.length xs : Nat) : Int)) then bif decide (best < 0) then KN { nt := 54, t := [(0, AV.sl 3 fl xs), (2, AV.sl 0 true []), (3, AV.sl 0 true []), (4, AV.int IntKind.i64 i), (5, AV.int IntKind.i64 (IntKind.wrap IntKind.i64 (i + 1))), (9, AV.bool (decide (i < ((List.length xs : Nat) : Int)))), (28, AV.bool false), (42, AV.bool true)], b := [], r := [], g := [], rd := [], wr := [] } else bif decide (0 ≤ best) then onOpt xs[Int.toNat best]? fun x => AM.asAgg x fun cs => asCons cs fun v r => AM.asInt IntKind.i64 v fun n => asCons r fun v r => AM.asInt IntKind.i64 v fun n_1 => asCons r fun v r => asStr v fun s => asNil r (bif decide (0 ≤ i) then onOpt xs[Int.toNat i]? fun x => AM.asAgg x fun cs => asCons cs fun v r => AM.asInt IntKind.i64 v fun n_2 => asCons r fun v r => AM.asInt IntKind.i64 v fun n_3 => asCons r fun v r => asStr v fun s_1 => asNil r (onRes (F 84 [AV.agg [AV.int IntKind.i64 n, AV.int IntKind.i64 n_1, AV.str s], AV.agg [AV.int IntKind.i64 n_2, AV.int IntKind.i64 n_3, AV.str s_1]] []) fun v bs => AM.asBool v fun b => asNil bs (bif !b then KN { nt := 54, t := [(0, AV.sl 3 fl xs), (2, AV.sl 0 true []), (3, AV.sl 0 true []), (4, AV.int IntKind.i64 i), (5, AV.int IntKind.i64 (IntKind.wrap IntKind.i64 (i + 1))), (9, AV.bool (decide (i < ((List.length xs : Nat) : Int)))), (28, AV.bool false), (42, AV.bool !b)], b := [], r := [], g := [], rd := [], wr := [] } else KN { nt := 54, t := [(0, AV.sl 3 fl xs), (2, AV.sl 0 true []), (3, AV.sl 0 true []), (4, AV.int IntKind.i64 best), (5, AV.int IntKind.i64 (IntKind.wrap IntKind.i64 (i + 1))), (9, AV.bool (decide (i < ((List.length xs : Nat) : Int)))), (28, AV.bool false), (42, AV.bool !b)], b := [], r := [], g := [], rd := [], wr := [] })) else none) else none else bif decide (best < 0) then some (AV.sl 0 true [], []) else bif decide (0 ≤ best) then onOpt xs[Int.toNat best]? fun x => AM.asAgg x fun cs => asCons cs fun v r => AM.asInt IntKind.i64 v fun n => asCons r fun v r => AM.asInt IntKind.i64 v fun n_1 => asCons r fun v r => asStr v fun s => asNil r (KO { nt := 54, t := [(0, AV.sl 3 fl xs), (2, AV.sl 0 true []), (3, AV.tip 53 0 3 [AV.agg [AV.int IntKind.i64 n, AV.int IntKind.i64 n_1, AV.str s]]), (4, AV.int IntKind.i64 best), (5, AV.int IntKind.i64 i), (9, AV.bool (decide (i < ((List.length xs : Nat) : Int)))), (45, AV.bool (decide (best < 0)))], b := [], r := [], g := [], rd := [], wr := [] }) else none := by kernel_rfl
theorem fold_in1 (F : Fns) (N : Nat) (fl : Bool) (xs ys : List AV) (best i : Int) (KO KN : St → Res) : bodyOf F 39 1 N (foldI fl xs (.tip 53 0 3 ys) best i) (brk (contBOf F 39 0 0 N (brk (contOf F 39 0 N 0) KO)) KN) =
  bif decide (i < ((List.length xs : Nat) : Int)) then bif decide (((List.length ys : Nat) : Int) > 0) then bif decide (0 ≤ IntKind.wrap IntKind.i64 (((List.length ys : Nat) : Int) - 1)) then onOpt ys[Int.toNat (IntKind.wrap IntKind.i64 (((List.length ys : Nat) : Int) - 1))]? fun x => AM.asAgg x fun cs => asCons cs fun v r => AM.asInt IntKind.i64 v fun n => asCons r fun v r => AM.asInt IntKind.i64 v fun n_1 => asCons r fun v r => asStr v fun s => asNil r (bif decide (0 ≤ i) then onOpt xs[Int.toNat i]? fun x => AM.asAgg x fun cs => asCons cs fun v r => AM.asInt IntKind.i64 v fun n_2 => asCons r fun v r => AM.asInt IntKind.i64 v fun n_3 => asCons r fun v r => asStr v fun s_1 => asNil r (onRes (F 84 [AV.agg [AV.int IntKind.i64 n, AV.int IntKind.i64 n_1, AV.str s], AV.agg [AV.int IntKind.i64 n_2, AV.int IntKind.i64 n_3, AV.str s_1]] []) fun v bs => AM.asBool v fun b => asNil bs (bif !b then KN { nt := 54, t := [(0, AV.sl 3 fl xs), (2, AV.sl 0 true []), (3, AV.tip 53 0 3 ys), (4, AV.int IntKind.i64 best), (5, AV.int IntKind.i64 (IntKind.wrap IntKind.i64 (i + 1))), (9, AV.bool (decide (i < ((List.length xs : Nat) : Int)))), (28, AV.bool !b)], b := [], r := [], g := [], rd := [], wr := [] } else bif decide (best < 0) then KN { nt := 54, t := [(0, AV.sl 3 fl xs), (2, AV.sl 0 true []), (3, AV.tip 53 0 3 ys), (4, AV.int IntKind.i64 i), (5, AV.int IntKind.i64 (IntKind.wrap IntKind.i64 (i + 1))), (9, AV.bool (decide (i < ((List.length xs : Nat) : Int)))), (28, AV.bool !b), (42, AV.bool true)], b := [], r := [], g := [], rd := [], wr := [] } else bif decide (0 ≤ best) then onOpt xs[Int.toNat best]? fun x => AM.asAgg x fun cs => asCons cs fun v r => AM.asInt IntKind.i64 v fun n => asCons r fun v r => AM.asInt IntKind.i64 v fun n_4 => asCons r fun v r => asStr v fun s => asNil r (bif decide (0 ≤ i) then onOpt xs[Int.toNat i]? fun x => AM.asAgg x fun cs => asCons cs fun v r => AM.asInt IntKind.i64 v fun n_5 => asCons r fun v r => AM.asInt IntKind.i64 v fun n_6 => asCons r fun v r => asStr v fun s_2 => asNil r (onRes (F 84 [AV.agg [AV.int IntKind.i64 n, AV.int IntKind.i64 n_4, AV.str s], AV.agg [AV.int IntKind.i64 n_5, AV.int IntKind.i64 n_6, AV.str s_2]] []) fun v bs => AM.asBool v fun b_1 => asNil bs (bif !b_1 then KN { nt := 54, t := [(0, AV.sl 3 fl xs), (2, AV.sl 0 true []), (3, AV.tip 53 0 3 ys), (4, AV.int IntKind.i64 i), (5, AV.int IntKind.i64 (IntKind.wrap IntKind.i64 (i + 1))), (9, AV.bool (decide (i < ((List.length xs : Nat) : Int)))), (28, AV.bool !b), (42, AV.bool !b_1)], b := [], r := [], g := [], rd := [], wr := [] } else KN { nt := 54, t := [(0, AV.sl 3 fl xs), (2, AV.sl 0 true []), (3, AV.tip 53 0 3 ys), (4, AV.int IntKind.i64 best), (5, AV.int IntKind.i64 (IntKind.wrap IntKind.i64 (i + 1))), (9, AV.bool (decide (i < ((List.length xs : Nat) : Int)))), (28, AV.bool !b), (42, AV.bool !b_1)], b := [], r := [], g := [], rd := [], wr := [] })) else none) else none)) else none) else none else bif decide (best < 0) then KN { nt := 54, t := [(0, AV.sl 3 fl xs), (2, AV.sl 0 true []), (3, AV.tip 53 0 3 ys), (4, AV.int IntKind.i64 i), (5, AV.int IntKind.i64 (IntKind.wrap IntKind.i64 (i + 1))), (9, AV.bool (decide (i < ((List.length xs : Nat) : Int)))), (28, AV.bool false), (42, AV.bool true)], b := [], r := [], g := [], rd := [], wr := [] } else bif decide (0 ≤ best) then onOpt xs[Int.toNat best]? fun x => AM.asAgg x fun cs => asCons cs fun v r => AM.asInt IntKind.i64 v fun n => asCons r fun v r => AM.asInt IntKind.i64 v fun n_1 => asCons r fun v r => asStr v fun s => asNil r (bif decide (0 ≤ i) then onOpt xs[Int.toNat i]? fun x => AM.asAgg x fun cs => asCons cs fun v r => AM.asInt IntKind.i64 v fun n_2 => asCons r fun v r => AM.asInt IntKind.i64 v fun n_3 => asCons r fun v r => asStr v fun s_1 => asNil r (onRes (F 84 [AV.agg [AV.int IntKind.i64 n, AV.int IntKind.i64 n_1, AV.str s], AV.agg [AV.int IntKind.i64 n_2, AV.int IntKind.i64 n_3, AV.str s_1]] []) fun v bs => AM.asBool v fun b => asNil bs (bif !b then KN { nt := 54, t := [(0, AV.sl 3 fl xs), (2, AV.sl 0 true []), (3, AV.tip 53 0 3 ys), (4, AV.int IntKind.i64 i), (5, AV.int IntKind.i64 (IntKind.wrap IntKind.i64 (i + 1))), (9, AV.bool (decide (i < ((List.length xs : Nat) : Int)))), (28, AV.bool false), (42, AV.bool !b)], b := [], r := [], g := [], rd := [], wr := [] } else KN { nt := 54, t := [(0, AV.sl 3 fl xs), (2, AV.sl 0 true []), (3, AV.tip 53 0 3 ys), (4, AV.int IntKind.i64 best), (5, AV.int IntKind.i64 (IntKind.wrap IntKind.i64 (i + 1))), (9, AV.bool (decide (i < ((List.length xs : Nat) : Int)))), (28, AV.bool false), (42, AV.bool !b)], b := [], r := [], g := [], rd := [], wr := [] })) else none) else none else bif decide (best < 0) then some (AV.sl 3 false ys, []) else bif decide (0 ≤ best) then onOpt xs[Int.toNat best]? fun x => AM.asAgg x fun cs => asCons cs fun v r => AM.asInt IntKind.i64 v fun n => asCons r fun v r => AM.asInt IntKind.i64 v fun n_1 => asCons r fun v r => asStr v fun s => asNil r (bif decide (3 = 3 ∧ fitsB (List.length ys + List.length [AV.agg [AV.int IntKind.i64 n, AV.int IntKind.i64 n_1, AV.str s]]) 32 = true ∧ List.length ys + List.length [AV.agg [AV.int IntKind.i64 n, AV.int IntKind.i64 n_1, AV.str s]] ≤ 4611686018427387904) then KO { nt := 54, t := [(0, AV.sl 3 fl xs), (2, AV.sl 0 true []), (3, AV.tip 53 0 3 (ys ++ [AV.agg [AV.int IntKind.i64 n, AV.int IntKind.i64 n_1, AV.str s]])), (4, AV.int IntKind.i64 best), (5, AV.int IntKind.i64 i), (9, AV.bool (decide (i < ((List.length xs : Nat) : Int)))), (45, AV.bool (decide (best < 0)))], b := [], r := [], g := [], rd := [], wr := [] } else none) else none := by kernel_rfl
/-- The index that stands for what was picked. -/
def IdxW (ws : List Wr) (b : Option Wr) (bi : Int) : Prop := match b with
  | none => bi = -1
  | some x => ∃ (j : Nat) (h : j < ws.length), bi = j ∧ ws[j] = x
def foldT0 (fl : Bool) (ws : List Wr) (KO : St → Res) (b : Option Wr) (bi : Int) : Res := match b with
  | none => some (.sl 0 true [], [])
  | some x => KO ⟨54, [(0, AV.sl 3 fl (ws.map wrV)), (2, AV.sl 0 true []), (3, AV.tip 53 0 3 [wrV x]), (4, AV.int IntKind.i64 bi), (5, AV.int IntKind.i64 ws.length), (9, AV.bool false), (45, AV.bool false)], [], [], [], [], []⟩
def foldT1 (fl : Bool) (ws acc : List Wr) (KO : St → Res) (b : Option Wr) (bi : Int) : Res := match b with
  | none => some (.sl 3 false (acc.map wrV), [])
  | some x => KO ⟨54, [(0, AV.sl 3 fl (ws.map wrV)), (2, AV.sl 0 true []), (3, AV.tip 53 0 3 ((acc ++ [x]).map wrV)), (4, AV.int IntKind.i64 bi), (5, AV.int IntKind.i64 ws.length), (9, AV.bool false), (45, AV.bool false)], [], [], [], [], []⟩
theorem fold_inner0 (k : Nat) (hk : 1 ≤ k) (fl : Bool) (ws : List Wr) (hl : ws.length ≤ 1000) (KO : St → Res) : ∀ (dd i m : Nat) (b : Option Wr) (bi : Int) (st : St), i + dd = ws.length → dd < m → IdxW ws b bi → st.clean (deadOf 39 1) = foldI fl (ws.map wrV) (.sl 0 true []) bi i →
    ∃ bi', loopA (bodyOf (evF pr k) 39 1 k) (deadOf 39 1) (contBOf (evF pr k) 39 0 0 k (brk (contOf (evF pr k) 39 0 k 0) KO)) m st = foldT0 fl ws KO (pick none (ws.drop i) b) bi' := by
  intro dd
  induction dd with
  | zero =>
    intro i m b bi st hi hm hb hst
    obtain ⟨m, rfl⟩ : ∃ m', m = m' + 1 := ⟨m - 1, by omega⟩
    have hiw : i = ws.length := by omega
    have : ws.drop i = [] := List.drop_eq_nil_of_le (by omega)
    rw [loopA_succ, hst, fold_in0, List.length_map, decide_eq_false (by omega), this]
    refine ⟨bi, ?_⟩
    cases b with
    | none =>
      have hb : bi = -1 := hb
      subst hb
      rfl
    | some x =>
      obtain ⟨j, hj, rfl, rfl⟩ := hb
      rw [decide_eq_false (show ¬ ((j : Nat) : Int) < 0 by omega), decide_eq_true (show 0 ≤ ((j : Nat) : Int) by omega), getWr ws j hj, hiw]
      rfl
  | succ dd ih =>
    intro i m b bi st hi hm hb hst
    obtain ⟨m, rfl⟩ : ∃ m', m = m' + 1 := ⟨m - 1, by omega⟩
    have hlt : i < ws.length := by omega
    have hw : IntKind.wrap IntKind.i64 ((i : Int) + 1) = ((i + 1 : Nat) : Int) := by rw [wrap_small (by omega) (by omega)]; omega
    rw [loopA_succ, hst, fold_in0, List.length_map, decide_eq_true (show (i : Int) < ws.length by omega), List.drop_eq_getElem_cons hlt, pick_cons, if_neg (by simp [skipW]), hw]
    cases b with
    | none =>
      have hb : bi = -1 := hb
      subst hb
      exact ih (i + 1) m (some ws[i]) i _ (by omega) (by omega) ⟨i, hlt, rfl, rfl⟩ (by kernel_rfl)
    | some x =>
      obtain ⟨j, hj, rfl, rfl⟩ := hb
      rw [decide_eq_false (show ¬ ((j : Nat) : Int) < 0 by omega), decide_eq_true (show 0 ≤ ((j : Nat) : Int) by omega), getWr ws j hj, decide_eq_true (show 0 ≤ ((i : Nat) : Int) by omega), getWr ws i hlt]
      simp only [cond_true, cond_false, onOpt, asAgg, asCons, asInt, asStr, if_true, asNil]
      rw [e84 k hk]
      simp only [onRes, asBool, asNil]
      cases hle : wless ws[j] ws[i] with
      | false =>
        simp only [Bool.not_false, cond_true, Bool.false_eq_true, if_false]
        exact ih (i + 1) m (some ws[i]) i _ (by omega) (by omega) ⟨i, hlt, rfl, rfl⟩ (by kernel_rfl)
      | true =>
        simp only [Bool.not_true, cond_false, if_true]
        exact ih (i + 1) m (some ws[j]) j _ (by omega) (by omega) ⟨j, hj, rfl, rfl⟩ (by kernel_rfl)
theorem fold_inner1 (k : Nat) (hk : 1 ≤ k) (fl : Bool) (ws acc : List Wr) (z : Wr) (ha : acc.length ≤ 1000) (hl : ws.length ≤ 1000) (KO : St → Res) : ∀ (dd i m : Nat) (b : Option Wr) (bi : Int) (st : St), i + dd = ws.length → dd < m → IdxW ws b bi → st.clean (deadOf 39 1) = foldI fl (ws.map wrV) (.tip 53 0 3 ((acc ++ [z]).map wrV)) bi i →
    ∃ bi', loopA (bodyOf (evF pr k) 39 1 k) (deadOf 39 1) (contBOf (evF pr k) 39 0 0 k (brk (contOf (evF pr k) 39 0 k 0) KO)) m st = foldT1 fl ws (acc ++ [z]) KO (pick (some z) (ws.drop i) b) bi' := by
  have hza : ((acc ++ [z]).map wrV)[Int.toNat (IntKind.wrap IntKind.i64 (((((acc ++ [z]).map wrV).length : Nat) : Int) - 1))]? = some (.agg [.int .i64 z.1, .int .i64 z.2.1, .str z.2.2]) := by
    rw [List.length_map, List.length_append, List.length_singleton, show IntKind.wrap IntKind.i64 (((acc.length + 1 : Nat) : Int) - 1) = ((acc.length : Nat) : Int) by rw [wrap_small (by omega) (by omega)]; omega, Int.toNat_natCast]
    simp [wrV]
  have hlen : (((acc ++ [z]).map wrV).length : Nat) = acc.length + 1 := by simp
  intro dd
  induction dd with
  | zero =>
    intro i m b bi st hi hm hb hst
    obtain ⟨m, rfl⟩ : ∃ m', m = m' + 1 := ⟨m - 1, by omega⟩
    have hiw : i = ws.length := by omega
    have : ws.drop i = [] := List.drop_eq_nil_of_le (by omega)
    have hlw : (ws.map wrV).length = ws.length := by simp
    rw [loopA_succ, hst, fold_in1, hlw, decide_eq_false (by omega), this]
    refine ⟨bi, ?_⟩
    cases b with
    | none =>
      have hb : bi = -1 := hb
      subst hb
      rfl
    | some x =>
      obtain ⟨j, hj, rfl, rfl⟩ := hb
      rw [decide_eq_false (show ¬ ((j : Nat) : Int) < 0 by omega), decide_eq_true (show 0 ≤ ((j : Nat) : Int) by omega), getWr ws j hj, hiw]
      simp only [cond_false, cond_true, onOpt, asAgg, asCons, asInt, asStr, if_true, asNil]
      rw [decide_eq_true (by
        refine ⟨trivial, fitsB_small ?_, ?_⟩ <;> simp only [List.length_map, List.length_cons, List.length_nil, List.length_append] <;> omega)]
      simp only [cond_true, pick, foldT1, List.map_append, List.map_cons, List.map_nil, wrV]
  | succ dd ih =>
    intro i m b bi st hi hm hb hst
    obtain ⟨m, rfl⟩ : ∃ m', m = m' + 1 := ⟨m - 1, by omega⟩
    have hlt : i < ws.length := by omega
    have hw : IntKind.wrap IntKind.i64 ((i : Int) + 1) = ((i + 1 : Nat) : Int) := by rw [wrap_small (by omega) (by omega)]; omega
    have hw2 : 0 ≤ IntKind.wrap IntKind.i64 (((((acc ++ [z]).map wrV).length : Nat) : Int) - 1) := by rw [hlen, wrap_small (by omega) (by omega)]; omega
    have hlw : (ws.map wrV).length = ws.length := by simp
    rw [loopA_succ, hst, fold_in1, hlw, decide_eq_true (show (i : Int) < ws.length by omega), decide_eq_true (show ((((acc ++ [z]).map wrV).length : Nat) : Int) > 0 by rw [hlen]; omega), decide_eq_true hw2, hza, decide_eq_true (show 0 ≤ ((i : Nat) : Int) by omega), getWr ws i hlt, List.drop_eq_getElem_cons hlt, pick_cons, hw]
    simp only [cond_true, cond_false, onOpt, asAgg, asCons, asInt, asStr, if_true, asNil]
    rw [e84 k hk]
    simp only [onRes, asBool, asNil]
    cases hz : wless z ws[i] with
    | false =>
      rw [show skipW (some z) ws[i] = true by simp [skipW, hz]]
      simp only [Bool.not_false, cond_true, if_true]
      exact ih (i + 1) m b bi _ (by omega) (by omega) hb (by kernel_rfl)
    | true =>
      rw [show skipW (some z) ws[i] = false by simp [skipW, hz]]
      simp only [Bool.not_true, cond_false, Bool.false_eq_true, if_false]
      cases b with
      | none =>
        have hb : bi = -1 := hb
        subst hb
        exact ih (i + 1) m (some ws[i]) i _ (by omega) (by omega) ⟨i, hlt, rfl, rfl⟩ (by kernel_rfl)
      | some x =>
        obtain ⟨j, hj, rfl, rfl⟩ := hb
        rw [decide_eq_false (show ¬ ((j : Nat) : Int) < 0 by omega), decide_eq_true (show 0 ≤ ((j : Nat) : Int) by omega), getWr ws j hj]
        simp only [cond_true, cond_false, onOpt, asAgg, asCons, asInt, asStr, if_true, asNil]
        rw [e84 k hk]
        simp only [onRes, asBool, asNil]
        cases hle : wless ws[j] ws[i] with
        | false =>
          simp only [Bool.not_false, cond_true, Bool.false_eq_true, if_false]
          exact ih (i + 1) m (some ws[i]) i _ (by omega) (by omega) ⟨i, hlt, rfl, rfl⟩ (by kernel_rfl)
        | true =>
          simp only [Bool.not_true, cond_false, if_true]
          exact ih (i + 1) m (some ws[j]) j _ (by omega) (by omega) ⟨j, hj, rfl, rfl⟩ (by kernel_rfl)
theorem pick_cnt0 {z : Wr} : ∀ (ws : List Wr), cntW z ws = 0 → pick (some z) ws none = none := by
  intro ws h
  refine pick_skip _ _ _ fun w hm => ?_
  have := List.countP_eq_zero.1 h w hm
  simp only [skipW, Bool.not_eq_true'] at this ⊢
  simpa using this
theorem fold_outer (k : Nat) (fl : Bool) (ws : List Wr) (hl : ws.length ≤ 200) (hk : 210 ≤ k) : ∀ (n m : Nat) (acc : List Wr) (z : Wr) (st : St), cntW z ws ≤ n → n < m → acc.length + n ≤ 500 → st.clean (deadOf 39 0) = foldS fl (ws.map wrV) (.tip 53 0 3 ((acc ++ [z]).map wrV)) →
    loopA (bodyOf (evF pr k) 39 0 k) (deadOf 39 0) (contOf (evF pr k) 39 0 k 0) m st = some (.sl 3 false ((foldF n ws acc z).map wrV), []) := by
  intro n
  induction n with
  | zero =>
    intro m acc z st hc hm ha hst
    obtain ⟨m, rfl⟩ : ∃ m', m = m' + 1 := ⟨m - 1, by omega⟩
    rw [loopA_succ, hst, fold_body1]
    obtain ⟨bi, h⟩ := fold_inner1 k (by omega) fl ws acc z (by omega) (by omega) (fun st' => loopA (bodyOf (evF pr k) 39 0 k) (deadOf 39 0) (contOf (evF pr k) 39 0 k 0) m st') ws.length 0 k none (-1) _ (Nat.zero_add _) (by omega) rfl (by kernel_rfl)
    refine h.trans ?_
    rw [List.drop_zero, pick_cnt0 ws (by omega)]
    rfl
  | succ n ih =>
    intro m acc z st hc hm ha hst
    obtain ⟨m, rfl⟩ : ∃ m', m = m' + 1 := ⟨m - 1, by omega⟩
    rw [loopA_succ, hst, fold_body1]
    obtain ⟨bi, h⟩ := fold_inner1 k (by omega) fl ws acc z (by omega) (by omega) (fun st' => loopA (bodyOf (evF pr k) 39 0 k) (deadOf 39 0) (contOf (evF pr k) 39 0 k 0) m st') ws.length 0 k none (-1) _ (Nat.zero_add _) (by omega) rfl (by kernel_rfl)
    refine h.trans ?_
    rw [List.drop_zero, foldF]
    cases hp : pick (some z) ws none with
    | none => rfl
    | some x =>
      simp only [foldT1]
      rcases pick_mem _ _ _ _ hp with h0 | ⟨h1, h2⟩
      · simp at h0
      have hz : wless z x = true := by simpa [skipW] using h2
      have := cntW_lt hz ws h1
      exact ih m (acc ++ [z]) x _ (by omega) (by omega) (by simp only [List.length_append, List.length_singleton]; omega) (by kernel_rfl)
/-- A list that was grown out of nothing. -/
def slW (l : List Wr) : AV := if l = [] then .sl 0 true [] else .sl 3 false (l.map wrV)
theorem foldF_ne : ∀ (n : Nat) (ws acc : List Wr) (z : Wr), foldF n ws acc z ≠ []
  | 0, ws, acc, z => by simp [foldF]
  | n + 1, ws, acc, z => by
    rw [foldF]
    split
    · simp
    · exact foldF_ne n ws _ _
theorem e39 (k : Nat) (fl : Bool) (ws : List Wr) (hl : ws.length ≤ 200) (hk : 220 ≤ k) : evF pr k 39 [.sl 3 fl (ws.map wrV)] [] = some (slW (foldAll ws), []) := by
  obtain ⟨k, rfl⟩ : ∃ m, k = m + 1 := ⟨k - 1, by omega⟩
  rw [ev_step _ _ _ _ (by kernel_rfl), fold_tree]
  obtain ⟨k', hk'⟩ : ∃ m, k = m + 1 := ⟨k - 1, by omega⟩
  conv => lhs; arg 4; rw [hk']
  rw [loopA_succ]
  refine (fold_body0 _ _ fl (ws.map wrV) _).trans ?_
  obtain ⟨bi, h⟩ := fold_inner0 k (by omega) fl ws (by omega) (fun st' => loopA (bodyOf (evF pr k) 39 0 k) (deadOf 39 0) (contOf (evF pr k) 39 0 k 0) k' st') ws.length 0 k none (-1) _ (Nat.zero_add _) (by omega) rfl (by kernel_rfl)
  refine h.trans ?_
  rw [List.drop_zero, foldAll]
  cases hp : pick none ws none with
  | none => rfl
  | some x =>
    simp only [foldT0]
    rw [slW, if_neg (foldF_ne _ _ _ _)]
    exact fold_outer k fl ws hl (by omega) ws.length k' [] x _ (List.countP_le_length) (by omega) (by simp only [List.length_nil]; omega) (by kernel_rfl)

end Go.AM.Ytnhfjkckgicidaa
