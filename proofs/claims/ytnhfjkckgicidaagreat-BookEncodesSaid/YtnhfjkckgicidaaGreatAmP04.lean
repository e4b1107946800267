/- Writes: ref08.Fold, ref08.Equal, ref17.Writable: what they answer, plain. -/
import Derived.Test.YtnhfjkckgicidaaGreatAmP03
set_option linter.unusedVariables false
set_option linter.unusedSimpArgs false
set_option linter.unusedVariables false
set_option linter.unusedSimpArgs false
namespace Go.AM.YtnhfjkckgicidaaGreat
open Go.AM Go.Proofs Go
theorem wless_trans {a b c : Wr} (h1 : wless a b = true) (h2 : wless b c = true) : wless a c = true := by
  unfold wless at *
  rw [decide_eq_true_eq] at *
  omega
theorem wless_irrefl (a : Wr) : wless a a = false := by
  unfold wless
  rw [decide_eq_false_iff_not]
  omega
theorem wless_asymm {a b : Wr} (h : wless a b = true) : wless b a = false := by
  unfold wless at *
  rw [decide_eq_true_eq] at h
  rw [decide_eq_false_iff_not]
  omega
theorem sortedW_iff : ∀ l : List Wr, sortedW l = true ↔ l.Pairwise fun a b => wless a b = true
  | [] => by simp [sortedW]
  | [a] => by simp [sortedW]
  | a :: b :: r => by
    rw [sortedW, Bool.and_eq_true, sortedW_iff (b :: r), List.pairwise_cons (a := a)]
    constructor
    · rintro ⟨h1, h2⟩
      refine ⟨fun c hc => ?_, h2⟩
      rcases List.mem_cons.1 hc with rfl | hc
      · exact h1
      · exact wless_trans h1 ((List.pairwise_cons.1 h2).1 c hc)
    · rintro ⟨h1, h2⟩
      exact ⟨h1 b (List.mem_cons_self ..), h2⟩
def skipW (last : Option Wr) (w : Wr) : Bool := match last with
  | none => false
  | some z => !wless z w
def pick (last : Option Wr) : List Wr → Option Wr → Option Wr
  | [], b => b
  | w :: r, b => if skipW last w then pick last r b else match b with
    | none => pick last r (some w)
    | some x => if wless x w then pick last r (some x) else pick last r (some w)
def foldF : Nat → List Wr → List Wr → Wr → List Wr
  | 0, _, acc, z => acc ++ [z]
  | n + 1, ws, acc, z => match pick (some z) ws none with
    | none => acc ++ [z]
    | some x => foldF n ws (acc ++ [z]) x
def foldAll (ws : List Wr) : List Wr := match pick none ws none with
  | none => []
  | some x => foldF ws.length ws [] x
theorem pick_cons (last : Option Wr) (w : Wr) (r : List Wr) (b : Option Wr) : pick last (w :: r) b = if skipW last w then pick last r b else match b with
    | none => pick last r (some w)
    | some x => if wless x w then pick last r (some x) else pick last r (some w) := by cases b <;> rfl
theorem pick_mem (last : Option Wr) : ∀ (r : List Wr) (b : Option Wr) (x : Wr), pick last r b = some x → b = some x ∨ (x ∈ r ∧ skipW last x = false)
  | [], b, x, h => .inl h
  | w :: r, b, x, h => by
    rw [pick_cons] at h
    split at h
    · rcases pick_mem last r b x h with h | ⟨h1, h2⟩
      · exact .inl h
      · exact .inr ⟨List.mem_cons_of_mem _ h1, h2⟩
    · rename_i hs
      have hs : skipW last w = false := by simpa using hs
      split at h
      · rcases pick_mem last r (some w) x h with h | ⟨h1, h2⟩
        · cases h; exact .inr ⟨List.mem_cons_self .., hs⟩
        · exact .inr ⟨List.mem_cons_of_mem _ h1, h2⟩
      · split at h
        · rcases pick_mem last r _ x h with h | ⟨h1, h2⟩
          · exact .inl h
          · exact .inr ⟨List.mem_cons_of_mem _ h1, h2⟩
        · rcases pick_mem last r (some w) x h with h | ⟨h1, h2⟩
          · cases h; exact .inr ⟨List.mem_cons_self .., hs⟩
          · exact .inr ⟨List.mem_cons_of_mem _ h1, h2⟩
theorem pick_append (last : Option Wr) : ∀ (l r : List Wr) (b : Option Wr), pick last (l ++ r) b = pick last r (pick last l b)
  | [], r, b => rfl
  | w :: l, r, b => by
    rw [List.cons_append, pick_cons, pick_cons]
    split
    · exact pick_append last l r b
    · split
      · exact pick_append last l r _
      · split <;> exact pick_append last l r _
theorem pick_skip (last : Option Wr) : ∀ (l : List Wr) (b : Option Wr), (∀ w ∈ l, skipW last w = true) → pick last l b = b
  | [], b, h => rfl
  | w :: l, b, h => by
    rw [pick_cons, if_pos (h w (List.mem_cons_self ..))]
    exact pick_skip last l b fun v hv => h v (List.mem_cons_of_mem _ hv)
theorem pick_stay (last : Option Wr) (x : Wr) : ∀ (l : List Wr), (∀ w ∈ l, wless x w = true) → pick last l (some x) = some x
  | [], h => rfl
  | w :: l, h => by
    rw [pick_cons]
    have hw := h w (List.mem_cons_self ..)
    have hl := pick_stay last x l fun v hv => h v (List.mem_cons_of_mem _ hv)
    split
    · exact hl
    · simp only [hw, if_true, hl]
def cntW (z : Wr) (ws : List Wr) : Nat := ws.countP (wless z)
theorem cntW_le {z x : Wr} (h : wless z x = true) (ws : List Wr) : cntW x ws ≤ cntW z ws :=
  List.countP_mono_left fun w _ hw => wless_trans h hw
theorem cntW_lt {z x : Wr} (h : wless z x = true) : ∀ (ws : List Wr), x ∈ ws → cntW x ws < cntW z ws
  | [], hx => by simp at hx
  | w :: r, hx => by
    have hle := cntW_le h r
    unfold cntW at *
    rw [List.countP_cons, List.countP_cons]
    rcases List.mem_cons.1 hx with rfl | hx
    · rw [wless_irrefl, h]
      simp
      omega
    · have := cntW_lt h r hx
      unfold cntW at this
      by_cases hw : wless x w = true
      · rw [hw, wless_trans h hw]
        simp
        omega
      · simp only [hw, if_false]
        simp
        omega
theorem foldF_sorted : ∀ (n : Nat) (ws acc : List Wr) (z : Wr), (acc ++ [z]).Pairwise (fun a b => wless a b = true) → (foldF n ws acc z).Pairwise fun a b => wless a b = true
  | 0, ws, acc, z, h => h
  | n + 1, ws, acc, z, h => by
    rw [foldF]
    split
    · exact h
    · rename_i x hx
      refine foldF_sorted n ws _ x ?_
      rcases pick_mem _ _ _ _ hx with h0 | ⟨_, h1⟩
      · simp at h0
      have hz : wless z x = true := by simpa [skipW] using h1
      rw [List.pairwise_append]
      refine ⟨h, by simp, fun a ha b hb => ?_⟩
      rw [List.mem_singleton] at hb
      subst hb
      rcases List.mem_append.1 ha with ha | ha
      · exact wless_trans ((List.pairwise_append.1 h).2.2 a ha z (by simp)) hz
      · rw [List.mem_singleton] at ha
        subst ha
        exact hz
theorem foldF_whole : ∀ (post : List Wr) (n : Nat) (ws acc : List Wr) (z : Wr), ws = acc ++ z :: post → ws.Pairwise (fun a b => wless a b = true) → post.length ≤ n → foldF n ws acc z = ws
  | [], n, ws, acc, z, hw, hs, hn => by
    have hp : pick (some z) ws none = none := by
      refine pick_skip _ _ _ fun w hm => ?_
      rw [hw] at hm hs
      rcases List.mem_append.1 hm with hm | hm
      · have := (List.pairwise_append.1 hs).2.2 w hm z (by simp)
        simp [skipW, wless_asymm this]
      · simp at hm
        subst hm
        simp [skipW, wless_irrefl]
    cases n with
    | zero => rw [foldF, hw]
    | succ n => rw [foldF, hp, hw]
  | x :: post, n, ws, acc, z, hw, hs, hn => by
    obtain ⟨n, rfl⟩ : ∃ m, n = m + 1 := ⟨n - 1, by simp at hn; omega⟩
    have hp : pick (some z) ws none = some x := by
      rw [hw] at hs
      rw [hw, show acc ++ z :: x :: post = (acc ++ [z]) ++ x :: post by simp, pick_append]
      have hs2 := List.pairwise_append.1 hs
      have hs3 := List.pairwise_cons.1 hs2.2.1
      have hs4 := List.pairwise_cons.1 hs3.2
      rw [pick_skip _ (acc ++ [z]) _ fun w hm => ?_]
      · rw [pick_cons, if_neg (by simp [skipW, hs3.1 x (by simp)])]
        exact pick_stay _ x post hs4.1
      · rcases List.mem_append.1 hm with hm | hm
        · simp [skipW, wless_asymm (hs2.2.2 w hm z (by simp))]
        · rw [List.mem_singleton] at hm
          subst hm
          simp [skipW, wless_irrefl]
    rw [foldF, hp]
    exact foldF_whole post n ws (acc ++ [z]) x (by rw [hw]; simp) hs (by simp at hn; omega)
theorem foldAll_iff (ws : List Wr) : decide (ws = foldAll ws) = sortedW ws := by
  rw [Bool.eq_iff_iff, decide_eq_true_eq, sortedW_iff]
  constructor
  · intro h
    rw [h]
    unfold foldAll
    split
    · simp
    · exact foldF_sorted _ _ _ _ (by simp)
  · intro h
    cases ws with
    | nil => rfl
    | cons x r =>
      have hp : pick none (x :: r) none = some x := by
        rw [pick_cons, if_neg (by simp [skipW])]
        exact pick_stay _ x r (List.pairwise_cons.1 h).1
      unfold foldAll
      rw [hp]
      exact (foldF_whole r (x :: r).length (x :: r) [] x rfl h (by simp)).symm
noncomputable def contBOf (F : Fns) (f i j n : Nat) (K : Ex → St → Res) : Ex → St → Res := contB F tb sh (fxOf f) n i j K
theorem less_tree (F : Fns) (N : Nat) (v b v' b' : Int) (s s' : List UInt8) : runOf F 122 N [.agg [.int .i64 v, .int .i64 b, .str s], .agg [.int .i64 v', .int .i64 b', .str s']] [] =
  bif decide (v < v') then some (AV.bool true, []) else bif v == v' then some (AV.bool (decide (b < b')), []) else some (AV.bool false, []) := by kernel_rfl
theorem e84 (k : Nat) (hk : 1 ≤ k) (a b : Wr) : evF pr k 122 [.agg [.int .i64 a.1, .int .i64 a.2.1, .str a.2.2], .agg [.int .i64 b.1, .int .i64 b.2.1, .str b.2.2]] [] = some (.bool (wless a b), []) := by
  obtain ⟨k, rfl⟩ : ∃ m, k = m + 1 := ⟨k - 1, by omega⟩
  rw [ev_step _ _ _ _ (by kernel_rfl), less_tree]
  by_cases h1 : a.1 < b.1
  · rw [decide_eq_true h1, show wless a b = true from decide_eq_true (.inl h1)]; rfl
  rw [decide_eq_false h1]
  by_cases h2 : a.1 = b.1
  · rw [show (a.1 == b.1) = true by simp [h2], show wless a b = decide (a.2.1 < b.2.1) by unfold wless; rw [decide_eq_decide]; omega]; rfl
  · rw [show (a.1 == b.1) = false by simp [h2], show wless a b = false by unfold wless; rw [decide_eq_false_iff_not]; omega]; rfl
def foldS (fl : Bool) (xs : List AV) (v : AV) : St := ⟨54, [(0, AV.sl 3 fl xs), (2, AV.sl 0 true []), (3, v)], [], [], [], [], []⟩
def foldI (fl : Bool) (xs : List AV) (v : AV) (best i : Int) : St := ⟨54, [(0, AV.sl 3 fl xs), (2, AV.sl 0 true []), (3, v), (4, AV.int .i64 best), (5, AV.int .i64 i)], [], [], [], [], []⟩
theorem fold_tree (F : Fns) (N : Nat) (fl : Bool) (xs : List AV) : runOf F 77 N [.sl 3 fl xs] [] =
  loopA (bodyOf F 77 0 N) (deadOf 77 0) (contOf F 77 0 N 0) N { nt := 54, t := [(0, AV.sl 3 fl xs), (2, AV.sl 0 true []), (3, AV.sl 0 true [])], b := [], r := [], g := [], rd := [], wr := [] } := by kernel_rfl
theorem fold_body0 (F : Fns) (N : Nat) (fl : Bool) (xs : List AV) (KN : St → Res) : bodyOf F 77 0 N (foldS fl xs (.sl 0 true [])) (brk (contOf F 77 0 N 0) KN) =
  loopA (bodyOf F 77 1 N) (deadOf 77 1) (contBOf F 77 0 0 N (brk (contOf F 77 0 N 0) KN)) N { nt := 54, t := [(0, AV.sl 3 fl xs), (2, AV.sl 0 true []), (3, AV.sl 0 true []), (4, AV.int .i64 (-1)), (5, AV.int .i64 0)], b := [], r := [], g := [], rd := [], wr := [] } := by kernel_rfl
theorem fold_body1 (F : Fns) (N : Nat) (fl : Bool) (xs ys : List AV) (KN : St → Res) : bodyOf F 77 0 N (foldS fl xs (.tip 53 0 3 ys)) (brk (contOf F 77 0 N 0) KN) =
  loopA (bodyOf F 77 1 N) (deadOf 77 1) (contBOf F 77 0 0 N (brk (contOf F 77 0 N 0) KN)) N { nt := 54, t := [(0, AV.sl 3 fl xs), (2, AV.sl 0 true []), (3, AV.tip 53 0 3 ys), (4, AV.int .i64 (-1)), (5, AV.int .i64 0)], b := [], r := [], g := [], rd := [], wr := [] } := by kernel_rfl
theorem fold_in0 (F : Fns) (N : Nat) (fl : Bool) (xs : List AV) (best i : Int) (KO KN : St → Res) : bodyOf F 77 1 N (foldI fl xs (.sl 0 true []) best i) (brk (contBOf F 77 0 0 N (brk (contOf F 77 0 N 0) KO)) KN) =
  bif decide (i < ((List.length xs : Nat) : Int)) then bif decide (best < 0) then KN { nt := 54, t := [(0, AV.sl 3 fl xs), (2, AV.sl 0 true []), (3, AV.sl 0 true []), (4, AV.int .i64 i), (5, AV.int .i64 (IntKind.wrap .i64 (i + 1))), (9, AV.bool (decide (i < ((List.length xs : Nat) : Int)))), (28, AV.bool false), (42, AV.bool true)], b := [], r := [], g := [], rd := [], wr := [] } else bif decide (0 ≤ best) then onOpt xs[Int.toNat best]? fun x => asAgg x fun cs => asCons cs fun v r => asInt .i64 v fun n => asCons r fun v r => asInt .i64 v fun n_1 => asCons r fun v r => asStr v fun s => asNil r (bif decide (0 ≤ i) then onOpt xs[Int.toNat i]? fun x => asAgg x fun cs => asCons cs fun v r => asInt .i64 v fun n_2 => asCons r fun v r => asInt .i64 v fun n_3 => asCons r fun v r => asStr v fun s_1 => asNil r (onRes (F 122 [AV.agg [AV.int .i64 n, AV.int .i64 n_1, AV.str s], AV.agg [AV.int .i64 n_2, AV.int .i64 n_3, AV.str s_1]] []) fun v bs => asBool v fun b => asNil bs (bif !b then KN { nt := 54, t := [(0, AV.sl 3 fl xs), (2, AV.sl 0 true []), (3, AV.sl 0 true []), (4, AV.int .i64 i), (5, AV.int .i64 (IntKind.wrap .i64 (i + 1))), (9, AV.bool (decide (i < ((List.length xs : Nat) : Int)))), (28, AV.bool false), (42, AV.bool !b)], b := [], r := [], g := [], rd := [], wr := [] } else KN { nt := 54, t := [(0, AV.sl 3 fl xs), (2, AV.sl 0 true []), (3, AV.sl 0 true []), (4, AV.int .i64 best), (5, AV.int .i64 (IntKind.wrap .i64 (i + 1))), (9, AV.bool (decide (i < ((List.length xs : Nat) : Int)))), (28, AV.bool false), (42, AV.bool !b)], b := [], r := [], g := [], rd := [], wr := [] })) else none) else none else bif decide (best < 0) then some (AV.sl 0 true [], []) else bif decide (0 ≤ best) then onOpt xs[Int.toNat best]? fun x => asAgg x fun cs => asCons cs fun v r => asInt .i64 v fun n => asCons r fun v r => asInt .i64 v fun n_1 => asCons r fun v r => asStr v fun s => asNil r (KO { nt := 54, t := [(0, AV.sl 3 fl xs), (2, AV.sl 0 true []), (3, AV.tip 53 0 3 [AV.agg [AV.int .i64 n, AV.int .i64 n_1, AV.str s]]), (4, AV.int .i64 best), (5, AV.int .i64 i), (9, AV.bool (decide (i < ((List.length xs : Nat) : Int)))), (45, AV.bool (decide (best < 0)))], b := [], r := [], g := [], rd := [], wr := [] }) else none := by kernel_rfl
theorem fold_in1 (F : Fns) (N : Nat) (fl : Bool) (xs ys : List AV) (best i : Int) (KO KN : St → Res) : bodyOf F 77 1 N (foldI fl xs (.tip 53 0 3 ys) best i) (brk (contBOf F 77 0 0 N (brk (contOf F 77 0 N 0) KO)) KN) =
  bif decide (i < ((List.length xs : Nat) : Int)) then bif decide (((List.length ys : Nat) : Int) > 0) then bif decide (0 ≤ IntKind.wrap .i64 (((List.length ys : Nat) : Int) - 1)) then onOpt ys[Int.toNat (IntKind.wrap .i64 (((List.length ys : Nat) : Int) - 1))]? fun x => asAgg x fun cs => asCons cs fun v r => asInt .i64 v fun n => asCons r fun v r => asInt .i64 v fun n_1 => asCons r fun v r => asStr v fun s => asNil r (bif decide (0 ≤ i) then onOpt xs[Int.toNat i]? fun x => asAgg x fun cs => asCons cs fun v r => asInt .i64 v fun n_2 => asCons r fun v r => asInt .i64 v fun n_3 => asCons r fun v r => asStr v fun s_1 => asNil r (onRes (F 122 [AV.agg [AV.int .i64 n, AV.int .i64 n_1, AV.str s], AV.agg [AV.int .i64 n_2, AV.int .i64 n_3, AV.str s_1]] []) fun v bs => asBool v fun b => asNil bs (bif !b then KN { nt := 54, t := [(0, AV.sl 3 fl xs), (2, AV.sl 0 true []), (3, AV.tip 53 0 3 ys), (4, AV.int .i64 best), (5, AV.int .i64 (IntKind.wrap .i64 (i + 1))), (9, AV.bool (decide (i < ((List.length xs : Nat) : Int)))), (28, AV.bool !b)], b := [], r := [], g := [], rd := [], wr := [] } else bif decide (best < 0) then KN { nt := 54, t := [(0, AV.sl 3 fl xs), (2, AV.sl 0 true []), (3, AV.tip 53 0 3 ys), (4, AV.int .i64 i), (5, AV.int .i64 (IntKind.wrap .i64 (i + 1))), (9, AV.bool (decide (i < ((List.length xs : Nat) : Int)))), (28, AV.bool !b), (42, AV.bool true)], b := [], r := [], g := [], rd := [], wr := [] } else bif decide (0 ≤ best) then onOpt xs[Int.toNat best]? fun x => asAgg x fun cs => asCons cs fun v r => asInt .i64 v fun n => asCons r fun v r => asInt .i64 v fun n_4 => asCons r fun v r => asStr v fun s => asNil r (bif decide (0 ≤ i) then onOpt xs[Int.toNat i]? fun x => asAgg x fun cs => asCons cs fun v r => asInt .i64 v fun n_5 => asCons r fun v r => asInt .i64 v fun n_6 => asCons r fun v r => asStr v fun s_2 => asNil r (onRes (F 122 [AV.agg [AV.int .i64 n, AV.int .i64 n_4, AV.str s], AV.agg [AV.int .i64 n_5, AV.int .i64 n_6, AV.str s_2]] []) fun v bs => asBool v fun b_1 => asNil bs (bif !b_1 then KN { nt := 54, t := [(0, AV.sl 3 fl xs), (2, AV.sl 0 true []), (3, AV.tip 53 0 3 ys), (4, AV.int .i64 i), (5, AV.int .i64 (IntKind.wrap .i64 (i + 1))), (9, AV.bool (decide (i < ((List.length xs : Nat) : Int)))), (28, AV.bool !b), (42, AV.bool !b_1)], b := [], r := [], g := [], rd := [], wr := [] } else KN { nt := 54, t := [(0, AV.sl 3 fl xs), (2, AV.sl 0 true []), (3, AV.tip 53 0 3 ys), (4, AV.int .i64 best), (5, AV.int .i64 (IntKind.wrap .i64 (i + 1))), (9, AV.bool (decide (i < ((List.length xs : Nat) : Int)))), (28, AV.bool !b), (42, AV.bool !b_1)], b := [], r := [], g := [], rd := [], wr := [] })) else none) else none)) else none) else none else bif decide (best < 0) then KN { nt := 54, t := [(0, AV.sl 3 fl xs), (2, AV.sl 0 true []), (3, AV.tip 53 0 3 ys), (4, AV.int .i64 i), (5, AV.int .i64 (IntKind.wrap .i64 (i + 1))), (9, AV.bool (decide (i < ((List.length xs : Nat) : Int)))), (28, AV.bool false), (42, AV.bool true)], b := [], r := [], g := [], rd := [], wr := [] } else bif decide (0 ≤ best) then onOpt xs[Int.toNat best]? fun x => asAgg x fun cs => asCons cs fun v r => asInt .i64 v fun n => asCons r fun v r => asInt .i64 v fun n_1 => asCons r fun v r => asStr v fun s => asNil r (bif decide (0 ≤ i) then onOpt xs[Int.toNat i]? fun x => asAgg x fun cs => asCons cs fun v r => asInt .i64 v fun n_2 => asCons r fun v r => asInt .i64 v fun n_3 => asCons r fun v r => asStr v fun s_1 => asNil r (onRes (F 122 [AV.agg [AV.int .i64 n, AV.int .i64 n_1, AV.str s], AV.agg [AV.int .i64 n_2, AV.int .i64 n_3, AV.str s_1]] []) fun v bs => asBool v fun b => asNil bs (bif !b then KN { nt := 54, t := [(0, AV.sl 3 fl xs), (2, AV.sl 0 true []), (3, AV.tip 53 0 3 ys), (4, AV.int .i64 i), (5, AV.int .i64 (IntKind.wrap .i64 (i + 1))), (9, AV.bool (decide (i < ((List.length xs : Nat) : Int)))), (28, AV.bool false), (42, AV.bool !b)], b := [], r := [], g := [], rd := [], wr := [] } else KN { nt := 54, t := [(0, AV.sl 3 fl xs), (2, AV.sl 0 true []), (3, AV.tip 53 0 3 ys), (4, AV.int .i64 best), (5, AV.int .i64 (IntKind.wrap .i64 (i + 1))), (9, AV.bool (decide (i < ((List.length xs : Nat) : Int)))), (28, AV.bool false), (42, AV.bool !b)], b := [], r := [], g := [], rd := [], wr := [] })) else none) else none else bif decide (best < 0) then some (AV.sl 3 false ys, []) else bif decide (0 ≤ best) then onOpt xs[Int.toNat best]? fun x => asAgg x fun cs => asCons cs fun v r => asInt .i64 v fun n => asCons r fun v r => asInt .i64 v fun n_1 => asCons r fun v r => asStr v fun s => asNil r (bif decide (3 = 3 ∧ fitsB (List.length ys + List.length [AV.agg [AV.int .i64 n, AV.int .i64 n_1, AV.str s]]) 32 = true ∧ List.length ys + List.length [AV.agg [AV.int .i64 n, AV.int .i64 n_1, AV.str s]] ≤ 4611686018427387904) then KO { nt := 54, t := [(0, AV.sl 3 fl xs), (2, AV.sl 0 true []), (3, AV.tip 53 0 3 (ys ++ [AV.agg [AV.int .i64 n, AV.int .i64 n_1, AV.str s]])), (4, AV.int .i64 best), (5, AV.int .i64 i), (9, AV.bool (decide (i < ((List.length xs : Nat) : Int)))), (45, AV.bool (decide (best < 0)))], b := [], r := [], g := [], rd := [], wr := [] } else none) else none := by kernel_rfl
def IdxW (ws : List Wr) (b : Option Wr) (bi : Int) : Prop := match b with
  | none => bi = -1
  | some x => ∃ (j : Nat) (h : j < ws.length), bi = j ∧ ws[j] = x
def foldT0 (fl : Bool) (ws : List Wr) (KO : St → Res) (b : Option Wr) (bi : Int) : Res := match b with
  | none => some (.sl 0 true [], [])
  | some x => KO ⟨54, [(0, AV.sl 3 fl (ws.map wrV)), (2, AV.sl 0 true []), (3, AV.tip 53 0 3 [wrV x]), (4, AV.int .i64 bi), (5, AV.int .i64 ws.length), (9, AV.bool false), (45, AV.bool false)], [], [], [], [], []⟩
def foldT1 (fl : Bool) (ws acc : List Wr) (KO : St → Res) (b : Option Wr) (bi : Int) : Res := match b with
  | none => some (.sl 3 false (acc.map wrV), [])
  | some x => KO ⟨54, [(0, AV.sl 3 fl (ws.map wrV)), (2, AV.sl 0 true []), (3, AV.tip 53 0 3 ((acc ++ [x]).map wrV)), (4, AV.int .i64 bi), (5, AV.int .i64 ws.length), (9, AV.bool false), (45, AV.bool false)], [], [], [], [], []⟩
theorem fold_inner0 (k : Nat) (hk : 1 ≤ k) (fl : Bool) (ws : List Wr) (hl : ws.length ≤ 1000) (KO : St → Res) : ∀ (dd i m : Nat) (b : Option Wr) (bi : Int) (st : St), i + dd = ws.length → dd < m → IdxW ws b bi → st.clean (deadOf 77 1) = foldI fl (ws.map wrV) (.sl 0 true []) bi i →
    ∃ bi', loopA (bodyOf (evF pr k) 77 1 k) (deadOf 77 1) (contBOf (evF pr k) 77 0 0 k (brk (contOf (evF pr k) 77 0 k 0) KO)) m st = foldT0 fl ws KO (pick none (ws.drop i) b) bi' := by
  intro dd
  induction dd with
  | zero =>
    intro i m b bi st hi hm hb hst
    obtain ⟨m, rfl⟩ : ∃ m', m = m' + 1 := ⟨m - 1, by omega⟩
    have hiw : i = ws.length := by omega
    have : ws.drop i = [] := List.drop_eq_nil_of_le (by omega)
    rw [loopA_succ, hst, fold_in0, List.length_map, decide_eq_false (by omega), this]
    refine ⟨bi, ?_⟩
    cases b with
    | none =>
      have hb : bi = -1 := hb
      subst hb
      rfl
    | some x =>
      obtain ⟨j, hj, rfl, rfl⟩ := hb
      rw [decide_eq_false (show ¬ ((j : Nat) : Int) < 0 by omega), decide_eq_true (show 0 ≤ ((j : Nat) : Int) by omega), getWr ws j hj, hiw]
      rfl
  | succ dd ih =>
    intro i m b bi st hi hm hb hst
    obtain ⟨m, rfl⟩ : ∃ m', m = m' + 1 := ⟨m - 1, by omega⟩
    have hlt : i < ws.length := by omega
    have hw : IntKind.wrap .i64 ((i : Int) + 1) = ((i + 1 : Nat) : Int) := by rw [wrap_small (by omega) (by omega)]; omega
    rw [loopA_succ, hst, fold_in0, List.length_map, decide_eq_true (show (i : Int) < ws.length by omega), List.drop_eq_getElem_cons hlt, pick_cons, if_neg (by simp [skipW]), hw]
    cases b with
    | none =>
      have hb : bi = -1 := hb
      subst hb
      exact ih (i + 1) m (some ws[i]) i _ (by omega) (by omega) ⟨i, hlt, rfl, rfl⟩ (by kernel_rfl)
    | some x =>
      obtain ⟨j, hj, rfl, rfl⟩ := hb
      rw [decide_eq_false (show ¬ ((j : Nat) : Int) < 0 by omega), decide_eq_true (show 0 ≤ ((j : Nat) : Int) by omega), getWr ws j hj, decide_eq_true (show 0 ≤ ((i : Nat) : Int) by omega), getWr ws i hlt]
      simp only [cond_true, cond_false, onOpt, asAgg, asCons, asInt, asStr, if_true, asNil]
      rw [e84 k hk]
      simp only [onRes, asBool, asNil]
      cases hle : wless ws[j] ws[i] with
      | false =>
        simp only [Bool.not_false, cond_true, Bool.false_eq_true, if_false]
        exact ih (i + 1) m (some ws[i]) i _ (by omega) (by omega) ⟨i, hlt, rfl, rfl⟩ (by kernel_rfl)
      | true =>
        simp only [Bool.not_true, cond_false, if_true]
        exact ih (i + 1) m (some ws[j]) j _ (by omega) (by omega) ⟨j, hj, rfl, rfl⟩ (by kernel_rfl)
theorem fold_inner1 (k : Nat) (hk : 1 ≤ k) (fl : Bool) (ws acc : List Wr) (z : Wr) (ha : acc.length ≤ 1000) (hl : ws.length ≤ 1000) (KO : St → Res) : ∀ (dd i m : Nat) (b : Option Wr) (bi : Int) (st : St), i + dd = ws.length → dd < m → IdxW ws b bi → st.clean (deadOf 77 1) = foldI fl (ws.map wrV) (.tip 53 0 3 ((acc ++ [z]).map wrV)) bi i →
    ∃ bi', loopA (bodyOf (evF pr k) 77 1 k) (deadOf 77 1) (contBOf (evF pr k) 77 0 0 k (brk (contOf (evF pr k) 77 0 k 0) KO)) m st = foldT1 fl ws (acc ++ [z]) KO (pick (some z) (ws.drop i) b) bi' := by
  have hza : ((acc ++ [z]).map wrV)[Int.toNat (IntKind.wrap .i64 (((((acc ++ [z]).map wrV).length : Nat) : Int) - 1))]? = some (.agg [.int .i64 z.1, .int .i64 z.2.1, .str z.2.2]) := by
    rw [List.length_map, List.length_append, List.length_singleton, show IntKind.wrap .i64 (((acc.length + 1 : Nat) : Int) - 1) = ((acc.length : Nat) : Int) by rw [wrap_small (by omega) (by omega)]; omega, Int.toNat_natCast]
    simp [wrV]
  have hlen : (((acc ++ [z]).map wrV).length : Nat) = acc.length + 1 := by simp
  intro dd
  induction dd with
  | zero =>
    intro i m b bi st hi hm hb hst
    obtain ⟨m, rfl⟩ : ∃ m', m = m' + 1 := ⟨m - 1, by omega⟩
    have hiw : i = ws.length := by omega
    have : ws.drop i = [] := List.drop_eq_nil_of_le (by omega)
    have hlw : (ws.map wrV).length = ws.length := by simp
    rw [loopA_succ, hst, fold_in1, hlw, decide_eq_false (by omega), this]
    refine ⟨bi, ?_⟩
    cases b with
    | none =>
      have hb : bi = -1 := hb
      subst hb
      rfl
    | some x =>
      obtain ⟨j, hj, rfl, rfl⟩ := hb
      rw [decide_eq_false (show ¬ ((j : Nat) : Int) < 0 by omega), decide_eq_true (show 0 ≤ ((j : Nat) : Int) by omega), getWr ws j hj, hiw]
      simp only [cond_false, cond_true, onOpt, asAgg, asCons, asInt, asStr, if_true, asNil]
      rw [decide_eq_true (by
        refine ⟨trivial, fitsB_small ?_, ?_⟩ <;> simp only [List.length_map, List.length_cons, List.length_nil, List.length_append] <;> omega)]
      simp only [cond_true, pick, foldT1, List.map_append, List.map_cons, List.map_nil, wrV]
  | succ dd ih =>
    intro i m b bi st hi hm hb hst
    obtain ⟨m, rfl⟩ : ∃ m', m = m' + 1 := ⟨m - 1, by omega⟩
    have hlt : i < ws.length := by omega
    have hw : IntKind.wrap .i64 ((i : Int) + 1) = ((i + 1 : Nat) : Int) := by rw [wrap_small (by omega) (by omega)]; omega
    have hw2 : 0 ≤ IntKind.wrap .i64 (((((acc ++ [z]).map wrV).length : Nat) : Int) - 1) := by rw [hlen, wrap_small (by omega) (by omega)]; omega
    have hlw : (ws.map wrV).length = ws.length := by simp
    rw [loopA_succ, hst, fold_in1, hlw, decide_eq_true (show (i : Int) < ws.length by omega), decide_eq_true (show ((((acc ++ [z]).map wrV).length : Nat) : Int) > 0 by rw [hlen]; omega), decide_eq_true hw2, hza, decide_eq_true (show 0 ≤ ((i : Nat) : Int) by omega), getWr ws i hlt, List.drop_eq_getElem_cons hlt, pick_cons, hw]
    simp only [cond_true, cond_false, onOpt, asAgg, asCons, asInt, asStr, if_true, asNil]
    rw [e84 k hk]
    simp only [onRes, asBool, asNil]
    cases hz : wless z ws[i] with
    | false =>
      rw [show skipW (some z) ws[i] = true by simp [skipW, hz]]
      simp only [Bool.not_false, cond_true, if_true]
      exact ih (i + 1) m b bi _ (by omega) (by omega) hb (by kernel_rfl)
    | true =>
      rw [show skipW (some z) ws[i] = false by simp [skipW, hz]]
      simp only [Bool.not_true, cond_false, Bool.false_eq_true, if_false]
      cases b with
      | none =>
        have hb : bi = -1 := hb
        subst hb
        exact ih (i + 1) m (some ws[i]) i _ (by omega) (by omega) ⟨i, hlt, rfl, rfl⟩ (by kernel_rfl)
      | some x =>
        obtain ⟨j, hj, rfl, rfl⟩ := hb
        rw [decide_eq_false (show ¬ ((j : Nat) : Int) < 0 by omega), decide_eq_true (show 0 ≤ ((j : Nat) : Int) by omega), getWr ws j hj]
        simp only [cond_true, cond_false, onOpt, asAgg, asCons, asInt, asStr, if_true, asNil]
        rw [e84 k hk]
        simp only [onRes, asBool, asNil]
        cases hle : wless ws[j] ws[i] with
        | false =>
          simp only [Bool.not_false, cond_true, Bool.false_eq_true, if_false]
          exact ih (i + 1) m (some ws[i]) i _ (by omega) (by omega) ⟨i, hlt, rfl, rfl⟩ (by kernel_rfl)
        | true =>
          simp only [Bool.not_true, cond_false, if_true]
          exact ih (i + 1) m (some ws[j]) j _ (by omega) (by omega) ⟨j, hj, rfl, rfl⟩ (by kernel_rfl)
theorem pick_cnt0 {z : Wr} : ∀ (ws : List Wr), cntW z ws = 0 → pick (some z) ws none = none := by
  intro ws h
  refine pick_skip _ _ _ fun w hm => ?_
  have := List.countP_eq_zero.1 h w hm
  simp only [skipW, Bool.not_eq_true'] at this ⊢
  simpa using this
theorem fold_outer (k : Nat) (fl : Bool) (ws : List Wr) (hl : ws.length ≤ 200) (hk : 210 ≤ k) : ∀ (n m : Nat) (acc : List Wr) (z : Wr) (st : St), cntW z ws ≤ n → n < m → acc.length + n ≤ 500 → st.clean (deadOf 77 0) = foldS fl (ws.map wrV) (.tip 53 0 3 ((acc ++ [z]).map wrV)) →
    loopA (bodyOf (evF pr k) 77 0 k) (deadOf 77 0) (contOf (evF pr k) 77 0 k 0) m st = some (.sl 3 false ((foldF n ws acc z).map wrV), []) := by
  intro n
  induction n with
  | zero =>
    intro m acc z st hc hm ha hst
    obtain ⟨m, rfl⟩ : ∃ m', m = m' + 1 := ⟨m - 1, by omega⟩
    rw [loopA_succ, hst, fold_body1]
    obtain ⟨bi, h⟩ := fold_inner1 k (by omega) fl ws acc z (by omega) (by omega) (fun st' => loopA (bodyOf (evF pr k) 77 0 k) (deadOf 77 0) (contOf (evF pr k) 77 0 k 0) m st') ws.length 0 k none (-1) _ (Nat.zero_add _) (by omega) rfl (by kernel_rfl)
    refine h.trans ?_
    rw [List.drop_zero, pick_cnt0 ws (by omega)]
    rfl
  | succ n ih =>
    intro m acc z st hc hm ha hst
    obtain ⟨m, rfl⟩ : ∃ m', m = m' + 1 := ⟨m - 1, by omega⟩
    rw [loopA_succ, hst, fold_body1]
    obtain ⟨bi, h⟩ := fold_inner1 k (by omega) fl ws acc z (by omega) (by omega) (fun st' => loopA (bodyOf (evF pr k) 77 0 k) (deadOf 77 0) (contOf (evF pr k) 77 0 k 0) m st') ws.length 0 k none (-1) _ (Nat.zero_add _) (by omega) rfl (by kernel_rfl)
    refine h.trans ?_
    rw [List.drop_zero, foldF]
    cases hp : pick (some z) ws none with
    | none => rfl
    | some x =>
      simp only [foldT1]
      rcases pick_mem _ _ _ _ hp with h0 | ⟨h1, h2⟩
      · simp at h0
      have hz : wless z x = true := by simpa [skipW] using h2
      have := cntW_lt hz ws h1
      exact ih m (acc ++ [z]) x _ (by omega) (by omega) (by simp only [List.length_append, List.length_singleton]; omega) (by kernel_rfl)
def slW (l : List Wr) : AV := if l = [] then .sl 0 true [] else .sl 3 false (l.map wrV)
theorem foldF_ne : ∀ (n : Nat) (ws acc : List Wr) (z : Wr), foldF n ws acc z ≠ []
  | 0, ws, acc, z => by simp [foldF]
  | n + 1, ws, acc, z => by
    rw [foldF]
    split
    · simp
    · exact foldF_ne n ws _ _
theorem e39 (k : Nat) (fl : Bool) (ws : List Wr) (hl : ws.length ≤ 200) (hk : 220 ≤ k) : evF pr k 77 [.sl 3 fl (ws.map wrV)] [] = some (slW (foldAll ws), []) := by
  obtain ⟨k, rfl⟩ : ∃ m, k = m + 1 := ⟨k - 1, by omega⟩
  rw [ev_step _ _ _ _ (by kernel_rfl), fold_tree]
  obtain ⟨k', hk'⟩ : ∃ m, k = m + 1 := ⟨k - 1, by omega⟩
  conv => lhs; arg 4; rw [hk']
  rw [loopA_succ]
  refine (fold_body0 _ _ fl (ws.map wrV) _).trans ?_
  obtain ⟨bi, h⟩ := fold_inner0 k (by omega) fl ws (by omega) (fun st' => loopA (bodyOf (evF pr k) 77 0 k) (deadOf 77 0) (contOf (evF pr k) 77 0 k 0) k' st') ws.length 0 k none (-1) _ (Nat.zero_add _) (by omega) rfl (by kernel_rfl)
  refine h.trans ?_
  rw [List.drop_zero, foldAll]
  cases hp : pick none ws none with
  | none => rfl
  | some x =>
    simp only [foldT0]
    rw [slW, if_neg (foldF_ne _ _ _ _)]
    exact fold_outer k fl ws hl (by omega) ws.length k' [] x _ (List.countP_le_length) (by omega) (by simp only [List.length_nil]; omega) (by kernel_rfl)
end Go.AM.YtnhfjkckgicidaaGreat

set_option linter.unusedVariables false
set_option linter.unusedSimpArgs false
namespace Go.AM.YtnhfjkckgicidaaGreat
open Go.AM Go.Proofs Go
def weqS (fl fl' c : Bool) (xs ys : List AV) (i : Int) : St := ⟨26, [(0, AV.sl 3 fl xs), (1, AV.sl 3 fl' ys), (4, AV.bool false), (5, AV.int .i64 i), (10, AV.bool c)], [], [], [], [], []⟩
def weqS0 (a b : Nat) (fl fl' c : Bool) : St := ⟨26, [(0, AV.sl a fl []), (1, AV.sl b fl' []), (4, AV.bool false), (5, AV.int .i64 0), (10, AV.bool c)], [], [], [], [], []⟩
theorem weq_tree (F : Fns) (N : Nat) (a b : Nat) (fl fl' : Bool) (xs ys : List AV) : runOf F 55 N [.sl a fl xs, .sl b fl' ys] [] =
  bif ((List.length xs : Nat) : Int) != ((List.length ys : Nat) : Int) then some (AV.bool false, []) else loopA (bodyOf F 55 0 N) (deadOf 55 0) (contOf F 55 0 N 0) N { nt := 26, t := [(0, AV.sl a fl xs), (1, AV.sl b fl' ys), (4, AV.bool false), (5, AV.int .i64 0), (10, AV.bool (((List.length xs : Nat) : Int) != ((List.length ys : Nat) : Int)))], b := [], r := [], g := [], rd := [], wr := [] } := by kernel_rfl
theorem weq_body (F : Fns) (N : Nat) (fl fl' c : Bool) (xs ys : List AV) (i : Int) (KN : St → Res) : bodyOf F 55 0 N (weqS fl fl' c xs ys i) (brk (contOf F 55 0 N 0) KN) =
  bif decide (i < ((List.length xs : Nat) : Int)) then bif decide (0 ≤ i) then onOpt xs[Int.toNat i]? fun x => asAgg x fun cs => asCons cs fun v r => asInt .i64 v fun n => asCons r fun v r => asInt .i64 v fun n_1 => asCons r fun v r => asStr v fun s => asNil r (bif decide (0 ≤ i) then onOpt ys[Int.toNat i]? fun x => asAgg x fun cs => asCons cs fun v r => asInt .i64 v fun n_2 => asCons r fun v r => asInt .i64 v fun n_3 => asCons r fun v r => asStr v fun s_1 => asNil r (bif !(n == n_2 && (n_1 == n_3 && (s == s_1 && true))) then some (AV.bool false, []) else KN { nt := 26, t := [(0, AV.sl 3 fl xs), (1, AV.sl 3 fl' ys), (4, AV.bool false), (5, AV.int .i64 (IntKind.wrap .i64 (i + 1))), (10, AV.bool c), (14, AV.bool (decide (i < ((List.length xs : Nat) : Int)))), (25, AV.bool !(n == n_2 && (n_1 == n_3 && (s == s_1 && true))))], b := [], r := [], g := [], rd := [], wr := [] }) else none) else none else some (AV.bool true, []) := by kernel_rfl
theorem weq_body0 (F : Fns) (N : Nat) (a b : Nat) (fl fl' c : Bool) (KN : St → Res) : bodyOf F 55 0 N (weqS0 a b fl fl' c) (brk (contOf F 55 0 N 0) KN) =
  some (AV.bool true, []) := by kernel_rfl
theorem weq_loop (F : Fns) (N : Nat) (fl fl' c : Bool) (l l' : List Wr) (hl : l.length = l'.length) (hb : l.length < 4611686018427387904) : ∀ (dd i m : Nat) (st : St), i + dd = l.length → dd < m → st.clean (deadOf 55 0) = weqS fl fl' c (l.map wrV) (l'.map wrV) i →
    loopA (bodyOf F 55 0 N) (deadOf 55 0) (contOf F 55 0 N 0) m st = some (.bool (decide (l.drop i = l'.drop i)), []) := by
  intro dd
  induction dd with
  | zero =>
    intro i m st hi hm hst
    obtain ⟨m, rfl⟩ : ∃ m', m = m' + 1 := ⟨m - 1, by omega⟩
    have h1 : l.drop i = [] := List.drop_eq_nil_of_le (by omega)
    have h2 : l'.drop i = [] := List.drop_eq_nil_of_le (by omega)
    rw [loopA_succ, hst, weq_body, List.length_map, decide_eq_false (by omega), h1, h2]
    rfl
  | succ dd ih =>
    intro i m st hi hm hst
    obtain ⟨m, rfl⟩ : ∃ m', m = m' + 1 := ⟨m - 1, by omega⟩
    have hlt : i < l.length := by omega
    have hlt' : i < l'.length := by omega
    rw [loopA_succ, hst, weq_body, List.length_map, decide_eq_true (show (i : Int) < l.length by omega), decide_eq_true (show (0 : Int) ≤ i by omega), getWr l i hlt, getWr l' i hlt', List.drop_eq_getElem_cons hlt, List.drop_eq_getElem_cons hlt']
    simp only [cond_true, onOpt, asAgg, asCons, asInt, asStr, if_true, asNil]
    rw [wrap_small (n := (i : Int) + 1) (by omega) (by omega)]
    by_cases hc : l[i] = l'[i]
    · rw [hc]
      simp only [beq_self_eq_true, Bool.true_and, Bool.not_true, cond_false]
      refine (ih (i + 1) m _ (by omega) (by omega) (by kernel_rfl)).trans ?_
      have : decide (l.drop (i + 1) = l'.drop (i + 1)) = decide (l'[i] :: l.drop (i + 1) = l'[i] :: l'.drop (i + 1)) := by
        rw [decide_eq_decide]
        simp only [List.cons.injEq, true_and]
      rw [this]
    · have : ((l[i]).1 == (l'[i]).1 && ((l[i]).2.1 == (l'[i]).2.1 && ((l[i]).2.2 == (l'[i]).2.2 && true))) = false := by
        by_cases h1 : (l[i]).1 = (l'[i]).1
        · by_cases h2 : (l[i]).2.1 = (l'[i]).2.1
          · have h3 : (l[i]).2.2 ≠ (l'[i]).2.2 := fun h3 => hc (Prod.ext h1 (Prod.ext h2 h3))
            simp [h1, h2, h3]
          · simp [h1, h2]
        · simp [h1]
      rw [this, decide_eq_false (fun h => hc (List.cons.inj h).1)]
      rfl
theorem weq_nil (F : Fns) (N m a b : Nat) (fl fl' c : Bool) (st : St) (h : st.clean (deadOf 55 0) = weqS0 a b fl fl' c) : loopA (bodyOf F 55 0 N) (deadOf 55 0) (contOf F 55 0 N 0) (m + 1) st = some (.bool true, []) := by rw [loopA_succ, h, weq_body0]
theorem weq_nils (k a b : Nat) (fl fl' : Bool) : evF pr (k + 2) 55 [.sl a fl [], .sl b fl' []] [] = some (.bool true, []) := by
  rw [ev_step _ _ _ _ (by kernel_rfl), weq_tree, show ((((([] : List AV).length : Nat) : Int)) != ((([] : List AV).length : Nat) : Int)) = false from rfl, cond_false]
  exact weq_nil _ _ _ a b fl fl' false _ (by kernel_rfl)
theorem e16 (k : Nat) (fl fl' : Bool) (l l' : List Wr) (hk : l.length + 3 ≤ k) (hb : l.length < 4611686018427387904) : evF pr k 55 [.sl 3 fl (l.map wrV), .sl 3 fl' (l'.map wrV)] [] = some (.bool (decide (l = l')), []) := by
  obtain ⟨k, rfl⟩ : ∃ m, k = m + 1 := ⟨k - 1, by omega⟩
  rw [ev_step _ _ _ _ (by kernel_rfl), weq_tree, List.length_map, List.length_map]
  by_cases h : l.length = l'.length
  · rw [show (((l.length : Nat) : Int) != ((l'.length : Nat) : Int)) = false by simp [h]]
    exact weq_loop (evF pr k) k fl fl' false l l' h hb l.length 0 k _ (Nat.zero_add _) (by omega) (by kernel_rfl)
  · rw [show (((l.length : Nat) : Int) != ((l'.length : Nat) : Int)) = true by simp only [bne_iff_ne, ne_eq]; omega, decide_eq_false (fun e => h (by rw [e]))]
    rfl
def IsW (v : AV) (l : List Wr) : Prop := (∃ fl, v = .sl 3 fl (l.map wrV)) ∨ (l = [] ∧ ∃ a fl, v = .sl a fl [])
theorem IsW.slW (l : List Wr) : IsW (slW l) l := by
  unfold AM.YtnhfjkckgicidaaGreat.slW
  split
  · rename_i h; exact .inr ⟨h, _, _, rfl⟩
  · exact .inl ⟨_, rfl⟩
theorem e16' (k : Nat) {v v' : AV} {l l' : List Wr} (hv : IsW v l) (hv' : IsW v' l') (hk : l.length + 3 ≤ k) (hb : l.length < 4611686018427387904) : evF pr k 55 [v, v'] [] = some (.bool (decide (l = l')), []) := by
  rcases hv with ⟨fl, rfl⟩ | ⟨rfl, a, fl, rfl⟩
  · rcases hv' with ⟨fl', rfl⟩ | ⟨rfl, a', fl', rfl⟩
    · exact e16 k fl fl' l l' hk hb
    · cases l with
      | nil =>
        obtain ⟨k, rfl⟩ : ∃ m, k = m + 2 := ⟨k - 2, by omega⟩
        exact weq_nils k 3 a' fl fl'
      | cons b r =>
        obtain ⟨k, rfl⟩ : ∃ m, k = m + 1 := ⟨k - 1, by omega⟩
        rw [ev_step _ _ _ _ (by kernel_rfl), weq_tree, List.length_map]
        rw [show ((((b :: r).length : Nat) : Int) != ((([] : List AV).length : Nat) : Int)) = true by simp only [bne_iff_ne, ne_eq, List.length_cons, List.length_nil]; omega]
        rfl
  · rcases hv' with ⟨fl', rfl⟩ | ⟨rfl, a', fl', rfl⟩
    · cases l' with
      | nil =>
        obtain ⟨k, rfl⟩ : ∃ m, k = m + 2 := ⟨k - 2, by simp at hk; omega⟩
        exact weq_nils k a 3 fl fl'
      | cons b r =>
        obtain ⟨k, rfl⟩ : ∃ m, k = m + 1 := ⟨k - 1, by omega⟩
        rw [ev_step _ _ _ _ (by kernel_rfl), weq_tree, List.length_map]
        rw [show (((([] : List AV).length : Nat) : Int) != (((b :: r).length : Nat) : Int)) = true by simp only [bne_iff_ne, ne_eq, List.length_cons, List.length_nil]; omega]
        rfl
    · obtain ⟨k, rfl⟩ : ∃ m, k = m + 2 := ⟨k - 2, by simp at hk; omega⟩
      exact weq_nils k a a' fl fl'
theorem slW_sl (l : List Wr) : ∃ m fl xs, slW l = .sl m fl xs ∧ xs.length = l.length := by
  unfold slW
  split
  · rename_i h; exact ⟨_, _, _, rfl, by simp [h]⟩
  · exact ⟨_, _, _, rfl, by simp⟩
def rwableS (fl d : Bool) (xs : List AV) (i : Int) : St := ⟨59, [(0, AV.sl 3 fl xs), (2, AV.bool false), (3, AV.int .i64 i), (13, AV.bool d)], [], [], [], [], []⟩
theorem rwable_tree (F : Fns) (N : Nat) (fl : Bool) (xs : List AV) : runOf F 86 N [.sl 3 fl xs] [] =
  bif decide (((List.length xs : Nat) : Int) > 128) then some (AV.bool false, []) else onRes (F 77 [AV.sl 3 fl xs] []) fun v bs => asSl v fun m fl_1 xs_1 => asNil bs (onRes (F 55 [AV.sl 3 fl xs, AV.sl m fl_1 xs_1] []) fun v bs => asBool v fun b => asNil bs (bif !b then some (AV.bool false, []) else loopA (bodyOf F 86 0 N) (deadOf 86 0) (contOf F 86 0 N 0) N { nt := 59, t := [(0, AV.sl 3 fl xs), (2, AV.bool false), (3, AV.int .i64 0), (13, AV.bool !b)], b := [], r := [], g := [], rd := [], wr := [] })) := by kernel_rfl
theorem rwable_body (F : Fns) (N : Nat) (fl d : Bool) (xs : List AV) (i : Int) (KN : St → Res) : bodyOf F 86 0 N (rwableS fl d xs i) (brk (contOf F 86 0 N 0) KN) =
  bif decide (i < ((List.length xs : Nat) : Int)) then bif decide (0 ≤ i) then onOpt xs[Int.toNat i]? fun x => asAgg x fun cs => asCons cs fun v r => asInt .i64 v fun n => asCons r fun v r => asInt .i64 v fun n_1 => asCons r fun v r => asStr v fun s => asNil r (bif decide (n < 1) then some (AV.bool false, []) else bif decide (0 ≤ i) then onOpt xs[Int.toNat i]? fun x => asAgg x fun cs => asCons cs fun v r => asInt .i64 v fun n => asCons r fun v r => asInt .i64 v fun n_2 => asCons r fun v r => asStr v fun s => asNil r (bif decide (n > 255) then some (AV.bool false, []) else bif decide (0 ≤ i) then onOpt xs[Int.toNat i]? fun x => asAgg x fun cs => asCons cs fun v r => asInt .i64 v fun n => asCons r fun v r => asInt .i64 v fun n => asCons r fun v r => asStr v fun s => asNil r (bif decide (n < 0) then some (AV.bool false, []) else bif decide (0 ≤ i) then onOpt xs[Int.toNat i]? fun x => asAgg x fun cs => asCons cs fun v r => asInt .i64 v fun n => asCons r fun v r => asInt .i64 v fun n => asCons r fun v r => asStr v fun s => asNil r (bif decide (n > 31) then some (AV.bool false, []) else bif decide (0 ≤ i) then onOpt xs[Int.toNat i]? fun x => asAgg x fun cs => asCons cs fun v r => asInt .i64 v fun n => asCons r fun v r => asInt .i64 v fun n => asCons r fun v r => asStr v fun s => asNil r (bif decide (((List.length s : Nat) : Int) > 8) then some (AV.bool false, []) else KN { nt := 59, t := [(0, AV.sl 3 fl xs), (2, AV.bool false), (3, AV.int .i64 (IntKind.wrap .i64 (i + 1))), (13, AV.bool d), (17, AV.bool (decide (i < ((List.length xs : Nat) : Int)))), (58, AV.bool (decide (((List.length s : Nat) : Int) > 8)))], b := [], r := [], g := [], rd := [], wr := [] }) else none) else none) else none) else none) else none else some (AV.bool true, []) := by kernel_rfl
theorem rwable_loop (F : Fns) (N : Nat) (fl d : Bool) (l : List Wr) (hl : l.length ≤ 1000) : ∀ (dd i m : Nat) (st : St), i + dd = l.length → dd < m → st.clean (deadOf 86 0) = rwableS fl d (l.map wrV) i →
    loopA (bodyOf F 86 0 N) (deadOf 86 0) (contOf F 86 0 N 0) m st = some (.bool (!((l.drop i).any badW)), []) := by
  intro dd
  induction dd with
  | zero =>
    intro i m st hi hm hst
    obtain ⟨m, rfl⟩ : ∃ m', m = m' + 1 := ⟨m - 1, by omega⟩
    have h1 : l.drop i = [] := List.drop_eq_nil_of_le (by omega)
    rw [loopA_succ, hst, rwable_body, List.length_map, decide_eq_false (by omega), h1]
    rfl
  | succ dd ih =>
    intro i m st hi hm hst
    obtain ⟨m, rfl⟩ : ∃ m', m = m' + 1 := ⟨m - 1, by omega⟩
    have hlt : i < l.length := by omega
    rw [loopA_succ, hst, rwable_body, List.length_map, decide_eq_true (show (i : Int) < l.length by omega), decide_eq_true (show (0 : Int) ≤ i by omega), getWr l i hlt, List.drop_eq_getElem_cons hlt, List.any_cons]
    simp only [cond_true, onOpt, asAgg, asCons, asInt, asStr, if_true, asNil]
    rw [wrap_small (n := (i : Int) + 1) (by omega) (by omega)]
    generalize l[i] = w
    by_cases h1 : w.1 < 1
    · rw [decide_eq_true h1, show badW w = true from decide_eq_true (.inl h1)]; rfl
    by_cases h2 : w.1 > 255
    · rw [decide_eq_false h1, decide_eq_true h2, show badW w = true from decide_eq_true (.inr (.inl h2))]; rfl
    by_cases h3 : w.2.1 < 0
    · rw [decide_eq_false h1, decide_eq_false h2, decide_eq_true h3, show badW w = true from decide_eq_true (.inr (.inr (.inl h3)))]; rfl
    by_cases h4 : w.2.1 > 31
    · rw [decide_eq_false h1, decide_eq_false h2, decide_eq_false h3, decide_eq_true h4, show badW w = true from decide_eq_true (.inr (.inr (.inr (.inl (by omega)))))]; rfl
    by_cases h5 : (w.2.2.length : Int) > 8
    · rw [decide_eq_false h1, decide_eq_false h2, decide_eq_false h3, decide_eq_false h4, decide_eq_true h5, show badW w = true from decide_eq_true (.inr (.inr (.inr (.inr h5))))]; rfl
    rw [decide_eq_false h1, decide_eq_false h2, decide_eq_false h3, decide_eq_false h4, decide_eq_false h5, show badW w = false by unfold badW; rw [decide_eq_false_iff_not]; omega]
    simp only [cond_false, Bool.false_or]
    exact ih (i + 1) m _ (by omega) (by omega) (by kernel_rfl)
theorem e12 (k : Nat) (fl : Bool) (l : List Wr) (hk : 230 ≤ k) : evF pr k 86 [.sl 3 fl (l.map wrV)] [] = some (.bool (wOk l), []) := by
  obtain ⟨k, rfl⟩ : ∃ m, k = m + 1 := ⟨k - 1, by omega⟩
  rw [ev_step _ _ _ _ (by kernel_rfl), rwable_tree, List.length_map, wOk]
  by_cases h : l.length ≤ 128
  · rw [decide_eq_false (show ¬ ((l.length : Nat) : Int) > 128 by omega), decide_eq_true h, e39 k fl l (by omega) (by omega)]
    have he := e16' k (.inl ⟨fl, rfl⟩ : IsW (.sl 3 fl (l.map wrV)) l) (IsW.slW (foldAll l)) (by omega) (by omega)
    rw [foldAll_iff] at he
    obtain ⟨m, f2, xs, hsl, _⟩ := slW_sl (foldAll l)
    rw [hsl] at he ⊢
    simp only [cond_false, onRes, asSl, asNil, he, asBool]
    cases sortedW l with
    | false => rfl
    | true =>
      simp only [Bool.not_true, cond_false, Bool.true_and]
      exact rwable_loop (evF pr k) k fl false l (by omega) l.length 0 k _ (Nat.zero_add _) (by omega) (by kernel_rfl)
  · rw [decide_eq_true (show ((l.length : Nat) : Int) > 128 by omega), decide_eq_false h]
    rfl
theorem putV_small (n w : Nat) (hw1 : 1 ≤ w) (hw : w ≤ 8) (h : n < 256 ^ w) : putV (n : Int) (w : Int) = (be w n, 0) := by
  unfold putV
  have : n / 256 ^ w = 0 := Nat.div_eq_of_lt h
  rw [if_neg (by omega), if_neg (by omega), Int.toNat_natCast, Int.toNat_natCast, if_neg (by simp [this])]
theorem text_tree (F : Fns) (N : Nat) (s : List UInt8) : runOf F 104 N [.str s] [] =
  bif decide (((List.length s : Nat) : Int) > 65535) then some (AV.tup [AV.str [], AV.int .i64 5], []) else onRes (F 23 [AV.int .i64 ((List.length s : Nat) : Int), AV.int .i64 2] []) fun v bs => asTup v fun cs => asCons cs fun v r => asStr v fun s_1 => asCons r fun v r => asInt .i64 v fun n => asNil r (asNil bs (bif decide (List.length s_1 + List.length s ≤ 4611686018427387904) then some (AV.tup [AV.str (s_1 ++ s), AV.int .i64 0], []) else none)) := by kernel_rfl
theorem e38 (k : Nat) (hk : 12 ≤ k) (s : List UInt8) (hs : s.length ≤ 65535) : evF pr k 104 [.str s] [] = some (.tup [.str (be 2 s.length ++ s), .int .i64 0], []) := by
  obtain ⟨k, rfl⟩ : ∃ m, k = m + 1 := ⟨k - 1, by omega⟩
  rw [ev_step _ _ _ _ (by kernel_rfl), text_tree, decide_eq_false (show ¬ ((s.length : Nat) : Int) > 65535 by omega), show (2 : Int) = ((2 : Nat) : Int) from rfl, e37 k (by omega) _ (by omega) 2 (by omega) (by omega), putV_small s.length 2 (by omega) (by omega) (by omega)]
  simp only [cond_false, onRes, asTup, asCons, asStr, asInt, if_true, asNil]
  rw [decide_eq_true (by rw [be_length]; omega)]
  rfl
def takeT (s : List UInt8) : Option (List UInt8 × List UInt8) := match num 2 s with
  | none => none
  | some (n, t) => if t.length < n then none else some (t.take n, t.drop n)
theorem take_tree (F : Fns) (N : Nat) (s : List UInt8) : runOf F 103 N [.str s] [] =
  onRes (F 88 [AV.str s, AV.int .i64 2] []) fun v bs => asTup v fun cs => asCons cs fun v r => asInt .i64 v fun n => asCons r fun v r => asStr v fun s => asCons r fun v r => asInt .i64 v fun n_1 => asNil r (asNil bs (bif n_1 != 0 then some (AV.tup [AV.str [], AV.str [], AV.int .i64 2], []) else bif decide (((List.length s : Nat) : Int) < n) then some (AV.tup [AV.str [], AV.str [], AV.int .i64 2], []) else bif decide ((0 : Int) ≤ 0 ∧ 0 ≤ n ∧ n ≤ ((List.length s : Nat) : Int)) then bif decide (0 ≤ n ∧ n ≤ ((List.length s : Nat) : Int) ∧ ((List.length s : Nat) : Int) ≤ ((List.length s : Nat) : Int)) then some (AV.tup [AV.str (List.drop (Int.toNat 0) (List.take (Int.toNat n) s)), AV.str (List.drop (Int.toNat n) (List.take (Int.toNat ((List.length s : Nat) : Int)) s)), AV.int .i64 0], []) else none else none)) := by kernel_rfl
theorem e85 (k : Nat) (hk : 12 ≤ k) (s : List UInt8) : evF pr k 103 [.str s] [] = (match takeT s with
    | none => some (.tup [.str [], .str [], .int .i64 2], [])
    | some (a, b) => some (.tup [.str a, .str b, .int .i64 0], [])) := by
  obtain ⟨k, rfl⟩ : ∃ m, k = m + 1 := ⟨k - 1, by omega⟩
  rw [ev_step _ _ _ _ (by kernel_rfl), take_tree, show (2 : Int) = ((2 : Nat) : Int) from rfl, e88 k (by omega) s 2 (by omega) (by omega)]
  simp only [onRes, asTup, asCons, asStr, asInt, if_true, asNil]
  unfold takeT
  cases h : num 2 s with
  | none =>
    rw [show (numE 2 s != 0) = true by simp [num_no h]]
    rfl
  | some q =>
    obtain ⟨n, t⟩ := q
    obtain ⟨r1, r2, r3⟩ := num_at h
    have r4 : numR 2 s = t := by rw [numR, if_pos r1, r3]
    rw [r1, r2, r4]
    simp only [show ((0 : Int) != 0) = false from rfl, cond_false]
    by_cases hl : t.length < n
    · rw [decide_eq_true (show ((t.length : Nat) : Int) < n by omega), if_pos hl]
      rfl
    · rw [decide_eq_false (show ¬ ((t.length : Nat) : Int) < n by omega), if_neg hl, decide_eq_true (show (0 : Int) ≤ 0 ∧ 0 ≤ ((n : Nat) : Int) ∧ ((n : Nat) : Int) ≤ t.length by omega), decide_eq_true (show 0 ≤ ((n : Nat) : Int) ∧ ((n : Nat) : Int) ≤ t.length ∧ ((t.length : Nat) : Int) ≤ t.length by omega)]
      simp only [cond_false, cond_true, Int.toNat_natCast, Int.toNat_zero, List.drop_zero, List.take_length]
def wrB (w : Wr) : List UInt8 := [UInt8.ofNat w.1.toNat, UInt8.ofNat w.2.1.toNat] ++ (be 2 w.2.2.length ++ w.2.2)
def putW (l : List Wr) : List UInt8 := be 2 l.length ++ l.flatMap wrB
theorem badW_not {w : Wr} (h : badW w = false) : 1 ≤ w.1 ∧ w.1 ≤ 255 ∧ 0 ≤ w.2.1 ∧ w.2.1 ≤ 31 ∧ w.2.2.length ≤ 8 := by
  unfold badW at h
  rw [decide_eq_false_iff_not] at h
  omega
theorem wrB_length {w : Wr} (h : badW w = false) : (wrB w).length ≤ 12 := by
  have := badW_not h
  unfold wrB
  rw [List.length_append, List.length_append, be_length]
  simp only [List.length_cons, List.length_nil]
  omega
def putwS (fl d : Bool) (xs bs : List AV) (s : List UInt8) (len i : Int) : St := ⟨48, [(0, AV.sl 3 fl xs), (2, AV.str []), (3, AV.int .i64 0), (4, AV.str s), (6, AV.tip 21 0 1 bs), (13, AV.bool d), (22, AV.sl 3 fl xs), (23, AV.int .i64 len), (24, AV.int .i64 i)], [], [], [], [], []⟩
theorem putw_tree (F : Fns) (N : Nat) (fl : Bool) (xs : List AV) : runOf F 74 N [.sl 3 fl xs] [] =
  onRes (F 121 [AV.sl 3 fl xs] []) fun v bs => asBool v fun b => asNil bs (bif !b then some (AV.tup [AV.str [], AV.int .i64 1], []) else onRes (F 23 [AV.int .i64 ((List.length xs : Nat) : Int), AV.int .i64 2] []) fun v bs => asTup v fun cs => asCons cs fun v r => asStr v fun s => asCons r fun v r => asInt .i64 v fun n => asNil r (asNil bs (bif decide (List.length s ≤ 4611686018427387904) then loopA (bodyOf F 74 0 N) (deadOf 74 0) (contOf F 74 0 N 0) N { nt := 48, t := [(0, AV.sl 3 fl xs), (2, AV.str []), (3, AV.int .i64 0), (4, AV.str s), (6, AV.tip 21 0 1 (ofBytes s)), (13, AV.bool !b), (22, AV.sl 3 fl xs), (23, AV.int .i64 ((List.length xs : Nat) : Int)), (24, AV.int .i64 0)], b := [], r := [], g := [], rd := [], wr := [] } else none))) := by kernel_rfl
theorem putw_body (F : Fns) (N : Nat) (fl d : Bool) (xs bs : List AV) (s : List UInt8) (len i : Int) (KN : St → Res) : bodyOf F 74 0 N (putwS fl d xs bs s len i) (brk (contOf F 74 0 N 0) KN) =
  bif decide (i < len) then bif decide (0 ≤ i) then onOpt xs[Int.toNat i]? fun x => asAgg x fun cs => asCons cs fun v r => asInt .i64 v fun n => asCons r fun v r => asInt .i64 v fun n_1 => asCons r fun v r => asStr v fun s_1 => asNil r (onRes (F 104 [AV.str s_1] []) fun v bs_1 => asTup v fun cs => asCons cs fun v r => asStr v fun s_2 => asCons r fun v r => asInt .i64 v fun n_2 => asNil r (asNil bs_1 (bif decide (1 = 1 ∧ fitsB (List.length bs + List.length [AV.int .u8 (IntKind.wrap .u8 n), AV.int .u8 (IntKind.wrap .u8 n_1)]) 1 = true ∧ List.length bs + List.length [AV.int .u8 (IntKind.wrap .u8 n), AV.int .u8 (IntKind.wrap .u8 n_1)] ≤ 4611686018427387904) then bif decide (1 = 1 ∧ fitsB (List.length (bs ++ [AV.int .u8 (IntKind.wrap .u8 n), AV.int .u8 (IntKind.wrap .u8 n_1)]) + List.length (ofBytes s_2)) 1 = true ∧ List.length (bs ++ [AV.int .u8 (IntKind.wrap .u8 n), AV.int .u8 (IntKind.wrap .u8 n_1)]) + List.length (ofBytes s_2) ≤ 4611686018427387904) then KN { nt := 48, t := [(0, AV.sl 3 fl xs), (2, AV.str []), (3, AV.int .i64 0), (4, AV.str s), (6, AV.tip 21 0 1 (bs ++ [AV.int .u8 (IntKind.wrap .u8 n), AV.int .u8 (IntKind.wrap .u8 n_1)] ++ ofBytes s_2)), (8, AV.ptr 8 0 0), (9, AV.str s_2), (13, AV.bool d), (22, AV.sl 3 fl xs), (23, AV.int .i64 len), (24, AV.int .i64 (IntKind.wrap .i64 (i + 1))), (25, AV.bool (decide (i < len)))], b := [(8, [AV.int .i64 n, AV.int .i64 n_1, AV.str s_1])], r := [], g := [], rd := [], wr := [] } else none else none))) else none else onOpt (Option.map AV.str (bytesOf bs)) fun x => asStr x fun s => some (AV.tup [AV.str s, AV.int .i64 0], []) := by kernel_rfl
theorem u8_wrap {n : Int} (h0 : 0 ≤ n) (h1 : n ≤ 255) : IntKind.wrap .u8 n = n := by
  simp [IntKind.wrap, IntKind.bits, IntKind.signed]
  omega
theorem putw_loop (k : Nat) (hk : 12 ≤ k) (fl d : Bool) (s0 : List UInt8) (l : List Wr) (hl : l.length ≤ 1000) (hb : l.any badW = false) : ∀ (dd i m : Nat) (acc : List UInt8) (st : St), i + dd = l.length → dd < m → acc.length ≤ 12 * i + 12 → st.clean (deadOf 74 0) = putwS fl d (l.map wrV) (ofBytes acc) s0 l.length i →
    loopA (bodyOf (evF pr k) 74 0 k) (deadOf 74 0) (contOf (evF pr k) 74 0 k 0) m st = some (.tup [.str (acc ++ (l.drop i).flatMap wrB), .int .i64 0], []) := by
  intro dd
  induction dd with
  | zero =>
    intro i m acc st hi hm ha hst
    obtain ⟨m, rfl⟩ : ∃ m', m = m' + 1 := ⟨m - 1, by omega⟩
    have h1 : l.drop i = [] := List.drop_eq_nil_of_le (by omega)
    rw [loopA_succ, hst, putw_body, decide_eq_false (by omega), h1, bytesOf_ofBytes]
    simp [onOpt, asStr]
  | succ dd ih =>
    intro i m acc st hi hm ha hst
    obtain ⟨m, rfl⟩ : ∃ m', m = m' + 1 := ⟨m - 1, by omega⟩
    have hlt : i < l.length := by omega
    have hbi : badW l[i] = false := by
      cases hc : badW l[i] with
      | false => rfl
      | true =>
        have : l.any badW = true := List.any_eq_true.2 ⟨l[i], List.getElem_mem hlt, hc⟩
        rw [hb] at this
        exact absurd this (by simp)
    have hg := badW_not hbi
    have hlen := wrB_length hbi
    rw [loopA_succ, hst, putw_body, decide_eq_true (show (i : Int) < l.length by omega), decide_eq_true (show (0 : Int) ≤ i by omega), getWr l i hlt, List.drop_eq_getElem_cons hlt, List.flatMap_cons]
    simp only [cond_true, onOpt, asAgg, asCons, asInt, asStr, if_true, asNil]
    rw [e38 k (by omega) _ (by omega)]
    simp only [onRes, asTup, asCons, asStr, asInt, if_true, asNil]
    generalize l[i] = w at *
    rw [u8_wrap (by omega) (by omega), u8_wrap (by omega) (by omega)]
    have e1 : [AV.int .u8 w.1, AV.int .u8 w.2.1] = ofBytes [UInt8.ofNat w.1.toNat, UInt8.ofNat w.2.1.toNat] := by
      have a1 : ((UInt8.ofNat w.1.toNat).toNat : Int) = w.1 := by simp; omega
      have a2 : ((UInt8.ofNat w.2.1.toNat).toNat : Int) = w.2.1 := by simp; omega
      simp only [ofBytes, List.map_cons, List.map_nil, a1, a2]
    rw [e1, ofBytes_append, ofBytes_append]
    have hle : (wrB w).length = 2 + (be 2 w.2.2.length ++ w.2.2).length := by
      unfold wrB
      rw [List.length_append]
      simp only [List.length_cons, List.length_nil]
    rw [decide_eq_true (by
      refine ⟨trivial, fitsB_small ?_, ?_⟩ <;> simp only [ofBytes, List.length_map, List.length_cons, List.length_nil] <;> omega)]
    rw [decide_eq_true (by
      refine ⟨trivial, fitsB_small ?_, ?_⟩ <;> simp only [ofBytes, List.length_map, List.length_append, List.length_cons, List.length_nil] at hle ⊢ <;> omega)]
    simp only [cond_true]
    rw [wrap_small (n := (i : Int) + 1) (by omega) (by omega)]
    have hacc : acc ++ wrB w = acc ++ [UInt8.ofNat w.1.toNat, UInt8.ofNat w.2.1.toNat] ++ (be 2 w.2.2.length ++ w.2.2) := by rw [wrB, List.append_assoc]
    refine (ih (i + 1) m (acc ++ wrB w) _ (by omega) (by omega) (by rw [List.length_append]; omega) (by rw [hacc]; kernel_rfl)).trans ?_
    rw [List.append_assoc]
theorem wOk_parts {l : List Wr} (h : wOk l = true) : l.length ≤ 128 ∧ sortedW l = true ∧ l.any badW = false := by
  unfold wOk at h
  simp only [Bool.and_eq_true, decide_eq_true_eq, Bool.not_eq_true'] at h
  exact ⟨h.1, h.2.1, h.2.2⟩
theorem e11 (k : Nat) (fl : Bool) (l : List Wr) (hk : 230 ≤ k) : evF pr k 74 [.sl 3 fl (l.map wrV)] [] = some (if wOk l then .tup [.str (putW l), .int .i64 0] else .tup [.str [], .int .i64 1], []) := by
  obtain ⟨k, rfl⟩ : ∃ m, k = m + 1 := ⟨k - 1, by omega⟩
  rw [ev_step _ _ _ _ (by kernel_rfl), putw_tree, List.length_map, e36 k fl l (by omega)]
  simp only [onRes, asBool, asNil]
  cases hok : wOk l with
  | false => rfl
  | true =>
    obtain ⟨h1, h2, h3⟩ := wOk_parts hok
    rw [show (2 : Int) = ((2 : Nat) : Int) from rfl, e37 k (by omega) _ (by omega) 2 (by omega) (by omega), putV_small l.length 2 (by omega) (by omega) (by omega)]
    simp only [Bool.not_true, cond_false, onRes, asTup, asCons, asStr, asInt, if_true, asNil]
    rw [decide_eq_true (by rw [be_length]; omega)]
    exact putw_loop k (by omega) fl false (be 2 l.length) l (by omega) h3 l.length 0 k (be 2 l.length) _ (Nat.zero_add _) (by omega) (by rw [be_length]; omega) (by kernel_rfl)
def rputwS (fl : Bool) (xs : List AV) (s : List UInt8) (i : Int) : St := ⟨44, [(0, AV.sl 3 fl xs), (2, AV.str []), (3, AV.str s), (4, AV.int .i64 i)], [], [], [], [], []⟩
theorem rputw_tree (F : Fns) (N : Nat) (fl : Bool) (xs : List AV) : runOf F 53 N [.sl 3 fl xs] [] =
  onRes (F 99 [AV.int .i64 ((List.length xs : Nat) : Int)] []) fun v bs => asStr v fun s => asNil bs (loopA (bodyOf F 53 0 N) (deadOf 53 0) (contOf F 53 0 N 0) N { nt := 44, t := [(0, AV.sl 3 fl xs), (2, AV.str []), (3, AV.str s), (4, AV.int .i64 0)], b := [], r := [], g := [], rd := [], wr := [] }) := by kernel_rfl
theorem rputw_body (F : Fns) (N : Nat) (fl : Bool) (xs : List AV) (s : List UInt8) (i : Int) (KN : St → Res) : bodyOf F 53 0 N (rputwS fl xs s i) (brk (contOf F 53 0 N 0) KN) =
  bif decide (i < ((List.length xs : Nat) : Int)) then bif decide (0 ≤ i) then onOpt xs[Int.toNat i]? fun x => asAgg x fun cs => asCons cs fun v r => asInt .i64 v fun n => asCons r fun v r => asInt .i64 v fun n_1 => asCons r fun v r => asStr v fun s_1 => asNil r (onRes (F 97 [AV.int .i64 n] []) fun v bs => asStr v fun s_2 => asNil bs (bif decide (List.length s + List.length s_2 ≤ 4611686018427387904) then bif decide (0 ≤ i) then onOpt xs[Int.toNat i]? fun x => asAgg x fun cs => asCons cs fun v r => asInt .i64 v fun n => asCons r fun v r => asInt .i64 v fun n => asCons r fun v r => asStr v fun s_3 => asNil r (onRes (F 97 [AV.int .i64 n] []) fun v bs => asStr v fun s_4 => asNil bs (bif decide (List.length (s ++ s_2) + List.length s_4 ≤ 4611686018427387904) then bif decide (0 ≤ i) then onOpt xs[Int.toNat i]? fun x => asAgg x fun cs => asCons cs fun v r => asInt .i64 v fun n => asCons r fun v r => asInt .i64 v fun n => asCons r fun v r => asStr v fun s_5 => asNil r (onRes (F 99 [AV.int .i64 ((List.length s_5 : Nat) : Int)] []) fun v bs => asStr v fun s_6 => asNil bs (bif decide (List.length (s ++ s_2 ++ s_4) + List.length s_6 ≤ 4611686018427387904) then bif decide (0 ≤ i) then onOpt xs[Int.toNat i]? fun x => asAgg x fun cs => asCons cs fun v r => asInt .i64 v fun n => asCons r fun v r => asInt .i64 v fun n => asCons r fun v r => asStr v fun s_7 => asNil r (bif decide (List.length (s ++ s_2 ++ s_4 ++ s_6) + List.length s_7 ≤ 4611686018427387904) then KN { nt := 44, t := [(0, AV.sl 3 fl xs), (2, AV.str []), (3, AV.str (s ++ s_2 ++ s_4 ++ s_6 ++ s_7)), (4, AV.int .i64 (IntKind.wrap .i64 (i + 1))), (11, AV.bool (decide (i < ((List.length xs : Nat) : Int))))], b := [], r := [], g := [], rd := [], wr := [] } else none) else none else none)) else none else none)) else none else none)) else none else some (AV.str s, []) := by kernel_rfl
theorem e41' (k : Nat) (hk : 1 ≤ k) (n : Int) (hn : 0 ≤ n) : evF pr k 97 [.int .i64 n] [] = some (.str [UInt8.ofNat n.toNat], []) := by
  obtain ⟨m, rfl⟩ : ∃ m : Nat, n = m := ⟨n.toNat, by omega⟩
  rw [e41 k hk m, Int.toNat_natCast]
theorem rputw_loop (k : Nat) (hk : 12 ≤ k) (fl : Bool) (l : List Wr) (hl : l.length ≤ 1000) (hb : l.any badW = false) : ∀ (dd i m : Nat) (acc : List UInt8) (st : St), i + dd = l.length → dd < m → acc.length ≤ 12 * i + 12 → st.clean (deadOf 53 0) = rputwS fl (l.map wrV) acc i →
    loopA (bodyOf (evF pr k) 53 0 k) (deadOf 53 0) (contOf (evF pr k) 53 0 k 0) m st = some (.str (acc ++ (l.drop i).flatMap wrB), []) := by
  intro dd
  induction dd with
  | zero =>
    intro i m acc st hi hm ha hst
    obtain ⟨m, rfl⟩ : ∃ m', m = m' + 1 := ⟨m - 1, by omega⟩
    have h1 : l.drop i = [] := List.drop_eq_nil_of_le (by omega)
    rw [loopA_succ, hst, rputw_body, List.length_map, decide_eq_false (by omega), h1]
    simp
  | succ dd ih =>
    intro i m acc st hi hm ha hst
    obtain ⟨m, rfl⟩ : ∃ m', m = m' + 1 := ⟨m - 1, by omega⟩
    have hlt : i < l.length := by omega
    have hbi : badW l[i] = false := by
      cases hc : badW l[i] with
      | false => rfl
      | true =>
        have : l.any badW = true := List.any_eq_true.2 ⟨l[i], List.getElem_mem hlt, hc⟩
        rw [hb] at this
        exact absurd this (by simp)
    have hg := badW_not hbi
    have hlen := wrB_length hbi
    rw [loopA_succ, hst, rputw_body, List.length_map, decide_eq_true (show (i : Int) < l.length by omega), decide_eq_true (show (0 : Int) ≤ i by omega), getWr l i hlt, List.drop_eq_getElem_cons hlt, List.flatMap_cons]
    simp only [cond_true, onOpt, asAgg, asCons, asInt, asStr, if_true, asNil]
    generalize l[i] = w at *
    rw [e41' k (by omega) w.1 (by omega), e41' k (by omega) w.2.1 (by omega), e40 k (by omega) w.2.2.length (by omega)]
    simp only [onRes, asStr, asNil]
    have hle : (wrB w).length = 2 + (be 2 w.2.2.length ++ w.2.2).length := by
      unfold wrB
      rw [List.length_append]
      simp only [List.length_cons, List.length_nil]
    simp only [List.length_append, List.length_cons, List.length_nil, be_length] at hle ⊢
    rw [decide_eq_true (show acc.length + (0 + 1) ≤ 4611686018427387904 by omega), decide_eq_true (show acc.length + (0 + 1) + (0 + 1) ≤ 4611686018427387904 by omega), decide_eq_true (show acc.length + (0 + 1) + (0 + 1) + 2 ≤ 4611686018427387904 by omega), decide_eq_true (show acc.length + (0 + 1) + (0 + 1) + 2 + w.2.2.length ≤ 4611686018427387904 by omega)]
    simp only [cond_true]
    rw [wrap_small (n := (i : Int) + 1) (by omega) (by omega)]
    have hacc : acc ++ wrB w = acc ++ [UInt8.ofNat w.1.toNat] ++ [UInt8.ofNat w.2.1.toNat] ++ be 2 w.2.2.length ++ w.2.2 := by simp [wrB]
    refine (ih (i + 1) m (acc ++ wrB w) _ (by omega) (by omega) (by rw [List.length_append]; omega) (by rw [hacc]; kernel_rfl)).trans ?_
    rw [List.append_assoc]
theorem e13 (k : Nat) (fl : Bool) (l : List Wr) (hk : 230 ≤ k) (hok : wOk l = true) : evF pr k 53 [.sl 3 fl (l.map wrV)] [] = some (.str (putW l), []) := by
  obtain ⟨k, rfl⟩ : ∃ m, k = m + 1 := ⟨k - 1, by omega⟩
  obtain ⟨h1, h2, h3⟩ := wOk_parts hok
  rw [ev_step _ _ _ _ (by kernel_rfl), rputw_tree, List.length_map, e40 k (by omega) l.length (by omega)]
  simp only [onRes, asStr, asNil]
  exact rputw_loop k (by omega) fl l (by omega) h3 l.length 0 k (be 2 l.length) _ (Nat.zero_add _) (by omega) (by rw [be_length]; omega) (by kernel_rfl)
end Go.AM.YtnhfjkckgicidaaGreat

set_option linter.unusedVariables false
set_option linter.unusedSimpArgs false
namespace Go.AM.YtnhfjkckgicidaaGreat
open Go.AM Go.Proofs Go
def wr1 (s : List UInt8) : Option (Wr × List UInt8) := match num 1 s with
  | none => none
  | some (v, s1) => match num 1 s1 with
    | none => none
    | some (b, s2) => match takeT s2 with
      | none => none
      | some (d, s3) => some (((v : Int), (b : Int), d), s3)
def wrs : Nat → List UInt8 → Option (List Wr × List UInt8)
  | 0, s => some ([], s)
  | n + 1, s => match wr1 s with
    | none => none
    | some (w, t) => match wrs n t with
      | none => none
      | some (l, u) => some (w :: l, u)
def takeW (s : List UInt8) : Option (List Wr × List UInt8) := match num 2 s with
  | none => none
  | some (n, t) => match wrs n t with
    | none => none
    | some (l, u) => if wOk l then some (l, u) else none
def rwritesS (s : List UInt8) (b : Bool) (v : AV) (n i : Int) : St := ⟨61, [(0, AV.ptr 1000000 0 0), (2, AV.sl 0 true []), (3, v), (9, AV.int .i64 n), (10, AV.int .i64 i)], [(1000000, [AV.str s, AV.bool b])], [], [], [], []⟩
theorem rwrites_tree (F : Fns) (N : Nat) (s : List UInt8) (b : Bool) : runOf F 128 N [.ptr 0 0 0] [[.str s, .bool b]] =
  onRes (F 146 [AV.ptr 0 0 0, AV.int .i64 2] [[AV.str s, AV.bool b]]) fun v bs => asInt .i64 v fun n => asCons bs fun v r => asCons v fun v r_1 => asStr v fun s => asCons r_1 fun v r_2 => asBool v fun b => asNil r_2 (asNil r (loopA (bodyOf F 128 0 N) (deadOf 128 0) (contOf F 128 0 N 1) N { nt := 61, t := [(0, AV.ptr (1000000 + 0) 0 0), (2, AV.sl 0 true []), (3, AV.sl 0 true []), (9, AV.int .i64 n), (10, AV.int .i64 0)], b := [(1000000, [AV.str s, AV.bool b])], r := [], g := [], rd := [], wr := [] })) := by kernel_rfl
theorem rwrites_body0 (F : Fns) (N : Nat) (s : List UInt8) (b : Bool) (n i : Int) (KN : St → Res) : bodyOf F 128 0 N (rwritesS s b (.sl 0 true []) n i) (brk (contOf F 128 0 N 1) KN) =
  bif decide (i < n) then onRes (F 146 [AV.ptr 0 0 0, AV.int .i64 1] [[AV.str s, AV.bool b]]) fun v bs => asInt .i64 v fun n_1 => asCons bs fun v r => asCons v fun v r_1 => asStr v fun s => asCons r_1 fun v r_2 => asBool v fun b => asNil r_2 (asNil r (onRes (F 146 [AV.ptr 0 0 0, AV.int .i64 1] [[AV.str s, AV.bool b]]) fun v bs => asInt .i64 v fun n_2 => asCons bs fun v r => asCons v fun v r_3 => asStr v fun s => asCons r_3 fun v r_4 => asBool v fun b => asNil r_4 (asNil r (onRes (F 103 [AV.str s] []) fun v bs => asTup v fun cs => asCons cs fun v r => asStr v fun s_1 => asCons r fun v r => asStr v fun s_2 => asCons r fun v r => asInt .i64 v fun n_3 => asNil r (asNil bs (bif b then some (AV.sl 0 true [], [[AV.str s, AV.bool true]]) else bif n_3 != 0 then some (AV.sl 0 true [], [[AV.str s, AV.bool true]]) else KN { nt := 61, t := [(0, AV.ptr 1000000 0 0), (2, AV.sl 0 true []), (3, AV.tip 46 0 3 [AV.agg [AV.int .i64 n_1, AV.int .i64 n_2, AV.str s_1]]), (4, AV.ptr 4 0 0), (5, AV.str s_1), (6, AV.str s_2), (7, AV.int .i64 n_3), (9, AV.int .i64 n), (10, AV.int .i64 (IntKind.wrap .i64 (i + 1))), (11, AV.bool (decide (i < n))), (33, AV.bool (n_3 != 0))], b := [(4, [AV.int .i64 n_1, AV.int .i64 n_2, AV.str s_1]), (1000000, [AV.str s_2, AV.bool b])], r := [], g := [], rd := [], wr := [] })))))) else bif b then some (AV.sl 0 true [], [[AV.str s, AV.bool true]]) else onRes (F 121 [AV.sl 0 true []] []) fun v bs => asBool v fun b => asNil bs (some (AV.sl 0 true [], [[AV.str s, AV.bool !b]])) := by kernel_rfl
theorem rwrites_body1 (F : Fns) (N : Nat) (s : List UInt8) (b : Bool) (n i : Int) (ys : List AV) (KN : St → Res) : bodyOf F 128 0 N (rwritesS s b (.tip 46 0 3 ys) n i) (brk (contOf F 128 0 N 1) KN) =
  bif decide (i < n) then onRes (F 146 [AV.ptr 0 0 0, AV.int .i64 1] [[AV.str s, AV.bool b]]) fun v bs => asInt .i64 v fun n_1 => asCons bs fun v r => asCons v fun v r_1 => asStr v fun s_1 => asCons r_1 fun v r_2 => asBool v fun b_1 => asNil r_2 (asNil r (onRes (F 146 [AV.ptr 0 0 0, AV.int .i64 1] [[AV.str s_1, AV.bool b_1]]) fun v bs => asInt .i64 v fun n_2 => asCons bs fun v r => asCons v fun v r_3 => asStr v fun s_2 => asCons r_3 fun v r_4 => asBool v fun b_2 => asNil r_4 (asNil r (onRes (F 103 [AV.str s_2] []) fun v bs => asTup v fun cs => asCons cs fun v r => asStr v fun s_3 => asCons r fun v r => asStr v fun s_4 => asCons r fun v r => asInt .i64 v fun n_3 => asNil r (asNil bs (bif b_2 then some (AV.sl 0 true [], [[AV.str s_2, AV.bool true]]) else bif n_3 != 0 then some (AV.sl 0 true [], [[AV.str s_2, AV.bool true]]) else bif decide (3 = 3 ∧ fitsB (List.length ys + List.length [AV.agg [AV.int .i64 n_1, AV.int .i64 n_2, AV.str s_3]]) 32 = true ∧ List.length ys + List.length [AV.agg [AV.int .i64 n_1, AV.int .i64 n_2, AV.str s_3]] ≤ 4611686018427387904) then KN { nt := 61, t := [(0, AV.ptr 1000000 0 0), (2, AV.sl 0 true []), (3, AV.tip 46 0 3 (ys ++ [AV.agg [AV.int .i64 n_1, AV.int .i64 n_2, AV.str s_3]])), (4, AV.ptr 4 0 0), (5, AV.str s_3), (6, AV.str s_4), (7, AV.int .i64 n_3), (9, AV.int .i64 n), (10, AV.int .i64 (IntKind.wrap .i64 (i + 1))), (11, AV.bool (decide (i < n))), (33, AV.bool (n_3 != 0))], b := [(4, [AV.int .i64 n_1, AV.int .i64 n_2, AV.str s_3]), (1000000, [AV.str s_4, AV.bool b_2])], r := [], g := [], rd := [], wr := [] } else none)))))) else bif b then some (AV.sl 3 false ys, [[AV.str s, AV.bool true]]) else onRes (F 121 [AV.sl 3 false ys] []) fun v bs => asBool v fun b => asNil bs (some (AV.sl 3 false ys, [[AV.str s, AV.bool !b]])) := by kernel_rfl
def WriteR (x : Option (List Wr × List UInt8)) (r : Res) : Prop := match x with
  | none => Bad r
  | some (l, s) => r = some (slW l, [[.str s, .bool false]])
def restW (acc : List Wr) (x : Option (List Wr × List UInt8)) : Option (List Wr × List UInt8) := match x with
  | none => none
  | some (l, s) => if wOk (acc ++ l) then some (acc ++ l, s) else none
theorem wr1_none {s : List UInt8} (h : wr1 s = none) : rdB 1 (rdS 1 s false) (rdB 1 s false) = true ∨ (rdB 1 (rdS 1 s false) (rdB 1 s false) = false ∧ takeT (rdS 1 (rdS 1 s false) (rdB 1 s false)) = none) := by
  unfold wr1 at h
  split at h
  · rename_i h1
    left
    rw [rd_none h1, (rd_bad _ _).1]
  · rename_i v s1 h1
    obtain ⟨a1, a2, a3⟩ := rd_some h1
    rw [a1, a3]
    split at h
    · rename_i h2
      left
      exact rd_none h2
    · rename_i b s2 h2
      obtain ⟨b1, b2, b3⟩ := rd_some h2
      right
      rw [b1, b3]
      refine ⟨rfl, ?_⟩
      split at h
      · assumption
      · simp at h
theorem wr1_some {s : List UInt8} {w : Wr} {t : List UInt8} (h : wr1 s = some (w, t)) : rdB 1 (rdS 1 s false) (rdB 1 s false) = false ∧ takeT (rdS 1 (rdS 1 s false) (rdB 1 s false)) = some (w.2.2, t) ∧ (rdN 1 s false : Int) = w.1 ∧ (rdN 1 (rdS 1 s false) (rdB 1 s false) : Int) = w.2.1 := by
  unfold wr1 at h
  split at h
  · simp at h
  · rename_i v s1 h1
    obtain ⟨a1, a2, a3⟩ := rd_some h1
    rw [a1, a2, a3]
    split at h
    · simp at h
    · rename_i b s2 h2
      obtain ⟨b1, b2, b3⟩ := rd_some h2
      rw [b1, b2, b3]
      split at h
      · simp at h
      · rename_i d s3 h3
        simp only [Option.some.injEq, Prod.mk.injEq] at h
        obtain ⟨rfl, rfl⟩ := h
        exact ⟨rfl, h3, rfl, rfl⟩
theorem rwrites_loop (k : Nat) (hk : 140 ≤ k) (n : Nat) (hn : n ≤ 65536) : ∀ (dd i m : Nat) (acc : List Wr) (s : List UInt8) (st : St), i + dd = n → dd < m → acc ≠ [] → acc.length = i → st.clean (deadOf 128 0) = rwritesS s false (.tip 46 0 3 (acc.map wrV)) n i →
    WriteR (restW acc (wrs dd s)) (loopA (bodyOf (evF pr k) 128 0 k) (deadOf 128 0) (contOf (evF pr k) 128 0 k 1) m st) := by
  intro dd
  induction dd with
  | zero =>
    intro i m acc s st hi hm ha hl hst
    obtain ⟨m, rfl⟩ : ∃ m', m = m' + 1 := ⟨m - 1, by omega⟩
    rw [loopA_succ, hst, rwrites_body1, decide_eq_false (by omega), e36 k false acc hk]
    simp only [cond_false, cond_true, onRes, asBool, asNil, wrs, restW, List.append_nil]
    cases wOk acc with
    | false => exact ⟨_, _, _, _, rfl⟩
    | true =>
      show _ = some (slW acc, _)
      rw [slW, if_neg ha]
      rfl
  | succ dd ih =>
    intro i m acc s st hi hm ha hl hst
    obtain ⟨m, rfl⟩ : ∃ m', m = m' + 1 := ⟨m - 1, by omega⟩
    rw [loopA_succ, hst, rwrites_body1, decide_eq_true (show (i : Int) < n by omega), show (1 : Int) = ((1 : Nat) : Int) from rfl, e49 k (by omega) s false 1 (by omega) (by omega)]
    simp only [cond_true, onRes, asBool, asNil, asInt, if_true, asCons, asStr]
    rw [e49 k (by omega) _ _ 1 (by omega) (by omega)]
    simp only [onRes, asBool, asNil, asInt, if_true, asCons, asStr]
    rw [e85 k (by omega), wrs]
    cases h1 : wr1 s with
    | none =>
      rcases wr1_none h1 with h | ⟨h, h2⟩
      · rw [h]
        cases takeT (rdS 1 (rdS 1 s false) (rdB 1 s false)) with
        | none => exact ⟨_, _, _, _, rfl⟩
        | some q => exact ⟨_, _, _, _, rfl⟩
      · rw [h, h2]
        exact ⟨_, _, _, _, rfl⟩
    | some p =>
      obtain ⟨w, t⟩ := p
      obtain ⟨r1, r2, r3, r4⟩ := wr1_some h1
      rw [r1, r2, r3, r4]
      simp only [asTup, asCons, asStr, asInt, if_true, asNil, cond_false, show ((0 : Int) != 0) = false from rfl]
      rw [decide_eq_true (by
        refine ⟨trivial, fitsB_small ?_, ?_⟩ <;> simp only [List.length_map, List.length_cons, List.length_nil] <;> omega)]
      simp only [cond_true]
      rw [show IntKind.wrap .i64 ((i : Int) + ((1 : Nat) : Int)) = ((i + 1 : Nat) : Int) by rw [wrap_small (by omega) (by omega)]; omega]
      have := ih (i + 1) m (acc ++ [w]) t ⟨61, [(0, AV.ptr 1000000 0 0), (2, AV.sl 0 true []), (3, AV.tip 46 0 3 (acc.map wrV ++ [AV.agg [AV.int .i64 w.1, AV.int .i64 w.2.1, AV.str w.2.2]])), (4, AV.ptr 4 0 0), (5, AV.str w.2.2), (6, AV.str t), (7, AV.int .i64 0), (9, AV.int .i64 n), (10, AV.int .i64 ((i + 1 : Nat) : Int)), (11, AV.bool true), (33, AV.bool false)], [(4, [AV.int .i64 w.1, AV.int .i64 w.2.1, AV.str w.2.2]), (1000000, [AV.str t, AV.bool false])], [], [], [], []⟩ (by omega) (by omega) (by simp) (by simp [hl]) (by rw [List.map_append]; kernel_rfl)
      cases h3 : wrs dd t with
      | none => rw [h3] at this; exact this
      | some r =>
        obtain ⟨l, s3⟩ := r
        rw [h3] at this
        simp only [restW, List.append_assoc, List.cons_append, List.nil_append] at this ⊢
        exact this
theorem e42 (k : Nat) (hk : 66000 ≤ k) (s : List UInt8) : WriteR (takeW s) (evF pr k 128 [.ptr 0 0 0] [[.str s, .bool false]]) := by
  obtain ⟨k, rfl⟩ : ∃ m, k = m + 1 := ⟨k - 1, by omega⟩
  rw [ev_step _ _ _ _ (by kernel_rfl), rwrites_tree, show (2 : Int) = ((2 : Nat) : Int) from rfl, e49 k (by omega) s false 2 (by omega) (by omega)]
  simp only [onRes, asBool, asNil, asInt, if_true, asCons, asStr]
  obtain ⟨k', hk'⟩ : ∃ m, k = m + 1 := ⟨k - 1, by omega⟩
  unfold takeW
  cases h1 : num 2 s with
  | none =>
    rw [rd_none h1]
    have : rdN 2 s false = 0 := by simp [rdN, rd_none h1]
    rw [this]
    conv => arg 2; arg 4; rw [hk']
    rw [loopA_succ]
    refine ⟨0, true, [], rdS 2 s false, ?_⟩
    exact rwrites_body0 _ _ (rdS 2 s false) true ((0 : Nat) : Int) 0 _
  | some p =>
    obtain ⟨n, s1⟩ := p
    obtain ⟨r1, r2, r3⟩ := rd_some h1
    have hn := (num_lt h1).1
    rw [r1, r2, r3]
    simp only
    conv => arg 2; arg 4; rw [hk']
    rw [loopA_succ]
    have hb : ∀ x, (x = bodyOf (evF pr k) 128 0 k (rwritesS s1 false (.sl 0 true []) n 0) (brk (contOf (evF pr k) 128 0 k 1) fun st' => loopA (bodyOf (evF pr k) 128 0 k) (deadOf 128 0) (contOf (evF pr k) 128 0 k 1) k' st')) → WriteR (match wrs n s1 with
      | none => none
      | some (l, s2) => if wOk l then some (l, s2) else none) x := by
      intro x hx
      rw [rwrites_body0] at hx
      cases n with
      | zero =>
        obtain ⟨k2, hk2⟩ : ∃ m, k = m + 6 := ⟨k - 6, by omega⟩
        have h36 : evF pr k 121 [.sl 0 true []] [] = some (.bool true, []) := by rw [hk2]; exact e36nil k2
        rw [hx, h36]
        rfl
      | succ n =>
        rw [hx, decide_eq_true (show (0 : Int) < ((n + 1 : Nat) : Int) by omega), show (1 : Int) = ((1 : Nat) : Int) from rfl, e49 k (by omega) s1 false 1 (by omega) (by omega)]
        simp only [cond_true, onRes, asBool, asNil, asInt, if_true, asCons, asStr]
        rw [e49 k (by omega) _ _ 1 (by omega) (by omega)]
        simp only [onRes, asBool, asNil, asInt, if_true, asCons, asStr]
        rw [e85 k (by omega), wrs]
        cases h1 : wr1 s1 with
        | none =>
          rcases wr1_none h1 with h | ⟨h, h2⟩
          · rw [h]
            cases takeT (rdS 1 (rdS 1 s1 false) (rdB 1 s1 false)) with
            | none => exact ⟨_, _, _, _, rfl⟩
            | some q => exact ⟨_, _, _, _, rfl⟩
          · rw [h, h2]
            exact ⟨_, _, _, _, rfl⟩
        | some p =>
          obtain ⟨w, t⟩ := p
          obtain ⟨r1, r2, r3, r4⟩ := wr1_some h1
          rw [r1, r2, r3, r4]
          simp only [asTup, asCons, asStr, asInt, if_true, asNil, cond_false, show ((0 : Int) != 0) = false from rfl]
          have := rwrites_loop k (by omega) (n + 1) (by omega) n 1 k' [w] t ⟨61, [(0, AV.ptr 1000000 0 0), (2, AV.sl 0 true []), (3, AV.tip 46 0 3 [AV.agg [AV.int .i64 w.1, AV.int .i64 w.2.1, AV.str w.2.2]]), (4, AV.ptr 4 0 0), (5, AV.str w.2.2), (6, AV.str t), (7, AV.int .i64 0), (9, AV.int .i64 ((n + 1 : Nat) : Int)), (10, AV.int .i64 (IntKind.wrap .i64 (0 + ((1 : Nat) : Int)))), (11, AV.bool true), (33, AV.bool false)], [(4, [AV.int .i64 w.1, AV.int .i64 w.2.1, AV.str w.2.2]), (1000000, [AV.str t, AV.bool false])], [], [], [], []⟩ (by omega) (by omega) (by simp) rfl (by kernel_rfl)
          cases h3 : wrs n t with
          | none => rw [h3] at this; exact this
          | some r =>
            obtain ⟨l, s4⟩ := r
            rw [h3] at this
            exact this
    exact hb _ (by kernel_rfl)
theorem takew_tree (F : Fns) (N : Nat) (s : List UInt8) : runOf F 94 N [.str s] [] =
  onRes (F 128 [AV.ptr 0 0 0] [[AV.str s, AV.bool false]]) fun v bs => asSl v fun m fl xs => asCons bs fun v r => asCons v fun v r_1 => asStr v fun s => asCons r_1 fun v r_2 => asBool v fun b => asNil r_2 (asNil r (bif b then some (AV.tup [AV.sl 0 true [], AV.str [], AV.int .i64 3], []) else some (AV.tup [AV.sl m fl xs, AV.str s, AV.int .i64 0], []))) := by kernel_rfl
def TakeWR (x : Option (List Wr × List UInt8)) : Res := match x with
  | none => some (.tup [.sl 0 true [], .str [], .int .i64 3], [])
  | some (l, s) => some (.tup [slW l, .str s, .int .i64 0], [])
theorem e14 (k : Nat) (hk : 66001 ≤ k) (s : List UInt8) : evF pr k 94 [.str s] [] = TakeWR (takeW s) := by
  obtain ⟨k, rfl⟩ : ∃ m, k = m + 1 := ⟨k - 1, by omega⟩
  rw [ev_step _ _ _ _ (by kernel_rfl), takew_tree]
  have h := e42 k (by omega) s
  cases ht : takeW s with
  | none =>
    rw [ht] at h
    obtain ⟨m, fl, xs, s', h⟩ := h
    rw [h]
    rfl
  | some p =>
    obtain ⟨l, s'⟩ := p
    rw [ht] at h
    have h : _ = some (slW l, _) := h
    rw [h]
    show _ = some (AV.tup [slW l, .str s', .int .i64 0], [])
    unfold slW
    split <;> rfl
theorem getD_map (s : List UInt8) (p : Nat) (h : p < s.length) : Option.map (fun b => AV.int .u8 ((UInt8.toNat b : Nat) : Int)) s[Int.toNat (p : Int)]? = some (AV.int .u8 ((s.getD p 0).toNat : Int)) := by
  rw [Int.toNat_natCast, List.getElem?_eq_getElem h, List.getD_eq_getElem?_getD, List.getElem?_eq_getElem h]
  rfl
theorem byte_i64 (b : UInt8) : IntKind.wrap .i64 ((b.toNat : Nat) : Int) = ((b.toNat : Nat) : Int) := by
  have := b.toNat_lt
  exact wrap_small (by omega) (by omega)
end Go.AM.YtnhfjkckgicidaaGreat

set_option linter.unusedVariables false
set_option linter.unusedSimpArgs false
namespace Go.AM.YtnhfjkckgicidaaGreat
open Go.AM Go.Proofs Go
theorem num_be (w n : Nat) (t : List UInt8) (h : n < 256 ^ w) (h2 : n < 9223372036854775808) : num w (be w n ++ t) = some (n, t) := by
  have hl : (be w n).length = w := be_length w n
  have ht : (be w n ++ t).take w = be w n := by rw [List.take_append_of_le_length (by omega), List.take_of_length_le (by omega)]
  have hd : (be w n ++ t).drop w = t := by rw [List.drop_append_of_le_length (by omega), List.drop_eq_nil_of_le (by omega), List.nil_append]
  have hu : unbe (be w n) 0 = n := by rw [unbe_be, Nat.zero_mul, Nat.zero_add, Nat.mod_eq_of_lt h]
  have he : numE w (be w n ++ t) = 0 := by
    unfold numE
    rw [if_neg (by rw [List.length_append]; omega), ht, hu, if_neg (by omega)]
  unfold num numN
  rw [if_pos he, if_pos he, ht, hd, hu]
theorem be8_nat (n : Nat) (h : n < 9223372036854775808) : be8 (n : Int) = be 8 n := by
  unfold be8
  rw [show (8 : Int) = ((8 : Nat) : Int) from rfl, putV_small n 8 (by omega) (by omega) (by omega)]
def Fit (l : List (Int × Int)) : Prop := ∀ b ∈ l, 0 ≤ b.1 ∧ b.1 < 9223372036854775808 ∧ 0 ≤ b.2 ∧ b.2 < 9223372036854775808
theorem brs_put : ∀ (l : List (Int × Int)) (t : List UInt8), Fit l → brs l.length (l.flatMap brB ++ t) = some (l, t)
  | [], t, _ => rfl
  | b :: r, t, h => by
    obtain ⟨h1, h2, h3, h4⟩ := h b (List.mem_cons_self ..)
    obtain ⟨e, a⟩ := b
    simp only at h1 h2 h3 h4
    obtain ⟨e, rfl⟩ : ∃ n : Nat, e = n := ⟨e.toNat, by omega⟩
    obtain ⟨a, rfl⟩ : ∃ n : Nat, a = n := ⟨a.toNat, by omega⟩
    have hr := brs_put r t fun c hc => h c (List.mem_cons_of_mem _ hc)
    rw [List.length_cons, List.flatMap_cons, brs, brB, be8_nat e (by omega), be8_nat a (by omega), List.append_assoc, List.append_assoc, num_be 8 e _ (by omega) (by omega)]
    simp only
    rw [num_be 8 a _ (by omega) (by omega)]
    simp only
    rw [hr]
theorem chain_fit : ∀ (l : List (Int × Int)) (e a : Int), 0 ≤ e → 0 ≤ a → chain e a l = true → Fit l
  | [], e, a, _, _, _ => by simp [Fit]
  | b :: r, e, a, he, ha, h => by
    rw [chain, Bool.and_eq_true, decide_eq_true_eq] at h
    obtain ⟨⟨h1, h2, h3, h4⟩, h5⟩ := h
    intro c hc
    rcases List.mem_cons.1 hc with rfl | hc
    · omega
    · exact chain_fit r b.1 b.2 (by omega) (by omega) h5 c hc
theorem lined_parts {l : List (Int × Int)} (h : lined l = true) : l.length ≤ 64 ∧ Fit l := by
  cases l with
  | nil => exact ⟨by simp, by simp [Fit]⟩
  | cons b r =>
    have h : lineOk (b :: r) = true := h
    rw [lineOk, Bool.and_eq_true, Bool.and_eq_true, decide_eq_true_eq] at h
    exact ⟨h.1, chain_fit _ 0 0 (by omega) (by omega) h.2.2⟩
theorem takeL_put (l : List (Int × Int)) (t : List UInt8) (h : lined l = true) : takeL (putL l ++ t) = some (l, t) := by
  obtain ⟨h1, h2⟩ := lined_parts h
  have hb : be 1 l.length = [UInt8.ofNat l.length] := by
    rw [be, be, List.nil_append, Nat.mod_eq_of_lt (by omega)]
  have hp : putL l ++ t = be 1 l.length ++ (l.flatMap brB ++ t) := by
    rw [hb, putL, List.cons_append, List.singleton_append]
  unfold takeL
  rw [hp, num_be 1 l.length _ (by omega) (by omega)]
  simp only
  rw [brs_put l t h2]
  simp only [h, if_true]
theorem be1 (n : Nat) (h : n < 256) : be 1 n = [UInt8.ofNat n] := by rw [be, be, List.nil_append, Nat.mod_eq_of_lt h]
theorem takeT_put (d t : List UInt8) (h : d.length < 65536) : takeT (be 2 d.length ++ d ++ t) = some (d, t) := by
  unfold takeT
  rw [List.append_assoc, num_be 2 d.length _ (by omega) (by omega)]
  simp only
  rw [if_neg (by rw [List.length_append]; omega), List.take_append_of_le_length (by omega), List.take_of_length_le (by omega), List.drop_append_of_le_length (by omega), List.drop_eq_nil_of_le (by omega), List.nil_append]
theorem wr1_put (w : Wr) (t : List UInt8) (h : badW w = false) : wr1 (wrB w ++ t) = some (w, t) := by
  obtain ⟨h1, h2, h3, h4, h5⟩ := badW_not h
  obtain ⟨v, b, d⟩ := w
  simp only at h1 h2 h3 h4 h5
  obtain ⟨v, rfl⟩ : ∃ n : Nat, v = n := ⟨v.toNat, by omega⟩
  obtain ⟨b, rfl⟩ : ∃ n : Nat, b = n := ⟨b.toNat, by omega⟩
  have hw : wrB ((v : Int), (b : Int), d) ++ t = be 1 v ++ (be 1 b ++ (be 2 d.length ++ d ++ t)) := by
    rw [be1 v (by omega), be1 b (by omega), wrB]
    simp
  unfold wr1
  rw [hw, num_be 1 v _ (by omega) (by omega)]
  simp only
  rw [num_be 1 b _ (by omega) (by omega)]
  simp only
  rw [takeT_put d t (by omega)]
theorem wrs_put : ∀ (l : List Wr) (t : List UInt8), l.any badW = false → wrs l.length (l.flatMap wrB ++ t) = some (l, t)
  | [], t, _ => rfl
  | w :: r, t, h => by
    rw [List.any_cons, Bool.or_eq_false_iff] at h
    have hr := wrs_put r t h.2
    rw [List.length_cons, List.flatMap_cons, wrs, List.append_assoc, wr1_put w _ h.1]
    simp only
    rw [hr]
theorem takeW_put (l : List Wr) (t : List UInt8) (h : wOk l = true) : takeW (putW l ++ t) = some (l, t) := by
  obtain ⟨h1, h2, h3⟩ := wOk_parts h
  unfold takeW putW
  rw [List.append_assoc, num_be 2 l.length _ (by omega) (by omega)]
  simp only
  rw [wrs_put l t h3]
  simp only [h, if_true]
theorem flatMap_length_le {α : Type} (f : α → List UInt8) (c : Nat) : ∀ l : List α, (∀ a ∈ l, (f a).length ≤ c) → (l.flatMap f).length ≤ c * l.length
  | [], h => by simp
  | a :: r, h => by
    have h1 := h a (List.mem_cons_self ..)
    have h2 := flatMap_length_le f c r fun b hb => h b (List.mem_cons_of_mem _ hb)
    rw [List.flatMap_cons, List.length_append, List.length_cons, Nat.mul_succ]
    omega
theorem putL_length (l : List (Int × Int)) : (putL l).length ≤ 1 + 16 * l.length := by
  have := flatMap_length_le brB 16 l fun b _ => brB_length b
  rw [putL, List.length_cons]
  omega
theorem putW_length {l : List Wr} (h : wOk l = true) : (putW l).length ≤ 2 + 12 * l.length := by
  obtain ⟨h1, h2, h3⟩ := wOk_parts h
  have := flatMap_length_le wrB 12 l fun w hw => wrB_length (by
    cases hc : badW w with
    | false => rfl
    | true =>
      have : l.any badW = true := List.any_eq_true.2 ⟨w, hw, hc⟩
      rw [h3] at this
      exact absurd this (by simp))
  rw [putW, List.length_append, be_length]
  omega
end Go.AM.YtnhfjkckgicidaaGreat

set_option linter.unusedVariables false
set_option linter.unusedSimpArgs false
namespace Go.AM.YtnhfjkckgicidaaGreat
open Go.AM Go.Proofs Go
def btV (b : Int × Int) : AV := .agg [.int .i64 b.1, .int .u64 b.2]
def bitsOk : Int → List (Int × Int) → Bool
  | _, [] => true
  | last, b :: r => decide (last < b.1 ∧ b.1 ≤ 255 ∧ b.2 ≠ 0 ∧ b.2 < 4294967296) && bitsOk b.1 r
def bOk (l : List (Int × Int)) : Bool := bitsOk 0 l
def UM (l : List (Int × Int)) : Prop := ∀ b ∈ l, 0 ≤ b.2 ∧ b.2 < 18446744073709551616
theorem getBt (l : List (Int × Int)) (i : Nat) (h : i < l.length) : (l.map btV)[Int.toNat (i : Int)]? = some (.agg [.int .i64 (l[i]).1, .int .u64 (l[i]).2]) := by
  rw [Int.toNat_natCast, List.getElem?_map, List.getElem?_eq_getElem h]
  rfl
theorem bitsOk_length : ∀ (l : List (Int × Int)) (last : Int), last ≤ 255 → bitsOk last l = true → (l.length : Int) + last ≤ 255
  | [], last, h, _ => by simp only [List.length_nil]; omega
  | b :: r, last, h, hb => by
    rw [bitsOk, Bool.and_eq_true, decide_eq_true_eq] at hb
    have := bitsOk_length r b.1 hb.1.2.1 hb.2
    simp only [List.length_cons]
    omega
theorem bOk_length {l : List (Int × Int)} (h : bOk l = true) : l.length ≤ 255 := by
  have := bitsOk_length l 0 (by omega) h
  omega
theorem bitsOk_parts : ∀ (l : List (Int × Int)) (last : Int), 0 ≤ last → bitsOk last l = true → ∀ b ∈ l, 1 ≤ b.1 ∧ b.1 ≤ 255 ∧ b.2 ≠ 0 ∧ b.2 < 4294967296
  | [], last, _, _ => by simp
  | b :: r, last, hl, hb => by
    rw [bitsOk, Bool.and_eq_true, decide_eq_true_eq] at hb
    intro c hc
    rcases List.mem_cons.1 hc with rfl | hc
    · omega
    · exact bitsOk_parts r b.1 (by omega) hb.2 c hc
def drightS (fl : Bool) (xs : List AV) (last len i : Int) : St := ⟨34, [(0, AV.sl 2 fl xs), (2, AV.bool false), (3, AV.int .i64 last), (6, AV.sl 2 fl xs), (7, AV.int .i64 len), (8, AV.int .i64 i)], [], [], [], [], []⟩
theorem dright_tree (F : Fns) (N : Nat) (fl : Bool) (xs : List AV) : runOf F 72 N [.sl 2 fl xs] [] =
  loopA (bodyOf F 72 0 N) (deadOf 72 0) (contOf F 72 0 N 0) N { nt := 34, t := [(0, AV.sl 2 fl xs), (2, AV.bool false), (3, AV.int .i64 0), (6, AV.sl 2 fl xs), (7, AV.int .i64 ((List.length xs : Nat) : Int)), (8, AV.int .i64 0)], b := [], r := [], g := [], rd := [], wr := [] } := by kernel_rfl
theorem dright_body (F : Fns) (N : Nat) (fl : Bool) (xs : List AV) (last len i : Int) (KN : St → Res) : bodyOf F 72 0 N (drightS fl xs last len i) (brk (contOf F 72 0 N 0) KN) =
  bif decide (i < len) then bif decide (0 ≤ i) then onOpt xs[Int.toNat i]? fun x => asAgg x fun cs => asCons cs fun v r => asInt .i64 v fun n => asCons r fun v r => asInt .u64 v fun n_1 => asNil r (bif decide (n ≤ last) then some (AV.bool false, []) else bif decide (n > 255) then some (AV.bool false, []) else bif n_1 == 0 then some (AV.bool false, []) else bif decide (n_1 ≥ 4294967296) then some (AV.bool false, []) else KN { nt := 34, t := [(0, AV.sl 2 fl xs), (2, AV.bool false), (3, AV.int .i64 n), (5, AV.ptr 5 0 0), (6, AV.sl 2 fl xs), (7, AV.int .i64 len), (8, AV.int .i64 (IntKind.wrap .i64 (i + 1))), (9, AV.bool (decide (i < len))), (30, AV.bool (decide (n_1 ≥ 4294967296)))], b := [(5, [AV.int .i64 n, AV.int .u64 n_1])], r := [], g := [], rd := [], wr := [] }) else none else some (AV.bool true, []) := by kernel_rfl
theorem dright_loop (F : Fns) (N : Nat) (fl : Bool) (l : List (Int × Int)) (hl : l.length ≤ 1000000000) : ∀ (dd i m : Nat) (last : Int) (st : St), i + dd = l.length → dd < m → st.clean (deadOf 72 0) = drightS fl (l.map btV) last l.length i →
    loopA (bodyOf F 72 0 N) (deadOf 72 0) (contOf F 72 0 N 0) m st = some (.bool (bitsOk last (l.drop i)), []) := by
  intro dd
  induction dd with
  | zero =>
    intro i m last st hi hm hst
    obtain ⟨m, rfl⟩ : ∃ m', m = m' + 1 := ⟨m - 1, by omega⟩
    have h1 : l.drop i = [] := List.drop_eq_nil_of_le (by omega)
    rw [loopA_succ, hst, dright_body, decide_eq_false (by omega), h1]
    rfl
  | succ dd ih =>
    intro i m last st hi hm hst
    obtain ⟨m, rfl⟩ : ∃ m', m = m' + 1 := ⟨m - 1, by omega⟩
    have hlt : i < l.length := by omega
    rw [loopA_succ, hst, dright_body, decide_eq_true (show (i : Int) < l.length by omega), decide_eq_true (show (0 : Int) ≤ i by omega), getBt l i hlt, List.drop_eq_getElem_cons hlt, bitsOk]
    simp only [cond_true, onOpt, asAgg, asCons, asInt, if_true, asNil]
    rw [wrap_small (n := (i : Int) + 1) (by omega) (by omega)]
    generalize l[i] = b
    obtain ⟨x, y⟩ := b
    simp only
    by_cases hc : last < x ∧ x ≤ 255 ∧ y ≠ 0 ∧ y < 4294967296
    · rw [decide_eq_true hc, decide_eq_false (show ¬ x ≤ last by omega), decide_eq_false (show ¬ x > 255 by omega), show (y == 0) = false by simp [hc.2.2.1], decide_eq_false (show ¬ y ≥ 4294967296 by omega)]
      simp only [cond_false, Bool.true_and]
      exact ih (i + 1) m _ _ (by omega) (by omega) (by kernel_rfl)
    · rw [decide_eq_false hc, Bool.false_and]
      by_cases h1 : x ≤ last
      · rw [decide_eq_true h1]; rfl
      by_cases h2 : x > 255
      · rw [decide_eq_false h1, decide_eq_true h2]; rfl
      by_cases h3 : y = 0
      · rw [decide_eq_false h1, decide_eq_false h2, show (y == 0) = true by simp [h3]]; rfl
      by_cases h4 : y ≥ 4294967296
      · rw [decide_eq_false h1, decide_eq_false h2, show (y == 0) = false by simp [h3], decide_eq_true h4]; rfl
      exact absurd (by omega) hc
theorem e62 (k : Nat) (fl : Bool) (l : List (Int × Int)) (hk : l.length + 3 ≤ k) (hl : l.length ≤ 1000000000) : evF pr k 72 [.sl 2 fl (l.map btV)] [] = some (.bool (bOk l), []) := by
  obtain ⟨k, rfl⟩ : ∃ m, k = m + 1 := ⟨k - 1, by omega⟩
  rw [ev_step _ _ _ _ (by kernel_rfl), dright_tree, List.length_map]
  exact dright_loop (evF pr k) k fl l hl l.length 0 k 0 _ (Nat.zero_add _) (by omega) (by kernel_rfl)
theorem e62nil (k a : Nat) (fl : Bool) : evF pr (k + 6) 72 [.sl a fl []] [] = some (.bool true, []) := by kernel_rfl
theorem e91 (k : Nat) : evF pr (k + 40) 124 [.int .i64 32] [] = some (.int .u64 4294967296, []) := by kernel_rfl
def rbrightS (fl : Bool) (xs : List AV) (i : Int) : St := ⟨59, [(0, AV.sl 2 fl xs), (2, AV.bool false), (3, AV.int .i64 i)], [], [], [], [], []⟩
theorem rbright_tree (F : Fns) (N : Nat) (fl : Bool) (xs : List AV) : runOf F 81 N [.sl 2 fl xs] [] =
  loopA (bodyOf F 81 0 N) (deadOf 81 0) (contOf F 81 0 N 0) N { nt := 59, t := [(0, AV.sl 2 fl xs), (2, AV.bool false), (3, AV.int .i64 0)], b := [], r := [], g := [], rd := [], wr := [] } := by kernel_rfl
theorem rbright_body (F : Fns) (N : Nat) (fl : Bool) (xs : List AV) (i : Int) (KN : St → Res) : bodyOf F 81 0 N (rbrightS fl xs i) (brk (contOf F 81 0 N 0) KN) =
  bif decide (i < ((List.length xs : Nat) : Int)) then bif decide (0 ≤ i) then onOpt xs[Int.toNat i]? fun x => asAgg x fun cs => asCons cs fun v r => asInt .i64 v fun n => asCons r fun v r => asInt .u64 v fun n_1 => asNil r (bif decide (n < 1) then some (AV.bool false, []) else bif decide (0 ≤ i) then onOpt xs[Int.toNat i]? fun x => asAgg x fun cs => asCons cs fun v r => asInt .i64 v fun n => asCons r fun v r => asInt .u64 v fun n_2 => asNil r (bif decide (n > 255) then some (AV.bool false, []) else bif decide (0 ≤ i) then onOpt xs[Int.toNat i]? fun x => asAgg x fun cs => asCons cs fun v r => asInt .i64 v fun n => asCons r fun v r => asInt .u64 v fun n => asNil r (bif n == 0 then some (AV.bool false, []) else bif decide (0 ≤ i) then onOpt xs[Int.toNat i]? fun x => asAgg x fun cs => asCons cs fun v r => asInt .i64 v fun n => asCons r fun v r => asInt .u64 v fun n => asNil r (onRes (F 124 [AV.int .i64 32] []) fun v bs => asInt .u64 v fun n_3 => asNil bs (bif decide (n ≥ n_3) then some (AV.bool false, []) else bif decide (i > 0) then bif decide (0 ≤ IntKind.wrap .i64 (i - 1)) then onOpt xs[Int.toNat (IntKind.wrap .i64 (i - 1))]? fun x => asAgg x fun cs => asCons cs fun v r => asInt .i64 v fun n => asCons r fun v r => asInt .u64 v fun n_4 => asNil r (bif decide (0 ≤ i) then onOpt xs[Int.toNat i]? fun x => asAgg x fun cs => asCons cs fun v r => asInt .i64 v fun n_5 => asCons r fun v r => asInt .u64 v fun n_6 => asNil r (bif decide (n ≥ n_5) then some (AV.bool false, []) else KN { nt := 59, t := [(0, AV.sl 2 fl xs), (2, AV.bool false), (3, AV.int .i64 (IntKind.wrap .i64 (i + 1))), (7, AV.bool (decide (i < ((List.length xs : Nat) : Int)))), (58, AV.bool (decide (n ≥ n_5)))], b := [], r := [], g := [], rd := [], wr := [] }) else none) else none else KN { nt := 59, t := [(0, AV.sl 2 fl xs), (2, AV.bool false), (3, AV.int .i64 (IntKind.wrap .i64 (i + 1))), (7, AV.bool (decide (i < ((List.length xs : Nat) : Int)))), (58, AV.bool false)], b := [], r := [], g := [], rd := [], wr := [] })) else none) else none) else none) else none else some (AV.bool true, []) := by kernel_rfl
theorem rbright_loop (k : Nat) (hk : 40 ≤ k) (fl : Bool) (l : List (Int × Int)) (hl : l.length ≤ 1000000000) : ∀ (dd i m : Nat) (v y : Int) (st : St), i + 1 + dd = l.length → dd < m → (∀ h : i < l.length, l[i] = (v, y)) → 1 ≤ v → st.clean (deadOf 81 0) = rbrightS fl (l.map btV) ((i + 1 : Nat) : Int) →
    loopA (bodyOf (evF pr k) 81 0 k) (deadOf 81 0) (contOf (evF pr k) 81 0 k 0) m st = some (.bool (bitsOk v (l.drop (i + 1))), []) := by
  obtain ⟨k, rfl⟩ : ∃ m, k = m + 40 := ⟨k - 40, by omega⟩
  intro dd
  induction dd with
  | zero =>
    intro i m v y st hi hm hp hv hst
    obtain ⟨m, rfl⟩ : ∃ m', m = m' + 1 := ⟨m - 1, by omega⟩
    have h1 : l.drop (i + 1) = [] := List.drop_eq_nil_of_le (by omega)
    rw [loopA_succ, hst, rbright_body, List.length_map, decide_eq_false (by omega), h1]
    rfl
  | succ dd ih =>
    intro i m v y st hi hm hp hv hst
    obtain ⟨m, rfl⟩ : ∃ m', m = m' + 1 := ⟨m - 1, by omega⟩
    have hlt : i + 1 < l.length := by omega
    have hb0 := getBt l i (by omega)
    rw [hp (by omega)] at hb0
    have hw : IntKind.wrap .i64 (((i + 1 : Nat) : Int) - 1) = (i : Int) := by rw [wrap_small (by omega) (by omega)]; omega
    rw [loopA_succ, hst, rbright_body, List.length_map, decide_eq_true (show (((i + 1 : Nat)) : Int) < l.length by omega), decide_eq_true (show (0 : Int) ≤ (i + 1 : Nat) by omega), getBt l (i + 1) hlt, List.drop_eq_getElem_cons hlt, bitsOk, e91, hw, hb0, decide_eq_true (show (0 : Int) ≤ i by omega), decide_eq_true (show (((i + 1 : Nat)) : Int) > 0 by omega)]
    simp only [cond_true, onOpt, asAgg, asCons, asInt, if_true, asNil, onRes]
    rw [show IntKind.wrap .i64 (((i + 1 : Nat) : Int) + 1) = ((i + 1 + 1 : Nat) : Int) by rw [wrap_small (by omega) (by omega)]; omega]
    generalize hx : l[i + 1] = b
    obtain ⟨x, y'⟩ := b
    simp only
    by_cases hc : v < x ∧ x ≤ 255 ∧ y' ≠ 0 ∧ y' < 4294967296
    · rw [decide_eq_true hc, decide_eq_false (show ¬ x < 1 by omega), decide_eq_false (show ¬ x > 255 by omega), show (y' == 0) = false by simp [hc.2.2.1], decide_eq_false (show ¬ y' ≥ 4294967296 by omega), decide_eq_false (show ¬ v ≥ x by omega)]
      simp only [cond_false, Bool.true_and]
      exact ih (i + 1) m x y' _ (by omega) (by omega) (fun _ => hx) (by omega) (by kernel_rfl)
    · rw [decide_eq_false hc, Bool.false_and]
      by_cases h1 : x < 1
      · rw [decide_eq_true h1]; rfl
      by_cases h2 : x > 255
      · rw [decide_eq_false h1, decide_eq_true h2]; rfl
      by_cases h3 : y' = 0
      · rw [decide_eq_false h1, decide_eq_false h2, show (y' == 0) = true by simp [h3]]; rfl
      by_cases h4 : y' ≥ 4294967296
      · rw [decide_eq_false h1, decide_eq_false h2, show (y' == 0) = false by simp [h3], decide_eq_true h4]; rfl
      by_cases h5 : v ≥ x
      · rw [decide_eq_false h1, decide_eq_false h2, show (y' == 0) = false by simp [h3], decide_eq_false h4, decide_eq_true h5]; rfl
      exact absurd (by omega) hc
theorem e58nil (k a : Nat) (fl : Bool) : evF pr (k + 6) 81 [.sl a fl []] [] = some (.bool true, []) := by kernel_rfl
theorem e58 (k : Nat) (fl : Bool) (l : List (Int × Int)) (hk : l.length + 50 ≤ k) (hl : l.length ≤ 1000000000) : evF pr k 81 [.sl 2 fl (l.map btV)] [] = some (.bool (bOk l), []) := by
  obtain ⟨k, rfl⟩ : ∃ m, k = m + 1 + 40 := ⟨k - 41, by omega⟩
  cases l with
  | nil => exact e58nil (k + 35) 2 fl
  | cons b r =>
    rw [ev_step _ _ _ _ (by kernel_rfl), rbright_tree]
    conv => lhs; arg 4; rw [show k + 40 = (k + 39) + 1 by omega]
    rw [loopA_succ]
    refine (rbright_body _ _ fl ((b :: r).map btV) 0 _).trans ?_
    simp only [List.length_cons] at hk hl
    rw [List.length_map, decide_eq_true (show (0 : Int) < (((b :: r).length : Nat) : Int) by simp only [List.length_cons]; omega), e91, bOk, bitsOk]
    obtain ⟨x, y⟩ := b
    simp only [cond_true, cond_false, Int.toNat_zero, List.map_cons, List.getElem?_cons_zero, onOpt, btV, asAgg, asCons, asInt, if_true, asNil, onRes, show decide ((0 : Int) ≤ 0) = true from rfl, show decide ((0 : Int) > 0) = false from rfl]
    by_cases hc : 0 < x ∧ x ≤ 255 ∧ y ≠ 0 ∧ y < 4294967296
    · rw [decide_eq_true hc, decide_eq_false (show ¬ x < 1 by omega), decide_eq_false (show ¬ x > 255 by omega), show (y == 0) = false by simp [hc.2.2.1], decide_eq_false (show ¬ y ≥ 4294967296 by omega)]
      simp only [cond_false, Bool.true_and]
      exact rbright_loop (k + 40) (by omega) fl ((x, y) :: r) (by simpa using hl) r.length 0 (k + 39) x y _ (by simp only [List.length_cons]; omega) (by omega) (fun _ => rfl) (by omega) (by kernel_rfl)
    · rw [decide_eq_false hc, Bool.false_and]
      by_cases h1 : x < 1
      · rw [decide_eq_true h1]; rfl
      by_cases h2 : x > 255
      · rw [decide_eq_false h1, decide_eq_true h2]; rfl
      by_cases h3 : y = 0
      · rw [decide_eq_false h1, decide_eq_false h2, show (y == 0) = true by simp [h3]]; rfl
      rw [decide_eq_false h1, decide_eq_false h2, show (y == 0) = false by simp [h3], decide_eq_true (show y ≥ 4294967296 by omega)]
      rfl
def btB (b : Int × Int) : List UInt8 := UInt8.ofNat b.1.toNat :: be 4 b.2.toNat
def putB (l : List (Int × Int)) : List UInt8 := UInt8.ofNat l.length :: l.flatMap btB
theorem btB_length (b : Int × Int) : (btB b).length = 5 := by simp [btB, be_length]
theorem u8_ofBytes (n : Nat) : AV.int .u8 (IntKind.wrap .u8 (n : Int)) = AV.int .u8 (((UInt8.ofNat n).toNat : Nat) : Int) := by
  have : IntKind.wrap .u8 (n : Int) = (((UInt8.ofNat n).toNat : Nat) : Int) := by
    simp [IntKind.wrap, IntKind.bits, IntKind.signed]
  rw [this]
def dbytesS (fl d : Bool) (xs : List AV) (v : AV) (len i : Int) : St := ⟨40, [(0, AV.sl 2 fl xs), (2, AV.str []), (3, AV.int .i64 0), (4, v), (11, AV.bool d), (16, AV.sl 2 fl xs), (17, AV.int .i64 len), (18, AV.int .i64 i)], [], [], [], [], []⟩
theorem dbytes_tree (F : Fns) (N : Nat) (fl : Bool) (xs : List AV) : runOf F 24 N [.sl 2 fl xs] [] =
  onRes (F 72 [AV.sl 2 fl xs] []) fun v bs => asBool v fun b => asNil bs (bif !b then some (AV.tup [AV.str [], AV.int .i64 1], []) else loopA (bodyOf F 24 0 N) (deadOf 24 0) (contOf F 24 0 N 0) N { nt := 40, t := [(0, AV.sl 2 fl xs), (2, AV.str []), (3, AV.int .i64 0), (4, AV.sl 1 true [AV.int .u8 (IntKind.wrap .u8 ((List.length xs : Nat) : Int))]), (11, AV.bool !b), (16, AV.sl 2 fl xs), (17, AV.int .i64 ((List.length xs : Nat) : Int)), (18, AV.int .i64 0)], b := [], r := [], g := [], rd := [], wr := [] }) := by kernel_rfl
theorem dbytes_body0 (F : Fns) (N : Nat) (fl d : Bool) (xs ys : List AV) (len i : Int) (KN : St → Res) : bodyOf F 24 0 N (dbytesS fl d xs (.sl 1 true ys) len i) (brk (contOf F 24 0 N 0) KN) =
  bif decide (i < len) then bif decide (0 ≤ i) then onOpt xs[Int.toNat i]? fun x => asAgg x fun cs => asCons cs fun v r => asInt .i64 v fun n => asCons r fun v r => asInt .u64 v fun n_1 => asNil r (onRes (F 23 [AV.int .i64 (IntKind.wrap .i64 n_1), AV.int .i64 4] []) fun v bs => asTup v fun cs => asCons cs fun v r => asStr v fun s => asCons r fun v r => asInt .i64 v fun n_2 => asNil r (asNil bs (bif decide ((1 = 1 ∨ ys = []) ∧ fitsB (List.length ys + List.length [AV.int .u8 (IntKind.wrap .u8 n)]) 1 = true ∧ List.length ys + List.length [AV.int .u8 (IntKind.wrap .u8 n)] ≤ 4611686018427387904) then bif decide (1 = 1 ∧ fitsB (List.length (ys ++ [AV.int .u8 (IntKind.wrap .u8 n)]) + List.length (ofBytes s)) 1 = true ∧ List.length (ys ++ [AV.int .u8 (IntKind.wrap .u8 n)]) + List.length (ofBytes s) ≤ 4611686018427387904) then KN { nt := 40, t := [(0, AV.sl 2 fl xs), (2, AV.str []), (3, AV.int .i64 0), (4, AV.tip 34 0 1 (ys ++ [AV.int .u8 (IntKind.wrap .u8 n)] ++ ofBytes s)), (6, AV.ptr 6 0 0), (7, AV.str s), (11, AV.bool d), (16, AV.sl 2 fl xs), (17, AV.int .i64 len), (18, AV.int .i64 (IntKind.wrap .i64 (i + 1))), (19, AV.bool (decide (i < len)))], b := [(6, [AV.int .i64 n, AV.int .u64 n_1])], r := [], g := [], rd := [], wr := [] } else none else none))) else none else onOpt (Option.map AV.str (bytesOf ys)) fun x => asStr x fun s => some (AV.tup [AV.str s, AV.int .i64 0], []) := by kernel_rfl
theorem dbytes_body1 (F : Fns) (N : Nat) (fl d : Bool) (xs ys : List AV) (len i : Int) (KN : St → Res) : bodyOf F 24 0 N (dbytesS fl d xs (.tip 34 0 1 ys) len i) (brk (contOf F 24 0 N 0) KN) =
  bif decide (i < len) then bif decide (0 ≤ i) then onOpt xs[Int.toNat i]? fun x => asAgg x fun cs => asCons cs fun v r => asInt .i64 v fun n => asCons r fun v r => asInt .u64 v fun n_1 => asNil r (onRes (F 23 [AV.int .i64 (IntKind.wrap .i64 n_1), AV.int .i64 4] []) fun v bs => asTup v fun cs => asCons cs fun v r => asStr v fun s => asCons r fun v r => asInt .i64 v fun n_2 => asNil r (asNil bs (bif decide (1 = 1 ∧ fitsB (List.length ys + List.length [AV.int .u8 (IntKind.wrap .u8 n)]) 1 = true ∧ List.length ys + List.length [AV.int .u8 (IntKind.wrap .u8 n)] ≤ 4611686018427387904) then bif decide (1 = 1 ∧ fitsB (List.length (ys ++ [AV.int .u8 (IntKind.wrap .u8 n)]) + List.length (ofBytes s)) 1 = true ∧ List.length (ys ++ [AV.int .u8 (IntKind.wrap .u8 n)]) + List.length (ofBytes s) ≤ 4611686018427387904) then KN { nt := 40, t := [(0, AV.sl 2 fl xs), (2, AV.str []), (3, AV.int .i64 0), (4, AV.tip 34 0 1 (ys ++ [AV.int .u8 (IntKind.wrap .u8 n)] ++ ofBytes s)), (6, AV.ptr 6 0 0), (7, AV.str s), (11, AV.bool d), (16, AV.sl 2 fl xs), (17, AV.int .i64 len), (18, AV.int .i64 (IntKind.wrap .i64 (i + 1))), (19, AV.bool (decide (i < len)))], b := [(6, [AV.int .i64 n, AV.int .u64 n_1])], r := [], g := [], rd := [], wr := [] } else none else none))) else none else onOpt (Option.map AV.str (bytesOf ys)) fun x => asStr x fun s => some (AV.tup [AV.str s, AV.int .i64 0], []) := by kernel_rfl
theorem btB_ofBytes {b : Int × Int} (h : 1 ≤ b.1 ∧ b.1 ≤ 255) (acc : List UInt8) : ofBytes acc ++ [AV.int .u8 (IntKind.wrap .u8 b.1)] ++ ofBytes (be 4 b.2.toNat) = ofBytes (acc ++ btB b) := by
  obtain ⟨v, m⟩ := b
  simp only at h ⊢
  obtain ⟨n, rfl⟩ : ∃ n : Nat, v = n := ⟨v.toNat, by omega⟩
  rw [u8_ofBytes, show [AV.int .u8 (((UInt8.ofNat n).toNat : Nat) : Int)] = ofBytes [UInt8.ofNat n] from rfl, ofBytes_append, ofBytes_append, btB]
  simp
theorem put4 (k : Nat) (hk : 10 ≤ k) (m : Int) (h0 : 0 ≤ m) (h1 : m < 4294967296) : evF pr k 23 [.int .i64 (IntKind.wrap .i64 m), .int .i64 4] [] = some (.tup [.str (be 4 m.toNat), .int .i64 0], []) := by
  obtain ⟨n, rfl⟩ : ∃ n : Nat, m = n := ⟨m.toNat, by omega⟩
  rw [wrap_small (by omega) (by omega), show (4 : Int) = ((4 : Nat) : Int) from rfl, e37 k hk _ (by omega) 4 (by omega) (by omega), putV_small n 4 (by omega) (by omega) (by omega), Int.toNat_natCast]
theorem dbytes_loop (k : Nat) (hk : 12 ≤ k) (fl d : Bool) (l : List (Int × Int)) (hu : UM l) (hp : ∀ b ∈ l, 1 ≤ b.1 ∧ b.1 ≤ 255 ∧ b.2 ≠ 0 ∧ b.2 < 4294967296) (hl : l.length ≤ 1000) : ∀ (dd i m : Nat) (acc : List UInt8) (st : St), i + dd = l.length → dd < m → acc.length = 1 + 5 * i → st.clean (deadOf 24 0) = dbytesS fl d (l.map btV) (.tip 34 0 1 (ofBytes acc)) l.length i →
    loopA (bodyOf (evF pr k) 24 0 k) (deadOf 24 0) (contOf (evF pr k) 24 0 k 0) m st = some (.tup [.str (acc ++ (l.drop i).flatMap btB), .int .i64 0], []) := by
  intro dd
  induction dd with
  | zero =>
    intro i m acc st hi hm ha hst
    obtain ⟨m, rfl⟩ : ∃ m', m = m' + 1 := ⟨m - 1, by omega⟩
    have h1 : l.drop i = [] := List.drop_eq_nil_of_le (by omega)
    rw [loopA_succ, hst, dbytes_body1, decide_eq_false (by omega), h1, bytesOf_ofBytes]
    simp [onOpt, asStr]
  | succ dd ih =>
    intro i m acc st hi hm ha hst
    obtain ⟨m, rfl⟩ : ∃ m', m = m' + 1 := ⟨m - 1, by omega⟩
    have hlt : i < l.length := by omega
    have hpi := hp _ (List.getElem_mem hlt)
    have hui := hu _ (List.getElem_mem hlt)
    rw [loopA_succ, hst, dbytes_body1, decide_eq_true (show (i : Int) < l.length by omega), decide_eq_true (show (0 : Int) ≤ i by omega), getBt l i hlt, List.drop_eq_getElem_cons hlt, List.flatMap_cons]
    simp only [cond_true, onOpt, asAgg, asCons, asInt, if_true, asNil]
    generalize l[i] = b at *
    rw [put4 k (by omega) b.2 hui.1 hpi.2.2.2]
    simp only [onRes, asTup, asCons, asStr, asInt, if_true, asNil]
    rw [btB_ofBytes ⟨hpi.1, hpi.2.1⟩]
    rw [decide_eq_true (by
      refine ⟨trivial, fitsB_small ?_, ?_⟩ <;> simp only [ofBytes, List.length_map, List.length_cons, List.length_nil] <;> omega)]
    rw [decide_eq_true (by
      refine ⟨trivial, fitsB_small ?_, ?_⟩ <;> simp only [ofBytes, List.length_map, List.length_append, List.length_cons, List.length_nil, be_length] <;> omega)]
    simp only [cond_true]
    rw [wrap_small (n := (i : Int) + 1) (by omega) (by omega)]
    refine (ih (i + 1) m (acc ++ btB b) _ (by omega) (by omega) (by rw [List.length_append, btB_length]; omega) (by kernel_rfl)).trans ?_
    rw [List.append_assoc]
theorem e53 (k : Nat) (fl : Bool) (l : List (Int × Int)) (hu : UM l) (hk : l.length + 14 ≤ k) (hl : l.length ≤ 1000) : evF pr k 24 [.sl 2 fl (l.map btV)] [] = some (if bOk l then .tup [.str (putB l), .int .i64 0] else .tup [.str [], .int .i64 1], []) := by
  obtain ⟨k, rfl⟩ : ∃ m, k = m + 1 := ⟨k - 1, by omega⟩
  rw [ev_step _ _ _ _ (by kernel_rfl), dbytes_tree, e62 k fl l (by omega) (by omega)]
  simp only [onRes, asBool, asNil]
  cases hok : bOk l with
  | false => rfl
  | true =>
    have hp := bitsOk_parts l 0 (by omega) hok
    rw [List.length_map, u8_ofBytes, show [AV.int .u8 (((UInt8.ofNat l.length).toNat : Nat) : Int)] = ofBytes [UInt8.ofNat l.length] from rfl]
    simp only [Bool.not_true, cond_false]
    obtain ⟨k', hk'⟩ : ∃ m, k = m + 1 := ⟨k - 1, by omega⟩
    conv => lhs; arg 4; rw [hk']
    rw [loopA_succ]
    refine (dbytes_body0 _ _ fl false (l.map btV) (ofBytes [UInt8.ofNat l.length]) l.length 0 _).trans ?_
    cases l with
    | nil =>
      rw [bytesOf_ofBytes]
      rfl
    | cons b r =>
      have hpi := hp b (List.mem_cons_self ..)
      have hui := hu b (List.mem_cons_self ..)
      rw [decide_eq_true (show (0 : Int) < (((b :: r).length : Nat) : Int) by simp only [List.length_cons]; omega)]
      simp only [cond_true, Int.toNat_zero, List.map_cons, List.getElem?_cons_zero, onOpt, btV, asAgg, asCons, asInt, if_true, asNil, show decide ((0 : Int) ≤ 0) = true from rfl]
      rw [put4 k (by omega) b.2 hui.1 hpi.2.2.2]
      simp only [onRes, asTup, asCons, asStr, asInt, if_true, asNil]
      rw [btB_ofBytes ⟨hpi.1, hpi.2.1⟩]
      rw [decide_eq_true (by
        refine ⟨.inl trivial, fitsB_small ?_, ?_⟩ <;> simp only [ofBytes, List.length_map, List.length_cons, List.length_nil] <;> omega)]
      rw [decide_eq_true (by
        refine ⟨trivial, fitsB_small ?_, ?_⟩ <;> simp only [ofBytes, List.length_map, List.length_append, List.length_cons, List.length_nil, be_length] <;> omega)]
      simp only [cond_true]
      simp only [List.length_cons] at hk
      exact dbytes_loop k (by omega) fl false (b :: r) hu hp hl r.length 1 k' ([UInt8.ofNat (b :: r).length] ++ btB b) _ (by simp only [List.length_cons]; omega) (by omega) (by rw [List.length_append, btB_length]; rfl) (by kernel_rfl)
def rbbytesS (fl : Bool) (xs : List AV) (s : List UInt8) (i : Int) : St := ⟨48, [(0, AV.sl 2 fl xs), (2, AV.str []), (3, AV.str s), (4, AV.int .i64 i)], [], [], [], [], []⟩
theorem rbbytes_tree (F : Fns) (N : Nat) (fl : Bool) (xs : List AV) : runOf F 51 N [.sl 2 fl xs] [] =
  loopA (bodyOf F 51 0 N) (deadOf 51 0) (contOf F 51 0 N 0) N { nt := 48, t := [(0, AV.sl 2 fl xs), (2, AV.str []), (3, AV.str [UInt8.ofNat (Int.toNat (IntKind.wrap .u8 ((List.length xs : Nat) : Int)))]), (4, AV.int .i64 0)], b := [], r := [], g := [], rd := [], wr := [] } := by kernel_rfl
theorem rbbytes_body (F : Fns) (N : Nat) (fl : Bool) (xs : List AV) (s : List UInt8) (i : Int) (KN : St → Res) : bodyOf F 51 0 N (rbbytesS fl xs s i) (brk (contOf F 51 0 N 0) KN) =
  bif decide (i < ((List.length xs : Nat) : Int)) then bif decide (0 ≤ i) then onOpt xs[Int.toNat i]? fun x => asAgg x fun cs => asCons cs fun v r => asInt .i64 v fun n => asCons r fun v r => asInt .u64 v fun n => asNil r (bif decide (0 ≤ i) then onOpt xs[Int.toNat i]? fun x => asAgg x fun cs => asCons cs fun v r => asInt .i64 v fun n_1 => asCons r fun v r => asInt .u64 v fun n_2 => asNil r (bif decide (List.length s + List.length [UInt8.ofNat (Int.toNat (IntKind.wrap .u8 n_1)), UInt8.ofNat (Int.toNat (IntKind.wrap .u8 (IntKind.wrap .i64 (Int.tdiv (IntKind.wrap .i64 n) 16777216)))), UInt8.ofNat (Int.toNat (IntKind.wrap .u8 (Int.tmod (IntKind.wrap .i64 (Int.tdiv (IntKind.wrap .i64 n) 65536)) 256))), UInt8.ofNat (Int.toNat (IntKind.wrap .u8 (Int.tmod (IntKind.wrap .i64 (Int.tdiv (IntKind.wrap .i64 n) 256)) 256))), UInt8.ofNat (Int.toNat (IntKind.wrap .u8 (Int.tmod (IntKind.wrap .i64 n) 256)))] ≤ 4611686018427387904) then KN { nt := 48, t := [(0, AV.sl 2 fl xs), (2, AV.str []), (3, AV.str (s ++ [UInt8.ofNat (Int.toNat (IntKind.wrap .u8 n_1)), UInt8.ofNat (Int.toNat (IntKind.wrap .u8 (IntKind.wrap .i64 (Int.tdiv (IntKind.wrap .i64 n) 16777216)))), UInt8.ofNat (Int.toNat (IntKind.wrap .u8 (Int.tmod (IntKind.wrap .i64 (Int.tdiv (IntKind.wrap .i64 n) 65536)) 256))), UInt8.ofNat (Int.toNat (IntKind.wrap .u8 (Int.tmod (IntKind.wrap .i64 (Int.tdiv (IntKind.wrap .i64 n) 256)) 256))), UInt8.ofNat (Int.toNat (IntKind.wrap .u8 (Int.tmod (IntKind.wrap .i64 n) 256)))])), (4, AV.int .i64 (IntKind.wrap .i64 (i + 1))), (5, AV.int .i64 (IntKind.wrap .i64 n)), (14, AV.bool (decide (i < ((List.length xs : Nat) : Int))))], b := [], r := [], g := [], rd := [], wr := [] } else none) else none) else none else some (AV.str s, []) := by kernel_rfl
theorem be4_list (n : Nat) (h : n < 4294967296) : be 4 n = [UInt8.ofNat (n / 16777216), UInt8.ofNat (n / 65536 % 256), UInt8.ofNat (n / 256 % 256), UInt8.ofNat (n % 256)] := by
  simp only [be, List.nil_append, List.cons_append]
  have h1 : n / 256 / 256 / 256 % 256 = n / 16777216 := by omega
  have h2 : n / 256 / 256 % 256 = n / 65536 % 256 := by omega
  rw [h1, h2]
theorem rbbytes_loop (F : Fns) (N : Nat) (fl : Bool) (l : List (Int × Int)) (hu : UM l) (hp : ∀ b ∈ l, 1 ≤ b.1 ∧ b.1 ≤ 255 ∧ b.2 ≠ 0 ∧ b.2 < 4294967296) (hl : l.length ≤ 1000) : ∀ (dd i m : Nat) (acc : List UInt8) (st : St), i + dd = l.length → dd < m → acc.length = 1 + 5 * i → st.clean (deadOf 51 0) = rbbytesS fl (l.map btV) acc i →
    loopA (bodyOf F 51 0 N) (deadOf 51 0) (contOf F 51 0 N 0) m st = some (.str (acc ++ (l.drop i).flatMap btB), []) := by
  intro dd
  induction dd with
  | zero =>
    intro i m acc st hi hm ha hst
    obtain ⟨m, rfl⟩ : ∃ m', m = m' + 1 := ⟨m - 1, by omega⟩
    have h1 : l.drop i = [] := List.drop_eq_nil_of_le (by omega)
    rw [loopA_succ, hst, rbbytes_body, List.length_map, decide_eq_false (by omega), h1]
    simp
  | succ dd ih =>
    intro i m acc st hi hm ha hst
    obtain ⟨m, rfl⟩ : ∃ m', m = m' + 1 := ⟨m - 1, by omega⟩
    have hlt : i < l.length := by omega
    have hpi := hp _ (List.getElem_mem hlt)
    have hui := hu _ (List.getElem_mem hlt)
    rw [loopA_succ, hst, rbbytes_body, List.length_map, decide_eq_true (show (i : Int) < l.length by omega), decide_eq_true (show (0 : Int) ≤ i by omega), getBt l i hlt, List.drop_eq_getElem_cons hlt, List.flatMap_cons]
    simp only [cond_true, onOpt, asAgg, asCons, asInt, if_true, asNil]
    generalize l[i] = b at *
    obtain ⟨v, y⟩ := b
    simp only at hpi hui ⊢
    obtain ⟨v, rfl⟩ : ∃ n : Nat, v = n := ⟨v.toNat, by omega⟩
    obtain ⟨y, rfl⟩ : ∃ n : Nat, y = n := ⟨y.toNat, by omega⟩
    have hy : y < 4294967296 := by omega
    rw [wrap_small (n := (y : Int)) (by omega) (by omega)]
    have e1 : Int.tdiv (y : Int) 16777216 = ((y / 16777216 : Nat) : Int) := rfl
    have e2 : Int.tdiv (y : Int) 65536 = ((y / 65536 : Nat) : Int) := rfl
    have e3 : Int.tdiv (y : Int) 256 = ((y / 256 : Nat) : Int) := rfl
    rw [e1, e2, e3, wrap_small (n := ((y / 16777216 : Nat) : Int)) (by omega) (by omega), wrap_small (n := ((y / 65536 : Nat) : Int)) (by omega) (by omega), wrap_small (n := ((y / 256 : Nat) : Int)) (by omega) (by omega)]
    have e4 : Int.tmod ((y / 65536 : Nat) : Int) 256 = ((y / 65536 % 256 : Nat) : Int) := rfl
    have e5 : Int.tmod ((y / 256 : Nat) : Int) 256 = ((y / 256 % 256 : Nat) : Int) := rfl
    have e6 : Int.tmod (y : Int) 256 = ((y % 256 : Nat) : Int) := rfl
    rw [e4, e5, e6, byte_wrap, byte_wrap, byte_wrap, byte_wrap, byte_wrap]
    have hb : [UInt8.ofNat v, UInt8.ofNat (y / 16777216), UInt8.ofNat (y / 65536 % 256), UInt8.ofNat (y / 256 % 256), UInt8.ofNat (y % 256)] = btB ((v : Int), (y : Int)) := by
      rw [btB, Int.toNat_natCast, Int.toNat_natCast, be4_list y hy]
    rw [hb, decide_eq_true (by rw [btB_length]; omega), wrap_small (n := (i : Int) + 1) (by omega) (by omega)]
    simp only [cond_true]
    refine (ih (i + 1) m (acc ++ btB ((v : Int), (y : Int))) _ (by omega) (by omega) (by rw [List.length_append, btB_length]; omega) (by kernel_rfl)).trans ?_
    rw [List.append_assoc]
theorem e63 (k : Nat) (fl : Bool) (l : List (Int × Int)) (hu : UM l) (hk : l.length + 3 ≤ k) (hok : bOk l = true) : evF pr k 51 [.sl 2 fl (l.map btV)] [] = some (.str (putB l), []) := by
  obtain ⟨k, rfl⟩ : ∃ m, k = m + 1 := ⟨k - 1, by omega⟩
  have hl := bOk_length hok
  have hp := bitsOk_parts l 0 (by omega) hok
  rw [ev_step _ _ _ _ (by kernel_rfl), rbbytes_tree, List.length_map, byte_wrap]
  exact rbbytes_loop (evF pr k) k fl l hu hp (by omega) l.length 0 k [UInt8.ofNat l.length] _ (Nat.zero_add _) (by omega) rfl (by kernel_rfl)
def bt1 (t : List UInt8) : Int × Int := (((t.getD 0 0).toNat : Int), ((unbe ((t.drop 1).take 4) 0 : Nat) : Int))
def bts : Nat → List UInt8 → List (Int × Int)
  | 0, _ => []
  | n + 1, t => bt1 t :: bts n (t.drop 5)
def parseB (s : List UInt8) : Option (List (Int × Int) × List UInt8) := match num 1 s with
  | none => none
  | some (n, t) => if t.length < 5 * n then none else if bOk (bts n t) then some (bts n t, t.drop (5 * n)) else none
def slT (l : List (Int × Int)) : AV := if l = [] then .sl 0 true [] else .sl 2 false (l.map btV)
def ParseBR (x : Option (List (Int × Int) × List UInt8)) (r : Res) : Prop := match x with
  | none => ∃ e : Int, e ≠ 0 ∧ r = some (.tup [.sl 0 true [], .str [], .int .i64 e], [])
  | some (l, t) => r = some (.tup [slT l, .str t, .int .i64 0], [])
theorem bt1_bound (t : List UInt8) : 0 ≤ (bt1 t).2 ∧ (bt1 t).2 < 4294967296 := by
  have h := unbe_lt ((t.drop 1).take 4) 0
  have h4 : 256 ^ ((t.drop 1).take 4).length ≤ 256 ^ 4 := Nat.pow_le_pow_right (by omega) (by rw [List.length_take]; omega)
  unfold bt1
  simp only
  omega
def dparseS (s0 s : List UInt8) (v : AV) (n e m i : Int) (d : Bool) : St := ⟨52, [(0, AV.str s0), (2, AV.sl 0 true []), (3, AV.str []), (4, AV.int .i64 0), (5, AV.int .i64 n), (6, AV.str s), (7, AV.int .i64 e), (8, v), (25, AV.bool d), (26, AV.int .i64 m), (27, AV.int .i64 i)], [], [], [], [], []⟩
theorem dparse_tree (F : Fns) (N : Nat) (s : List UInt8) : runOf F 43 N [.str s] [] =
  onRes (F 88 [AV.str s, AV.int .i64 1] []) fun v bs => asTup v fun cs => asCons cs fun v r => asInt .i64 v fun n => asCons r fun v r => asStr v fun s_1 => asCons r fun v r => asInt .i64 v fun n_1 => asNil r (asNil bs (bif n_1 != 0 then some (AV.tup [AV.sl 0 true [], AV.str [], AV.int .i64 2], []) else bif decide (((List.length s_1 : Nat) : Int) < IntKind.wrap .i64 (5 * n)) then some (AV.tup [AV.sl 0 true [], AV.str [], AV.int .i64 2], []) else loopA (bodyOf F 43 0 N) (deadOf 43 0) (contOf F 43 0 N 0) N { nt := 52, t := [(0, AV.str s), (2, AV.sl 0 true []), (3, AV.str []), (4, AV.int .i64 0), (5, AV.int .i64 n), (6, AV.str s_1), (7, AV.int .i64 n_1), (8, AV.sl 0 true []), (25, AV.bool (decide (((List.length s_1 : Nat) : Int) < IntKind.wrap .i64 (5 * n)))), (26, AV.int .i64 n), (27, AV.int .i64 0)], b := [], r := [], g := [], rd := [], wr := [] })) := by kernel_rfl
theorem dparse_body0 (F : Fns) (N : Nat) (s0 s : List UInt8) (n e m i : Int) (d : Bool) (KN : St → Res) : bodyOf F 43 0 N (dparseS s0 s (.sl 0 true []) n e m i d) (brk (contOf F 43 0 N 0) KN) =
  bif decide (i < m) then bif decide ((0 : Int) ≤ 1 ∧ (1 : Int) ≤ 5 ∧ 5 ≤ ((List.length s : Nat) : Int)) then onRes (F 92 [AV.str (List.drop (Int.toNat 1) (List.take (Int.toNat 5) s))] []) fun v bs => asTup v fun cs => asCons cs fun v r => asInt .i64 v fun n_1 => asCons r fun v r => asInt .i64 v fun n_2 => asNil r (asNil bs (onOpt (Option.map (fun b => AV.int .u8 ((UInt8.toNat b : Nat) : Int)) s[Int.toNat 0]?) fun x => asInt .u8 x fun n_3 => bif decide ((0 : Int) ≤ 5 ∧ 5 ≤ ((List.length s : Nat) : Int) ∧ ((List.length s : Nat) : Int) ≤ ((List.length s : Nat) : Int)) then KN { nt := 52, t := [(0, AV.str s0), (2, AV.sl 0 true []), (3, AV.str []), (4, AV.int .i64 0), (5, AV.int .i64 n), (6, AV.str (List.drop (Int.toNat 5) (List.take (Int.toNat ((List.length s : Nat) : Int)) s))), (7, AV.int .i64 e), (8, AV.tip 43 0 2 [AV.agg [AV.int .i64 (IntKind.wrap .i64 n_3), AV.int .u64 (IntKind.wrap .u64 n_1)]]), (9, AV.int .i64 n_1), (25, AV.bool d), (26, AV.int .i64 m), (27, AV.int .i64 (IntKind.wrap .i64 (i + 1))), (28, AV.bool (decide (i < m)))], b := [], r := [], g := [], rd := [], wr := [] } else none)) else none else onRes (F 72 [AV.sl 0 true []] []) fun v bs => asBool v fun b => asNil bs (bif !b then some (AV.tup [AV.sl 0 true [], AV.str [], AV.int .i64 3], []) else some (AV.tup [AV.sl 0 true [], AV.str s, AV.int .i64 0], [])) := by kernel_rfl
theorem dparse_body1 (F : Fns) (N : Nat) (s0 s : List UInt8) (ys : List AV) (n e m i : Int) (d : Bool) (KN : St → Res) : bodyOf F 43 0 N (dparseS s0 s (.tip 43 0 2 ys) n e m i d) (brk (contOf F 43 0 N 0) KN) =
  bif decide (i < m) then bif decide ((0 : Int) ≤ 1 ∧ (1 : Int) ≤ 5 ∧ 5 ≤ ((List.length s : Nat) : Int)) then onRes (F 92 [AV.str (List.drop (Int.toNat 1) (List.take (Int.toNat 5) s))] []) fun v bs => asTup v fun cs => asCons cs fun v r => asInt .i64 v fun n_1 => asCons r fun v r => asInt .i64 v fun n_2 => asNil r (asNil bs (onOpt (Option.map (fun b => AV.int .u8 ((UInt8.toNat b : Nat) : Int)) s[Int.toNat 0]?) fun x => asInt .u8 x fun n_3 => bif decide (2 = 2 ∧ fitsB (List.length ys + List.length [AV.agg [AV.int .i64 (IntKind.wrap .i64 n_3), AV.int .u64 (IntKind.wrap .u64 n_1)]]) 16 = true ∧ List.length ys + List.length [AV.agg [AV.int .i64 (IntKind.wrap .i64 n_3), AV.int .u64 (IntKind.wrap .u64 n_1)]] ≤ 4611686018427387904) then bif decide ((0 : Int) ≤ 5 ∧ 5 ≤ ((List.length s : Nat) : Int) ∧ ((List.length s : Nat) : Int) ≤ ((List.length s : Nat) : Int)) then KN { nt := 52, t := [(0, AV.str s0), (2, AV.sl 0 true []), (3, AV.str []), (4, AV.int .i64 0), (5, AV.int .i64 n), (6, AV.str (List.drop (Int.toNat 5) (List.take (Int.toNat ((List.length s : Nat) : Int)) s))), (7, AV.int .i64 e), (8, AV.tip 43 0 2 (ys ++ [AV.agg [AV.int .i64 (IntKind.wrap .i64 n_3), AV.int .u64 (IntKind.wrap .u64 n_1)]])), (9, AV.int .i64 n_1), (25, AV.bool d), (26, AV.int .i64 m), (27, AV.int .i64 (IntKind.wrap .i64 (i + 1))), (28, AV.bool (decide (i < m)))], b := [], r := [], g := [], rd := [], wr := [] } else none else none)) else none else onRes (F 72 [AV.sl 2 false ys] []) fun v bs => asBool v fun b => asNil bs (bif !b then some (AV.tup [AV.sl 0 true [], AV.str [], AV.int .i64 3], []) else some (AV.tup [AV.sl 2 false ys, AV.str s, AV.int .i64 0], [])) := by kernel_rfl
theorem get4 (k : Nat) (hk : 10 ≤ k) (s : List UInt8) (h : 5 ≤ s.length) : evF pr k 92 [.str (List.drop (Int.toNat 1) (List.take (Int.toNat 5) s))] [] = some (.tup [.int .i64 (bt1 s).2, .int .i64 0], []) := by
  have e : List.drop (Int.toNat 1) (List.take (Int.toNat 5) s) = (s.drop 1).take 4 := by
    rw [List.drop_take]
    rfl
  have hl : ((s.drop 1).take 4).length = 4 := by rw [List.length_take, List.length_drop]; omega
  have hb := bt1_bound s
  unfold bt1 at hb
  rw [e, e89 k hk, AM.getV, if_neg (by omega), if_neg (by simp only at hb; omega)]
  rfl
theorem head_map (s : List UInt8) (h : 1 ≤ s.length) : Option.map (fun b => AV.int .u8 ((UInt8.toNat b : Nat) : Int)) s[Int.toNat 0]? = some (AV.int .u8 (bt1 s).1) := by
  have := getD_map s 0 (by omega)
  exact this
theorem bt1_wraps (s : List UInt8) : IntKind.wrap .i64 (bt1 s).1 = (bt1 s).1 ∧ IntKind.wrap .u64 (bt1 s).2 = (bt1 s).2 := by
  refine ⟨?_, ?_⟩
  · unfold bt1
    exact byte_i64 _
  · have := bt1_bound s
    obtain ⟨n, hn⟩ : ∃ n : Nat, (bt1 s).2 = n := ⟨(bt1 s).2.toNat, by omega⟩
    rw [hn] at this ⊢
    exact wrap_u64 (by omega)
theorem dparse_loop (k : Nat) (hk : 10 ≤ k) (n : Nat) (hn : n ≤ 1000) (hkn : n + 4 ≤ k) (s0 : List UInt8) (n0 e0 : Int) (d : Bool) : ∀ (dd i m : Nat) (acc : List (Int × Int)) (s : List UInt8) (st : St), i + dd = n → dd < m → acc ≠ [] → acc.length = i → 5 * dd ≤ s.length → st.clean (deadOf 43 0) = dparseS s0 s (.tip 43 0 2 (acc.map btV)) n0 e0 n i d →
    loopA (bodyOf (evF pr k) 43 0 k) (deadOf 43 0) (contOf (evF pr k) 43 0 k 0) m st = some (if bOk (acc ++ bts dd s) then .tup [.sl 2 false ((acc ++ bts dd s).map btV), .str (s.drop (5 * dd)), .int .i64 0] else .tup [.sl 0 true [], .str [], .int .i64 3], []) := by
  intro dd
  induction dd with
  | zero =>
    intro i m acc s st hi hm ha hl hs hst
    obtain ⟨m, rfl⟩ : ∃ m', m = m' + 1 := ⟨m - 1, by omega⟩
    rw [loopA_succ, hst, dparse_body1, decide_eq_false (by omega), e62 k false acc (by omega) (by omega)]
    simp only [cond_false, onRes, asBool, asNil, bts, List.append_nil]
    cases bOk acc with
    | false => rfl
    | true => rfl
  | succ dd ih =>
    intro i m acc s st hi hm ha hl hs hst
    obtain ⟨m, rfl⟩ : ∃ m', m = m' + 1 := ⟨m - 1, by omega⟩
    rw [loopA_succ, hst, dparse_body1, decide_eq_true (show (i : Int) < n by omega), decide_eq_true (show (0 : Int) ≤ 1 ∧ (1 : Int) ≤ 5 ∧ (5 : Int) ≤ s.length by omega), get4 k hk s (by omega), head_map s (by omega), decide_eq_true (show (0 : Int) ≤ 5 ∧ (5 : Int) ≤ s.length ∧ (s.length : Int) ≤ s.length by omega)]
    simp only [cond_true, onRes, asTup, asCons, asInt, if_true, asNil, onOpt]
    rw [decide_eq_true (by
      refine ⟨trivial, fitsB_small ?_, ?_⟩ <;> simp only [List.length_map, List.length_cons, List.length_nil] <;> omega)]
    simp only [cond_true]
    rw [(bt1_wraps s).1, (bt1_wraps s).2, wrap_small (n := (i : Int) + 1) (by omega) (by omega), Int.toNat_natCast, List.take_length, show Int.toNat 5 = 5 from rfl]
    refine (ih (i + 1) m (acc ++ [bt1 s]) (s.drop 5) _ (by omega) (by omega) (by simp) (by simp [hl]) (by rw [List.length_drop]; omega) (by rw [List.map_append]; kernel_rfl)).trans ?_
    rw [bts, List.append_assoc, List.singleton_append, List.drop_drop, show 5 + 5 * dd = 5 * (dd + 1) by omega]
theorem e50 (k : Nat) (hk : 400 ≤ k) (s : List UInt8) : ParseBR (parseB s) (evF pr k 43 [.str s] []) := by
  obtain ⟨k, rfl⟩ : ∃ m, k = m + 1 := ⟨k - 1, by omega⟩
  rw [ev_step _ _ _ _ (by kernel_rfl), dparse_tree, show (1 : Int) = ((1 : Nat) : Int) from rfl, e88 k (by omega) s 1 (by omega) (by omega)]
  simp only [onRes, asTup, asCons, asInt, asStr, if_true, asNil]
  unfold parseB
  cases h1 : num 1 s with
  | none =>
    rw [show (numE 1 s != 0) = true by simp [num_no h1]]
    exact ⟨2, by omega, rfl⟩
  | some q =>
    obtain ⟨n, t⟩ := q
    obtain ⟨r1, r2, r3⟩ := num_at h1
    have r4 : numR 1 s = t := by rw [numR, if_pos r1, r3]
    have hn := (num_lt h1).1
    rw [r1, r2, r4]
    simp only [show ((0 : Int) != 0) = false from rfl, cond_false]
    rw [wrap_small (n := 5 * (n : Int)) (by omega) (by omega)]
    by_cases hl : t.length < 5 * n
    · rw [decide_eq_true (show ((t.length : Nat) : Int) < 5 * (n : Int) by omega), if_pos hl]
      exact ⟨2, by omega, rfl⟩
    · rw [decide_eq_false (show ¬ ((t.length : Nat) : Int) < 5 * (n : Int) by omega), if_neg hl]
      simp only [cond_false]
      obtain ⟨k', hk'⟩ : ∃ m, k = m + 1 := ⟨k - 1, by omega⟩
      conv => arg 2; arg 4; rw [hk']
      rw [loopA_succ]
      have hb : bodyOf (evF pr k) 43 0 k (dparseS s t (.sl 0 true []) n 0 n 0 false) (brk (contOf (evF pr k) 43 0 k 0) fun st' => loopA (bodyOf (evF pr k) 43 0 k) (deadOf 43 0) (contOf (evF pr k) 43 0 k 0) k' st') = some (if bOk (bts n t) then .tup [slT (bts n t), .str (t.drop (5 * n)), .int .i64 0] else .tup [.sl 0 true [], .str [], .int .i64 3], []) := by
        rw [dparse_body0]
        cases n with
        | zero =>
          obtain ⟨k2, hk2⟩ : ∃ m, k = m + 6 := ⟨k - 6, by omega⟩
          have h62 : evF pr k 72 [.sl 0 true []] [] = some (.bool true, []) := by rw [hk2]; exact e62nil k2 0 true
          rw [h62]
          rfl
        | succ n =>
          rw [decide_eq_true (show (0 : Int) < ((n + 1 : Nat) : Int) by omega), decide_eq_true (show (0 : Int) ≤ 1 ∧ (1 : Int) ≤ 5 ∧ (5 : Int) ≤ t.length by omega), get4 k (by omega) t (by omega), head_map t (by omega), decide_eq_true (show (0 : Int) ≤ 5 ∧ (5 : Int) ≤ t.length ∧ (t.length : Int) ≤ t.length by omega)]
          simp only [cond_true, onRes, asTup, asCons, asInt, if_true, asNil, onOpt]
          rw [(bt1_wraps t).1, (bt1_wraps t).2, Int.toNat_natCast, List.take_length, show Int.toNat 5 = 5 from rfl]
          refine (dparse_loop k (by omega) (n + 1) (by omega) (by omega) s ((n + 1 : Nat) : Int) 0 false n 1 k' [bt1 t] (t.drop 5) _ (by omega) (by omega) (by simp) rfl (by rw [List.length_drop]; omega) (by kernel_rfl)).trans ?_
          rw [bts, List.drop_drop, show 5 + 5 * n = 5 * (n + 1) by omega, show slT (bt1 t :: bts n (t.drop 5)) = .sl 2 false ((bt1 t :: bts n (t.drop 5)).map btV) from if_neg (by simp)]
          rfl
      have hfin : ParseBR (if bOk (bts n t) = true then some (bts n t, List.drop (5 * n) t) else none) (some (if bOk (bts n t) then .tup [slT (bts n t), .str (t.drop (5 * n)), .int .i64 0] else .tup [.sl 0 true [], .str [], .int .i64 3], [])) := by
        cases bOk (bts n t) with
        | false => exact ⟨3, by omega, rfl⟩
        | true => rfl
      rw [← hb] at hfin
      exact hfin
end Go.AM.YtnhfjkckgicidaaGreat

set_option linter.unusedVariables false
set_option linter.unusedSimpArgs false
namespace Go.AM.YtnhfjkckgicidaaGreat
open Go.AM Go.Proofs Go
def teqS (fl fl' c : Bool) (xs ys : List AV) (i : Int) : St := ⟨26, [(0, AV.sl 2 fl xs), (1, AV.sl 2 fl' ys), (4, AV.bool false), (5, AV.int .i64 i), (10, AV.bool c)], [], [], [], [], []⟩
def teqS0 (a b : Nat) (fl fl' c : Bool) : St := ⟨26, [(0, AV.sl a fl []), (1, AV.sl b fl' []), (4, AV.bool false), (5, AV.int .i64 0), (10, AV.bool c)], [], [], [], [], []⟩
theorem teq_tree (F : Fns) (N : Nat) (a b : Nat) (fl fl' : Bool) (xs ys : List AV) : runOf F 58 N [.sl a fl xs, .sl b fl' ys] [] =
  bif ((List.length xs : Nat) : Int) != ((List.length ys : Nat) : Int) then some (AV.bool false, []) else loopA (bodyOf F 58 0 N) (deadOf 58 0) (contOf F 58 0 N 0) N { nt := 26, t := [(0, AV.sl a fl xs), (1, AV.sl b fl' ys), (4, AV.bool false), (5, AV.int .i64 0), (10, AV.bool (((List.length xs : Nat) : Int) != ((List.length ys : Nat) : Int)))], b := [], r := [], g := [], rd := [], wr := [] } := by kernel_rfl
theorem teq_body (F : Fns) (N : Nat) (fl fl' c : Bool) (xs ys : List AV) (i : Int) (KN : St → Res) : bodyOf F 58 0 N (teqS fl fl' c xs ys i) (brk (contOf F 58 0 N 0) KN) =
  bif decide (i < ((List.length xs : Nat) : Int)) then bif decide (0 ≤ i) then onOpt xs[Int.toNat i]? fun x => asAgg x fun cs => asCons cs fun v r => asInt .i64 v fun n => asCons r fun v r => asInt .u64 v fun n_1 => asNil r (bif decide (0 ≤ i) then onOpt ys[Int.toNat i]? fun x => asAgg x fun cs => asCons cs fun v r => asInt .i64 v fun n_2 => asCons r fun v r => asInt .u64 v fun n_3 => asNil r (bif !(n == n_2 && (n_1 == n_3 && true)) then some (AV.bool false, []) else KN { nt := 26, t := [(0, AV.sl 2 fl xs), (1, AV.sl 2 fl' ys), (4, AV.bool false), (5, AV.int .i64 (IntKind.wrap .i64 (i + 1))), (10, AV.bool c), (14, AV.bool (decide (i < ((List.length xs : Nat) : Int)))), (25, AV.bool !(n == n_2 && (n_1 == n_3 && true)))], b := [], r := [], g := [], rd := [], wr := [] }) else none) else none else some (AV.bool true, []) := by kernel_rfl
theorem teq_body0 (F : Fns) (N : Nat) (a b : Nat) (fl fl' c : Bool) (KN : St → Res) : bodyOf F 58 0 N (teqS0 a b fl fl' c) (brk (contOf F 58 0 N 0) KN) =
  some (AV.bool true, []) := by kernel_rfl
theorem teq_loop (F : Fns) (N : Nat) (fl fl' c : Bool) (l l' : List (Int × Int)) (hl : l.length = l'.length) (hb : l.length < 4611686018427387904) : ∀ (dd i m : Nat) (st : St), i + dd = l.length → dd < m → st.clean (deadOf 58 0) = teqS fl fl' c (l.map btV) (l'.map btV) i →
    loopA (bodyOf F 58 0 N) (deadOf 58 0) (contOf F 58 0 N 0) m st = some (.bool (decide (l.drop i = l'.drop i)), []) := by
  intro dd
  induction dd with
  | zero =>
    intro i m st hi hm hst
    obtain ⟨m, rfl⟩ : ∃ m', m = m' + 1 := ⟨m - 1, by omega⟩
    have h1 : l.drop i = [] := List.drop_eq_nil_of_le (by omega)
    have h2 : l'.drop i = [] := List.drop_eq_nil_of_le (by omega)
    rw [loopA_succ, hst, teq_body, List.length_map, decide_eq_false (by omega), h1, h2]
    rfl
  | succ dd ih =>
    intro i m st hi hm hst
    obtain ⟨m, rfl⟩ : ∃ m', m = m' + 1 := ⟨m - 1, by omega⟩
    have hlt : i < l.length := by omega
    have hlt' : i < l'.length := by omega
    rw [loopA_succ, hst, teq_body, List.length_map, decide_eq_true (show (i : Int) < l.length by omega), decide_eq_true (show (0 : Int) ≤ i by omega), getBt l i hlt, getBt l' i hlt', List.drop_eq_getElem_cons hlt, List.drop_eq_getElem_cons hlt']
    simp only [cond_true, onOpt, asAgg, asCons, asInt, if_true, asNil]
    rw [wrap_small (n := (i : Int) + 1) (by omega) (by omega)]
    by_cases hc : l[i] = l'[i]
    · rw [hc]
      simp only [beq_self_eq_true, Bool.true_and, Bool.not_true, cond_false]
      refine (ih (i + 1) m _ (by omega) (by omega) (by kernel_rfl)).trans ?_
      have : decide (l.drop (i + 1) = l'.drop (i + 1)) = decide (l'[i] :: l.drop (i + 1) = l'[i] :: l'.drop (i + 1)) := by
        rw [decide_eq_decide]
        simp only [List.cons.injEq, true_and]
      rw [this]
    · have : ((l[i]).1 == (l'[i]).1 && ((l[i]).2 == (l'[i]).2 && true)) = false := by
        by_cases h1 : (l[i]).1 = (l'[i]).1
        · have h2 : (l[i]).2 ≠ (l'[i]).2 := fun h2 => hc (Prod.ext h1 h2)
          simp [h1, h2]
        · simp [h1]
      rw [this, decide_eq_false (fun h => hc (List.cons.inj h).1)]
      rfl
theorem teq_nil (F : Fns) (N m a b : Nat) (fl fl' c : Bool) (st : St) (h : st.clean (deadOf 58 0) = teqS0 a b fl fl' c) : loopA (bodyOf F 58 0 N) (deadOf 58 0) (contOf F 58 0 N 0) (m + 1) st = some (.bool true, []) := by rw [loopA_succ, h, teq_body0]
theorem e52 (k : Nat) (fl fl' : Bool) (l l' : List (Int × Int)) (hk : l.length + 3 ≤ k) (hb : l.length < 4611686018427387904) : evF pr k 58 [.sl 2 fl (l.map btV), .sl 2 fl' (l'.map btV)] [] = some (.bool (decide (l = l')), []) := by
  obtain ⟨k, rfl⟩ : ∃ m, k = m + 1 := ⟨k - 1, by omega⟩
  rw [ev_step _ _ _ _ (by kernel_rfl), teq_tree, List.length_map, List.length_map]
  by_cases h : l.length = l'.length
  · rw [show (((l.length : Nat) : Int) != ((l'.length : Nat) : Int)) = false by simp [h]]
    exact teq_loop (evF pr k) k fl fl' false l l' h hb l.length 0 k _ (Nat.zero_add _) (by omega) (by kernel_rfl)
  · rw [show (((l.length : Nat) : Int) != ((l'.length : Nat) : Int)) = true by simp only [bne_iff_ne, ne_eq]; omega, decide_eq_false (fun e => h (by rw [e]))]
    rfl
theorem teq_nils (k a b : Nat) (fl fl' : Bool) : evF pr (k + 2) 58 [.sl a fl [], .sl b fl' []] [] = some (.bool true, []) := by
  rw [ev_step _ _ _ _ (by kernel_rfl), teq_tree, show ((((([] : List AV).length : Nat) : Int)) != ((([] : List AV).length : Nat) : Int)) = false from rfl, cond_false]
  exact teq_nil _ _ _ a b fl fl' false _ (by kernel_rfl)
def IsT (v : AV) (l : List (Int × Int)) : Prop := (∃ fl, v = .sl 2 fl (l.map btV)) ∨ (l = [] ∧ ∃ a fl, v = .sl a fl [])
theorem IsT.slT (l : List (Int × Int)) : IsT (slT l) l := by
  unfold AM.YtnhfjkckgicidaaGreat.slT
  split
  · rename_i h; exact .inr ⟨h, _, _, rfl⟩
  · exact .inl ⟨_, rfl⟩
theorem e52' (k : Nat) {v v' : AV} {l l' : List (Int × Int)} (hv : IsT v l) (hv' : IsT v' l') (hk : l.length + 3 ≤ k) (hb : l.length < 4611686018427387904) : evF pr k 58 [v, v'] [] = some (.bool (decide (l = l')), []) := by
  rcases hv with ⟨fl, rfl⟩ | ⟨rfl, a, fl, rfl⟩
  · rcases hv' with ⟨fl', rfl⟩ | ⟨rfl, a', fl', rfl⟩
    · exact e52 k fl fl' l l' hk hb
    · cases l with
      | nil =>
        obtain ⟨k, rfl⟩ : ∃ m, k = m + 2 := ⟨k - 2, by omega⟩
        exact teq_nils k 2 a' fl fl'
      | cons b r =>
        obtain ⟨k, rfl⟩ : ∃ m, k = m + 1 := ⟨k - 1, by omega⟩
        rw [ev_step _ _ _ _ (by kernel_rfl), teq_tree, List.length_map]
        rw [show ((((b :: r).length : Nat) : Int) != ((([] : List AV).length : Nat) : Int)) = true by simp only [bne_iff_ne, ne_eq, List.length_cons, List.length_nil]; omega]
        rfl
  · rcases hv' with ⟨fl', rfl⟩ | ⟨rfl, a', fl', rfl⟩
    · cases l' with
      | nil =>
        obtain ⟨k, rfl⟩ : ∃ m, k = m + 2 := ⟨k - 2, by simp at hk; omega⟩
        exact teq_nils k a 2 fl fl'
      | cons b r =>
        obtain ⟨k, rfl⟩ : ∃ m, k = m + 1 := ⟨k - 1, by omega⟩
        rw [ev_step _ _ _ _ (by kernel_rfl), teq_tree, List.length_map]
        rw [show (((([] : List AV).length : Nat) : Int) != (((b :: r).length : Nat) : Int)) = true by simp only [bne_iff_ne, ne_eq, List.length_cons, List.length_nil]; omega]
        rfl
    · obtain ⟨k, rfl⟩ : ∃ m, k = m + 2 := ⟨k - 2, by simp at hk; omega⟩
      exact teq_nils k a a' fl fl'
end Go.AM.YtnhfjkckgicidaaGreat
