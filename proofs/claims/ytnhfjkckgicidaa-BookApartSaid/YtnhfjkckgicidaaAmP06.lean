/- The reader of nodes: its small steps. -/
import Derived.Test.YtnhfjkckgicidaaAmP05
import Derived.Test.YtnhfjkckgicidaaChecked
set_option linter.unusedVariables false
set_option linter.unusedSimpArgs false
namespace Go.AM.Ytnhfjkckgicidaa
open Go.AM Go.Proofs Go
theorem t89 (F : Fns) (N : Nat) (s rest : List UInt8) (b : Bool) (n e : Int) : runOf F 100 N [.ptr 0 0 0, .int .i64 n, .str rest, .int .i64 e] [[.str s, .bool b]] =
 bif b then some (AV.int .i64 0, [[AV.str s, AV.bool true]]) else bif e != 0 then some (AV.int .i64 0, [[AV.str s, AV.bool true]]) else some (AV.int .i64 n, [[AV.str rest, AV.bool b]]) := by kernel_rfl
theorem t91 (F : Fns) (N : Nat) (s rest : List UInt8) (b : Bool) (l : List (Int × Int)) (e : Int) : runOf F 101 N [.ptr 0 0 0, lnV l, .str rest, .int .i64 e] [[.str s, .bool b]] =
 bif b then some (AV.sl 0 true [], [[AV.str s, AV.bool true]]) else bif e != 0 then some (AV.sl 0 true [], [[AV.str s, AV.bool true]]) else some ((lnV l), [[AV.str rest, AV.bool b]]) := by kernel_rfl
theorem t44 (F : Fns) (N : Nat) (s rest : List UInt8) (b : Bool) (l : List (Int × Int)) (e : Int) : runOf F 76 N [.ptr 0 0 0, btsV l, .str rest, .int .i64 e] [[.str s, .bool b]] =
 bif b then some (AV.sl 0 true [], [[AV.str s, AV.bool true]]) else bif e != 0 then some (AV.sl 0 true [], [[AV.str s, AV.bool true]]) else some ((btsV l), [[AV.str rest, AV.bool b]]) := by kernel_rfl
theorem t93 (F : Fns) (N : Nat) (s rest : List UInt8) (b : Bool) (l : List (List UInt8)) (e : Int) : runOf F 103 N [.ptr 0 0 0, ssV l, .str rest, .int .i64 e] [[.str s, .bool b]] =
 bif b then some (AV.sl 0 true [], [[AV.str s, AV.bool true]]) else bif e != 0 then some (AV.sl 0 true [], [[AV.str s, AV.bool true]]) else some ((ssV l), [[AV.str rest, AV.bool b]]) := by kernel_rfl
theorem t95 (F : Fns) (N : Nat) (s rest : List UInt8) (b : Bool) (l : List Wr) (e : Int) : runOf F 104 N [.ptr 0 0 0, wsV l, .str rest, .int .i64 e] [[.str s, .bool b]] =
 bif b then some (AV.sl 0 true [], [[AV.str s, AV.bool true]]) else bif e != 0 then some (AV.sl 0 true [], [[AV.str s, AV.bool true]]) else some ((wsV l), [[AV.str rest, AV.bool b]]) := by kernel_rfl
theorem t40 (F : Fns) (N : Nat) (s : List UInt8) (b : Bool) (w : Int) : runOf F 73 N [.ptr 0 0 0, .int .i64 w] [[.str s, .bool b]] =
 zRe (F 88 [AV.str s, AV.int .i64 w] []) fun v bs => zTC v fun v r => zIn .i64 v fun n => zCo r fun v r => zSt v fun s_1 => zCo r fun v r => zIn .i64 v fun n_1 => zNi r (zNi bs (zRe (F 100 [AV.ptr 0 0 0, AV.int .i64 n, AV.str s_1, AV.int .i64 n_1] [[AV.str s, AV.bool b]]) fun v bs => zIn .i64 v fun n => zB2 bs fun s b => (some (AV.int .i64 n, [[AV.str s, AV.bool b]])))) := by kernel_rfl
theorem t41 (F : Fns) (N : Nat) (s : List UInt8) (b : Bool) : runOf F 74 N [.ptr 0 0 0] [[.str s, .bool b]] =
 zRe (F 73 [AV.ptr 0 0 0, AV.int .i64 1] [[AV.str s, AV.bool b]]) fun v bs => zIn .i64 v fun n => zB2 bs fun s b => (bif b then some (AV.bool (n == 1), [[AV.str s, AV.bool true]]) else some (AV.bool (n == 1), [[AV.str s, AV.bool (decide (n > 1))]])) := by kernel_rfl
theorem t42 (F : Fns) (N : Nat) (s : List UInt8) (b : Bool) : runOf F 75 N [.ptr 0 0 0] [[.str s, .bool b]] =
 zRe (F 20 [AV.str s] []) fun v bs => zTC v fun v r => asSl v fun m fl xs => zCo r fun v r => zSt v fun s_1 => zCo r fun v r => zIn .i64 v fun n => zNi r (zNi bs (zRe (F 101 [AV.ptr 0 0 0, AV.sl m fl xs, AV.str s_1, AV.int .i64 n] [[AV.str s, AV.bool b]]) fun v bs => asSl v fun m fl xs => zB2 bs fun s b => (some (AV.sl m fl xs, [[AV.str s, AV.bool b]])))) := by kernel_rfl
theorem t46 (F : Fns) (N : Nat) (s : List UInt8) (b : Bool) : runOf F 78 N [.ptr 0 0 0] [[.str s, .bool b]] =
 zRe (F 14 [AV.str s] []) fun v bs => zTC v fun v r => asSl v fun m fl xs => zCo r fun v r => zSt v fun s_1 => zCo r fun v r => zIn .i64 v fun n => zNi r (zNi bs (zRe (F 104 [AV.ptr 0 0 0, AV.sl m fl xs, AV.str s_1, AV.int .i64 n] [[AV.str s, AV.bool b]]) fun v bs => asSl v fun m fl xs => zB2 bs fun s b => (some (AV.sl m fl xs, [[AV.str s, AV.bool b]])))) := by kernel_rfl
abbrev bxR (r : Rd) : Boxes := [[.str r.1, .bool r.2]]
theorem x91b (k : Nat) (hk : 1 ≤ k) (r : Rd) (l : List (Int × Int)) (t : List UInt8) (e : Int) (h : r.2 = true ∨ e ≠ 0) : W k 101 [.ptr 0 0 0, lnV l, .str t, .int .i64 e] (bxR r) = some (lnV [], [[.str r.1, .bool true]]) := by
 obtain ⟨k, rfl⟩ := succ1 (show 1 ≤ k by omega)
 refine (W_tree (r := some (.sl 0 true [], [[.str r.1, .bool true]])) ((t91 (W k) k r.1 t r.2 l e).trans ?_) (by kernel_rfl)).trans (by kernel_rfl)
 rcases h with h | h
 ·rw [h]; rfl
 ·rw [show (e != 0) = true by simpa using h]
  cases r.2 <;> rfl
theorem x91g (k : Nat) (hk : 1 ≤ k) (s : List UInt8) (l : List (Int × Int)) (t : List UInt8) : W k 101 [.ptr 0 0 0, lnV l, .str t, .int .i64 0] [[.str s, .bool false]] = some (lnV l, [[.str t, .bool false]]) := by
 obtain ⟨k, rfl⟩ := succ1 (show 1 ≤ k by omega)
 exact (W_tree (t91 (W k) k s t false l 0) (by kernel_rfl)).trans (by kernel_rfl)
theorem x44b (k : Nat) (hk : 1 ≤ k) (r : Rd) (l : List (Int × Int)) (t : List UInt8) (e : Int) (h : r.2 = true ∨ e ≠ 0) : W k 76 [.ptr 0 0 0, btsV l, .str t, .int .i64 e] (bxR r) = some (btsV [], [[.str r.1, .bool true]]) := by
 obtain ⟨k, rfl⟩ := succ1 (show 1 ≤ k by omega)
 refine (W_tree (r := some (.sl 0 true [], [[.str r.1, .bool true]])) ((t44 (W k) k r.1 t r.2 l e).trans ?_) (by kernel_rfl)).trans (by kernel_rfl)
 rcases h with h | h
 ·rw [h]; rfl
 ·rw [show (e != 0) = true by simpa using h]
  cases r.2 <;> rfl
theorem x44g (k : Nat) (hk : 1 ≤ k) (s : List UInt8) (l : List (Int × Int)) (t : List UInt8) : W k 76 [.ptr 0 0 0, btsV l, .str t, .int .i64 0] [[.str s, .bool false]] = some (btsV l, [[.str t, .bool false]]) := by
 obtain ⟨k, rfl⟩ := succ1 (show 1 ≤ k by omega)
 exact (W_tree (t44 (W k) k s t false l 0) (by kernel_rfl)).trans (by kernel_rfl)
theorem x93b (k : Nat) (hk : 1 ≤ k) (r : Rd) (l : List (List UInt8)) (t : List UInt8) (e : Int) (h : r.2 = true ∨ e ≠ 0) : W k 103 [.ptr 0 0 0, ssV l, .str t, .int .i64 e] (bxR r) = some (ssV [], [[.str r.1, .bool true]]) := by
 obtain ⟨k, rfl⟩ := succ1 (show 1 ≤ k by omega)
 refine (W_tree (r := some (.sl 0 true [], [[.str r.1, .bool true]])) ((t93 (W k) k r.1 t r.2 l e).trans ?_) (by kernel_rfl)).trans (by kernel_rfl)
 rcases h with h | h
 ·rw [h]; rfl
 ·rw [show (e != 0) = true by simpa using h]
  cases r.2 <;> rfl
theorem x93g (k : Nat) (hk : 1 ≤ k) (s : List UInt8) (l : List (List UInt8)) (t : List UInt8) : W k 103 [.ptr 0 0 0, ssV l, .str t, .int .i64 0] [[.str s, .bool false]] = some (ssV l, [[.str t, .bool false]]) := by
 obtain ⟨k, rfl⟩ := succ1 (show 1 ≤ k by omega)
 exact (W_tree (t93 (W k) k s t false l 0) (by kernel_rfl)).trans (by kernel_rfl)
theorem x95b (k : Nat) (hk : 1 ≤ k) (r : Rd) (l : List Wr) (t : List UInt8) (e : Int) (h : r.2 = true ∨ e ≠ 0) : W k 104 [.ptr 0 0 0, wsV l, .str t, .int .i64 e] (bxR r) = some (wsV [], [[.str r.1, .bool true]]) := by
 obtain ⟨k, rfl⟩ := succ1 (show 1 ≤ k by omega)
 refine (W_tree (r := some (.sl 0 true [], [[.str r.1, .bool true]])) ((t95 (W k) k r.1 t r.2 l e).trans ?_) (by kernel_rfl)).trans (by kernel_rfl)
 rcases h with h | h
 ·rw [h]; rfl
 ·rw [show (e != 0) = true by simpa using h]
  cases r.2 <;> rfl
theorem x95g (k : Nat) (hk : 1 ≤ k) (s : List UInt8) (l : List Wr) (t : List UInt8) : W k 104 [.ptr 0 0 0, wsV l, .str t, .int .i64 0] [[.str s, .bool false]] = some (wsV l, [[.str t, .bool false]]) := by
 obtain ⟨k, rfl⟩ := succ1 (show 1 ≤ k by omega)
 exact (W_tree (t95 (W k) k s t false l 0) (by kernel_rfl)).trans (by kernel_rfl)
theorem x90n (k : Nat) (hk : 1200 ≤ k) {s : List UInt8} (h : takeL s = none) : W k 20 [.str s] [] = some (.tup [lnV [], .str [], .int .i64 3], []) := by
 have e := e20 k (by omega) s
 rw [h] at e
 exact (W_old e (by omega) (by kernel_rfl)).trans (by kernel_rfl)
theorem x90s (k : Nat) (hk : 1200 ≤ k) {s : List UInt8} {l : List (Int × Int)} {t : List UInt8} (h : takeL s = some (l, t)) : W k 20 [.str s] [] = some (.tup [lnV l, .str t, .int .i64 0], []) := by
 have e := e20 k (by omega) s
 rw [h] at e
 refine (W_old e (by omega) (by kernel_rfl)).trans ?_
 cases l <;> rfl
theorem x94n (k : Nat) (hk : 66100 ≤ k) {s : List UInt8} (h : takeW s = none) : W k 14 [.str s] [] = some (.tup [wsV [], .str [], .int .i64 3], []) := by
 have e := e14 k (by omega) s
 rw [h] at e
 exact (W_old e (by omega) (by kernel_rfl)).trans (by kernel_rfl)
theorem x94s (k : Nat) (hk : 66100 ≤ k) {s : List UInt8} {l : List Wr} {t : List UInt8} (h : takeW s = some (l, t)) : W k 14 [.str s] [] = some (.tup [wsV l, .str t, .int .i64 0], []) := by
 have e := e14 k (by omega) s
 rw [h] at e
 refine (W_old e (by omega) (by kernel_rfl)).trans ?_
 cases l <;> rfl
theorem x42 (k : Nat) (hk : 1300 ≤ k) (r : Rd) : W k 75 [.ptr 0 0 0] (bxR r) = some (lnV (liR r).1, bxR (liR r).2) := by
 obtain ⟨k, rfl⟩ := succ1 (show 1 ≤ k by omega)
 obtain ⟨s, b⟩ := r
 refine (W_tree (r := some (lnV (liR (s, b)).1, bxR (liR (s, b)).2)) ((t42 (W k) k s b).trans ?_) (by kernel_rfl)).trans (by kernel_rfl)
 unfold liR stp
 simp only
 cases hx : takeL s with
 | none =>
  refine qO (x90n k (by omega) hx) ?_
  repeat with_reducible first|apply qT|apply qC|apply qN|apply qS|apply qB|apply qI|apply qA|apply qL
  refine qO (x91b k (by omega) (s, b) [] [] 3 (.inr (by omega))) ?_
  repeat with_reducible first|apply qT|apply qC|apply qN|apply qS|apply qB|apply qI|apply qA|apply qL
  cases b <;> rfl
 | some a =>
  obtain ⟨l, u⟩ := a
  refine qO (x90s k (by omega) hx) ?_
  repeat with_reducible first|apply qT|apply qC|apply qN|apply qS|apply qB|apply qI|apply qA|apply qL
  cases b with
  | true =>
   refine qO (x91b k (by omega) (s, true) l u 0 (.inl rfl)) ?_
   repeat with_reducible first|apply qT|apply qC|apply qN|apply qS|apply qB|apply qI|apply qA|apply qL
   rfl
  | false =>
   refine qO (x91g k (by omega) s l u) ?_
   repeat with_reducible first|apply qT|apply qC|apply qN|apply qS|apply qB|apply qI|apply qA|apply qL
   rfl
theorem x46 (k : Nat) (hk : 66200 ≤ k) (r : Rd) : W k 78 [.ptr 0 0 0] (bxR r) = some (wsV (wrR r).1, bxR (wrR r).2) := by
 obtain ⟨k, rfl⟩ := succ1 (show 1 ≤ k by omega)
 obtain ⟨s, b⟩ := r
 refine (W_tree (r := some (wsV (wrR (s, b)).1, bxR (wrR (s, b)).2)) ((t46 (W k) k s b).trans ?_) (by kernel_rfl)).trans (by kernel_rfl)
 unfold wrR stp
 simp only
 cases hx : takeW s with
 | none =>
  refine qO (x94n k (by omega) hx) ?_
  repeat with_reducible first|apply qT|apply qC|apply qN|apply qS|apply qB|apply qI|apply qA|apply qL
  refine qO (x95b k (by omega) (s, b) [] [] 3 (.inr (by omega))) ?_
  repeat with_reducible first|apply qT|apply qC|apply qN|apply qS|apply qB|apply qI|apply qA|apply qL
  cases b <;> rfl
 | some a =>
  obtain ⟨l, u⟩ := a
  refine qO (x94s k (by omega) hx) ?_
  repeat with_reducible first|apply qT|apply qC|apply qN|apply qS|apply qB|apply qI|apply qA|apply qL
  cases b with
  | true =>
   refine qO (x95b k (by omega) (s, true) l u 0 (.inl rfl)) ?_
   repeat with_reducible first|apply qT|apply qC|apply qN|apply qS|apply qB|apply qI|apply qA|apply qL
   rfl
  | false =>
   refine qO (x95g k (by omega) s l u) ?_
   repeat with_reducible first|apply qT|apply qC|apply qN|apply qS|apply qB|apply qI|apply qA|apply qL
   rfl
theorem x89 (k : Nat) (hk : 1 ≤ k) (s t : List UInt8) (b : Bool) (n e : Int) : W k 100 [.ptr 0 0 0, .int .i64 n, .str t, .int .i64 e] [[.str s, .bool b]] = some (.int .i64 (if b = true ∨ e ≠ 0 then 0 else n), [[.str (if b = true ∨ e ≠ 0 then s else t), .bool (b || decide (e ≠ 0))]]) := by
 obtain ⟨k, rfl⟩ := succ1 (show 1 ≤ k by omega)
 refine (W_tree0 (t89 (W k) k s t b n e) (by kernel_rfl)).trans ?_
 cases b with
 | true => rfl
 | false =>
  by_cases he : e = 0
  ·subst he; rfl
  ·rw [show (e != 0) = true by simpa using he, decide_eq_true he, if_pos (.inr he), if_pos (.inr he)]
   rfl
theorem x88 (k : Nat) (hk : 11 ≤ k) (s : List UInt8) (w : Nat) (hw1 : 1 ≤ w) (hw : w ≤ 8) : W k 88 [.str s, .int .i64 w] [] = some (.tup [.int .i64 (numN w s), .str (numR w s), .int .i64 (numE w s)], []) := W_old0 (e88 k hk s w hw1 hw) (by omega) (by kernel_rfl)
theorem x40 (k : Nat) (hk : 12 ≤ k) (r : Rd) (w : Nat) (hw1 : 1 ≤ w) (hw : w ≤ 8) : W k 73 [.ptr 0 0 0, .int .i64 w] (bxR r) = some (.int .i64 ((nuR w r).1 : Nat), bxR (nuR w r).2) := by
 obtain ⟨k, rfl⟩ := succ1 (show 1 ≤ k by omega)
 refine (W_tree0 (t40 (W k) k r.1 r.2 w) (by kernel_rfl)).trans ?_
 refine qO (x88 k (by omega) r.1 w hw1 hw) ?_
 repeat with_reducible first|apply qT|apply qC|apply qN|apply qS|apply qB|apply qI|apply qA|apply qL
 refine qO (x89 k (by omega) r.1 (numR w r.1) r.2 (numN w r.1) (numE w r.1)) ?_
 repeat with_reducible first|apply qT|apply qC|apply qN|apply qS|apply qB|apply qI|apply qA|apply qL
 obtain ⟨s, b⟩ := r
 unfold nuR stp num
 simp only
 cases b with
 | true => rfl
 | false =>
  by_cases he : numE w s = 0
  ·simp only [he, numR]
   rfl
  ·simp only [if_neg he, if_pos (show false = true ∨ numE w s ≠ 0 from .inr he), decide_eq_true he]
   rfl
theorem x41 (k : Nat) (hk : 13 ≤ k) (r : Rd) : W k 74 [.ptr 0 0 0] (bxR r) = some (.bool (flR r).1, bxR (flR r).2) := by
 obtain ⟨k, rfl⟩ := succ1 (show 1 ≤ k by omega)
 refine (W_tree0 (t41 (W k) k r.1 r.2) (by kernel_rfl)).trans ?_
 refine qO (x40 k (by omega) r 1 (by omega) (by omega)) ?_
 repeat with_reducible first|apply qT|apply qC|apply qN|apply qS|apply qB|apply qI|apply qA|apply qL
 unfold flR
 generalize nuR 1 r = a
 obtain ⟨n, s, b⟩ := a
 have e1 : (((n : Nat) : Int) == 1) = decide (n = 1) := by
  by_cases h : n = 1
  ·subst h; rfl
  ·rw [decide_eq_false h]; simpa using (by omega : ¬ ((n : Int) = 1))
 have e2 : decide (((n : Nat) : Int) > 1) = decide (n > 1) := decide_eq_decide.2 (by omega)
 cases b <;> simp only [e1, e2] <;> rfl
open Go.AM Go.Proofs Go
theorem t64 (F : Fns) (N : Nat) (s : List UInt8) : runOf F 102 N [.str s] [] =
 zRe (F 88 [AV.str s, AV.int .i64 2] []) fun v bs => zTC v fun v r => zIn .i64 v fun n => zCo r fun v r => zSt v fun s_1 => zCo r fun v r => zIn .i64 v fun n_1 => zNi r (zNi bs (bif n_1 != 0 then some (AV.tup [AV.sl 0 true [], AV.str [], AV.int .i64 2], []) else loopA (zBy F 102 0 N) (zDe 102 0) (zCt F 102 0 N 0) N { nt := 40, t := [(0, AV.str s), (2, AV.sl 0 true []), (3, AV.str []), (4, AV.int .i64 0), (5, AV.int .i64 n), (6, AV.str s_1), (7, AV.int .i64 n_1), (8, AV.sl 0 true []), (19, AV.bool (n_1 != 0)), (20, AV.int .i64 n), (21, AV.int .i64 0)], b := [], r := [], g := [], rd := [], wr := [] })) := by kernel_rfl
theorem t45 (F : Fns) (N : Nat) (s : List UInt8) (b : Bool) : runOf F 77 N [.ptr 0 0 0] [[.str s, .bool b]] =
 zRe (F 73 [AV.ptr 0 0 0, AV.int .i64 1] [[AV.str s, AV.bool b]]) fun v bs => zIn .i64 v fun n => zB2 bs fun s b => (loopA (zBy F 77 0 N) (zDe 77 0) (zCt F 77 0 N 1) N { nt := 35, t := [(0, AV.ptr (1000000 + 0) 0 0), (2, AV.sl 0 true []), (3, AV.sl 0 true []), (9, AV.int .i64 n), (10, AV.int .i64 0)], b := [(1000000, [AV.str s, AV.bool b])], r := [], g := [], rd := [], wr := [] }) := by kernel_rfl
def itS (s0 s : List UInt8) (v : AV) (n : Int) (i : Int) : St := ⟨40, [(0, .str s0), (2, .sl 0 true []), (3, .str []), (4, .int .i64 0), (5, .int .i64 n), (6, .str s), (7, .int .i64 0), (8, v), (19, .bool false), (20, .int .i64 n), (21, .int .i64 i)], [], [], [], [], []⟩
theorem b64a (F : Fns) (N : Nat) (s0 s : List UInt8) (n i : Int) (KN : St → Res) : zBy F 102 0 N (itS s0 s (.sl 0 true []) n i) (brk (zCt F 102 0 N 0) KN) =
 bif decide (i < n) then zRe (F 85 [AV.str s] []) fun v bs => zTC v fun v r => zSt v fun s => zCo r fun v r => zSt v fun s_1 => zCo r fun v r => zIn .i64 v fun n_1 => zNi r (zNi bs (bif n_1 != 0 then some (AV.tup [AV.sl 0 true [], AV.str [], AV.int .i64 n_1], []) else KN { nt := 40, t := [(0, AV.str s0), (2, AV.sl 0 true []), (3, AV.str []), (4, AV.int .i64 0), (5, AV.int .i64 n), (6, AV.str s_1), (7, AV.int .i64 0), (8, AV.tip 35 0 1 [AV.str s]), (9, AV.str s), (10, AV.str s_1), (11, AV.int .i64 n_1), (19, AV.bool false), (20, AV.int .i64 n), (21, AV.int .i64 (IntKind.wrap .i64 (i + 1))), (22, AV.bool (decide (i < n))), (30, AV.bool (n_1 != 0))], b := [], r := [], g := [], rd := [], wr := [] })) else some (AV.tup [AV.sl 0 true [], AV.str s, AV.int .i64 0], []) := by kernel_rfl
theorem b64 (F : Fns) (N : Nat) (s0 s : List UInt8) (ys : List AV) (n i : Int) (KN : St → Res) : zBy F 102 0 N (itS s0 s (.tip 35 0 1 ys) n i) (brk (zCt F 102 0 N 0) KN) =
 bif decide (i < n) then zRe (F 85 [AV.str s] []) fun v bs => zTC v fun v r => zSt v fun s_1 => zCo r fun v r => zSt v fun s_2 => zCo r fun v r => zIn .i64 v fun n_1 => zNi r (zNi bs (bif n_1 != 0 then some (AV.tup [AV.sl 0 true [], AV.str [], AV.int .i64 n_1], []) else bif decide (1 = 1 ∧ fitsB (List.length ys + List.length [AV.str s_1]) 16 = true ∧ List.length ys + List.length [AV.str s_1] ≤ 4611686018427387904) then KN { nt := 40, t := [(0, AV.str s0), (2, AV.sl 0 true []), (3, AV.str []), (4, AV.int .i64 0), (5, AV.int .i64 n), (6, AV.str s_2), (7, AV.int .i64 0), (8, AV.tip 35 0 1 (ys ++ [AV.str s_1])), (9, AV.str s_1), (10, AV.str s_2), (11, AV.int .i64 n_1), (19, AV.bool false), (20, AV.int .i64 n), (21, AV.int .i64 (IntKind.wrap .i64 (i + 1))), (22, AV.bool (decide (i < n))), (30, AV.bool (n_1 != 0))], b := [], r := [], g := [], rd := [], wr := [] } else none)) else some (AV.tup [AV.sl 1 false ys, AV.str s, AV.int .i64 0], []) := by kernel_rfl
def voS (s : List UInt8) (b : Bool) (v : AV) (n i : Int) : St := ⟨35, [(0, .ptr 1000000 0 0), (2, .sl 0 true []), (3, v), (9, .int .i64 n), (10, .int .i64 i)], [(1000000, [.str s, .bool b])], [], [], [], []⟩
theorem b45a (F : Fns) (N : Nat) (s : List UInt8) (b : Bool) (n i : Int) (KN : St → Res) : zBy F 77 0 N (voS s b (.sl 0 true []) n i) (brk (zCt F 77 0 N 1) KN) =
 bif decide (i < n) then zRe (F 73 [AV.ptr 0 0 0, AV.int .i64 1] [[AV.str s, AV.bool b]]) fun v bs => zIn .i64 v fun n_1 => zB2 bs fun s b => (zRe (F 102 [AV.str s] []) fun v bs => zTC v fun v r => asSl v fun m fl xs => zCo r fun v r => zSt v fun s_1 => zCo r fun v r => zIn .i64 v fun n_2 => zNi r (zNi bs (zRe (F 103 [AV.ptr 0 0 0, AV.sl m fl xs, AV.str s_1, AV.int .i64 n_2] [[AV.str s, AV.bool b]]) fun v bs => asSl v fun m_1 fl_1 xs_1 => zB2 bs fun s b => (KN { nt := 35, t := [(0, AV.ptr 1000000 0 0), (2, AV.sl 0 true []), (3, AV.tip 32 0 2 [AV.agg [AV.int .i64 n_1, AV.sl m_1 fl_1 xs_1]]), (4, AV.int .i64 n_1), (5, AV.sl m fl xs), (6, AV.str s_1), (7, AV.int .i64 n_2), (9, AV.int .i64 n), (10, AV.int .i64 (IntKind.wrap .i64 (i + 1))), (11, AV.bool (decide (i < n)))], b := [(1000000, [AV.str s, AV.bool b])], r := [], g := [], rd := [], wr := [] })))) else some (AV.sl 0 true [], [[AV.str s, AV.bool b]]) := by kernel_rfl
theorem b45 (F : Fns) (N : Nat) (s : List UInt8) (b : Bool) (ys : List AV) (n i : Int) (KN : St → Res) : zBy F 77 0 N (voS s b (.tip 32 0 2 ys) n i) (brk (zCt F 77 0 N 1) KN) =
 bif decide (i < n) then zRe (F 73 [AV.ptr 0 0 0, AV.int .i64 1] [[AV.str s, AV.bool b]]) fun v bs => zIn .i64 v fun n_1 => zB2 bs fun s_1 b_1 => (zRe (F 102 [AV.str s_1] []) fun v bs => zTC v fun v r => asSl v fun m fl xs => zCo r fun v r => zSt v fun s_2 => zCo r fun v r => zIn .i64 v fun n_2 => zNi r (zNi bs (zRe (F 103 [AV.ptr 0 0 0, AV.sl m fl xs, AV.str s_2, AV.int .i64 n_2] [[AV.str s_1, AV.bool b_1]]) fun v bs => asSl v fun m_1 fl_1 xs_1 => zB2 bs fun s_3 b_2 => (bif decide (2 = 2 ∧ fitsB (List.length ys + List.length [AV.agg [AV.int .i64 n_1, AV.sl m_1 fl_1 xs_1]]) 32 = true ∧ List.length ys + List.length [AV.agg [AV.int .i64 n_1, AV.sl m_1 fl_1 xs_1]] ≤ 4611686018427387904) then KN { nt := 35, t := [(0, AV.ptr 1000000 0 0), (2, AV.sl 0 true []), (3, AV.tip 32 0 2 (ys ++ [AV.agg [AV.int .i64 n_1, AV.sl m_1 fl_1 xs_1]])), (4, AV.int .i64 n_1), (5, AV.sl m fl xs), (6, AV.str s_2), (7, AV.int .i64 n_2), (9, AV.int .i64 n), (10, AV.int .i64 (IntKind.wrap .i64 (i + 1))), (11, AV.bool (decide (i < n)))], b := [(1000000, [AV.str s_3, AV.bool b_2])], r := [], g := [], rd := [], wr := [] } else none)))) else some (AV.sl 2 false ys, [[AV.str s, AV.bool b]]) := by kernel_rfl
theorem x103n (k : Nat) (hk : 12 ≤ k) {s : List UInt8} (h : takeT s = none) : W k 85 [.str s] [] = some (.tup [.str [], .str [], .int .i64 2], []) := by
 have e := e85 k hk s
 rw [h] at e
 exact W_old0 e (by omega) (by kernel_rfl)
theorem x103s (k : Nat) (hk : 12 ≤ k) {s a t : List UInt8} (h : takeT s = some (a, t)) : W k 85 [.str s] [] = some (.tup [.str a, .str t, .int .i64 0], []) := by
 have e := e85 k hk s
 rw [h] at e
 exact W_old0 e (by omega) (by kernel_rfl)
def gtV (K z : Nat) (ys : List AV) : AV := match ys with
 | [] => .sl 0 true []
 | y :: r => .tip K 0 z (y :: r)
def gsV (z : Nat) (ys : List AV) : AV := match ys with
 | [] => .sl 0 true []
 | y :: r => .sl z false (y :: r)
theorem x64 (k : Nat) (hk : 66000 ≤ k) (s : List UInt8) : W k 102 [.str s] [] = match items s with
  | none => some (.tup [ssV [], .str [], .int .i64 2], [])
  | some (l, t) => some (.tup [ssV l, .str t, .int .i64 0], []) := by
 obtain ⟨k, rfl⟩ := succ1 (show 1 ≤ k by omega)
 suffices hh : runOf (W k) 102 k [.str s] [] = match items s with
   | none => some (.tup [.sl 0 true [], .str [], .int .i64 2], [])
   | some (l, t) => some (.tup [gsV 1 (l.map AV.str), .str t, .int .i64 0], []) by
  refine (W_tree hh (by kernel_rfl)).trans ?_
  cases items s with
  | none => exact (by kernel_rfl)
  | some a =>
   obtain ⟨l, t⟩ := a
   cases l <;> exact (by kernel_rfl)
 rw [t64]
 refine qO (x88 k (by omega) s 2 (by omega) (by omega)) ?_
 repeat with_reducible first|apply qT|apply qC|apply qN|apply qS|apply qB|apply qI|apply qA|apply qL
 unfold items num
 by_cases he : numE 2 s = 0
 ·rw [he, if_pos rfl]
  refine qX rfl ?_
  have hn : numN 2 s < 65536 := (num_lt (w := 2) (s := s) (n := numN 2 s) (t := s.drop 2) (by rw [num, if_pos he])).1
  have hR : numR 2 s = s.drop 2 := by rw [numR, if_pos he]
  rw [hR]
  generalize numN 2 s = n at hn ⊢
  generalize s.drop 2 = u
  simp only
  refine loopA_ind (fun a : List UInt8 × List (List UInt8) => itS s a.1 (gtV 35 1 (a.2.map AV.str)) n a.2.length) (fun a => n - a.2.length) (fun a r => a.2.length ≤ n → r = match txts (n - a.2.length) a.1 with
   | none => some (.tup [.sl 0 true [], .str [], .int .i64 2], [])
   | some (l, t) => some (.tup [gsV 1 ((a.2 ++ l).map AV.str), .str t, .int .i64 0], [])) (fun a m ih h0 => ?_) k (u, []) _ (by simp; omega) (by kernel_rfl) (by simp)
  obtain ⟨v, acc⟩ := a
  simp only at ih h0 ⊢
  by_cases hlt : acc.length < n
  ·obtain ⟨d, hd⟩ : ∃ d, n - acc.length = d + 1 := ⟨n - acc.length - 1, by omega⟩
   have hd2 : n - (acc.length + 1) = d := by omega
   rw [hd, txts]
   have hgo : ∀ (a w : List UInt8) (st : St), st.clean (zDe 102 0) = itS s w (gtV 35 1 (acc.map AV.str ++ [.str a])) n ((acc.length + 1 : Nat) : Int) → loopA (zBy (W k) 102 0 k) (zDe 102 0) (zCt (W k) 102 0 k 0) m st = match txts d w with
     | none => some (.tup [.sl 0 true [], .str [], .int .i64 2], [])
     | some (l, t) => some (.tup [gsV 1 ((acc ++ a :: l).map AV.str), .str t, .int .i64 0], []) := by
    intro a w st hst
    refine (ih (w, acc ++ [a]) st (by simp; omega) (by rw [List.map_append, List.length_append]; exact hst) (by simp; omega)).trans ?_
    simp only [List.length_append, List.length_cons, List.length_nil, Nat.zero_add, hd2, List.append_assoc, List.singleton_append]
   cases ht : takeT v with
   | none =>
    cases acc with
    | nil =>
     rw [List.map_nil, gtV, b64a]
     refine qY (decide_eq_true (by first | omega | (simp only [List.length_append, List.length_cons, List.length_nil, List.length_map]; omega))) ?_
     refine qO (x103n k (by omega) ht) ?_
     repeat with_reducible first|apply qT|apply qC|apply qN|apply qS|apply qB|apply qI|apply qA|apply qL
     rfl
    | cons y r =>
     rw [List.map_cons, gtV, b64]
     refine qY (decide_eq_true (by first | omega | (simp only [List.length_append, List.length_cons, List.length_nil, List.length_map]; omega))) ?_
     refine qO (x103n k (by omega) ht) ?_
     repeat with_reducible first|apply qT|apply qC|apply qN|apply qS|apply qB|apply qI|apply qA|apply qL
     rfl
   | some c =>
    obtain ⟨a, w⟩ := c
    simp only
    have e : (match match txts d w with
      | none => none
      | some (l, s2) => some (a :: l, s2) with
     | none => (some (.tup [.sl 0 true [], .str [], .int .i64 2], []) : Res)
     | some (l, t) => some (.tup [gsV 1 ((acc ++ l).map AV.str), .str t, .int .i64 0], [])) = match txts d w with
     | none => some (.tup [.sl 0 true [], .str [], .int .i64 2], [])
     | some (l, t) => some (.tup [gsV 1 ((acc ++ a :: l).map AV.str), .str t, .int .i64 0], []) := by
     cases txts d w with
     | none => rfl
     | some _ => rfl
    refine Eq.trans ?_ e.symm
    cases acc with
    | nil =>
     rw [List.map_nil, gtV, b64a]
     refine qY (decide_eq_true (by first | omega | (simp only [List.length_append, List.length_cons, List.length_nil, List.length_map]; omega))) ?_
     refine qO (x103s k (by omega) ht) ?_
     repeat with_reducible first|apply qT|apply qC|apply qN|apply qS|apply qB|apply qI|apply qA|apply qL
     refine qX rfl ?_
     exact hgo a w _ (by kernel_rfl)
    | cons y r =>
     rw [List.map_cons, gtV, b64]
     refine qY (decide_eq_true (by first | omega | (simp only [List.length_append, List.length_cons, List.length_nil, List.length_map]; omega))) ?_
     refine qO (x103s k (by omega) ht) ?_
     repeat with_reducible first|apply qT|apply qC|apply qN|apply qS|apply qB|apply qI|apply qA|apply qL
     refine qX rfl ?_
     simp only [List.length_cons] at hlt
     refine qY (decide_eq_true (by refine ⟨by first | rfl | exact .inr rfl, fitsB_small ?_, ?_⟩ <;> simp only [ofBytes, List.length_map, List.length_append, List.length_cons, List.length_nil] <;> omega)) ?_
     rw [wi (by simp only [List.length_cons]; omega)]
     exact hgo a w _ (by kernel_rfl)
  ·rw [show n - acc.length = 0 by omega, txts]
   cases acc with
   | nil =>
    rw [List.map_nil, gtV, b64a]
    refine qX (decide_eq_false (by simp only [List.length_nil] at hlt ⊢; omega)) ?_
    rfl
   | cons y r =>
    rw [List.map_cons, gtV, b64]
    refine qX (decide_eq_false (by omega)) ?_
    simp only [List.append_nil]
    rfl
 ·rw [if_neg he]
  refine qY (by simpa using he) ?_
  rfl
theorem it_ex (k : Nat) (hk : 66000 ≤ k) (s : List UInt8) : ∃ (l : List (List UInt8)) (t : List UInt8) (e : Int), W k 102 [.str s] [] = some (.tup [ssV l, .str t, .int .i64 e], []) ∧ ∀ b, W k 103 [.ptr 0 0 0, ssV l, .str t, .int .i64 e] [[.str s, .bool b]] = some (ssV (itR (s, b)).1, bxR (itR (s, b)).2) := by
 have h := x64 k hk s
 unfold itR stp
 simp only
 cases hx : items s with
 | none =>
  rw [hx] at h
  refine ⟨_, _, _, h, fun b => ?_⟩
  refine (x93b k (by omega) (s, b) [] [] 2 (.inr (by omega))).trans ?_
  cases b <;> rfl
 | some a =>
  obtain ⟨l, u⟩ := a
  rw [hx] at h
  refine ⟨_, _, _, h, fun b => ?_⟩
  cases b with
  | true => exact (x93b k (by omega) (s, true) l u 0 (.inl rfl)).trans rfl
  | false => exact (x93g k (by omega) s l u).trans rfl
theorem nu1_lt (r : Rd) : (nuR 1 r).1 < 256 := by
 unfold nuR stp
 cases r.2 with
 | true => simp
 | false =>
  simp only [Bool.false_eq_true, if_false]
  cases h : num 1 r.1 with
  | none => simp
  | some a =>
   obtain ⟨n, t⟩ := a
   exact (num_lt h).1
theorem x45 (k : Nat) (hk : 66100 ≤ k) (r : Rd) : W k 77 [.ptr 0 0 0] (bxR r) = some (vsV (vsR r).1, bxR (vsR r).2) := by
 obtain ⟨k, rfl⟩ := succ1 (show 1 ≤ k by omega)
 suffices hh : runOf (W k) 77 k [.ptr 0 0 0] (bxR r) = some (gsV 2 ((vsR r).1.map (volV false)), bxR (vsR r).2) by
  refine (W_tree hh (by kernel_rfl)).trans ?_
  cases (vsR r).1 <;> exact (by kernel_rfl)
 refine (t45 (W k) k r.1 r.2).trans ?_
 refine qO (x40 k (by omega) r 1 (by omega) (by omega)) ?_
 repeat with_reducible first|apply qT|apply qC|apply qN|apply qS|apply qB|apply qI|apply qA|apply qL
 have hn := nu1_lt r
 unfold vsR
 generalize (nuR 1 r).1 = n at hn ⊢
 generalize (nuR 1 r).2 = u
 refine loopA_ind (fun a : Rd × List Vol => voS a.1.1 a.1.2 (gtV 32 2 (a.2.map (volV false))) n a.2.length) (fun a => n - a.2.length) (fun a r => a.2.length ≤ n → r = some (gsV 2 ((a.2 ++ (voR (n - a.2.length) a.1).1).map (volV false)), bxR (voR (n - a.2.length) a.1).2)) (fun a m ih h0 => ?_) k (u, []) _ (by simp; omega) (by kernel_rfl) (by simp)
 obtain ⟨v, acc⟩ := a
 simp only at ih h0 ⊢
 by_cases hlt : acc.length < n
 ·obtain ⟨d, hd⟩ : ∃ d, n - acc.length = d + 1 := ⟨n - acc.length - 1, by omega⟩
  have hd2 : n - (acc.length + 1) = d := by omega
  have hgo : ∀ (a : Vol) (w : Rd) (st : St), st.clean (zDe 77 0) = voS w.1 w.2 (gtV 32 2 (acc.map (volV false) ++ [volV false a])) n ((acc.length + 1 : Nat) : Int) → loopA (zBy (W k) 77 0 k) (zDe 77 0) (zCt (W k) 77 0 k 1) m st = some (gsV 2 ((acc ++ a :: (voR d w).1).map (volV false)), bxR (voR d w).2) := by
   intro a w st hst
   refine (ih (w, acc ++ [a]) st (by simp; omega) (by rw [List.map_append, List.length_append]; exact hst) (by simp; omega)).trans ?_
   simp only [List.length_append, List.length_cons, List.length_nil, Nat.zero_add, hd2, List.append_assoc, List.singleton_append]
  rw [hd, voR]
  obtain ⟨l0, t0, e0, g1, g2⟩ := it_ex k (by omega) (nuR 1 v).2.1
  simp only
  cases acc with
  | nil =>
   rw [List.map_nil, gtV, b45a]
   refine qY (decide_eq_true (by first | omega | (simp only [List.length_append, List.length_cons, List.length_nil, List.length_map]; omega))) ?_
   refine qO (x40 k (by omega) v 1 (by omega) (by omega)) ?_
   repeat with_reducible first|apply qT|apply qC|apply qN|apply qS|apply qB|apply qI|apply qA|apply qL
   refine qO g1 ?_
   repeat with_reducible first|apply qT|apply qC|apply qN|apply qS|apply qB|apply qI|apply qA|apply qL
   refine qO (g2 _) ?_
   repeat with_reducible first|apply qT|apply qC|apply qN|apply qS|apply qB|apply qI|apply qA|apply qL
   exact hgo _ _ _ (by kernel_rfl)
  | cons y r =>
   rw [List.map_cons, gtV, b45]
   refine qY (decide_eq_true (by first | omega | (simp only [List.length_append, List.length_cons, List.length_nil, List.length_map]; omega))) ?_
   refine qO (x40 k (by omega) v 1 (by omega) (by omega)) ?_
   repeat with_reducible first|apply qT|apply qC|apply qN|apply qS|apply qB|apply qI|apply qA|apply qL
   refine qO g1 ?_
   repeat with_reducible first|apply qT|apply qC|apply qN|apply qS|apply qB|apply qI|apply qA|apply qL
   refine qO (g2 _) ?_
   repeat with_reducible first|apply qT|apply qC|apply qN|apply qS|apply qB|apply qI|apply qA|apply qL
   simp only [List.length_cons] at hlt
   refine qY (decide_eq_true (by refine ⟨by first | rfl | exact .inr rfl, fitsB_small ?_, ?_⟩ <;> simp only [ofBytes, List.length_map, List.length_append, List.length_cons, List.length_nil] <;> omega)) ?_
   rw [wi (by simp only [List.length_cons]; omega)]
   exact hgo _ _ _ (by kernel_rfl)
 ·rw [show n - acc.length = 0 by omega, voR]
  cases acc with
  | nil =>
   rw [List.map_nil, gtV, b45a]
   refine qX (decide_eq_false (by simp only [List.length_nil] at hlt ⊢; omega)) ?_
   rfl
  | cons y r =>
   rw [List.map_cons, gtV, b45]
   refine qX (decide_eq_false (by omega)) ?_
   simp only [List.append_nil]
   rfl
theorem t11 (F : Fns) (N : Nat) (s : List UInt8) : runOf F 34 N [.str s] [] =
 zRe (F 73 [AV.ptr 0 0 0, AV.int .i64 1] [[AV.str s, AV.bool false]]) fun v bs => zIn .i64 v fun n => zB2 bs fun s_1 b => (zRe (F 74 [AV.ptr 0 0 0] [[AV.str s_1, AV.bool b]]) fun v bs => zBo v fun b => zB2 bs fun s_2 b_1 => (zRe (F 74 [AV.ptr 0 0 0] [[AV.str s_2, AV.bool b_1]]) fun v bs => zBo v fun b_2 => zB2 bs fun s_3 b_3 => (zRe (F 74 [AV.ptr 0 0 0] [[AV.str s_3, AV.bool b_3]]) fun v bs => zBo v fun b_4 => zB2 bs fun s_4 b_5 => (zRe (F 74 [AV.ptr 0 0 0] [[AV.str s_4, AV.bool b_5]]) fun v bs => zBo v fun b_6 => zB2 bs fun s_5 b_7 => (zRe (F 73 [AV.ptr 0 0 0, AV.int .i64 1] [[AV.str s_5, AV.bool b_7]]) fun v bs => zIn .i64 v fun n_1 => zB2 bs fun s_6 b_8 => (zRe (F 73 [AV.ptr 0 0 0, AV.int .i64 8] [[AV.str s_6, AV.bool b_8]]) fun v bs => zIn .i64 v fun n_2 => zB2 bs fun s_7 b_9 => (zRe (F 73 [AV.ptr 0 0 0, AV.int .i64 8] [[AV.str s_7, AV.bool b_9]]) fun v bs => zIn .i64 v fun n_3 => zB2 bs fun s_8 b_10 => (zRe (F 73 [AV.ptr 0 0 0, AV.int .i64 8] [[AV.str s_8, AV.bool b_10]]) fun v bs => zIn .i64 v fun n_4 => zB2 bs fun s_9 b_11 => (zRe (F 73 [AV.ptr 0 0 0, AV.int .i64 8] [[AV.str s_9, AV.bool b_11]]) fun v bs => zIn .i64 v fun n_5 => zB2 bs fun s_10 b_12 => (zRe (F 73 [AV.ptr 0 0 0, AV.int .i64 8] [[AV.str s_10, AV.bool b_12]]) fun v bs => zIn .i64 v fun n_6 => zB2 bs fun s_11 b_13 => (zRe (F 73 [AV.ptr 0 0 0, AV.int .i64 8] [[AV.str s_11, AV.bool b_13]]) fun v bs => zIn .i64 v fun n_7 => zB2 bs fun s_12 b_14 => (zRe (F 73 [AV.ptr 0 0 0, AV.int .i64 8] [[AV.str s_12, AV.bool b_14]]) fun v bs => zIn .i64 v fun n_8 => zB2 bs fun s_13 b_15 => (zRe (F 73 [AV.ptr 0 0 0, AV.int .i64 8] [[AV.str s_13, AV.bool b_15]]) fun v bs => zIn .i64 v fun n_9 => zB2 bs fun s_14 b_16 => (zRe (F 75 [AV.ptr 0 0 0] [[AV.str s_14, AV.bool b_16]]) fun v bs => asSl v fun m fl xs => zB2 bs fun s_15 b_17 => (zRe (F 75 [AV.ptr 0 0 0] [[AV.str s_15, AV.bool b_17]]) fun v bs => asSl v fun m_1 fl_1 xs_1 => zB2 bs fun s_16 b_18 => (zRe (F 73 [AV.ptr 0 0 0, AV.int .i64 8] [[AV.str s_16, AV.bool b_18]]) fun v bs => zIn .i64 v fun n_10 => zB2 bs fun s_17 b_19 => (zRe (F 50 [AV.str s_17] []) fun v bs => zTC v fun v r => asSl v fun m_2 fl_2 xs_2 => zCo r fun v r => zSt v fun s_18 => zCo r fun v r => zIn .i64 v fun n_11 => zNi r (zNi bs (zRe (F 76 [AV.ptr 0 0 0, AV.sl m_2 fl_2 xs_2, AV.str s_18, AV.int .i64 n_11] [[AV.str s_17, AV.bool b_19]]) fun v bs => asSl v fun m_3 fl_3 xs_3 => zB2 bs fun s_19 b_20 => (zRe (F 77 [AV.ptr 0 0 0] [[AV.str s_19, AV.bool b_20]]) fun v bs => asSl v fun m_4 fl_4 xs_4 => zB2 bs fun s_20 b_21 => (zRe (F 78 [AV.ptr 0 0 0] [[AV.str s_20, AV.bool b_21]]) fun v bs => asSl v fun m_5 fl_5 xs_5 => zB2 bs fun s_21 b_22 => (zRe (F 73 [AV.ptr 0 0 0, AV.int .i64 1] [[AV.str s_21, AV.bool b_22]]) fun v bs => zIn .i64 v fun n_12 => zB2 bs fun s_22 b_23 => (loopA (zBy F 34 0 N) (zDe 34 0) (zCt F 34 0 N 0) N { nt := 160, t := [(0, AV.str s), (2, AV.ptr 2 0 0), (3, AV.int .i64 0), (4, AV.ptr 11 0 0), (5, AV.ptr 5 0 0), (6, AV.sl m_2 fl_2 xs_2), (7, AV.str s_18), (8, AV.int .i64 n_11), (88, AV.int .i64 n_12), (89, AV.int .i64 0)], b := [(2, [AV.int .i64 0, AV.bool false, AV.bool false, AV.int .i64 0, AV.sl 0 true [], AV.int .i64 0, AV.sl 0 true [], AV.bool false, AV.sl 0 true [], AV.sl 0 true [], AV.int .i64 0, AV.sl 0 true [], AV.sl 0 true [], AV.int .i64 0, AV.int .i64 0, AV.int .i64 0, AV.bool false, AV.sl 0 true [], AV.int .i64 0, AV.sl 0 true [], AV.sl 0 true [], AV.int .i64 0, AV.int .i64 0, AV.int .i64 0, AV.int .i64 0, AV.int .i64 0]), (5, [AV.int .i64 n, AV.bool b, AV.bool b_2, AV.int .i64 n_2, AV.sl m fl xs, AV.int .i64 n_3, AV.sl m_4 fl_4 xs_4, AV.bool b_4, AV.sl m_5 fl_5 xs_5, AV.sl m_1 fl_1 xs_1, AV.int .i64 n_10, AV.sl m_3 fl_3 xs_3, AV.sl 0 true [], AV.int .i64 n_4, AV.int .i64 n_1, AV.int .i64 n_5, AV.bool b_6, AV.sl 0 true [], AV.int .i64 (IntKind.wrap .i64 (n_6 - 1)), AV.sl 0 true [], AV.sl 0 true [], AV.int .i64 0, AV.int .i64 0, AV.int .i64 n_7, AV.int .i64 n_8, AV.int .i64 n_9]), (11, [AV.str s_22, AV.bool b_23])], r := [], g := [], rd := [], wr := [] }))))))))))))))))))))))) := by kernel_rfl
def deL (n : Nd) (ss cp qs qo : AV) : List AV := [.int .i64 n.ro, .bool n.st, .bool n.va, .int .i64 n.kn, lnV n.ln, .int .i64 n.sq, vsV n.vs, .bool n.sh, wsV n.kp, lnV n.al, .int .i64 n.aq, btsV n.ch, ss, .int .i64 n.sn, .int .i64 n.md, .int .i64 n.sy, .bool n.fu, cp, .int .i64 n.go, qs, qo, .int .i64 0, .int .i64 0, .int .i64 n.fr, .int .i64 n.fn, .int .i64 n.nx]
def zdL : List AV := [.int .i64 0, .bool false, .bool false, .int .i64 0, .sl 0 true [], .int .i64 0, .sl 0 true [], .bool false, .sl 0 true [], .sl 0 true [], .int .i64 0, .sl 0 true [], .sl 0 true [], .int .i64 0, .int .i64 0, .int .i64 0, .bool false, .sl 0 true [], .int .i64 0, .sl 0 true [], .sl 0 true [], .int .i64 0, .int .i64 0, .int .i64 0, .int .i64 0, .int .i64 0]
def deS (s0 t0 : List UInt8) (l0 : List (Int × Int)) (e0 : Int) (n : Nd) (v : AV) (s : List UInt8) (b : Bool) (c i : Int) : St := ⟨160, [(0, .str s0), (2, .ptr 2 0 0), (3, .int .i64 0), (4, .ptr 11 0 0), (5, .ptr 5 0 0), (6, btsV l0), (7, .str t0), (8, .int .i64 e0), (88, .int .i64 c), (89, .int .i64 i)], [(2, zdL), (5, deL n v (.sl 0 true []) (.sl 0 true []) (.sl 0 true [])), (11, [.str s, .bool b])], [], [], [], []⟩
theorem b11a (F : Fns) (N : Nat) (s0 t0 : List UInt8) (l0 : List (Int × Int)) (e0 : Int) (n : Nd) (s : List UInt8) (b : Bool) (c i : Int) (KN : St → Res) : zBy F 34 0 N (deS s0 t0 l0 e0 n (.sl 0 true []) s b c i) (brk (zCt F 34 0 N 0) KN) =
 bif decide (i < c) then zRe (F 73 [AV.ptr 0 0 0, AV.int .i64 8] [[AV.str s, AV.bool b]]) fun v bs => zIn .i64 v fun n_1 => zB2 bs fun s b => (zRe (F 73 [AV.ptr 0 0 0, AV.int .i64 8] [[AV.str s, AV.bool b]]) fun v bs => zIn .i64 v fun n_2 => zB2 bs fun s b => (zRe (F 78 [AV.ptr 0 0 0] [[AV.str s, AV.bool b]]) fun v bs => asSl v fun m fl xs => zB2 bs fun s b => (KN { nt := 160, t := [(0, AV.str s0), (2, AV.ptr 2 0 0), (3, AV.int .i64 0), (4, AV.ptr 11 0 0), (5, AV.ptr 5 0 0), (6, btsV l0), (7, AV.str t0), (8, AV.int .i64 e0), (88, AV.int .i64 c), (89, AV.int .i64 (IntKind.wrap .i64 (i + 1))), (90, AV.bool (decide (i < c)))], b := [(2, [AV.int .i64 0, AV.bool false, AV.bool false, AV.int .i64 0, AV.sl 0 true [], AV.int .i64 0, AV.sl 0 true [], AV.bool false, AV.sl 0 true [], AV.sl 0 true [], AV.int .i64 0, AV.sl 0 true [], AV.sl 0 true [], AV.int .i64 0, AV.int .i64 0, AV.int .i64 0, AV.bool false, AV.sl 0 true [], AV.int .i64 0, AV.sl 0 true [], AV.sl 0 true [], AV.int .i64 0, AV.int .i64 0, AV.int .i64 0, AV.int .i64 0, AV.int .i64 0]), (5, (ndG n (vsV (Nd.vs n)) (wsV (Nd.kp n)) (AV.tip 101 0 3 [AV.agg [AV.int .i64 n_1, AV.int .i64 n_2, AV.sl m fl xs]]) (AV.sl 0 true []) (AV.sl 0 true []) (AV.sl 0 true []) (AV.int .i64 0) (AV.int .i64 0))), (11, [AV.str s, AV.bool b])], r := [], g := [], rd := [], wr := [] }))) else zRe (F 78 [AV.ptr 0 0 0] [[AV.str s, AV.bool b]]) fun v bs => asSl v fun m fl xs => zB2 bs fun s b => (zRe (F 73 [AV.ptr 0 0 0, AV.int .i64 2] [[AV.str s, AV.bool b]]) fun v bs => zIn .i64 v fun n_1 => zB2 bs fun s b => (loopA (zBy F 34 1 N) (zDe 34 1) (zCt F 34 1 N 0) N { nt := 160, t := [(0, AV.str s0), (2, AV.ptr 2 0 0), (3, AV.int .i64 0), (4, AV.ptr 11 0 0), (5, AV.ptr 5 0 0), (6, btsV l0), (7, AV.str t0), (8, AV.int .i64 e0), (88, AV.int .i64 c), (89, AV.int .i64 i), (90, AV.bool (decide (i < c))), (108, AV.int .i64 n_1), (109, AV.int .i64 0)], b := [(2, [AV.int .i64 0, AV.bool false, AV.bool false, AV.int .i64 0, AV.sl 0 true [], AV.int .i64 0, AV.sl 0 true [], AV.bool false, AV.sl 0 true [], AV.sl 0 true [], AV.int .i64 0, AV.sl 0 true [], AV.sl 0 true [], AV.int .i64 0, AV.int .i64 0, AV.int .i64 0, AV.bool false, AV.sl 0 true [], AV.int .i64 0, AV.sl 0 true [], AV.sl 0 true [], AV.int .i64 0, AV.int .i64 0, AV.int .i64 0, AV.int .i64 0, AV.int .i64 0]), (5, (ndG n (vsV (Nd.vs n)) (wsV (Nd.kp n)) (AV.sl 0 true []) (AV.sl m fl xs) (AV.sl 0 true []) (AV.sl 0 true []) (AV.int .i64 0) (AV.int .i64 0))), (11, [AV.str s, AV.bool b])], r := [], g := [], rd := [], wr := [] })) := by kernel_rfl
theorem b11 (F : Fns) (N : Nat) (s0 t0 : List UInt8) (l0 : List (Int × Int)) (e0 : Int) (n : Nd) (ys : List AV) (s : List UInt8) (b : Bool) (c i : Int) (KN : St → Res) : zBy F 34 0 N (deS s0 t0 l0 e0 n (.tip 101 0 3 ys) s b c i) (brk (zCt F 34 0 N 0) KN) =
 bif decide (i < c) then zRe (F 73 [AV.ptr 0 0 0, AV.int .i64 8] [[AV.str s, AV.bool b]]) fun v bs => zIn .i64 v fun n_1 => zB2 bs fun s_1 b_1 => (zRe (F 73 [AV.ptr 0 0 0, AV.int .i64 8] [[AV.str s_1, AV.bool b_1]]) fun v bs => zIn .i64 v fun n_2 => zB2 bs fun s_2 b_2 => (zRe (F 78 [AV.ptr 0 0 0] [[AV.str s_2, AV.bool b_2]]) fun v bs => asSl v fun m fl xs => zB2 bs fun s_3 b_3 => (bif decide (3 = 3 ∧ fitsB (List.length ys + List.length [AV.agg [AV.int .i64 n_1, AV.int .i64 n_2, AV.sl m fl xs]]) 40 = true ∧ List.length ys + List.length [AV.agg [AV.int .i64 n_1, AV.int .i64 n_2, AV.sl m fl xs]] ≤ 4611686018427387904) then KN { nt := 160, t := [(0, AV.str s0), (2, AV.ptr 2 0 0), (3, AV.int .i64 0), (4, AV.ptr 11 0 0), (5, AV.ptr 5 0 0), (6, btsV l0), (7, AV.str t0), (8, AV.int .i64 e0), (88, AV.int .i64 c), (89, AV.int .i64 (IntKind.wrap .i64 (i + 1))), (90, AV.bool (decide (i < c)))], b := [(2, [AV.int .i64 0, AV.bool false, AV.bool false, AV.int .i64 0, AV.sl 0 true [], AV.int .i64 0, AV.sl 0 true [], AV.bool false, AV.sl 0 true [], AV.sl 0 true [], AV.int .i64 0, AV.sl 0 true [], AV.sl 0 true [], AV.int .i64 0, AV.int .i64 0, AV.int .i64 0, AV.bool false, AV.sl 0 true [], AV.int .i64 0, AV.sl 0 true [], AV.sl 0 true [], AV.int .i64 0, AV.int .i64 0, AV.int .i64 0, AV.int .i64 0, AV.int .i64 0]), (5, (ndG n (vsV (Nd.vs n)) (wsV (Nd.kp n)) (AV.tip 101 0 3 (ys ++ [AV.agg [AV.int .i64 n_1, AV.int .i64 n_2, AV.sl m fl xs]])) (AV.sl 0 true []) (AV.sl 0 true []) (AV.sl 0 true []) (AV.int .i64 0) (AV.int .i64 0))), (11, [AV.str s_3, AV.bool b_3])], r := [], g := [], rd := [], wr := [] } else none))) else zRe (F 78 [AV.ptr 0 0 0] [[AV.str s, AV.bool b]]) fun v bs => asSl v fun m fl xs => zB2 bs fun s b => (zRe (F 73 [AV.ptr 0 0 0, AV.int .i64 2] [[AV.str s, AV.bool b]]) fun v bs => zIn .i64 v fun n_1 => zB2 bs fun s b => (loopA (zBy F 34 1 N) (zDe 34 1) (zCt F 34 1 N 0) N { nt := 160, t := [(0, AV.str s0), (2, AV.ptr 2 0 0), (3, AV.int .i64 0), (4, AV.ptr 11 0 0), (5, AV.ptr 5 0 0), (6, btsV l0), (7, AV.str t0), (8, AV.int .i64 e0), (88, AV.int .i64 c), (89, AV.int .i64 i), (90, AV.bool (decide (i < c))), (108, AV.int .i64 n_1), (109, AV.int .i64 0)], b := [(2, [AV.int .i64 0, AV.bool false, AV.bool false, AV.int .i64 0, AV.sl 0 true [], AV.int .i64 0, AV.sl 0 true [], AV.bool false, AV.sl 0 true [], AV.sl 0 true [], AV.int .i64 0, AV.sl 0 true [], AV.sl 0 true [], AV.int .i64 0, AV.int .i64 0, AV.int .i64 0, AV.bool false, AV.sl 0 true [], AV.int .i64 0, AV.sl 0 true [], AV.sl 0 true [], AV.int .i64 0, AV.int .i64 0, AV.int .i64 0, AV.int .i64 0, AV.int .i64 0]), (5, (ndG n (vsV (Nd.vs n)) (wsV (Nd.kp n)) (AV.tip 101 0 3 ys) (AV.sl m fl xs) (AV.sl 0 true []) (AV.sl 0 true []) (AV.int .i64 0) (AV.int .i64 0))), (11, [AV.str s, AV.bool b])], r := [], g := [], rd := [], wr := [] })) := by kernel_rfl
def dfS (s0 t0 : List UInt8) (l0 : List (Int × Int)) (e0 : Int) (n : Nd) (v w : AV) (s : List UInt8) (b : Bool) (c i : Int) (b2 : Bool) (c2 j : Int) : St := ⟨160, [(0, .str s0), (2, .ptr 2 0 0), (3, .int .i64 0), (4, .ptr 11 0 0), (5, .ptr 5 0 0), (6, btsV l0), (7, .str t0), (8, .int .i64 e0), (88, .int .i64 c), (89, .int .i64 i), (90, .bool b2), (108, .int .i64 c2), (109, .int .i64 j)], [(2, zdL), (5, deL n v (wsV n.cp) w (.sl 0 true [])), (11, [.str s, .bool b])], [], [], [], []⟩
theorem c11aa (F : Fns) (N : Nat) (s0 t0 : List UInt8) (l0 : List (Int × Int)) (e0 : Int) (n : Nd) (s : List UInt8) (b : Bool) (c i : Int) (b2 : Bool) (c2 j : Int) (KN : St → Res) : zBy F 34 1 N (dfS s0 t0 l0 e0 n (.sl 0 true []) (.sl 0 true []) s b c i b2 c2 j) (brk (zCt F 34 1 N 0) KN) =
 bif decide (j < c2) then zRe (F 73 [AV.ptr 0 0 0, AV.int .i64 8] [[AV.str s, AV.bool b]]) fun v bs => zIn .i64 v fun n_1 => zB2 bs fun s b => (zRe (F 73 [AV.ptr 0 0 0, AV.int .i64 8] [[AV.str s, AV.bool b]]) fun v bs => zIn .i64 v fun n_2 => zB2 bs fun s b => (zRe (F 78 [AV.ptr 0 0 0] [[AV.str s, AV.bool b]]) fun v bs => asSl v fun m fl xs => zB2 bs fun s b => (bif b then zRe (F 78 [AV.ptr 0 0 0] [[AV.str s, AV.bool b]]) fun v bs => asSl v fun m_1 fl_1 xs_1 => zB2 bs fun s b => (zRe (F 73 [AV.ptr 0 0 0, AV.int .i64 8] [[AV.str s, AV.bool b]]) fun v bs => zIn .i64 v fun n_3 => zB2 bs fun s b => (zRe (F 73 [AV.ptr 0 0 0, AV.int .i64 8] [[AV.str s, AV.bool b]]) fun v bs => zIn .i64 v fun n_4 => zB2 bs fun s b => (bif b then some (AV.tup [AV.agg [AV.int .i64 0, AV.bool false, AV.bool false, AV.int .i64 0, AV.sl 0 true [], AV.int .i64 0, AV.sl 0 true [], AV.bool false, AV.sl 0 true [], AV.sl 0 true [], AV.int .i64 0, AV.sl 0 true [], AV.sl 0 true [], AV.int .i64 0, AV.int .i64 0, AV.int .i64 0, AV.bool false, AV.sl 0 true [], AV.int .i64 0, AV.sl 0 true [], AV.sl 0 true [], AV.int .i64 0, AV.int .i64 0, AV.int .i64 0, AV.int .i64 0, AV.int .i64 0], AV.int .i64 3], []) else bif !s == Array.toList (ByteArray.data { data := #[] }) then some (AV.tup [AV.agg [AV.int .i64 0, AV.bool false, AV.bool false, AV.int .i64 0, AV.sl 0 true [], AV.int .i64 0, AV.sl 0 true [], AV.bool false, AV.sl 0 true [], AV.sl 0 true [], AV.int .i64 0, AV.sl 0 true [], AV.sl 0 true [], AV.int .i64 0, AV.int .i64 0, AV.int .i64 0, AV.bool false, AV.sl 0 true [], AV.int .i64 0, AV.sl 0 true [], AV.sl 0 true [], AV.int .i64 0, AV.int .i64 0, AV.int .i64 0, AV.int .i64 0, AV.int .i64 0], AV.int .i64 3], []) else zRe (F 67 [AV.agg (ndG n (vsV (Nd.vs n)) (wsV (Nd.kp n)) (AV.sl 0 true []) (wsV (Nd.cp n)) (AV.sl 3 false ([] ++ [AV.agg [AV.int .i64 n_1, AV.int .i64 n_2, AV.sl m fl xs]])) (AV.sl m_1 fl_1 xs_1) (AV.int .i64 n_3) (AV.int .i64 n_4))] []) fun v bs => zBo v fun b => zNi bs (bif !b then some (AV.tup [AV.agg [AV.int .i64 0, AV.bool false, AV.bool false, AV.int .i64 0, AV.sl 0 true [], AV.int .i64 0, AV.sl 0 true [], AV.bool false, AV.sl 0 true [], AV.sl 0 true [], AV.int .i64 0, AV.sl 0 true [], AV.sl 0 true [], AV.int .i64 0, AV.int .i64 0, AV.int .i64 0, AV.bool false, AV.sl 0 true [], AV.int .i64 0, AV.sl 0 true [], AV.sl 0 true [], AV.int .i64 0, AV.int .i64 0, AV.int .i64 0, AV.int .i64 0, AV.int .i64 0], AV.int .i64 3], []) else some (AV.tup [AV.agg (ndG n (vsV (Nd.vs n)) (wsV (Nd.kp n)) (AV.sl 0 true []) (wsV (Nd.cp n)) (AV.sl 3 false [AV.agg [AV.int .i64 n_1, AV.int .i64 n_2, AV.sl m fl xs]]) (AV.sl m_1 fl_1 xs_1) (AV.int .i64 n_3) (AV.int .i64 n_4)), AV.int .i64 0], []))))) else KN { nt := 160, t := [(0, AV.str s0), (2, AV.ptr 2 0 0), (3, AV.int .i64 0), (4, AV.ptr 11 0 0), (5, AV.ptr 5 0 0), (6, btsV l0), (7, AV.str t0), (8, AV.int .i64 e0), (88, AV.int .i64 c), (89, AV.int .i64 i), (90, AV.bool b2), (108, AV.int .i64 c2), (109, AV.int .i64 (IntKind.wrap .i64 (j + 1))), (110, AV.bool (decide (j < c2))), (128, AV.bool b)], b := [(2, [AV.int .i64 0, AV.bool false, AV.bool false, AV.int .i64 0, AV.sl 0 true [], AV.int .i64 0, AV.sl 0 true [], AV.bool false, AV.sl 0 true [], AV.sl 0 true [], AV.int .i64 0, AV.sl 0 true [], AV.sl 0 true [], AV.int .i64 0, AV.int .i64 0, AV.int .i64 0, AV.bool false, AV.sl 0 true [], AV.int .i64 0, AV.sl 0 true [], AV.sl 0 true [], AV.int .i64 0, AV.int .i64 0, AV.int .i64 0, AV.int .i64 0, AV.int .i64 0]), (5, (ndG n (vsV (Nd.vs n)) (wsV (Nd.kp n)) (AV.sl 0 true []) (wsV (Nd.cp n)) (AV.tip 122 0 3 [AV.agg [AV.int .i64 n_1, AV.int .i64 n_2, AV.sl m fl xs]]) (AV.sl 0 true []) (AV.int .i64 0) (AV.int .i64 0))), (11, [AV.str s, AV.bool b])], r := [], g := [], rd := [], wr := [] }))) else zRe (F 78 [AV.ptr 0 0 0] [[AV.str s, AV.bool b]]) fun v bs => asSl v fun m fl xs => zB2 bs fun s b => (zRe (F 73 [AV.ptr 0 0 0, AV.int .i64 8] [[AV.str s, AV.bool b]]) fun v bs => zIn .i64 v fun n_1 => zB2 bs fun s b => (zRe (F 73 [AV.ptr 0 0 0, AV.int .i64 8] [[AV.str s, AV.bool b]]) fun v bs => zIn .i64 v fun n_2 => zB2 bs fun s b => (bif b then some (AV.tup [AV.agg [AV.int .i64 0, AV.bool false, AV.bool false, AV.int .i64 0, AV.sl 0 true [], AV.int .i64 0, AV.sl 0 true [], AV.bool false, AV.sl 0 true [], AV.sl 0 true [], AV.int .i64 0, AV.sl 0 true [], AV.sl 0 true [], AV.int .i64 0, AV.int .i64 0, AV.int .i64 0, AV.bool false, AV.sl 0 true [], AV.int .i64 0, AV.sl 0 true [], AV.sl 0 true [], AV.int .i64 0, AV.int .i64 0, AV.int .i64 0, AV.int .i64 0, AV.int .i64 0], AV.int .i64 3], []) else bif !s == [] then some (AV.tup [AV.agg [AV.int .i64 0, AV.bool false, AV.bool false, AV.int .i64 0, AV.sl 0 true [], AV.int .i64 0, AV.sl 0 true [], AV.bool false, AV.sl 0 true [], AV.sl 0 true [], AV.int .i64 0, AV.sl 0 true [], AV.sl 0 true [], AV.int .i64 0, AV.int .i64 0, AV.int .i64 0, AV.bool false, AV.sl 0 true [], AV.int .i64 0, AV.sl 0 true [], AV.sl 0 true [], AV.int .i64 0, AV.int .i64 0, AV.int .i64 0, AV.int .i64 0, AV.int .i64 0], AV.int .i64 3], []) else zRe (F 67 [AV.agg (ndG n (vsV (Nd.vs n)) (wsV (Nd.kp n)) (AV.sl 0 true []) (wsV (Nd.cp n)) (AV.sl 0 true []) (AV.sl m fl xs) (AV.int .i64 n_1) (AV.int .i64 n_2))] []) fun v bs => zBo v fun b => zNi bs (bif !b then some (AV.tup [AV.agg [AV.int .i64 0, AV.bool false, AV.bool false, AV.int .i64 0, AV.sl 0 true [], AV.int .i64 0, AV.sl 0 true [], AV.bool false, AV.sl 0 true [], AV.sl 0 true [], AV.int .i64 0, AV.sl 0 true [], AV.sl 0 true [], AV.int .i64 0, AV.int .i64 0, AV.int .i64 0, AV.bool false, AV.sl 0 true [], AV.int .i64 0, AV.sl 0 true [], AV.sl 0 true [], AV.int .i64 0, AV.int .i64 0, AV.int .i64 0, AV.int .i64 0, AV.int .i64 0], AV.int .i64 3], []) else some (AV.tup [AV.agg (ndG n (vsV (Nd.vs n)) (wsV (Nd.kp n)) (AV.sl 0 true []) (wsV (Nd.cp n)) (AV.sl 0 true []) (AV.sl m fl xs) (AV.int .i64 n_1) (AV.int .i64 n_2)), AV.int .i64 0], []))))) := by kernel_rfl
theorem c11ab (F : Fns) (N : Nat) (s0 t0 : List UInt8) (l0 : List (Int × Int)) (e0 : Int) (n : Nd) (ys : List AV) (s : List UInt8) (b : Bool) (c i : Int) (b2 : Bool) (c2 j : Int) (KN : St → Res) : zBy F 34 1 N (dfS s0 t0 l0 e0 n (.sl 0 true []) (.tip 122 0 3 ys) s b c i b2 c2 j) (brk (zCt F 34 1 N 0) KN) =
 bif decide (j < c2) then zRe (F 73 [AV.ptr 0 0 0, AV.int .i64 8] [[AV.str s, AV.bool b]]) fun v bs => zIn .i64 v fun n_1 => zB2 bs fun s_1 b_1 => (zRe (F 73 [AV.ptr 0 0 0, AV.int .i64 8] [[AV.str s_1, AV.bool b_1]]) fun v bs => zIn .i64 v fun n_2 => zB2 bs fun s_2 b_2 => (zRe (F 78 [AV.ptr 0 0 0] [[AV.str s_2, AV.bool b_2]]) fun v bs => asSl v fun m fl xs => zB2 bs fun s_3 b_3 => (bif decide (3 = 3 ∧ fitsB (List.length ys + List.length [AV.agg [AV.int .i64 n_1, AV.int .i64 n_2, AV.sl m fl xs]]) 40 = true ∧ List.length ys + List.length [AV.agg [AV.int .i64 n_1, AV.int .i64 n_2, AV.sl m fl xs]] ≤ 4611686018427387904) then bif b_3 then zRe (F 78 [AV.ptr 0 0 0] [[AV.str s_3, AV.bool b_3]]) fun v bs => asSl v fun m_1 fl_1 xs_1 => zB2 bs fun s b => (zRe (F 73 [AV.ptr 0 0 0, AV.int .i64 8] [[AV.str s, AV.bool b]]) fun v bs => zIn .i64 v fun n_3 => zB2 bs fun s b => (zRe (F 73 [AV.ptr 0 0 0, AV.int .i64 8] [[AV.str s, AV.bool b]]) fun v bs => zIn .i64 v fun n_4 => zB2 bs fun s b => (bif b then some (AV.tup [AV.agg [AV.int .i64 0, AV.bool false, AV.bool false, AV.int .i64 0, AV.sl 0 true [], AV.int .i64 0, AV.sl 0 true [], AV.bool false, AV.sl 0 true [], AV.sl 0 true [], AV.int .i64 0, AV.sl 0 true [], AV.sl 0 true [], AV.int .i64 0, AV.int .i64 0, AV.int .i64 0, AV.bool false, AV.sl 0 true [], AV.int .i64 0, AV.sl 0 true [], AV.sl 0 true [], AV.int .i64 0, AV.int .i64 0, AV.int .i64 0, AV.int .i64 0, AV.int .i64 0], AV.int .i64 3], []) else bif !s == Array.toList (ByteArray.data { data := #[] }) then some (AV.tup [AV.agg [AV.int .i64 0, AV.bool false, AV.bool false, AV.int .i64 0, AV.sl 0 true [], AV.int .i64 0, AV.sl 0 true [], AV.bool false, AV.sl 0 true [], AV.sl 0 true [], AV.int .i64 0, AV.sl 0 true [], AV.sl 0 true [], AV.int .i64 0, AV.int .i64 0, AV.int .i64 0, AV.bool false, AV.sl 0 true [], AV.int .i64 0, AV.sl 0 true [], AV.sl 0 true [], AV.int .i64 0, AV.int .i64 0, AV.int .i64 0, AV.int .i64 0, AV.int .i64 0], AV.int .i64 3], []) else zRe (F 67 [AV.agg (ndG n (vsV (Nd.vs n)) (wsV (Nd.kp n)) (AV.sl 0 true []) (wsV (Nd.cp n)) (AV.sl 3 false (ys ++ [AV.agg [AV.int .i64 n_1, AV.int .i64 n_2, AV.sl m fl xs]])) (AV.sl m_1 fl_1 xs_1) (AV.int .i64 n_3) (AV.int .i64 n_4))] []) fun v bs => zBo v fun b => zNi bs (bif !b then some (AV.tup [AV.agg [AV.int .i64 0, AV.bool false, AV.bool false, AV.int .i64 0, AV.sl 0 true [], AV.int .i64 0, AV.sl 0 true [], AV.bool false, AV.sl 0 true [], AV.sl 0 true [], AV.int .i64 0, AV.sl 0 true [], AV.sl 0 true [], AV.int .i64 0, AV.int .i64 0, AV.int .i64 0, AV.bool false, AV.sl 0 true [], AV.int .i64 0, AV.sl 0 true [], AV.sl 0 true [], AV.int .i64 0, AV.int .i64 0, AV.int .i64 0, AV.int .i64 0, AV.int .i64 0], AV.int .i64 3], []) else some (AV.tup [AV.agg (ndG n (vsV (Nd.vs n)) (wsV (Nd.kp n)) (AV.sl 0 true []) (wsV (Nd.cp n)) (AV.sl 3 false (ys ++ [AV.agg [AV.int .i64 n_1, AV.int .i64 n_2, AV.sl m fl xs]])) (AV.sl m_1 fl_1 xs_1) (AV.int .i64 n_3) (AV.int .i64 n_4)), AV.int .i64 0], []))))) else KN { nt := 160, t := [(0, AV.str s0), (2, AV.ptr 2 0 0), (3, AV.int .i64 0), (4, AV.ptr 11 0 0), (5, AV.ptr 5 0 0), (6, btsV l0), (7, AV.str t0), (8, AV.int .i64 e0), (88, AV.int .i64 c), (89, AV.int .i64 i), (90, AV.bool b2), (108, AV.int .i64 c2), (109, AV.int .i64 (IntKind.wrap .i64 (j + 1))), (110, AV.bool (decide (j < c2))), (128, AV.bool b_3)], b := [(2, [AV.int .i64 0, AV.bool false, AV.bool false, AV.int .i64 0, AV.sl 0 true [], AV.int .i64 0, AV.sl 0 true [], AV.bool false, AV.sl 0 true [], AV.sl 0 true [], AV.int .i64 0, AV.sl 0 true [], AV.sl 0 true [], AV.int .i64 0, AV.int .i64 0, AV.int .i64 0, AV.bool false, AV.sl 0 true [], AV.int .i64 0, AV.sl 0 true [], AV.sl 0 true [], AV.int .i64 0, AV.int .i64 0, AV.int .i64 0, AV.int .i64 0, AV.int .i64 0]), (5, (ndG n (vsV (Nd.vs n)) (wsV (Nd.kp n)) (AV.sl 0 true []) (wsV (Nd.cp n)) (AV.tip 122 0 3 (ys ++ [AV.agg [AV.int .i64 n_1, AV.int .i64 n_2, AV.sl m fl xs]])) (AV.sl 0 true []) (AV.int .i64 0) (AV.int .i64 0))), (11, [AV.str s_3, AV.bool b_3])], r := [], g := [], rd := [], wr := [] } else none))) else zRe (F 78 [AV.ptr 0 0 0] [[AV.str s, AV.bool b]]) fun v bs => asSl v fun m fl xs => zB2 bs fun s b => (zRe (F 73 [AV.ptr 0 0 0, AV.int .i64 8] [[AV.str s, AV.bool b]]) fun v bs => zIn .i64 v fun n_1 => zB2 bs fun s b => (zRe (F 73 [AV.ptr 0 0 0, AV.int .i64 8] [[AV.str s, AV.bool b]]) fun v bs => zIn .i64 v fun n_2 => zB2 bs fun s b => (bif b then some (AV.tup [AV.agg [AV.int .i64 0, AV.bool false, AV.bool false, AV.int .i64 0, AV.sl 0 true [], AV.int .i64 0, AV.sl 0 true [], AV.bool false, AV.sl 0 true [], AV.sl 0 true [], AV.int .i64 0, AV.sl 0 true [], AV.sl 0 true [], AV.int .i64 0, AV.int .i64 0, AV.int .i64 0, AV.bool false, AV.sl 0 true [], AV.int .i64 0, AV.sl 0 true [], AV.sl 0 true [], AV.int .i64 0, AV.int .i64 0, AV.int .i64 0, AV.int .i64 0, AV.int .i64 0], AV.int .i64 3], []) else bif !s == [] then some (AV.tup [AV.agg [AV.int .i64 0, AV.bool false, AV.bool false, AV.int .i64 0, AV.sl 0 true [], AV.int .i64 0, AV.sl 0 true [], AV.bool false, AV.sl 0 true [], AV.sl 0 true [], AV.int .i64 0, AV.sl 0 true [], AV.sl 0 true [], AV.int .i64 0, AV.int .i64 0, AV.int .i64 0, AV.bool false, AV.sl 0 true [], AV.int .i64 0, AV.sl 0 true [], AV.sl 0 true [], AV.int .i64 0, AV.int .i64 0, AV.int .i64 0, AV.int .i64 0, AV.int .i64 0], AV.int .i64 3], []) else zRe (F 67 [AV.agg (ndG n (vsV (Nd.vs n)) (wsV (Nd.kp n)) (AV.sl 0 true []) (wsV (Nd.cp n)) (AV.sl 3 false ys) (AV.sl m fl xs) (AV.int .i64 n_1) (AV.int .i64 n_2))] []) fun v bs => zBo v fun b => zNi bs (bif !b then some (AV.tup [AV.agg [AV.int .i64 0, AV.bool false, AV.bool false, AV.int .i64 0, AV.sl 0 true [], AV.int .i64 0, AV.sl 0 true [], AV.bool false, AV.sl 0 true [], AV.sl 0 true [], AV.int .i64 0, AV.sl 0 true [], AV.sl 0 true [], AV.int .i64 0, AV.int .i64 0, AV.int .i64 0, AV.bool false, AV.sl 0 true [], AV.int .i64 0, AV.sl 0 true [], AV.sl 0 true [], AV.int .i64 0, AV.int .i64 0, AV.int .i64 0, AV.int .i64 0, AV.int .i64 0], AV.int .i64 3], []) else some (AV.tup [AV.agg (ndG n (vsV (Nd.vs n)) (wsV (Nd.kp n)) (AV.sl 0 true []) (wsV (Nd.cp n)) (AV.sl 3 false ys) (AV.sl m fl xs) (AV.int .i64 n_1) (AV.int .i64 n_2)), AV.int .i64 0], []))))) := by kernel_rfl
theorem c11ba (F : Fns) (N : Nat) (s0 t0 : List UInt8) (l0 : List (Int × Int)) (e0 : Int) (n : Nd) (xs : List AV) (s : List UInt8) (b : Bool) (c i : Int) (b2 : Bool) (c2 j : Int) (KN : St → Res) : zBy F 34 1 N (dfS s0 t0 l0 e0 n (.tip 101 0 3 xs) (.sl 0 true []) s b c i b2 c2 j) (brk (zCt F 34 1 N 0) KN) =
 bif decide (j < c2) then zRe (F 73 [AV.ptr 0 0 0, AV.int .i64 8] [[AV.str s, AV.bool b]]) fun v bs => zIn .i64 v fun n_1 => zB2 bs fun s b => (zRe (F 73 [AV.ptr 0 0 0, AV.int .i64 8] [[AV.str s, AV.bool b]]) fun v bs => zIn .i64 v fun n_2 => zB2 bs fun s b => (zRe (F 78 [AV.ptr 0 0 0] [[AV.str s, AV.bool b]]) fun v bs => asSl v fun m fl xs_1 => zB2 bs fun s b => (bif b then zRe (F 78 [AV.ptr 0 0 0] [[AV.str s, AV.bool b]]) fun v bs => asSl v fun m_1 fl_1 xs_2 => zB2 bs fun s b => (zRe (F 73 [AV.ptr 0 0 0, AV.int .i64 8] [[AV.str s, AV.bool b]]) fun v bs => zIn .i64 v fun n_3 => zB2 bs fun s b => (zRe (F 73 [AV.ptr 0 0 0, AV.int .i64 8] [[AV.str s, AV.bool b]]) fun v bs => zIn .i64 v fun n_4 => zB2 bs fun s b => (bif b then some (AV.tup [AV.agg [AV.int .i64 0, AV.bool false, AV.bool false, AV.int .i64 0, AV.sl 0 true [], AV.int .i64 0, AV.sl 0 true [], AV.bool false, AV.sl 0 true [], AV.sl 0 true [], AV.int .i64 0, AV.sl 0 true [], AV.sl 0 true [], AV.int .i64 0, AV.int .i64 0, AV.int .i64 0, AV.bool false, AV.sl 0 true [], AV.int .i64 0, AV.sl 0 true [], AV.sl 0 true [], AV.int .i64 0, AV.int .i64 0, AV.int .i64 0, AV.int .i64 0, AV.int .i64 0], AV.int .i64 3], []) else bif !s == Array.toList (ByteArray.data { data := #[] }) then some (AV.tup [AV.agg [AV.int .i64 0, AV.bool false, AV.bool false, AV.int .i64 0, AV.sl 0 true [], AV.int .i64 0, AV.sl 0 true [], AV.bool false, AV.sl 0 true [], AV.sl 0 true [], AV.int .i64 0, AV.sl 0 true [], AV.sl 0 true [], AV.int .i64 0, AV.int .i64 0, AV.int .i64 0, AV.bool false, AV.sl 0 true [], AV.int .i64 0, AV.sl 0 true [], AV.sl 0 true [], AV.int .i64 0, AV.int .i64 0, AV.int .i64 0, AV.int .i64 0, AV.int .i64 0], AV.int .i64 3], []) else zRe (F 67 [AV.agg (ndG n (vsV (Nd.vs n)) (wsV (Nd.kp n)) (AV.sl 3 false xs) (wsV (Nd.cp n)) (AV.sl 3 false ([] ++ [AV.agg [AV.int .i64 n_1, AV.int .i64 n_2, AV.sl m fl xs_1]])) (AV.sl m_1 fl_1 xs_2) (AV.int .i64 n_3) (AV.int .i64 n_4))] []) fun v bs => zBo v fun b => zNi bs (bif !b then some (AV.tup [AV.agg [AV.int .i64 0, AV.bool false, AV.bool false, AV.int .i64 0, AV.sl 0 true [], AV.int .i64 0, AV.sl 0 true [], AV.bool false, AV.sl 0 true [], AV.sl 0 true [], AV.int .i64 0, AV.sl 0 true [], AV.sl 0 true [], AV.int .i64 0, AV.int .i64 0, AV.int .i64 0, AV.bool false, AV.sl 0 true [], AV.int .i64 0, AV.sl 0 true [], AV.sl 0 true [], AV.int .i64 0, AV.int .i64 0, AV.int .i64 0, AV.int .i64 0, AV.int .i64 0], AV.int .i64 3], []) else some (AV.tup [AV.agg (ndG n (vsV (Nd.vs n)) (wsV (Nd.kp n)) (AV.sl 3 false xs) (wsV (Nd.cp n)) (AV.sl 3 false [AV.agg [AV.int .i64 n_1, AV.int .i64 n_2, AV.sl m fl xs_1]]) (AV.sl m_1 fl_1 xs_2) (AV.int .i64 n_3) (AV.int .i64 n_4)), AV.int .i64 0], []))))) else KN { nt := 160, t := [(0, AV.str s0), (2, AV.ptr 2 0 0), (3, AV.int .i64 0), (4, AV.ptr 11 0 0), (5, AV.ptr 5 0 0), (6, btsV l0), (7, AV.str t0), (8, AV.int .i64 e0), (88, AV.int .i64 c), (89, AV.int .i64 i), (90, AV.bool b2), (108, AV.int .i64 c2), (109, AV.int .i64 (IntKind.wrap .i64 (j + 1))), (110, AV.bool (decide (j < c2))), (128, AV.bool b)], b := [(2, [AV.int .i64 0, AV.bool false, AV.bool false, AV.int .i64 0, AV.sl 0 true [], AV.int .i64 0, AV.sl 0 true [], AV.bool false, AV.sl 0 true [], AV.sl 0 true [], AV.int .i64 0, AV.sl 0 true [], AV.sl 0 true [], AV.int .i64 0, AV.int .i64 0, AV.int .i64 0, AV.bool false, AV.sl 0 true [], AV.int .i64 0, AV.sl 0 true [], AV.sl 0 true [], AV.int .i64 0, AV.int .i64 0, AV.int .i64 0, AV.int .i64 0, AV.int .i64 0]), (5, (ndG n (vsV (Nd.vs n)) (wsV (Nd.kp n)) (AV.tip 101 0 3 xs) (wsV (Nd.cp n)) (AV.tip 122 0 3 [AV.agg [AV.int .i64 n_1, AV.int .i64 n_2, AV.sl m fl xs_1]]) (AV.sl 0 true []) (AV.int .i64 0) (AV.int .i64 0))), (11, [AV.str s, AV.bool b])], r := [], g := [], rd := [], wr := [] }))) else zRe (F 78 [AV.ptr 0 0 0] [[AV.str s, AV.bool b]]) fun v bs => asSl v fun m fl xs_1 => zB2 bs fun s b => (zRe (F 73 [AV.ptr 0 0 0, AV.int .i64 8] [[AV.str s, AV.bool b]]) fun v bs => zIn .i64 v fun n_1 => zB2 bs fun s b => (zRe (F 73 [AV.ptr 0 0 0, AV.int .i64 8] [[AV.str s, AV.bool b]]) fun v bs => zIn .i64 v fun n_2 => zB2 bs fun s b => (bif b then some (AV.tup [AV.agg [AV.int .i64 0, AV.bool false, AV.bool false, AV.int .i64 0, AV.sl 0 true [], AV.int .i64 0, AV.sl 0 true [], AV.bool false, AV.sl 0 true [], AV.sl 0 true [], AV.int .i64 0, AV.sl 0 true [], AV.sl 0 true [], AV.int .i64 0, AV.int .i64 0, AV.int .i64 0, AV.bool false, AV.sl 0 true [], AV.int .i64 0, AV.sl 0 true [], AV.sl 0 true [], AV.int .i64 0, AV.int .i64 0, AV.int .i64 0, AV.int .i64 0, AV.int .i64 0], AV.int .i64 3], []) else bif !s == [] then some (AV.tup [AV.agg [AV.int .i64 0, AV.bool false, AV.bool false, AV.int .i64 0, AV.sl 0 true [], AV.int .i64 0, AV.sl 0 true [], AV.bool false, AV.sl 0 true [], AV.sl 0 true [], AV.int .i64 0, AV.sl 0 true [], AV.sl 0 true [], AV.int .i64 0, AV.int .i64 0, AV.int .i64 0, AV.bool false, AV.sl 0 true [], AV.int .i64 0, AV.sl 0 true [], AV.sl 0 true [], AV.int .i64 0, AV.int .i64 0, AV.int .i64 0, AV.int .i64 0, AV.int .i64 0], AV.int .i64 3], []) else zRe (F 67 [AV.agg (ndG n (vsV (Nd.vs n)) (wsV (Nd.kp n)) (AV.sl 3 false xs) (wsV (Nd.cp n)) (AV.sl 0 true []) (AV.sl m fl xs_1) (AV.int .i64 n_1) (AV.int .i64 n_2))] []) fun v bs => zBo v fun b => zNi bs (bif !b then some (AV.tup [AV.agg [AV.int .i64 0, AV.bool false, AV.bool false, AV.int .i64 0, AV.sl 0 true [], AV.int .i64 0, AV.sl 0 true [], AV.bool false, AV.sl 0 true [], AV.sl 0 true [], AV.int .i64 0, AV.sl 0 true [], AV.sl 0 true [], AV.int .i64 0, AV.int .i64 0, AV.int .i64 0, AV.bool false, AV.sl 0 true [], AV.int .i64 0, AV.sl 0 true [], AV.sl 0 true [], AV.int .i64 0, AV.int .i64 0, AV.int .i64 0, AV.int .i64 0, AV.int .i64 0], AV.int .i64 3], []) else some (AV.tup [AV.agg (ndG n (vsV (Nd.vs n)) (wsV (Nd.kp n)) (AV.sl 3 false xs) (wsV (Nd.cp n)) (AV.sl 0 true []) (AV.sl m fl xs_1) (AV.int .i64 n_1) (AV.int .i64 n_2)), AV.int .i64 0], []))))) := by kernel_rfl
theorem c11bb (F : Fns) (N : Nat) (s0 t0 : List UInt8) (l0 : List (Int × Int)) (e0 : Int) (n : Nd) (xs ys : List AV) (s : List UInt8) (b : Bool) (c i : Int) (b2 : Bool) (c2 j : Int) (KN : St → Res) : zBy F 34 1 N (dfS s0 t0 l0 e0 n (.tip 101 0 3 xs) (.tip 122 0 3 ys) s b c i b2 c2 j) (brk (zCt F 34 1 N 0) KN) =
 bif decide (j < c2) then zRe (F 73 [AV.ptr 0 0 0, AV.int .i64 8] [[AV.str s, AV.bool b]]) fun v bs => zIn .i64 v fun n_1 => zB2 bs fun s_1 b_1 => (zRe (F 73 [AV.ptr 0 0 0, AV.int .i64 8] [[AV.str s_1, AV.bool b_1]]) fun v bs => zIn .i64 v fun n_2 => zB2 bs fun s_2 b_2 => (zRe (F 78 [AV.ptr 0 0 0] [[AV.str s_2, AV.bool b_2]]) fun v bs => asSl v fun m fl xs_1 => zB2 bs fun s_3 b_3 => (bif decide (3 = 3 ∧ fitsB (List.length ys + List.length [AV.agg [AV.int .i64 n_1, AV.int .i64 n_2, AV.sl m fl xs_1]]) 40 = true ∧ List.length ys + List.length [AV.agg [AV.int .i64 n_1, AV.int .i64 n_2, AV.sl m fl xs_1]] ≤ 4611686018427387904) then bif b_3 then zRe (F 78 [AV.ptr 0 0 0] [[AV.str s_3, AV.bool b_3]]) fun v bs => asSl v fun m_1 fl_1 xs_2 => zB2 bs fun s b => (zRe (F 73 [AV.ptr 0 0 0, AV.int .i64 8] [[AV.str s, AV.bool b]]) fun v bs => zIn .i64 v fun n_3 => zB2 bs fun s b => (zRe (F 73 [AV.ptr 0 0 0, AV.int .i64 8] [[AV.str s, AV.bool b]]) fun v bs => zIn .i64 v fun n_4 => zB2 bs fun s b => (bif b then some (AV.tup [AV.agg [AV.int .i64 0, AV.bool false, AV.bool false, AV.int .i64 0, AV.sl 0 true [], AV.int .i64 0, AV.sl 0 true [], AV.bool false, AV.sl 0 true [], AV.sl 0 true [], AV.int .i64 0, AV.sl 0 true [], AV.sl 0 true [], AV.int .i64 0, AV.int .i64 0, AV.int .i64 0, AV.bool false, AV.sl 0 true [], AV.int .i64 0, AV.sl 0 true [], AV.sl 0 true [], AV.int .i64 0, AV.int .i64 0, AV.int .i64 0, AV.int .i64 0, AV.int .i64 0], AV.int .i64 3], []) else bif !s == Array.toList (ByteArray.data { data := #[] }) then some (AV.tup [AV.agg [AV.int .i64 0, AV.bool false, AV.bool false, AV.int .i64 0, AV.sl 0 true [], AV.int .i64 0, AV.sl 0 true [], AV.bool false, AV.sl 0 true [], AV.sl 0 true [], AV.int .i64 0, AV.sl 0 true [], AV.sl 0 true [], AV.int .i64 0, AV.int .i64 0, AV.int .i64 0, AV.bool false, AV.sl 0 true [], AV.int .i64 0, AV.sl 0 true [], AV.sl 0 true [], AV.int .i64 0, AV.int .i64 0, AV.int .i64 0, AV.int .i64 0, AV.int .i64 0], AV.int .i64 3], []) else zRe (F 67 [AV.agg (ndG n (vsV (Nd.vs n)) (wsV (Nd.kp n)) (AV.sl 3 false xs) (wsV (Nd.cp n)) (AV.sl 3 false (ys ++ [AV.agg [AV.int .i64 n_1, AV.int .i64 n_2, AV.sl m fl xs_1]])) (AV.sl m_1 fl_1 xs_2) (AV.int .i64 n_3) (AV.int .i64 n_4))] []) fun v bs => zBo v fun b => zNi bs (bif !b then some (AV.tup [AV.agg [AV.int .i64 0, AV.bool false, AV.bool false, AV.int .i64 0, AV.sl 0 true [], AV.int .i64 0, AV.sl 0 true [], AV.bool false, AV.sl 0 true [], AV.sl 0 true [], AV.int .i64 0, AV.sl 0 true [], AV.sl 0 true [], AV.int .i64 0, AV.int .i64 0, AV.int .i64 0, AV.bool false, AV.sl 0 true [], AV.int .i64 0, AV.sl 0 true [], AV.sl 0 true [], AV.int .i64 0, AV.int .i64 0, AV.int .i64 0, AV.int .i64 0, AV.int .i64 0], AV.int .i64 3], []) else some (AV.tup [AV.agg (ndG n (vsV (Nd.vs n)) (wsV (Nd.kp n)) (AV.sl 3 false xs) (wsV (Nd.cp n)) (AV.sl 3 false (ys ++ [AV.agg [AV.int .i64 n_1, AV.int .i64 n_2, AV.sl m fl xs_1]])) (AV.sl m_1 fl_1 xs_2) (AV.int .i64 n_3) (AV.int .i64 n_4)), AV.int .i64 0], []))))) else KN { nt := 160, t := [(0, AV.str s0), (2, AV.ptr 2 0 0), (3, AV.int .i64 0), (4, AV.ptr 11 0 0), (5, AV.ptr 5 0 0), (6, btsV l0), (7, AV.str t0), (8, AV.int .i64 e0), (88, AV.int .i64 c), (89, AV.int .i64 i), (90, AV.bool b2), (108, AV.int .i64 c2), (109, AV.int .i64 (IntKind.wrap .i64 (j + 1))), (110, AV.bool (decide (j < c2))), (128, AV.bool b_3)], b := [(2, [AV.int .i64 0, AV.bool false, AV.bool false, AV.int .i64 0, AV.sl 0 true [], AV.int .i64 0, AV.sl 0 true [], AV.bool false, AV.sl 0 true [], AV.sl 0 true [], AV.int .i64 0, AV.sl 0 true [], AV.sl 0 true [], AV.int .i64 0, AV.int .i64 0, AV.int .i64 0, AV.bool false, AV.sl 0 true [], AV.int .i64 0, AV.sl 0 true [], AV.sl 0 true [], AV.int .i64 0, AV.int .i64 0, AV.int .i64 0, AV.int .i64 0, AV.int .i64 0]), (5, (ndG n (vsV (Nd.vs n)) (wsV (Nd.kp n)) (AV.tip 101 0 3 xs) (wsV (Nd.cp n)) (AV.tip 122 0 3 (ys ++ [AV.agg [AV.int .i64 n_1, AV.int .i64 n_2, AV.sl m fl xs_1]])) (AV.sl 0 true []) (AV.int .i64 0) (AV.int .i64 0))), (11, [AV.str s_3, AV.bool b_3])], r := [], g := [], rd := [], wr := [] } else none))) else zRe (F 78 [AV.ptr 0 0 0] [[AV.str s, AV.bool b]]) fun v bs => asSl v fun m fl xs_1 => zB2 bs fun s b => (zRe (F 73 [AV.ptr 0 0 0, AV.int .i64 8] [[AV.str s, AV.bool b]]) fun v bs => zIn .i64 v fun n_1 => zB2 bs fun s b => (zRe (F 73 [AV.ptr 0 0 0, AV.int .i64 8] [[AV.str s, AV.bool b]]) fun v bs => zIn .i64 v fun n_2 => zB2 bs fun s b => (bif b then some (AV.tup [AV.agg [AV.int .i64 0, AV.bool false, AV.bool false, AV.int .i64 0, AV.sl 0 true [], AV.int .i64 0, AV.sl 0 true [], AV.bool false, AV.sl 0 true [], AV.sl 0 true [], AV.int .i64 0, AV.sl 0 true [], AV.sl 0 true [], AV.int .i64 0, AV.int .i64 0, AV.int .i64 0, AV.bool false, AV.sl 0 true [], AV.int .i64 0, AV.sl 0 true [], AV.sl 0 true [], AV.int .i64 0, AV.int .i64 0, AV.int .i64 0, AV.int .i64 0, AV.int .i64 0], AV.int .i64 3], []) else bif !s == [] then some (AV.tup [AV.agg [AV.int .i64 0, AV.bool false, AV.bool false, AV.int .i64 0, AV.sl 0 true [], AV.int .i64 0, AV.sl 0 true [], AV.bool false, AV.sl 0 true [], AV.sl 0 true [], AV.int .i64 0, AV.sl 0 true [], AV.sl 0 true [], AV.int .i64 0, AV.int .i64 0, AV.int .i64 0, AV.bool false, AV.sl 0 true [], AV.int .i64 0, AV.sl 0 true [], AV.sl 0 true [], AV.int .i64 0, AV.int .i64 0, AV.int .i64 0, AV.int .i64 0, AV.int .i64 0], AV.int .i64 3], []) else zRe (F 67 [AV.agg (ndG n (vsV (Nd.vs n)) (wsV (Nd.kp n)) (AV.sl 3 false xs) (wsV (Nd.cp n)) (AV.sl 3 false ys) (AV.sl m fl xs_1) (AV.int .i64 n_1) (AV.int .i64 n_2))] []) fun v bs => zBo v fun b => zNi bs (bif !b then some (AV.tup [AV.agg [AV.int .i64 0, AV.bool false, AV.bool false, AV.int .i64 0, AV.sl 0 true [], AV.int .i64 0, AV.sl 0 true [], AV.bool false, AV.sl 0 true [], AV.sl 0 true [], AV.int .i64 0, AV.sl 0 true [], AV.sl 0 true [], AV.int .i64 0, AV.int .i64 0, AV.int .i64 0, AV.bool false, AV.sl 0 true [], AV.int .i64 0, AV.sl 0 true [], AV.sl 0 true [], AV.int .i64 0, AV.int .i64 0, AV.int .i64 0, AV.int .i64 0, AV.int .i64 0], AV.int .i64 3], []) else some (AV.tup [AV.agg (ndG n (vsV (Nd.vs n)) (wsV (Nd.kp n)) (AV.sl 3 false xs) (wsV (Nd.cp n)) (AV.sl 3 false ys) (AV.sl m fl xs_1) (AV.int .i64 n_1) (AV.int .i64 n_2)), AV.int .i64 0], []))))) := by kernel_rfl
def endN (n : Nd) (r : Rd) : Nd := { n with qo := (wrR r).1, qf := ((nuR 8 (wrR r).2).1 : Nat), qt := ((nuR 8 (nuR 8 (wrR r).2).2).1 : Nat) }
def endR (r : Rd) : Rd := (nuR 8 (nuR 8 (wrR r).2).2).2
def rwL (n : Nd) : List AV := [.int .i64 n.ro, .bool n.st, .bool n.va, .int .i64 n.kn, lnV n.ln, .int .i64 n.sq, vsV n.vs, .bool n.sh, wsV n.kp, lnV n.al, .int .i64 n.aq, btsV n.ch, gsV 3 (n.ss.map shV), .int .i64 n.sn, .int .i64 n.md, .int .i64 n.sy, .bool n.fu, wsV n.cp, .int .i64 n.go, gsV 3 (n.qs.map shV), wsV n.qo, .int .i64 n.qf, .int .i64 n.qt, .int .i64 n.fr, .int .i64 n.fn, .int .i64 n.nx]
open Classical in
def outD (n : Nd) (r : Rd) : Res := if r.2 = false ∧ r.1 = [] ∧ nodeOk n = true then some (.tup [.agg (rwL n), .int .i64 0], []) else some (.tup [.agg zdL, .int .i64 3], [])
theorem can22 (ro kn sq aq sn md sy go qf qt fr fn nx : Int) (st va sh fu : Bool) (ln vs kp al ch cp qo : AV) (a b : List AV) : canVs (ctA ct 67) [.agg [.int .i64 ro, .bool st, .bool va, .int .i64 kn, ln, .int .i64 sq, vs, .bool sh, kp, al, .int .i64 aq, ch, gsV 3 a, .int .i64 sn, .int .i64 md, .int .i64 sy, .bool fu, cp, .int .i64 go, gsV 3 b, qo, .int .i64 qf, .int .i64 qt, .int .i64 fr, .int .i64 fn, .int .i64 nx]] = canVs (ctA ct 67) [.agg [.int .i64 ro, .bool st, .bool va, .int .i64 kn, ln, .int .i64 sq, vs, .bool sh, kp, al, .int .i64 aq, ch, .sl 3 false a, .int .i64 sn, .int .i64 md, .int .i64 sy, .bool fu, cp, .int .i64 go, .sl 3 false b, qo, .int .i64 qf, .int .i64 qt, .int .i64 fr, .int .i64 fn, .int .i64 nx]] := by
 cases a <;> cases b <;> kernel_rfl
theorem x22r (k : Nat) (hk : 70500 ≤ k) (n : Nd) (hb : NdB n) : W k 67 [.agg (rwL n)] [] = some (.bool (nodeOk n), []) := W_arg (x22 k hk n hb) (can22 ..)
theorem tail11 (k : Nat) (hk : 70600 ≤ k) (n : Nd) (q : List Shot) (r0 : Rd) (vss vqs : AV) (h1 : vss = gsV 3 (n.ss.map shV)) (h2 : vqs = gsV 3 (q.map shV)) (hB : (endR r0).2 = false → (endR r0).1 = [] → NdB (endN { n with qs := q } r0)) :
 (zRe (W k 78 [AV.ptr 0 0 0] [[AV.str r0.1, AV.bool r0.2]]) fun v bs => asSl v fun m fl xs => zB2 bs fun s b => (zRe (W k 73 [AV.ptr 0 0 0, AV.int .i64 8] [[AV.str s, AV.bool b]]) fun v bs => zIn .i64 v fun n_1 => zB2 bs fun s b => (zRe (W k 73 [AV.ptr 0 0 0, AV.int .i64 8] [[AV.str s, AV.bool b]]) fun v bs => zIn .i64 v fun n_2 => zB2 bs fun s b => (bif b then some (AV.tup [AV.agg [AV.int .i64 0, AV.bool false, AV.bool false, AV.int .i64 0, AV.sl 0 true [], AV.int .i64 0, AV.sl 0 true [], AV.bool false, AV.sl 0 true [], AV.sl 0 true [], AV.int .i64 0, AV.sl 0 true [], AV.sl 0 true [], AV.int .i64 0, AV.int .i64 0, AV.int .i64 0, AV.bool false, AV.sl 0 true [], AV.int .i64 0, AV.sl 0 true [], AV.sl 0 true [], AV.int .i64 0, AV.int .i64 0, AV.int .i64 0, AV.int .i64 0, AV.int .i64 0], AV.int .i64 3], []) else bif !s == [] then some (AV.tup [AV.agg [AV.int .i64 0, AV.bool false, AV.bool false, AV.int .i64 0, AV.sl 0 true [], AV.int .i64 0, AV.sl 0 true [], AV.bool false, AV.sl 0 true [], AV.sl 0 true [], AV.int .i64 0, AV.sl 0 true [], AV.sl 0 true [], AV.int .i64 0, AV.int .i64 0, AV.int .i64 0, AV.bool false, AV.sl 0 true [], AV.int .i64 0, AV.sl 0 true [], AV.sl 0 true [], AV.int .i64 0, AV.int .i64 0, AV.int .i64 0, AV.int .i64 0, AV.int .i64 0], AV.int .i64 3], []) else zRe (W k 67 [AV.agg (ndG n (vsV (Nd.vs n)) (wsV (Nd.kp n)) vss (wsV (Nd.cp n)) vqs (AV.sl m fl xs) (AV.int .i64 n_1) (AV.int .i64 n_2))] []) fun v bs => zBo v fun b => zNi bs (bif !b then some (AV.tup [AV.agg [AV.int .i64 0, AV.bool false, AV.bool false, AV.int .i64 0, AV.sl 0 true [], AV.int .i64 0, AV.sl 0 true [], AV.bool false, AV.sl 0 true [], AV.sl 0 true [], AV.int .i64 0, AV.sl 0 true [], AV.sl 0 true [], AV.int .i64 0, AV.int .i64 0, AV.int .i64 0, AV.bool false, AV.sl 0 true [], AV.int .i64 0, AV.sl 0 true [], AV.sl 0 true [], AV.int .i64 0, AV.int .i64 0, AV.int .i64 0, AV.int .i64 0, AV.int .i64 0], AV.int .i64 3], []) else some (AV.tup [AV.agg (ndG n (vsV (Nd.vs n)) (wsV (Nd.kp n)) vss (wsV (Nd.cp n)) vqs (AV.sl m fl xs) (AV.int .i64 n_1) (AV.int .i64 n_2)), AV.int .i64 0], [])))))) = outD (endN { n with qs := q } r0) (endR r0) := by
 subst h1 h2
 refine qO (x46 k (by omega) r0) ?_
 repeat with_reducible first|apply qT|apply qC|apply qN|apply qS|apply qB|apply qI|apply qA|apply qL
 refine qO (x40 k (by omega) _ 8 (by omega) (by omega)) ?_
 repeat with_reducible first|apply qT|apply qC|apply qN|apply qS|apply qB|apply qI|apply qA|apply qL
 refine qO (x40 k (by omega) _ 8 (by omega) (by omega)) ?_
 repeat with_reducible first|apply qT|apply qC|apply qN|apply qS|apply qB|apply qI|apply qA|apply qL
 have he : (nuR 8 (nuR 8 (wrR r0).2).2).2 = endR r0 := rfl
 rw [he]
 unfold outD
 cases hb : (endR r0).2 with
 | true =>
  rw [if_neg (by simp)]
  rfl
 | false =>
  by_cases hs : (endR r0).1 = []
  ·refine qX rfl ?_
   refine qX (by rw [hs]; rfl) ?_
   refine qO (x22r k (by omega) (endN { n with qs := q } r0) (hB hb hs)) ?_
   repeat with_reducible first|apply qT|apply qC|apply qN|apply qS|apply qB|apply qI|apply qA|apply qL
   cases hok : nodeOk (endN { n with qs := q } r0) with
   | true => rw [if_pos ⟨rfl, hs, rfl⟩]; rfl
   | false => rw [if_neg (by simp)]; rfl
  ·refine qX rfl ?_
   refine qY (by simpa using hs) ?_
   rw [if_neg (by simp [hs])]
   rfl
theorem gs_app (y : Shot) (r : List Shot) (x : Shot) : AV.sl 3 false (shV y :: r.map shV ++ [shV x]) = gsV 3 ((y :: r ++ [x]).map shV) := by
 rw [List.map_append]
 rfl
theorem sets11 (k : Nat) (hk : 70600 ≤ k) (s0 t0 : List UInt8) (l0 : List (Int × Int)) (e0 : Int) (n : Nd) (xs : List AV) (hx : xs = n.ss.map shV) (c i : Int) (b2 : Bool) (r0 : Rd) (c2 : Nat) (hc : c2 ≤ 65535) (L : List Shot) (R : Rd) (hL : seR c2 r0 = (L, R)) (hB : (endR R).2 = false → (endR R).1 = [] → NdB (endN { n with qs := L } R)) (st : St) (hst : st.clean (zDe 34 1) = dfS s0 t0 l0 e0 n (gtV 101 3 xs) (.sl 0 true []) r0.1 r0.2 c i b2 c2 (0 : Nat)) : loopA (zBy (W k) 34 1 k) (zDe 34 1) (zCt (W k) 34 1 k 0) k st = outD (endN { n with qs := L } R) (endR R) := by
 refine loopA_ind (fun a : Rd × List Shot => dfS s0 t0 l0 e0 n (gtV 101 3 xs) (gtV 122 3 (a.2.map shV)) a.1.1 a.1.2 c i b2 c2 a.2.length) (fun a => c2 - a.2.length) (fun a r => a.2.length ≤ c2 → a.2 ++ (seR (c2 - a.2.length) a.1).1 = L → (seR (c2 - a.2.length) a.1).2 = R → r = outD (endN { n with qs := L } R) (endR R)) (fun a m ih h0 g1 g2 => ?_) k (r0, []) st (by simp; omega) hst (by simp) (by simp [hL]) (by simp [hL])
 obtain ⟨v, acc⟩ := a
 simp only at ih h0 g1 g2 ⊢
 have hgo : ∀ (st : St), acc.length < c2 → (s1R v).2.2 = false → st.clean (zDe 34 1) = dfS s0 t0 l0 e0 n (gtV 101 3 xs) (gtV 122 3 (acc.map shV ++ [shV (s1R v).1])) (s1R v).2.1 (s1R v).2.2 c i b2 c2 ((acc.length + 1 : Nat) : Int) → loopA (zBy (W k) 34 1 k) (zDe 34 1) (zCt (W k) 34 1 k 0) m st = outD (endN { n with qs := L } R) (endR R) := by
  intro st hlt hbad hst
  obtain ⟨d, hd⟩ : ∃ d, c2 - acc.length = d + 1 := ⟨c2 - acc.length - 1, by omega⟩
  have hd2 : c2 - (acc.length + 1) = d := by omega
  rw [hd, seR, if_neg (by rw [hbad]; simp)] at g1 g2
  refine ih ((s1R v).2, acc ++ [(s1R v).1]) st (by simp; omega) (by rw [List.map_append, List.length_append]; exact hst) (by simp; omega) ?_ ?_
  ·simp only [List.length_append, List.length_cons, List.length_nil, Nat.zero_add, hd2, List.append_assoc, List.singleton_append]
   exact g1
  ·simp only [List.length_append, List.length_cons, List.length_nil, Nat.zero_add, hd2]
   exact g2
 have hend : acc.length < c2 → (s1R v).2.2 = true → acc ++ [(s1R v).1] = L ∧ (s1R v).2 = R := by
  intro hlt hbad
  obtain ⟨d, hd⟩ : ∃ d, c2 - acc.length = d + 1 := ⟨c2 - acc.length - 1, by omega⟩
  rw [hd, seR, if_pos hbad] at g1 g2
  exact ⟨g1, g2⟩
 have hfin : ¬ acc.length < c2 → acc = L ∧ v = R := by
  intro hlt
  rw [show c2 - acc.length = 0 by omega, seR] at g1 g2
  exact ⟨by simpa using g1, g2⟩
 have hw := wi (n := acc.length) (by omega)
 cases xs with
 | nil =>
  cases acc with
  | nil =>
   rw [List.map_nil, gtV, gtV, c11aa]
   by_cases hlt : ([] : List Shot).length < c2
   ·refine qY (decide_eq_true (by exact_mod_cast hlt)) ?_
    refine qO (x40 k (by omega) v 8 (by omega) (by omega)) ?_
    repeat with_reducible first|apply qT|apply qC|apply qN|apply qS|apply qB|apply qI|apply qA|apply qL
    refine qO (x40 k (by omega) _ 8 (by omega) (by omega)) ?_
    repeat with_reducible first|apply qT|apply qC|apply qN|apply qS|apply qB|apply qI|apply qA|apply qL
    refine qO (x46 k (by omega) _) ?_
    repeat with_reducible first|apply qT|apply qC|apply qN|apply qS|apply qB|apply qI|apply qA|apply qL
    cases hbad : (s1R v).2.2 with
    | true =>
     obtain ⟨rfl, rfl⟩ := hend hlt hbad
     refine qY hbad ?_
     exact tail11 k hk n _ _ _ _ (by rw [← hx]; rfl) rfl hB
    | false =>
     refine qX hbad ?_
     rw [hw]
     exact hgo _ hlt hbad (by kernel_rfl)
   ·obtain ⟨rfl, rfl⟩ := hfin hlt
    refine qX (decide_eq_false (by exact_mod_cast hlt)) ?_
    exact tail11 k hk n _ _ _ _ (by rw [← hx]; rfl) rfl hB
  | cons y z =>
   rw [List.map_cons, gtV, gtV, c11ab]
   by_cases hlt : (y :: z).length < c2
   ·refine qY (decide_eq_true (by exact_mod_cast hlt)) ?_
    refine qO (x40 k (by omega) v 8 (by omega) (by omega)) ?_
    repeat with_reducible first|apply qT|apply qC|apply qN|apply qS|apply qB|apply qI|apply qA|apply qL
    refine qO (x40 k (by omega) _ 8 (by omega) (by omega)) ?_
    repeat with_reducible first|apply qT|apply qC|apply qN|apply qS|apply qB|apply qI|apply qA|apply qL
    refine qO (x46 k (by omega) _) ?_
    repeat with_reducible first|apply qT|apply qC|apply qN|apply qS|apply qB|apply qI|apply qA|apply qL
    have hlt2 := hlt
    simp only [List.length_cons] at hlt2
    refine qY (decide_eq_true (by refine ⟨by first | rfl | exact .inr rfl, fitsB_small ?_, ?_⟩ <;> simp only [ofBytes, List.length_map, List.length_append, List.length_cons, List.length_nil] <;> omega)) ?_
    cases hbad : (s1R v).2.2 with
    | true =>
     obtain ⟨rfl, rfl⟩ := hend hlt hbad
     refine qY hbad ?_
     exact tail11 k hk n _ _ _ _ (by rw [← hx]; rfl) (gs_app y z (s1R v).1) hB
    | false =>
     refine qX hbad ?_
     rw [hw]
     exact hgo _ hlt hbad (by kernel_rfl)
   ·obtain ⟨rfl, rfl⟩ := hfin hlt
    refine qX (decide_eq_false (by exact_mod_cast hlt)) ?_
    exact tail11 k hk n _ _ _ _ (by rw [← hx]; rfl) rfl hB
 | cons x0 xr =>
  cases acc with
  | nil =>
   rw [List.map_nil, gtV, gtV, c11ba]
   by_cases hlt : ([] : List Shot).length < c2
   ·refine qY (decide_eq_true (by exact_mod_cast hlt)) ?_
    refine qO (x40 k (by omega) v 8 (by omega) (by omega)) ?_
    repeat with_reducible first|apply qT|apply qC|apply qN|apply qS|apply qB|apply qI|apply qA|apply qL
    refine qO (x40 k (by omega) _ 8 (by omega) (by omega)) ?_
    repeat with_reducible first|apply qT|apply qC|apply qN|apply qS|apply qB|apply qI|apply qA|apply qL
    refine qO (x46 k (by omega) _) ?_
    repeat with_reducible first|apply qT|apply qC|apply qN|apply qS|apply qB|apply qI|apply qA|apply qL
    cases hbad : (s1R v).2.2 with
    | true =>
     obtain ⟨rfl, rfl⟩ := hend hlt hbad
     refine qY hbad ?_
     exact tail11 k hk n _ _ _ _ (by rw [← hx]; rfl) rfl hB
    | false =>
     refine qX hbad ?_
     rw [hw]
     exact hgo _ hlt hbad (by kernel_rfl)
   ·obtain ⟨rfl, rfl⟩ := hfin hlt
    refine qX (decide_eq_false (by exact_mod_cast hlt)) ?_
    exact tail11 k hk n _ _ _ _ (by rw [← hx]; rfl) rfl hB
  | cons y z =>
   rw [List.map_cons, gtV, gtV, c11bb]
   by_cases hlt : (y :: z).length < c2
   ·refine qY (decide_eq_true (by exact_mod_cast hlt)) ?_
    refine qO (x40 k (by omega) v 8 (by omega) (by omega)) ?_
    repeat with_reducible first|apply qT|apply qC|apply qN|apply qS|apply qB|apply qI|apply qA|apply qL
    refine qO (x40 k (by omega) _ 8 (by omega) (by omega)) ?_
    repeat with_reducible first|apply qT|apply qC|apply qN|apply qS|apply qB|apply qI|apply qA|apply qL
    refine qO (x46 k (by omega) _) ?_
    repeat with_reducible first|apply qT|apply qC|apply qN|apply qS|apply qB|apply qI|apply qA|apply qL
    have hlt2 := hlt
    simp only [List.length_cons] at hlt2
    refine qY (decide_eq_true (by refine ⟨by first | rfl | exact .inr rfl, fitsB_small ?_, ?_⟩ <;> simp only [ofBytes, List.length_map, List.length_append, List.length_cons, List.length_nil] <;> omega)) ?_
    cases hbad : (s1R v).2.2 with
    | true =>
     obtain ⟨rfl, rfl⟩ := hend hlt hbad
     refine qY hbad ?_
     exact tail11 k hk n _ _ _ _ (by rw [← hx]; rfl) (gs_app y z (s1R v).1) hB
    | false =>
     refine qX hbad ?_
     rw [hw]
     exact hgo _ hlt hbad (by kernel_rfl)
   ·obtain ⟨rfl, rfl⟩ := hfin hlt
    refine qX (decide_eq_false (by exact_mod_cast hlt)) ?_
    exact tail11 k hk n _ _ _ _ (by rw [← hx]; rfl) rfl hB
theorem bt_ex (k : Nat) (hk : 500 ≤ k) (s : List UInt8) : ∃ (l : List (Int × Int)) (t : List UInt8) (e : Int), W k 50 [.str s] [] = some (.tup [btsV l, .str t, .int .i64 e], []) ∧ ∀ b, W k 76 [.ptr 0 0 0, btsV l, .str t, .int .i64 e] [[.str s, .bool b]] = some (btsV (btR (s, b)).1, bxR (btR (s, b)).2) := by
 have h := e50 k (by omega) s
 unfold btR stp
 simp only
 cases hx : parseB s with
 | none =>
  rw [hx] at h
  obtain ⟨e, he, h⟩ := h
  refine ⟨[], [], e, (W_old h (by omega) (by kernel_rfl)).trans (by kernel_rfl), fun b => ?_⟩
  refine (x44b k (by omega) (s, b) [] [] e (.inr he)).trans ?_
  cases b <;> rfl
 | some a =>
  obtain ⟨l, u⟩ := a
  rw [hx] at h
  have h : evF pr k 50 [.str s] [] = some (.tup [slT l, .str u, .int .i64 0], []) := h
  refine ⟨l, u, 0, (W_old h (by omega) (by kernel_rfl)).trans ?_, fun b => ?_⟩
  ·cases l <;> exact (by kernel_rfl)
  ·cases b with
   | true => exact (x44b k (by omega) (s, true) l u 0 (.inl rfl)).trans rfl
   | false => exact (x44g k (by omega) s l u).trans rfl
inductive Dec : List UInt8 → Nd → Rd → Prop where
 | mk {s : List UInt8} {a1 a6 a7 a8 a9 a10 a11 a12 a13 a14 a17 a21 a23 : Nat} {b2 b3 b4 b5 : Bool} {l15 l16 l18 : List (Int × Int)} {vs : List Vol} {kp cp : List Wr} {ss qs : List Shot} {r1 r2 r3 r4 r5 r6 r7 r8 r9 r10 r11 r12 r13 r14 r15 r16 r17 r18 r19 r20 r21 r22 r23 r24 r25 : Rd}
  (h1 : nuR 1 (s, false) = (a1, r1)) (h2 : flR r1 = (b2, r2)) (h3 : flR r2 = (b3, r3)) (h4 : flR r3 = (b4, r4)) (h5 : flR r4 = (b5, r5)) (h6 : nuR 1 r5 = (a6, r6))
  (h7 : nuR 8 r6 = (a7, r7)) (h8 : nuR 8 r7 = (a8, r8)) (h9 : nuR 8 r8 = (a9, r9)) (h10 : nuR 8 r9 = (a10, r10)) (h11 : nuR 8 r10 = (a11, r11)) (h12 : nuR 8 r11 = (a12, r12)) (h13 : nuR 8 r12 = (a13, r13)) (h14 : nuR 8 r13 = (a14, r14))
  (h15 : liR r14 = (l15, r15)) (h16 : liR r15 = (l16, r16)) (h17 : nuR 8 r16 = (a17, r17)) (h18 : btR r17 = (l18, r18)) (h19 : vsR r18 = (vs, r19)) (h20 : wrR r19 = (kp, r20)) (h21 : nuR 1 r20 = (a21, r21)) (h22 : shR a21 r21 = (ss, r22)) (h23 : wrR r22 = (cp, r23)) (h24 : nuR 2 r23 = (a23, r24)) (h25 : seR a23 r24 = (qs, r25)) :
  Dec s (endN { ro := a1, st := b2, va := b3, kn := a7, ln := l15, sq := a8, vs := vs, sh := b4, kp := kp, al := l16, aq := a17, ch := l18, ss := ss, sn := a9, md := a6, sy := a10, fu := b5, cp := cp, go := IntKind.wrap .i64 ((a11 : Int) - 1), qs := qs, qo := [], qf := 0, qt := 0, fr := a12, fn := a13, nx := a14 } r25) (endR r25)
def zN : Nd := { ro := 0, st := false, va := false, kn := 0, ln := [], sq := 0, vs := [], sh := false, kp := [], al := [], aq := 0, ch := [], ss := [], sn := 0, md := 0, sy := 0, fu := false, cp := [], go := 0, qs := [], qo := [], qf := 0, qt := 0, fr := 0, fn := 0, nx := 0 }
def outC (n : Nd) (r : Rd) : Res := if r.2 = false ∧ r.1 = [] ∧ nodeOk n = true then some (.tup [.agg (ndL n), .int .i64 0], []) else some (.tup [.agg (ndL zN), .int .i64 3], [])
theorem can11 (ro kn sq aq sn md sy go qf qt fr fn nx : Int) (st va sh fu : Bool) (ln al ch : List (Int × Int)) (vs : List Vol) (kp cp qo : List Wr) (ss qs : List Shot) : cRes (ctR ct 34) (some (.tup [.agg [.int .i64 ro, .bool st, .bool va, .int .i64 kn, lnV ln, .int .i64 sq, vsV vs, .bool sh, wsV kp, lnV al, .int .i64 aq, btsV ch, gsV 3 (ss.map shV), .int .i64 sn, .int .i64 md, .int .i64 sy, .bool fu, wsV cp, .int .i64 go, gsV 3 (qs.map shV), wsV qo, .int .i64 qf, .int .i64 qt, .int .i64 fr, .int .i64 fn, .int .i64 nx], .int .i64 0], [])) = some (.tup [.agg [.int .i64 ro, .bool st, .bool va, .int .i64 kn, lnV ln, .int .i64 sq, vsV vs, .bool sh, wsV kp, lnV al, .int .i64 aq, btsV ch, shsV ss, .int .i64 sn, .int .i64 md, .int .i64 sy, .bool fu, wsV cp, .int .i64 go, shsV qs, wsV qo, .int .i64 qf, .int .i64 qt, .int .i64 fr, .int .i64 fn, .int .i64 nx], .int .i64 0], []) := by
 cases ss <;> cases qs <;> kernel_rfl
theorem can11z : cRes (ctR ct 34) (some (.tup [.agg zdL, .int .i64 3], [])) = some (.tup [.agg (ndL zN), .int .i64 3], []) := by kernel_rfl
theorem outD_C (n : Nd) (r : Rd) : cRes (ctR ct 34) (outD n r) = outC n r := by
 unfold outD outC
 by_cases h : r.2 = false ∧ r.1 = [] ∧ nodeOk n = true
 ·rw [if_pos h, if_pos h]
  exact can11 ..
 ·rw [if_neg h, if_neg h]
  exact can11z
theorem x40e (k : Nat) (hk : 12 ≤ k) {w : Nat} {r r' : Rd} {a : Nat} (h : nuR w r = (a, r')) (hw1 : 1 ≤ w) (hw : w ≤ 8) : W k 73 [.ptr 0 0 0, .int .i64 w] (bxR r) = some (.int .i64 (a : Nat), bxR r') := by
 have := x40 k hk r w hw1 hw
 rwa [h] at this
theorem x40e1 (k : Nat) (hk : 12 ≤ k) {r r' : Rd} {a : Nat} (h : nuR 1 r = (a, r')) : W k 73 [.ptr 0 0 0, .int .i64 1] (bxR r) = some (.int .i64 (a : Nat), bxR r') := x40e (w := 1) k hk h (by omega) (by omega)
theorem x40e8 (k : Nat) (hk : 12 ≤ k) {r r' : Rd} {a : Nat} (h : nuR 8 r = (a, r')) : W k 73 [.ptr 0 0 0, .int .i64 8] (bxR r) = some (.int .i64 (a : Nat), bxR r') := x40e (w := 8) k hk h (by omega) (by omega)
theorem x41e (k : Nat) (hk : 13 ≤ k) {r r' : Rd} {b : Bool} (h : flR r = (b, r')) : W k 74 [.ptr 0 0 0] (bxR r) = some (.bool b, bxR r') := by
 have := x41 k hk r
 rwa [h] at this
theorem x42e (k : Nat) (hk : 1300 ≤ k) {r r' : Rd} {l : List (Int × Int)} (h : liR r = (l, r')) : W k 75 [.ptr 0 0 0] (bxR r) = some (lnV l, bxR r') := by
 have := x42 k hk r
 rwa [h] at this
theorem x46e (k : Nat) (hk : 66200 ≤ k) {r r' : Rd} {l : List Wr} (h : wrR r = (l, r')) : W k 78 [.ptr 0 0 0] (bxR r) = some (wsV l, bxR r') := by
 have := x46 k hk r
 rwa [h] at this
theorem x45e (k : Nat) (hk : 66100 ≤ k) {r r' : Rd} {l : List Vol} (h : vsR r = (l, r')) : W k 77 [.ptr 0 0 0] (bxR r) = some (vsV l, bxR r') := by
 have := x45 k hk r
 rwa [h] at this
theorem nu2_lt {r r' : Rd} {a : Nat} (h : nuR 2 r = (a, r')) : a ≤ 65535 := by
 unfold nuR stp at h
 split at h
 ·simp only [Prod.mk.injEq] at h; omega
 ·split at h
  ·simp only [Prod.mk.injEq] at h; omega
  ·rename_i h2
   simp only [Prod.mk.injEq] at h
   have := (num_lt h2).1
   omega
theorem shots11 (k : Nat) (hk : 70600 ≤ k) (s0 t0 : List UInt8) (l0 : List (Int × Int)) (e0 : Int) (n : Nd) (r0 : Rd) (c : Nat) (hc : c ≤ 255) {ss qs : List Shot} {cp : List Wr} {a23 : Nat} {r22 r23 r24 r25 : Rd} (h22 : shR c r0 = (ss, r22)) (h23 : wrR r22 = (cp, r23)) (h24 : nuR 2 r23 = (a23, r24)) (h25 : seR a23 r24 = (qs, r25)) (hB : (endR r25).2 = false → (endR r25).1 = [] → NdB (endN { n with ss := ss, cp := cp, qs := qs } r25)) (st : St) (hst : st.clean (zDe 34 0) = deS s0 t0 l0 e0 n (.sl 0 true []) r0.1 r0.2 c (0 : Nat)) : loopA (zBy (W k) 34 0 k) (zDe 34 0) (zCt (W k) 34 0 k 0) k st = outD (endN { n with ss := ss, cp := cp, qs := qs } r25) (endR r25) := by
 refine loopA_ind (fun a : Rd × List Shot => deS s0 t0 l0 e0 n (gtV 101 3 (a.2.map shV)) a.1.1 a.1.2 c a.2.length) (fun a => c - a.2.length) (fun a r => a.2.length ≤ c → a.2 ++ (shR (c - a.2.length) a.1).1 = ss → (shR (c - a.2.length) a.1).2 = r22 → r = outD (endN { n with ss := ss, cp := cp, qs := qs } r25) (endR r25)) (fun a m ih h0 g1 g2 => ?_) k (r0, []) st (by simp; omega) hst (by simp) (by simp [h22]) (by simp [h22])
 obtain ⟨v, acc⟩ := a
 simp only at ih h0 g1 g2 ⊢
 have hgo : ∀ (st : St), acc.length < c → st.clean (zDe 34 0) = deS s0 t0 l0 e0 n (gtV 101 3 (acc.map shV ++ [shV (s1R v).1])) (s1R v).2.1 (s1R v).2.2 c ((acc.length + 1 : Nat) : Int) → loopA (zBy (W k) 34 0 k) (zDe 34 0) (zCt (W k) 34 0 k 0) m st = outD (endN { n with ss := ss, cp := cp, qs := qs } r25) (endR r25) := by
  intro st hlt hst
  obtain ⟨d, hd⟩ : ∃ d, c - acc.length = d + 1 := ⟨c - acc.length - 1, by omega⟩
  have hd2 : c - (acc.length + 1) = d := by omega
  rw [hd, shR] at g1 g2
  refine ih ((s1R v).2, acc ++ [(s1R v).1]) st (by simp; omega) (by rw [List.map_append, List.length_append]; exact hst) (by simp; omega) ?_ ?_
  ·simp only [List.length_append, List.length_cons, List.length_nil, Nat.zero_add, hd2, List.append_assoc, List.singleton_append]
   exact g1
  ·simp only [List.length_append, List.length_cons, List.length_nil, Nat.zero_add, hd2]
   exact g2
 have hfin : ¬ acc.length < c → acc = ss ∧ v = r22 := by
  intro hlt
  rw [show c - acc.length = 0 by omega, shR] at g1 g2
  exact ⟨by simpa using g1, g2⟩
 have hw := wi (n := acc.length) (by omega)
 cases acc with
 | nil =>
  rw [List.map_nil, gtV, b11a]
  by_cases hlt : ([] : List Shot).length < c
  ·refine qY (decide_eq_true (by exact_mod_cast hlt)) ?_
   refine qO (x40 k (by omega) v 8 (by omega) (by omega)) ?_
   repeat with_reducible first|apply qT|apply qC|apply qN|apply qS|apply qB|apply qI|apply qA|apply qL
   refine qO (x40 k (by omega) _ 8 (by omega) (by omega)) ?_
   repeat with_reducible first|apply qT|apply qC|apply qN|apply qS|apply qB|apply qI|apply qA|apply qL
   refine qO (x46 k (by omega) _) ?_
   repeat with_reducible first|apply qT|apply qC|apply qN|apply qS|apply qB|apply qI|apply qA|apply qL
   rw [hw]
   exact hgo _ hlt (by kernel_rfl)
  ·obtain ⟨rfl, rfl⟩ := hfin hlt
   refine qX (decide_eq_false (by exact_mod_cast hlt)) ?_
   refine qO (x46e k (by omega) h23) ?_
   repeat with_reducible first|apply qT|apply qC|apply qN|apply qS|apply qB|apply qI|apply qA|apply qL
   refine qO (x40e (w := 2) k (by omega) h24 (by omega) (by omega)) ?_
   repeat with_reducible first|apply qT|apply qC|apply qN|apply qS|apply qB|apply qI|apply qA|apply qL
   exact sets11 k hk s0 t0 l0 e0 { n with ss := [], cp := cp } [] rfl (c : Int) ((([] : List Shot).length : Nat) : Int) (decide (((([] : List Shot).length : Nat) : Int) < (c : Int))) r24 a23 (nu2_lt h24) qs r25 h25 hB _ (by kernel_rfl)
 | cons y z =>
  rw [List.map_cons, gtV, b11]
  by_cases hlt : (y :: z).length < c
  ·refine qY (decide_eq_true (by exact_mod_cast hlt)) ?_
   refine qO (x40 k (by omega) v 8 (by omega) (by omega)) ?_
   repeat with_reducible first|apply qT|apply qC|apply qN|apply qS|apply qB|apply qI|apply qA|apply qL
   refine qO (x40 k (by omega) _ 8 (by omega) (by omega)) ?_
   repeat with_reducible first|apply qT|apply qC|apply qN|apply qS|apply qB|apply qI|apply qA|apply qL
   refine qO (x46 k (by omega) _) ?_
   repeat with_reducible first|apply qT|apply qC|apply qN|apply qS|apply qB|apply qI|apply qA|apply qL
   have hlt2 := hlt
   simp only [List.length_cons] at hlt2
   refine qY (decide_eq_true (by refine ⟨by first | rfl | exact .inr rfl, fitsB_small ?_, ?_⟩ <;> simp only [ofBytes, List.length_map, List.length_append, List.length_cons, List.length_nil] <;> omega)) ?_
   rw [hw]
   exact hgo _ hlt (by kernel_rfl)
  ·obtain ⟨rfl, rfl⟩ := hfin hlt
   refine qX (decide_eq_false (by exact_mod_cast hlt)) ?_
   refine qO (x46e k (by omega) h23) ?_
   repeat with_reducible first|apply qT|apply qC|apply qN|apply qS|apply qB|apply qI|apply qA|apply qL
   refine qO (x40e (w := 2) k (by omega) h24 (by omega) (by omega)) ?_
   repeat with_reducible first|apply qT|apply qC|apply qN|apply qS|apply qB|apply qI|apply qA|apply qL
   exact sets11 k hk s0 t0 l0 e0 { n with ss := y :: z, cp := cp } _ rfl (c : Int) ((((y :: z) : List Shot).length : Nat) : Int) (decide (((((y :: z) : List Shot).length : Nat) : Int) < (c : Int))) r24 a23 (nu2_lt h24) qs r25 h25 hB _ (by kernel_rfl)
theorem pr_ex {α β : Type} (p : α × β) : ∃ a b, p = (a, b) := ⟨p.1, p.2, rfl⟩
theorem x11 (k : Nat) (hk : 70700 ≤ k) (s : List UInt8) : ∃ n r, Dec s n r ∧ ((r.2 = false → r.1 = [] → NdB n) → W k 34 [.str s] [] = outC n r) := by
 obtain ⟨a1, r1, h1⟩ := pr_ex (nuR 1 (s, false))
 obtain ⟨b2, r2, h2⟩ := pr_ex (flR r1)
 obtain ⟨b3, r3, h3⟩ := pr_ex (flR r2)
 obtain ⟨b4, r4, h4⟩ := pr_ex (flR r3)
 obtain ⟨b5, r5, h5⟩ := pr_ex (flR r4)
 obtain ⟨a6, r6, h6⟩ := pr_ex (nuR 1 r5)
 obtain ⟨a7, r7, h7⟩ := pr_ex (nuR 8 r6)
 obtain ⟨a8, r8, h8⟩ := pr_ex (nuR 8 r7)
 obtain ⟨a9, r9, h9⟩ := pr_ex (nuR 8 r8)
 obtain ⟨a10, r10, h10⟩ := pr_ex (nuR 8 r9)
 obtain ⟨a11, r11, h11⟩ := pr_ex (nuR 8 r10)
 obtain ⟨a12, r12, h12⟩ := pr_ex (nuR 8 r11)
 obtain ⟨a13, r13, h13⟩ := pr_ex (nuR 8 r12)
 obtain ⟨a14, r14, h14⟩ := pr_ex (nuR 8 r13)
 obtain ⟨l15, r15, h15⟩ := pr_ex (liR r14)
 obtain ⟨l16, r16, h16⟩ := pr_ex (liR r15)
 obtain ⟨a17, r17, h17⟩ := pr_ex (nuR 8 r16)
 obtain ⟨l18, r18, h18⟩ := pr_ex (btR r17)
 obtain ⟨vs, r19, h19⟩ := pr_ex (vsR r18)
 obtain ⟨kp, r20, h20⟩ := pr_ex (wrR r19)
 obtain ⟨a21, r21, h21⟩ := pr_ex (nuR 1 r20)
 obtain ⟨ss, r22, h22⟩ := pr_ex (shR a21 r21)
 obtain ⟨cp, r23, h23⟩ := pr_ex (wrR r22)
 obtain ⟨a23, r24, h24⟩ := pr_ex (nuR 2 r23)
 obtain ⟨qs, r25, h25⟩ := pr_ex (seR a23 r24)
 refine ⟨_, _, .mk h1 h2 h3 h4 h5 h6 h7 h8 h9 h10 h11 h12 h13 h14 h15 h16 h17 h18 h19 h20 h21 h22 h23 h24 h25, fun hB => ?_⟩
 obtain ⟨k, rfl⟩ := succ1 (show 1 ≤ k by omega)
 rw [← outD_C]
 refine W_tree (vs' := [.str s]) ?_ (by kernel_rfl)
 rw [t11]
 obtain ⟨l0, t0, e0, y1, y2⟩ := bt_ex k (by omega) r17.1
 have y3 := y2 r17.2
 rw [show ((r17.1, r17.2) : Rd) = r17 from rfl, h18] at y3
 have hc := nu1_lt r20
 rw [h21] at hc
 refine qO (x40e1 k (by omega) h1) ?_
 repeat with_reducible first|apply qT|apply qC|apply qN|apply qS|apply qB|apply qI|apply qA|apply qL
 refine qO (x41e k (by omega) h2) ?_
 repeat with_reducible first|apply qT|apply qC|apply qN|apply qS|apply qB|apply qI|apply qA|apply qL
 refine qO (x41e k (by omega) h3) ?_
 repeat with_reducible first|apply qT|apply qC|apply qN|apply qS|apply qB|apply qI|apply qA|apply qL
 refine qO (x41e k (by omega) h4) ?_
 repeat with_reducible first|apply qT|apply qC|apply qN|apply qS|apply qB|apply qI|apply qA|apply qL
 refine qO (x41e k (by omega) h5) ?_
 repeat with_reducible first|apply qT|apply qC|apply qN|apply qS|apply qB|apply qI|apply qA|apply qL
 refine qO (x40e1 k (by omega) h6) ?_
 repeat with_reducible first|apply qT|apply qC|apply qN|apply qS|apply qB|apply qI|apply qA|apply qL
 refine qO (x40e8 k (by omega) h7) ?_
 repeat with_reducible first|apply qT|apply qC|apply qN|apply qS|apply qB|apply qI|apply qA|apply qL
 refine qO (x40e8 k (by omega) h8) ?_
 repeat with_reducible first|apply qT|apply qC|apply qN|apply qS|apply qB|apply qI|apply qA|apply qL
 refine qO (x40e8 k (by omega) h9) ?_
 repeat with_reducible first|apply qT|apply qC|apply qN|apply qS|apply qB|apply qI|apply qA|apply qL
 refine qO (x40e8 k (by omega) h10) ?_
 repeat with_reducible first|apply qT|apply qC|apply qN|apply qS|apply qB|apply qI|apply qA|apply qL
 refine qO (x40e8 k (by omega) h11) ?_
 repeat with_reducible first|apply qT|apply qC|apply qN|apply qS|apply qB|apply qI|apply qA|apply qL
 refine qO (x40e8 k (by omega) h12) ?_
 repeat with_reducible first|apply qT|apply qC|apply qN|apply qS|apply qB|apply qI|apply qA|apply qL
 refine qO (x40e8 k (by omega) h13) ?_
 repeat with_reducible first|apply qT|apply qC|apply qN|apply qS|apply qB|apply qI|apply qA|apply qL
 refine qO (x40e8 k (by omega) h14) ?_
 repeat with_reducible first|apply qT|apply qC|apply qN|apply qS|apply qB|apply qI|apply qA|apply qL
 refine qO (x42e k (by omega) h15) ?_
 repeat with_reducible first|apply qT|apply qC|apply qN|apply qS|apply qB|apply qI|apply qA|apply qL
 refine qO (x42e k (by omega) h16) ?_
 repeat with_reducible first|apply qT|apply qC|apply qN|apply qS|apply qB|apply qI|apply qA|apply qL
 refine qO (x40e8 k (by omega) h17) ?_
 repeat with_reducible first|apply qT|apply qC|apply qN|apply qS|apply qB|apply qI|apply qA|apply qL
 refine qO y1 ?_
 repeat with_reducible first|apply qT|apply qC|apply qN|apply qS|apply qB|apply qI|apply qA|apply qL
 refine qO y3 ?_
 repeat with_reducible first|apply qT|apply qC|apply qN|apply qS|apply qB|apply qI|apply qA|apply qL
 refine qO (x45e k (by omega) h19) ?_
 repeat with_reducible first|apply qT|apply qC|apply qN|apply qS|apply qB|apply qI|apply qA|apply qL
 refine qO (x46e k (by omega) h20) ?_
 repeat with_reducible first|apply qT|apply qC|apply qN|apply qS|apply qB|apply qI|apply qA|apply qL
 refine qO (x40e1 k (by omega) h21) ?_
 repeat with_reducible first|apply qT|apply qC|apply qN|apply qS|apply qB|apply qI|apply qA|apply qL
 exact shots11 k (by omega) s t0 l0 e0 { ro := a1, st := b2, va := b3, kn := a7, ln := l15, sq := a8, vs := vs, sh := b4, kp := kp, al := l16, aq := a17, ch := l18, ss := [], sn := a9, md := a6, sy := a10, fu := b5, cp := [], go := IntKind.wrap .i64 ((a11 : Int) - 1), qs := [], qo := [], qf := 0, qt := 0, fr := a12, fn := a13, nx := a14 } r21 a21 (by simp only at hc; omega) h22 h23 h24 h25 hB _ (by kernel_rfl)
theorem sk_of {s : Shot} (h : Fi s.1 ∧ Fi s.2.1 ∧ wOk s.2.2 = true) : Sk s := ⟨h.1.1, by have := h.1.2; omega, h.2.1.1, by have := h.2.1.2; omega, h.2.2⟩
theorem dec_put {n n' : Nd} {r : Rd} (hr : Rt n) (hu : UM n.ch) (hq : n.qs.length ≤ 65535) (h : Dec (nodeB n) n' r) : n' = n ∧ r = ([], false) := by
 generalize hs : nodeB n = s at h
 obtain ⟨h1, h2, h3, h4, h5, h6, h7, h8, h9, h10, h11, h12, h13, h14, h15, h16, h17, h18, h19, h20, h21, h22, h23, h24, h25⟩ := h
 subst hs
 have gro := hr.ro
 have gmd := hr.md
 have gss := hr.ss
 have ggo := hr.go
 unfold nodeB hdB at h1
 simp only [List.append_assoc, List.singleton_append, List.cons_append, List.nil_append] at h1
 rw [nu_put1 n.ro _ ⟨by omega, by omega⟩] at h1
 simp only [Prod.mk.injEq] at h1
 obtain ⟨rfl, rfl⟩ := h1
 rw [fl_put] at h2
 simp only [Prod.mk.injEq] at h2
 obtain ⟨rfl, rfl⟩ := h2
 rw [fl_put] at h3
 simp only [Prod.mk.injEq] at h3
 obtain ⟨rfl, rfl⟩ := h3
 rw [fl_put] at h4
 simp only [Prod.mk.injEq] at h4
 obtain ⟨rfl, rfl⟩ := h4
 rw [fl_put] at h5
 simp only [Prod.mk.injEq] at h5
 obtain ⟨rfl, rfl⟩ := h5
 rw [nu_put1 n.md _ ⟨by omega, by omega⟩] at h6
 simp only [Prod.mk.injEq] at h6
 obtain ⟨rfl, rfl⟩ := h6
 rw [nu_put8 n.kn _ hr.kn.1 (by have := hr.kn.2; omega)] at h7
 simp only [Prod.mk.injEq] at h7
 obtain ⟨rfl, rfl⟩ := h7
 rw [nu_put8 n.sq _ hr.sq.1 (by have := hr.sq.2; omega)] at h8
 simp only [Prod.mk.injEq] at h8
 obtain ⟨rfl, rfl⟩ := h8
 rw [nu_put8 n.sn _ hr.sn.1 (by have := hr.sn.2; omega)] at h9
 simp only [Prod.mk.injEq] at h9
 obtain ⟨rfl, rfl⟩ := h9
 rw [nu_put8 n.sy _ hr.sy.1 (by have := hr.sy.2; omega)] at h10
 simp only [Prod.mk.injEq] at h10
 obtain ⟨rfl, rfl⟩ := h10
 rw [nu_put8 (n.go + 1) _ (by omega) (by omega)] at h11
 simp only [Prod.mk.injEq] at h11
 obtain ⟨rfl, rfl⟩ := h11
 rw [nu_put8 n.fr _ hr.fr.1 (by have := hr.fr.2; omega)] at h12
 simp only [Prod.mk.injEq] at h12
 obtain ⟨rfl, rfl⟩ := h12
 rw [nu_put8 n.fn _ hr.fn.1 (by have := hr.fn.2; omega)] at h13
 simp only [Prod.mk.injEq] at h13
 obtain ⟨rfl, rfl⟩ := h13
 rw [nu_put8 n.nx _ hr.nx.1 (by have := hr.nx.2; omega)] at h14
 simp only [Prod.mk.injEq] at h14
 obtain ⟨rfl, rfl⟩ := h14
 rw [li_put n.ln _ hr.ln] at h15
 simp only [Prod.mk.injEq] at h15
 obtain ⟨rfl, rfl⟩ := h15
 rw [li_put n.al _ hr.al] at h16
 simp only [Prod.mk.injEq] at h16
 obtain ⟨rfl, rfl⟩ := h16
 rw [nu_put8 n.aq _ hr.aq.1 (by have := hr.aq.2; omega)] at h17
 simp only [Prod.mk.injEq] at h17
 obtain ⟨rfl, rfl⟩ := h17
 rw [bt_put n.ch _ hr.ch hu] at h18
 simp only [Prod.mk.injEq] at h18
 obtain ⟨rfl, rfl⟩ := h18
 rw [vs_put n.vs _ hr.vs] at h19
 simp only [Prod.mk.injEq] at h19
 obtain ⟨rfl, rfl⟩ := h19
 rw [wr_put n.kp _ hr.kp] at h20
 simp only [Prod.mk.injEq] at h20
 obtain ⟨rfl, rfl⟩ := h20
 have f21 := nu_put1 (n.ss.length : Int) (n.ss.flatMap shB ++ (putW n.cp ++ (be 2 n.qs.length ++ (n.qs.flatMap shB ++ (putW n.qo ++ (be8 n.qf ++ be8 n.qt)))))) ⟨by omega, by omega⟩
 rw [Int.toNat_natCast] at f21
 rw [f21] at h21
 simp only [Prod.mk.injEq] at h21
 obtain ⟨rfl, rfl⟩ := h21
 rw [sh_put n.ss _ fun s hs => sk_of (hr.sk s hs)] at h22
 simp only [Prod.mk.injEq] at h22
 obtain ⟨rfl, rfl⟩ := h22
 rw [wr_put n.cp _ hr.cp] at h23
 simp only [Prod.mk.injEq] at h23
 obtain ⟨rfl, rfl⟩ := h23
 rw [nu_put 2 n.qs.length _ (by omega) (by omega)] at h24
 simp only [Prod.mk.injEq] at h24
 obtain ⟨rfl, rfl⟩ := h24
 rw [se_put n.qs _ fun s hs => sk_of (hr.qk s hs)] at h25
 simp only [Prod.mk.injEq] at h25
 obtain ⟨rfl, rfl⟩ := h25
 have w1 : wrR (putW n.qo ++ (be8 n.qf ++ be8 n.qt), false) = (n.qo, (be8 n.qf ++ be8 n.qt, false)) := wr_put n.qo _ hr.qo
 have w2 : nuR 8 (be8 n.qf ++ be8 n.qt, false) = (n.qf.toNat, (be8 n.qt, false)) := nu_put8 n.qf _ hr.qf.1 (by have := hr.qf.2; omega)
 have w3 : nuR 8 (be8 n.qt, false) = (n.qt.toNat, ([], false)) := by
  have := nu_put8 n.qt [] hr.qt.1 (by have := hr.qt.2; omega)
  rwa [List.append_nil] at this
 have g11 : IntKind.wrap .i64 (((n.go + 1).toNat : Int) - 1) = n.go := by
  rw [wrap_small (by omega) (by omega)]
  omega
 unfold endN endR
 rw [w1]
 simp only
 rw [w2]
 simp only
 rw [w3, g11]
 obtain ⟨⟩ := n
 simp only [Nd.mk.injEq, true_and, and_true]
 have t1 := hr.kn.1
 have t2 := hr.sq.1
 have t3 := hr.sn.1
 have t4 := hr.sy.1
 have t5 := hr.fr.1
 have t6 := hr.fn.1
 have t7 := hr.nx.1
 have t8 := hr.aq.1
 have t9 := hr.qf.1
 have t10 := hr.qt.1
 simp only at t1 t2 t3 t4 t5 t6 t7 t8 t9 t10 gro gmd
 refine ⟨?_, ?_, ?_, ?_, ?_, ?_, ?_, ?_, ?_, ?_, ?_, ?_⟩ <;> omega
def IsB (s : List UInt8) (n : Nd) : Prop := nodeOk n = true ∧ NdB n ∧ n.qs.length ≤ 65535 ∧ nodeB n = s
abbrev okB (n : Nd) : Res := some (.tup [.agg (ndL n), .int .i64 0], [])
theorem isB_one {s : List UInt8} {n m : Nd} (h1 : IsB s n) (h2 : IsB s m) : n = m := by
 obtain ⟨r, q, hd, -⟩ := x11 70700 (by omega) s
 obtain ⟨a1, a2, a3, rfl⟩ := h1
 obtain ⟨b1, b2, b3, b4⟩ := h2
 have e1 := (dec_put (rt_of a1 a2.cp) a2.um a3 hd).1
 rw [← b4] at hd
 have e2 := (dec_put (rt_of b1 b2.cp) b2.um b3 hd).1
 rw [← e1, e2]
theorem b9 (F : Fns) (N : Nat) (n : Nd) (s p q : List UInt8) (i : Int) (KN : St → Res) : zBy F 33 0 N (enS n s p q i) (brk (zCt F 33 0 N 0) KN) =
 bif decide (i < ((List.length (List.map shV (Nd.ss n)) : Nat) : Int)) then bif decide (0 ≤ i) then zOp (List.map shV (Nd.ss n))[Int.toNat i]? fun x => zAg x fun cs => zCo cs fun v r => zIn .i64 v fun n_1 => zCo r fun v r => zIn .i64 v fun n_2 => zCo r fun v r => asSl v fun m fl xs => zNi r (zRe (F 69 [AV.sl 1 true [AV.int .i64 n_1, AV.int .i64 n_2]] []) fun v bs => zSt v fun s_1 => zNi bs (zRe (F 72 [AV.sl m fl xs] []) fun v bs => zSt v fun s_2 => zNi bs (bif decide (List.length s_1 + List.length s_2 ≤ 4611686018427387904) then bif decide (List.length s + List.length (s_1 ++ s_2) ≤ 4611686018427387904) then KN { nt := 172, t := [(0, AV.agg (ndL n)), (1, AV.ptr 1 0 0), (2, AV.str []), (3, AV.int .i64 0), (4, AV.str p), (5, AV.int .i64 0), (6, AV.str q), (8, AV.str (s ++ (s_1 ++ s_2))), (10, AV.ptr 10 0 0), (16, AV.bool false), (26, AV.bool false), (108, shsV (Nd.ss n)), (109, AV.int .i64 ((List.length (List.map shV (Nd.ss n)) : Nat) : Int)), (110, AV.int .i64 (IntKind.wrap .i64 (i + 1))), (111, AV.bool (decide (i < ((List.length (List.map shV (Nd.ss n)) : Nat) : Int))))], b := [(1, (ndL n)), (10, [AV.int .i64 n_1, AV.int .i64 n_2, AV.sl m fl xs])], r := [], g := [], rd := [], wr := [] } else none else none))) else none else zRe (F 72 [wsV (Nd.cp n)] []) fun v bs => zSt v fun s_1 => zNi bs (bif decide (List.length s + List.length s_1 ≤ 4611686018427387904) then bif decide (List.length (s ++ s_1) + List.length p ≤ 4611686018427387904) then bif decide (List.length (s ++ s_1 ++ p) ≤ 4611686018427387904) then loopA (zBy F 33 1 N) (zDe 33 1) (zCt F 33 1 N 0) N { nt := 172, t := [(0, AV.agg (ndL n)), (1, AV.ptr 1 0 0), (2, AV.str []), (3, AV.int .i64 0), (4, AV.str p), (5, AV.int .i64 0), (6, AV.str q), (8, AV.str s), (11, AV.tip 134 0 1 (ofBytes (s ++ s_1 ++ p))), (16, AV.bool false), (26, AV.bool false), (108, shsV (Nd.ss n)), (109, AV.int .i64 ((List.length (List.map shV (Nd.ss n)) : Nat) : Int)), (110, AV.int .i64 i), (111, AV.bool (decide (i < ((List.length (List.map shV (Nd.ss n)) : Nat) : Int)))), (137, shsV (Nd.qs n)), (138, AV.int .i64 ((List.length (List.map shV (Nd.qs n)) : Nat) : Int)), (139, AV.int .i64 0)], b := [(1, (ndL n))], r := [], g := [], rd := [], wr := [] } else none else none else none) := by kernel_rfl
def enT (n : Nd) (s p q t : List UInt8) (i j : Int) (b : Bool) : St := ⟨172, [(0, .agg (ndL n)), (1, .ptr 1 0 0), (2, .str []), (3, .int .i64 0), (4, .str p), (5, .int .i64 0), (6, .str q), (8, .str s), (11, .tip 134 0 1 (ofBytes t)), (16, .bool false), (26, .bool false), (108, shsV n.ss), (109, .int .i64 ((List.length (List.map shV n.ss) : Nat) : Int)), (110, .int .i64 i), (111, .bool b), (137, shsV n.qs), (138, .int .i64 ((List.length (List.map shV n.qs) : Nat) : Int)), (139, .int .i64 j)], [(1, ndL n)], [], [], [], []⟩
theorem c9 (F : Fns) (N : Nat) (n : Nd) (s p q t : List UInt8) (i j : Int) (b : Bool) (KN : St → Res) : zBy F 33 1 N (enT n s p q t i j b) (brk (zCt F 33 1 N 0) KN) =
 bif decide (j < ((List.length (List.map shV (Nd.qs n)) : Nat) : Int)) then bif decide (0 ≤ j) then zOp (List.map shV (Nd.qs n))[Int.toNat j]? fun x => zAg x fun cs => zCo cs fun v r => zIn .i64 v fun n_1 => zCo r fun v r => zIn .i64 v fun n_2 => zCo r fun v r => asSl v fun m fl xs => zNi r (zRe (F 69 [AV.sl 1 true [AV.int .i64 n_1, AV.int .i64 n_2]] []) fun v bs => zSt v fun s_1 => zNi bs (bif decide (1 = 1 ∧ fitsB (List.length (ofBytes t) + List.length (ofBytes s_1)) 1 = true ∧ List.length (ofBytes t) + List.length (ofBytes s_1) ≤ 4611686018427387904) then zRe (F 72 [AV.sl m fl xs] []) fun v bs => zSt v fun s_2 => zNi bs (bif decide (1 = 1 ∧ fitsB (List.length (ofBytes t ++ ofBytes s_1) + List.length (ofBytes s_2)) 1 = true ∧ List.length (ofBytes t ++ ofBytes s_1) + List.length (ofBytes s_2) ≤ 4611686018427387904) then KN { nt := 172, t := [(0, AV.agg (ndL n)), (1, AV.ptr 1 0 0), (2, AV.str []), (3, AV.int .i64 0), (4, AV.str p), (5, AV.int .i64 0), (6, AV.str q), (8, AV.str s), (11, AV.tip 134 0 1 (ofBytes t ++ ofBytes s_1 ++ ofBytes s_2)), (13, AV.ptr 13 0 0), (16, AV.bool false), (26, AV.bool false), (108, shsV (Nd.ss n)), (109, AV.int .i64 ((List.length (List.map shV (Nd.ss n)) : Nat) : Int)), (110, AV.int .i64 i), (111, AV.bool b), (137, shsV (Nd.qs n)), (138, AV.int .i64 ((List.length (List.map shV (Nd.qs n)) : Nat) : Int)), (139, AV.int .i64 (IntKind.wrap .i64 (j + 1))), (140, AV.bool (decide (j < ((List.length (List.map shV (Nd.qs n)) : Nat) : Int))))], b := [(1, (ndL n)), (13, [AV.int .i64 n_1, AV.int .i64 n_2, AV.sl m fl xs])], r := [], g := [], rd := [], wr := [] } else none) else none)) else none else zOp (Option.map AV.str (bytesOf (ofBytes t))) fun x => zSt x fun s => zRe (F 72 [wsV (Nd.qo n)] []) fun v bs => zSt v fun s_1 => zNi bs (bif decide (List.length s + List.length s_1 ≤ 4611686018427387904) then zRe (F 69 [AV.sl 1 true [AV.int .i64 (Nd.qf n), AV.int .i64 (Nd.qt n)]] []) fun v bs => zSt v fun s_2 => zNi bs (bif decide (List.length (s ++ s_1) + List.length s_2 ≤ 4611686018427387904) then some (AV.tup [AV.str (s ++ s_1 ++ s_2), AV.int .i64 0], []) else none) else none) := by kernel_rfl
theorem fm2 (p : Int → List UInt8) (a b : Int) : [a, b].flatMap p = p a ++ p b := by simp
theorem getSh (l : List Shot) (i : Nat) (h : i < l.length) : (l.map shV)[Int.toNat (i : Int)]? = some (.agg [.int .i64 l[i].1, .int .i64 l[i].2.1, wsV l[i].2.2]) := getM shV l i h
theorem x26two (k : Nat) (hk : 1100 ≤ k) (a b : Int) (ha : a < 9223372036854775808) (hb : b < 9223372036854775808) : W k 69 [.sl 1 true [.int .i64 a, .int .i64 b]] [] = some (.str (be8 a ++ be8 b), []) := by
 have h := W_arg (x26 k [a, b] hk (by simp; omega) (by simp)) (vs := [AV.sl 1 true [AV.int .i64 a, AV.int .i64 b]]) (by kernel_rfl)
 rw [fm2] at h
 exact h
theorem sets9 (k : Nat) (hk : 70200 ≤ k) (n : Nd) (hr : Rt n) (hb : NdB n) (s p q : List UInt8) (i : Int) (b : Bool) (t0 : List UInt8) (hs : t0.length ≤ 31000000000) (st : St) (hst : st.clean (zDe 33 1) = enT n s p q t0 i (0 : Nat) b) : loopA (zBy (W k) 33 1 k) (zDe 33 1) (zCt (W k) 33 1 k 0) k st = some (.tup [.str (t0 ++ (n.qs.flatMap shB ++ endB n)), .int .i64 0], []) := by
 have hq := hb.qs
 refine loopA_ind (fun a : Nat × List UInt8 => enT n s p q a.2 i a.1 b) (fun a => n.qs.length - a.1) (fun a r => a.1 ≤ n.qs.length → a.2.length ≤ 31000000000 + 3000 * a.1 → r = some (.tup [.str (a.2 ++ ((n.qs.drop a.1).flatMap shB ++ endB n)), .int .i64 0], [])) (fun a m ih h0 h1 => ?_) k (0, t0) st (by simp; omega) hst (by simp) (by simpa using hs)
 obtain ⟨j, t⟩ := a
 simp only at ih h0 h1 ⊢
 rw [c9]
 by_cases hj : j < n.qs.length
 ·obtain ⟨g1, g2, g3⟩ := hr.qk _ (List.getElem_mem hj)
  have e1 := be8_length n.qs[j].1
  have e2 := be8_length n.qs[j].2.1
  have e3 := putW_le g3
  have g4 := hb.qk _ (List.getElem_mem hj)
  refine qY (decide_eq_true (by first | omega | (simp only [List.length_append, List.length_cons, List.length_nil, List.length_map]; omega))) ?_
  refine qY (decide_eq_true (by first | omega | (simp only [List.length_append, List.length_cons, List.length_nil, List.length_map]; omega))) ?_
  refine qP (getSh _ _ hj) ?_
  repeat with_reducible first|apply qT|apply qC|apply qN|apply qS|apply qB|apply qI|apply qA|apply qL
  refine qO (x26two k (by omega) _ _ (by have := g1.2; omega) (by have := g2.2; omega)) ?_
  repeat with_reducible first|apply qT|apply qC|apply qN|apply qS|apply qB|apply qI|apply qA|apply qL
  refine qY (decide_eq_true (by refine ⟨by first | rfl | exact .inr rfl, fitsB_small ?_, ?_⟩ <;> simp only [ofBytes, List.length_map, List.length_append, List.length_cons, List.length_nil] <;> omega)) ?_
  refine qO (x29 k n.qs[j].2.2 (by omega) g4 g3) ?_
  repeat with_reducible first|apply qT|apply qC|apply qN|apply qS|apply qB|apply qI|apply qA|apply qL
  refine qY (decide_eq_true (by refine ⟨by first | rfl | exact .inr rfl, fitsB_small ?_, ?_⟩ <;> simp only [ofBytes, List.length_map, List.length_append, List.length_cons, List.length_nil] <;> omega)) ?_
  rw [ofBytes_append, ofBytes_append, wi (by omega)]
  refine (ih (j + 1, t ++ (be8 n.qs[j].1 ++ be8 n.qs[j].2.1) ++ putW n.qs[j].2.2) _ (by simp; omega) (by kernel_rfl) (by simp; omega) (by simp only [List.length_append]; omega)).trans ?_
  rw [List.drop_eq_getElem_cons hj]
  simp only [List.flatMap_cons, shB, List.append_assoc]
 ·have e1 := be8_length n.qf
  have e2 := be8_length n.qt
  have e3 := putW_le hr.qo
  have f1 := hr.qf.2
  have f2 := hr.qt.2
  refine qX (decide_eq_false (by rw [List.length_map]; omega)) ?_
  refine qP (v := .str t) (by rw [bytesOf_ofBytes]; rfl) ?_
  repeat with_reducible first|apply qT|apply qC|apply qN|apply qS|apply qB|apply qI|apply qA|apply qL
  refine qO (x29 k n.qo (by omega) hb.qo hr.qo) ?_
  repeat with_reducible first|apply qT|apply qC|apply qN|apply qS|apply qB|apply qI|apply qA|apply qL
  refine qY (decide_eq_true (by first | omega | (simp only [List.length_append, List.length_cons, List.length_nil, List.length_map]; omega))) ?_
  refine qO (x26two k (by omega) _ _ (by omega) (by omega)) ?_
  repeat with_reducible first|apply qT|apply qC|apply qN|apply qS|apply qB|apply qI|apply qA|apply qL
  refine qY (decide_eq_true (by first | omega | (simp only [List.length_append, List.length_cons, List.length_nil, List.length_map]; omega))) ?_
  rw [List.drop_eq_nil_of_le (by omega)]
  simp only [List.flatMap_nil, List.nil_append, endB, List.append_assoc]
theorem x9 (k : Nat) (hk : 70700 ≤ k) (n : Nd) (hb : NdB n) (hok : nodeOk n = true) (hq : n.qs.length ≤ 65535) : W k 33 [.agg (ndL n)] [] = some (.tup [.str (nodeB n), .int .i64 0], []) := by
 obtain ⟨k, rfl⟩ := succ1 (show 1 ≤ k by omega)
 refine (W_tree0 (head9 k (by omega) n hb hok hq) (by kernel_rfl)).trans ?_
 have hr := rt_of hok hb.cp
 have hs := hr.ss
 refine loopA_ind (fun a : Nat × List UInt8 => enS n a.2 (be 2 n.qs.length) (putB n.ch) a.1) (fun a => n.ss.length - a.1) (fun a r => a.1 ≤ n.ss.length → a.2.length ≤ 30500000000 + 3000 * a.1 → a.2 ++ (n.ss.drop a.1).flatMap shB = hdB n ++ n.ss.flatMap shB → r = some (.tup [.str (nodeB n), .int .i64 0], [])) (fun a m ih h0 h1 h2 => ?_) k (0, hdB n) _ (by simp; omega) (by kernel_rfl) (by simp) (by simpa using hdB_len hr) rfl
 obtain ⟨i, t⟩ := a
 simp only at ih h0 h1 h2 ⊢
 rw [b9]
 by_cases hi : i < n.ss.length
 ·obtain ⟨g1, g2, g3⟩ := hr.sk _ (List.getElem_mem hi)
  have e1 := be8_length n.ss[i].1
  have e2 := be8_length n.ss[i].2.1
  have e3 := putW_le g3
  have g4 := hb.sk _ (List.getElem_mem hi)
  rw [List.drop_eq_getElem_cons hi] at h2
  refine qY (decide_eq_true (by first | omega | (simp only [List.length_append, List.length_cons, List.length_nil, List.length_map]; omega))) ?_
  refine qY (decide_eq_true (by first | omega | (simp only [List.length_append, List.length_cons, List.length_nil, List.length_map]; omega))) ?_
  refine qP (getSh _ _ hi) ?_
  repeat with_reducible first|apply qT|apply qC|apply qN|apply qS|apply qB|apply qI|apply qA|apply qL
  refine qO (x26two k (by omega) _ _ (by have := g1.2; omega) (by have := g2.2; omega)) ?_
  repeat with_reducible first|apply qT|apply qC|apply qN|apply qS|apply qB|apply qI|apply qA|apply qL
  refine qO (x29 k n.ss[i].2.2 (by omega) g4 g3) ?_
  repeat with_reducible first|apply qT|apply qC|apply qN|apply qS|apply qB|apply qI|apply qA|apply qL
  refine qY (decide_eq_true (by first | omega | (simp only [List.length_append, List.length_cons, List.length_nil, List.length_map]; omega))) ?_
  refine qY (decide_eq_true (by first | omega | (simp only [List.length_append, List.length_cons, List.length_nil, List.length_map]; omega))) ?_
  rw [wi (by omega)]
  refine ih (i + 1, t ++ ((be8 n.ss[i].1 ++ be8 n.ss[i].2.1) ++ putW n.ss[i].2.2)) _ (by simp; omega) (by kernel_rfl) (by simp; omega) (by simp only [List.length_append]; omega) ?_
  rw [← h2]
  simp only [List.flatMap_cons, shB, List.append_assoc]
 ·have e3 := putW_le hr.cp
  rw [List.drop_eq_nil_of_le (by omega), List.flatMap_nil, List.append_nil] at h2
  refine qX (decide_eq_false (by rw [List.length_map]; omega)) ?_
  refine qO (x29 k n.cp (by omega) hb.cp hr.cp) ?_
  repeat with_reducible first|apply qT|apply qC|apply qN|apply qS|apply qB|apply qI|apply qA|apply qL
  have e4 := be2_len n.qs.length
  refine qY (decide_eq_true (by first | omega | (simp only [List.length_append, List.length_cons, List.length_nil, List.length_map]; omega))) ?_
  refine qY (decide_eq_true (by first | omega | (simp only [List.length_append, List.length_cons, List.length_nil, List.length_map]; omega))) ?_
  refine qY (decide_eq_true (by first | omega | (simp only [List.length_append, List.length_cons, List.length_nil, List.length_map]; omega))) ?_
  refine (sets9 k (by omega) n hr hb t (be 2 n.qs.length) (putB n.ch) i (decide ((i : Int) < (((n.ss.map shV).length : Nat) : Int))) (t ++ putW n.cp ++ be 2 n.qs.length) (by simp only [List.length_append, be2_len]; omega) _ (by kernel_rfl)).trans ?_
  rw [h2, nodeB]
  simp only [endB, List.append_assoc]
theorem t21 (F : Fns) (N : Nat) : runOf F 66 N [] [] =
 some (AV.agg [AV.int .i64 2, AV.bool false, AV.bool false, AV.int .i64 0, AV.sl 0 true [], AV.int .i64 0, AV.sl 0 true [], AV.bool false, AV.sl 0 true [], AV.sl 0 true [], AV.int .i64 0, AV.sl 0 true [], AV.sl 0 true [], AV.int .i64 0, AV.int .i64 0, AV.int .i64 0, AV.bool false, AV.sl 0 true [], AV.int .i64 0, AV.sl 0 true [], AV.sl 0 true [], AV.int .i64 0, AV.int .i64 0, AV.int .i64 0, AV.int .i64 0, AV.int .i64 0], []) := by kernel_rfl
theorem t8 (F : Fns) (N : Nat) : runOf F 32 N [] [] =
 zRe (F 66 [] []) fun v bs => zNd v fun n b b_1 n_1 m fl xs n_2 m_1 fl_1 xs_1 b_2 m_2 fl_2 xs_2 m_3 fl_3 xs_3 n_3 m_4 fl_4 xs_4 m_5 fl_5 xs_5 n_4 n_5 n_6 b_3 m_6 fl_6 xs_6 n_7 m_7 fl_7 xs_7 m_8 fl_8 xs_8 n_8 n_9 n_10 n_11 n_12 => (zNi bs (zRe (F 33 [AV.agg [AV.int .i64 n, AV.bool b, AV.bool b_1, AV.int .i64 n_1, AV.sl m fl xs, AV.int .i64 n_2, AV.sl m_1 fl_1 xs_1, AV.bool b_2, AV.sl m_2 fl_2 xs_2, AV.sl m_3 fl_3 xs_3, AV.int .i64 n_3, AV.sl m_4 fl_4 xs_4, AV.sl m_5 fl_5 xs_5, AV.int .i64 n_4, AV.int .i64 n_5, AV.int .i64 n_6, AV.bool b_3, AV.sl m_6 fl_6 xs_6, AV.int .i64 n_7, AV.sl m_7 fl_7 xs_7, AV.sl m_8 fl_8 xs_8, AV.int .i64 n_8, AV.int .i64 n_9, AV.int .i64 n_10, AV.int .i64 n_11, AV.int .i64 n_12]] []) fun v bs => zTC v fun v r => zSt v fun s => zCo r fun v r => zIn .i64 v fun n => zNi r (zNi bs (zRe (F 34 [AV.str s] []) fun v bs => zTC v fun v r => zNd v fun n_13 b b n_14 m fl xs n_15 m fl xs b m fl xs m fl xs n_16 m fl xs m fl xs n_17 n_18 n_19 b m fl xs n_20 m fl xs m fl xs n_21 n_22 n_23 n_24 n_25 => (zCo r fun v r => zIn .i64 v fun n_26 => zNi r (zNi bs (bif (s.length : Int) == 107 then bif n == 0 then bif n_13 == 2 then some (AV.bool (n_26 == 0), []) else some (AV.bool false, []) else some (AV.bool false, []) else some (AV.bool false, [])))))))) := by kernel_rfl
def nA : Nd := { zN with ro := 2 }
theorem nA_ok : nodeOk nA = true := (by kernel_rfl)
theorem nA_len : (nodeB nA).length = 107 := (by kernel_rfl)
theorem nA_B : NdB nA := ⟨by decide, by decide, by decide, by decide, by decide, by simp [UM, nA, zN], by decide, by simp [nA, zN], by decide, by decide, by simp [nA, zN], by decide, by decide⟩
theorem nA_is : IsB (nodeB nA) nA := ⟨nA_ok, nA_B, by decide, rfl⟩
theorem x21 (k : Nat) (hk : 1 ≤ k) : W k 66 [] [] = some (.agg (ndL nA), []) := by
 obtain ⟨k, rfl⟩ := succ1 (show 1 ≤ k by omega)
 exact (W_tree (t21 (W k) k) (by kernel_rfl)).trans (by kernel_rfl)
theorem x11ok (k : Nat) (hk : 70700 ≤ k) {s : List UInt8} {n : Nd} (h : IsB s n) : W k 34 [.str s] [] = okB n := by
 obtain ⟨m, r, hd, hw⟩ := x11 k hk s
 obtain ⟨h1, h2, h3, rfl⟩ := h
 obtain ⟨rfl, rfl⟩ := dec_put (rt_of h1 h2.cp) h2.um h3 hd
 rw [hw fun _ _ => h2]
 unfold outC
 rw [if_pos ⟨rfl, rfl, h1⟩]
theorem x8 (k : Nat) (hk : 70800 ≤ k) : W k 32 [] [] = some (.bool true, []) := by
 obtain ⟨k, rfl⟩ := succ1 (show 1 ≤ k by omega)
 refine (W_tree0 (t8 (W k) k) (by kernel_rfl)).trans ?_
 refine qO (x21 k (by omega)) ?_
 repeat with_reducible first|apply qT|apply qC|apply qN|apply qS|apply qB|apply qI|apply qA|apply qL
 refine qO (x9 k (by omega) nA nA_B nA_ok (by decide)) ?_
 repeat with_reducible first|apply qT|apply qC|apply qN|apply qS|apply qB|apply qI|apply qA|apply qL
 refine qO (x11ok k (by omega) nA_is) ?_
 repeat with_reducible first|apply qT|apply qC|apply qN|apply qS|apply qB|apply qI|apply qA|apply qL
 refine qY (by rw [nA_len]; rfl) ?_
 rfl
theorem small_B {n : Nd} (h : smallN n = true) (hu : UM n.ch) : NdB n := by
 unfold smallN smallV smallQ at h
 simp only [Bool.and_eq_true, decide_eq_true_eq, List.all_eq_true] at h
 obtain ⟨⟨⟨⟨h1, h2, h3, h4, h5⟩, ⟨h6, h7⟩, h8⟩, ⟨h9, h10⟩, h11⟩, h12⟩ := h
 refine ⟨by omega, by omega, by omega, by omega, by omega, hu, by omega, fun s hs => h12 s hs, by omega, by omega, fun s hs => by have := h11 s hs; omega, by omega, ?_⟩
 have e : ∀ l : List Shot, (∀ s ∈ l, s.2.2.length ≤ 60) → (l.flatMap fun s => s.2.2).length ≤ 60 * l.length := by
  intro l
  induction l with
  | nil => simp
  | cons x r ih =>
   intro hl
   have e1 := ih fun s hs => hl s (List.mem_cons_of_mem _ hs)
   have e2 := hl x (List.mem_cons_self ..)
   rw [List.flatMap_cons, List.length_append, List.length_cons]
   omega
 have := e n.qs h11
 omega
theorem vsOk_blocks : ∀ (l : List Vol) (z : Int), vsOk z l = true → ∀ v ∈ l, v.2.length ≤ 32
 | [], z, _ => by simp
 | v :: r, z, h => by
  rw [vsOk, Bool.and_eq_true, Bool.and_eq_true, decide_eq_true_eq] at h
  obtain ⟨⟨h1, h2, h3, h4⟩, h5, h6⟩ := h
  intro u hu
  rcases List.mem_cons.1 hu with rfl | hu
  ·exact h4
  ·exact vsOk_blocks r v.1 h6 u hu
theorem isB_C {s : List UInt8} {n : Nd} (h : IsB s n) : NdC n := by
 obtain ⟨h1, h2, h3, h4⟩ := h
 have hr := rt_of h1 h2.cp
 have hv : ∀ v ∈ n.vs, v.2.length ≤ 32 := by
  have := hr.vs
  rw [vOk, Bool.and_eq_true] at this
  exact vsOk_blocks _ _ this.2
 exact ⟨h2.ln, h2.al, by have := h2.vs; omega, fun v h => by have := hv v h; omega, by have := h2.kp; omega, by have := h2.ch; omega, h2.ss, fun s h => by have := h2.sk s h; omega, by have := h2.cp; omega, h2.qs, fun s h => by have := h2.qk s h; omega, by have := h2.qo; omega⟩
theorem t9l (F : Fns) (N : Nat) (a b : Nd) (more : List UInt8) : runOf F 9 N [.agg (ndL a), .agg (ndL b), .str more] [] =
 zRe (F 31 [AV.agg (ndL a)] []) fun v bs => zBo v fun b_1 => zNi bs (bif !b_1 then zRe (F 32 [] []) fun v bs => zBo v fun b => zNi bs (some (AV.bool b, [])) else zRe (F 31 [AV.agg (ndL b)] []) fun v bs => zBo v fun b_2 => zNi bs (bif !b_2 then zRe (F 32 [] []) fun v bs => zBo v fun b => zNi bs (some (AV.bool b, [])) else zRe (F 33 [AV.agg (ndL a)] []) fun v bs => zTC v fun v r => zSt v fun s => zCo r fun v r => zIn .i64 v fun n => zNi r (zNi bs (zRe (F 33 [AV.agg (ndL b)] []) fun v bs => zTC v fun v r => zSt v fun s_1 => zCo r fun v r => zIn .i64 v fun n_1 => zNi r (zNi bs (bif n != 0 then zRe (F 32 [] []) fun v bs => zBo v fun b => zNi bs (some (AV.bool b, [])) else bif n_1 != 0 then zRe (F 32 [] []) fun v bs => zBo v fun b => zNi bs (some (AV.bool b, [])) else bif decide (List.length s + List.length more ≤ 4611686018427387904) then zRe (F 34 [AV.str (s ++ more)] []) fun v bs => zTC v fun v r => zNd v fun n b_3 b_4 n m fl xs n m fl xs b_5 m fl xs m fl xs n m fl xs m fl xs n n n b_6 m fl xs n m fl xs m fl xs n n n n n => (zCo r fun v r => zIn .i64 v fun n => zNi r (zNi bs (zRe (F 35 [AV.agg (ndL a), AV.agg (ndL b)] []) fun v bs => zBo v fun b => zNi bs (bif (s == s_1) == b then bif (n == 0) == (more == Array.toList (ByteArray.data { data := #[] })) then zRe (F 32 [] []) fun v bs => zBo v fun b => zNi bs (some (AV.bool b, [])) else some (AV.bool false, []) else some (AV.bool false, []))))) else none)))))) := by kernel_rfl
theorem dec_putm {n n' : Nd} {r : Rd} {more : List UInt8} (hr : Rt n) (hu : UM n.ch) (hq : n.qs.length ≤ 65535) (h : Dec (nodeB n ++ more) n' r) : n' = n ∧ r = (more, false) := by
 generalize hs : nodeB n ++ more = s at h
 obtain ⟨h1, h2, h3, h4, h5, h6, h7, h8, h9, h10, h11, h12, h13, h14, h15, h16, h17, h18, h19, h20, h21, h22, h23, h24, h25⟩ := h
 subst hs
 have gro := hr.ro
 have gmd := hr.md
 have gss := hr.ss
 have ggo := hr.go
 unfold nodeB hdB at h1
 simp only [List.append_assoc, List.singleton_append, List.cons_append, List.nil_append] at h1
 rw [nu_put1 n.ro _ ⟨by omega, by omega⟩] at h1
 simp only [Prod.mk.injEq] at h1
 obtain ⟨rfl, rfl⟩ := h1
 rw [fl_put] at h2
 simp only [Prod.mk.injEq] at h2
 obtain ⟨rfl, rfl⟩ := h2
 rw [fl_put] at h3
 simp only [Prod.mk.injEq] at h3
 obtain ⟨rfl, rfl⟩ := h3
 rw [fl_put] at h4
 simp only [Prod.mk.injEq] at h4
 obtain ⟨rfl, rfl⟩ := h4
 rw [fl_put] at h5
 simp only [Prod.mk.injEq] at h5
 obtain ⟨rfl, rfl⟩ := h5
 rw [nu_put1 n.md _ ⟨by omega, by omega⟩] at h6
 simp only [Prod.mk.injEq] at h6
 obtain ⟨rfl, rfl⟩ := h6
 rw [nu_put8 n.kn _ hr.kn.1 (by have := hr.kn.2; omega)] at h7
 simp only [Prod.mk.injEq] at h7
 obtain ⟨rfl, rfl⟩ := h7
 rw [nu_put8 n.sq _ hr.sq.1 (by have := hr.sq.2; omega)] at h8
 simp only [Prod.mk.injEq] at h8
 obtain ⟨rfl, rfl⟩ := h8
 rw [nu_put8 n.sn _ hr.sn.1 (by have := hr.sn.2; omega)] at h9
 simp only [Prod.mk.injEq] at h9
 obtain ⟨rfl, rfl⟩ := h9
 rw [nu_put8 n.sy _ hr.sy.1 (by have := hr.sy.2; omega)] at h10
 simp only [Prod.mk.injEq] at h10
 obtain ⟨rfl, rfl⟩ := h10
 rw [nu_put8 (n.go + 1) _ (by omega) (by omega)] at h11
 simp only [Prod.mk.injEq] at h11
 obtain ⟨rfl, rfl⟩ := h11
 rw [nu_put8 n.fr _ hr.fr.1 (by have := hr.fr.2; omega)] at h12
 simp only [Prod.mk.injEq] at h12
 obtain ⟨rfl, rfl⟩ := h12
 rw [nu_put8 n.fn _ hr.fn.1 (by have := hr.fn.2; omega)] at h13
 simp only [Prod.mk.injEq] at h13
 obtain ⟨rfl, rfl⟩ := h13
 rw [nu_put8 n.nx _ hr.nx.1 (by have := hr.nx.2; omega)] at h14
 simp only [Prod.mk.injEq] at h14
 obtain ⟨rfl, rfl⟩ := h14
 rw [li_put n.ln _ hr.ln] at h15
 simp only [Prod.mk.injEq] at h15
 obtain ⟨rfl, rfl⟩ := h15
 rw [li_put n.al _ hr.al] at h16
 simp only [Prod.mk.injEq] at h16
 obtain ⟨rfl, rfl⟩ := h16
 rw [nu_put8 n.aq _ hr.aq.1 (by have := hr.aq.2; omega)] at h17
 simp only [Prod.mk.injEq] at h17
 obtain ⟨rfl, rfl⟩ := h17
 rw [bt_put n.ch _ hr.ch hu] at h18
 simp only [Prod.mk.injEq] at h18
 obtain ⟨rfl, rfl⟩ := h18
 rw [vs_put n.vs _ hr.vs] at h19
 simp only [Prod.mk.injEq] at h19
 obtain ⟨rfl, rfl⟩ := h19
 rw [wr_put n.kp _ hr.kp] at h20
 simp only [Prod.mk.injEq] at h20
 obtain ⟨rfl, rfl⟩ := h20
 have f21 := nu_put1 (n.ss.length : Int) (n.ss.flatMap shB ++ (putW n.cp ++ (be 2 n.qs.length ++ (n.qs.flatMap shB ++ (putW n.qo ++ (be8 n.qf ++ (be8 n.qt ++ more))))))) ⟨by omega, by omega⟩
 rw [Int.toNat_natCast] at f21
 rw [f21] at h21
 simp only [Prod.mk.injEq] at h21
 obtain ⟨rfl, rfl⟩ := h21
 rw [sh_put n.ss _ fun s hs => sk_of (hr.sk s hs)] at h22
 simp only [Prod.mk.injEq] at h22
 obtain ⟨rfl, rfl⟩ := h22
 rw [wr_put n.cp _ hr.cp] at h23
 simp only [Prod.mk.injEq] at h23
 obtain ⟨rfl, rfl⟩ := h23
 rw [nu_put 2 n.qs.length _ (by omega) (by omega)] at h24
 simp only [Prod.mk.injEq] at h24
 obtain ⟨rfl, rfl⟩ := h24
 rw [se_put n.qs _ fun s hs => sk_of (hr.qk s hs)] at h25
 simp only [Prod.mk.injEq] at h25
 obtain ⟨rfl, rfl⟩ := h25
 have w1 : wrR (putW n.qo ++ (be8 n.qf ++ (be8 n.qt ++ more)), false) = (n.qo, (be8 n.qf ++ (be8 n.qt ++ more), false)) := wr_put n.qo _ hr.qo
 have w2 : nuR 8 (be8 n.qf ++ (be8 n.qt ++ more), false) = (n.qf.toNat, (be8 n.qt ++ more, false)) := nu_put8 n.qf _ hr.qf.1 (by have := hr.qf.2; omega)
 have w3 : nuR 8 (be8 n.qt ++ more, false) = (n.qt.toNat, (more, false)) := nu_put8 n.qt more hr.qt.1 (by have := hr.qt.2; omega)
 have g11 : IntKind.wrap .i64 (((n.go + 1).toNat : Int) - 1) = n.go := by
  rw [wrap_small (by omega) (by omega)]
  omega
 unfold endN endR
 rw [w1]
 simp only
 rw [w2]
 simp only
 rw [w3, g11]
 obtain ⟨⟩ := n
 simp only [Nd.mk.injEq, true_and, and_true]
 have t1 := hr.kn.1
 have t2 := hr.sq.1
 have t3 := hr.sn.1
 have t4 := hr.sy.1
 have t5 := hr.fr.1
 have t6 := hr.fn.1
 have t7 := hr.nx.1
 have t8 := hr.aq.1
 have t9 := hr.qf.1
 have t10 := hr.qt.1
 simp only at t1 t2 t3 t4 t5 t6 t7 t8 t9 t10 gro gmd
 refine ⟨?_, ?_, ?_, ?_, ?_, ?_, ?_, ?_, ?_, ?_, ?_, ?_⟩ <;> omega
theorem shs_le : ∀ (l : List Shot), (∀ s ∈ l, wOk s.2.2 = true) → (l.flatMap shB).length ≤ 3000 * l.length
 | [], _ => by simp
 | s :: r, h => by
  have h1 := shs_le r fun x hx => h x (List.mem_cons_of_mem _ hx)
  have h2 := putW_le (h s (List.mem_cons_self ..))
  have h3 := be8_length s.1
  have h4 := be8_length s.2.1
  rw [List.flatMap_cons, List.length_append, List.length_cons, shB, List.length_append, List.length_append]
  omega
theorem nodeB_le {n : Nd} (hr : Rt n) (hq : n.qs.length ≤ 65535) : (nodeB n).length ≤ 40000000000 := by
 have h1 := hdB_len hr
 have h2 := shs_le n.ss fun s hs => (hr.sk s hs).2.2
 have h3 := shs_le n.qs fun s hs => (hr.qk s hs).2.2
 have h4 := putW_le hr.cp
 have h5 := putW_le hr.qo
 have h6 := be8_length n.qf
 have h7 := be8_length n.qt
 have h8 := hr.ss
 have h9 := be2_len n.qs.length
 unfold nodeB
 generalize hdB n = x1 at *
 generalize n.ss.flatMap shB = x2 at *
 generalize n.qs.flatMap shB = x3 at *
 generalize putW n.cp = x4 at *
 generalize putW n.qo = x5 at *
 generalize be8 n.qf = x6 at *
 generalize be8 n.qt = x7 at *
 generalize be 2 n.qs.length = x8 at *
 simp only [List.length_append]
 omega
theorem small_qs {n : Nd} (h : smallN n = true) : n.qs.length ≤ 65535 := by
 unfold smallN smallQ at h
 simp only [Bool.and_eq_true, decide_eq_true_eq] at h
 omega
theorem x8u (k : Nat) (hk : 70800 ≤ k) : (zRe (W k 32 [] []) fun v bs => zBo v fun b => zNi bs (some (AV.bool b, []))) = some (.bool true, []) := by
 refine qO (x8 k hk) ?_
 repeat with_reducible first|apply qT|apply qC|apply qN|apply qS|apply qB|apply qI|apply qA|apply qL
 rfl
theorem bookApart (k : Nat) (hk : 71200 ≤ k) (a b : Nd) (ha : UM a.ch) (hb : UM b.ch) (more : List UInt8) (hm : more.length ≤ 140737488351232) : W k 9 [.agg (ndL a), .agg (ndL b), .str more] [] = some (.bool true, []) := by
 obtain ⟨k, rfl⟩ := succ1 (show 1 ≤ k by omega)
 refine (W_tree0 (t9l (W k) k a b more) (by kernel_rfl)).trans ?_
 refine qO (x7 k (by omega) a) ?_
 repeat with_reducible first|apply qT|apply qC|apply qN|apply qS|apply qB|apply qI|apply qA|apply qL
 cases hsa : smallN a with
 | false =>
  refine qY rfl ?_
  exact x8u k (by omega)
 | true =>
  refine qX rfl ?_
  refine qO (x7 k (by omega) b) ?_
  repeat with_reducible first|apply qT|apply qC|apply qN|apply qS|apply qB|apply qI|apply qA|apply qL
  cases hsb : smallN b with
  | false =>
   refine qY rfl ?_
   exact x8u k (by omega)
  | true =>
   refine qX rfl ?_
   have hBa := small_B hsa ha
   have hBb := small_B hsb hb
   have hqa := small_qs hsa
   have hqb := small_qs hsb
   cases hoka : nodeOk a with
   | false =>
    refine qO (bad9 k (by omega) a hBa hoka) ?_
    repeat with_reducible first|apply qT|apply qC|apply qN|apply qS|apply qB|apply qI|apply qA|apply qL
    cases hokb : nodeOk b with
    | false =>
     refine qO (bad9 k (by omega) b hBb hokb) ?_
     repeat with_reducible first|apply qT|apply qC|apply qN|apply qS|apply qB|apply qI|apply qA|apply qL
     refine qY rfl ?_
     exact x8u k (by omega)
    | true =>
     refine qO (x9 k (by omega) b hBb hokb hqb) ?_
     repeat with_reducible first|apply qT|apply qC|apply qN|apply qS|apply qB|apply qI|apply qA|apply qL
     refine qY rfl ?_
     exact x8u k (by omega)
   | true =>
    refine qO (x9 k (by omega) a hBa hoka hqa) ?_
    repeat with_reducible first|apply qT|apply qC|apply qN|apply qS|apply qB|apply qI|apply qA|apply qL
    cases hokb : nodeOk b with
    | false =>
     refine qO (bad9 k (by omega) b hBb hokb) ?_
     repeat with_reducible first|apply qT|apply qC|apply qN|apply qS|apply qB|apply qI|apply qA|apply qL
     refine qX rfl ?_
     refine qY rfl ?_
     exact x8u k (by omega)
    | true =>
     refine qO (x9 k (by omega) b hBb hokb hqb) ?_
     repeat with_reducible first|apply qT|apply qC|apply qN|apply qS|apply qB|apply qI|apply qA|apply qL
     refine qX rfl ?_
     refine qX rfl ?_
     have hra := rt_of hoka hBa.cp
     have hle := nodeB_le hra hqa
     refine qY (decide_eq_true (by omega)) ?_
     obtain ⟨n, r, hd, hw⟩ := x11 k (by omega) (nodeB a ++ more)
     obtain ⟨rfl, rfl⟩ := dec_putm hra ha hqa hd
     have hw := hw fun _ _ => hBa
     have hI : IsB (nodeB n) n := ⟨hoka, hBa, hqa, rfl⟩
     have heq : (nodeB n == nodeB b) = eqN n b := by
      cases he : eqN n b with
      | true => rw [(eqN_iff n b).1 he]; simp
      | false =>
       cases hn : (nodeB n == nodeB b) with
       | false => rfl
       | true =>
        have := isB_one hI ⟨hokb, hBb, hqb, (by simpa using hn : nodeB n = nodeB b).symm⟩
        rw [(eqN_iff n b).2 this] at he
        simp at he
     unfold outC at hw
     by_cases hmo : more = []
     ·subst hmo
      rw [if_pos ⟨rfl, rfl, hoka⟩] at hw
      refine qO hw ?_
      repeat with_reducible first|apply qT|apply qC|apply qN|apply qS|apply qB|apply qI|apply qA|apply qL
      refine qO (x13 k (by omega) n b (isB_C hI)) ?_
      repeat with_reducible first|apply qT|apply qC|apply qN|apply qS|apply qB|apply qI|apply qA|apply qL
      refine qY (by rw [heq]; simp) ?_
      refine qY rfl ?_
      exact x8u k (by omega)
     ·rw [if_neg (by simp [hmo])] at hw
      refine qO hw ?_
      repeat with_reducible first|apply qT|apply qC|apply qN|apply qS|apply qB|apply qI|apply qA|apply qL
      refine qO (x13 k (by omega) n b (isB_C hI)) ?_
      repeat with_reducible first|apply qT|apply qC|apply qN|apply qS|apply qB|apply qI|apply qA|apply qL
      refine qY (by rw [heq]; simp) ?_
      refine qY (by rw [show (more == []) = false by simpa using hmo]; rfl) ?_
      exact x8u k (by omega)
section
variable {P : Program} {n t : Nat}
theorem Wt.int1 {k : IntKind} {l : List AV} (hu : P.underlying t = some (.int k)) (h : Wt P (n + 1) t l) : ∃ m, l = [.int k m] ∧ (Lit.int k m).wf = true := by
 unfold Wt at h
 rw [hu] at h
 exact h
theorem Wt.bool1 {l : List AV} (hu : P.underlying t = some .bool) (h : Wt P (n + 1) t l) : ∃ m, l = [.bool m] := by
 unfold Wt at h
 rw [hu] at h
 exact h
theorem Wt.str1 {l : List AV} (hu : P.underlying t = some .string) (h : Wt P (n + 1) t l) : ∃ s, l = [.str s] ∧ s.length ≤ reachBytes := by
 unfold Wt at h
 rw [hu] at h
 exact h
theorem Wt.sl1 {e : Nat} {l : List AV} (hu : P.underlying t = some (.slice e)) (h : Wt P (n + 1) t l) : ∃ xs, l = [.sl (P.cellsOf e) false xs] ∧ xs.length * P.bytesOf e ≤ reachBytes ∧ ∀ x ∈ xs, WtV P n e x := by
 unfold Wt at h
 rw [hu] at h
 exact h
theorem Wt.struct1 {fs : Array Field} {l : List AV} (hu : P.underlying t = some (.struct fs)) (h : Wt P (n + 1) t l) : WtFs P n (fs.toList.map (·.type)) l := by
 unfold Wt at h
 rw [hu] at h
 exact h
theorem WtV.int1 {k : IntKind} {x : AV} (hu : P.underlying t = some (.int k)) (h : WtV P (n + 1) t x) : ∃ m, x = .int k m ∧ (Lit.int k m).wf = true := by
 unfold WtV at h
 rw [hu] at h
 exact h.2
theorem WtV.str1 {x : AV} (hu : P.underlying t = some .string) (h : WtV P (n + 1) t x) : ∃ s, x = .str s ∧ s.length ≤ reachBytes := by
 unfold WtV at h
 rw [hu] at h
 exact h.2
theorem WtV.sl1 {e : Nat} {x : AV} (hu : P.underlying t = some (.slice e)) (h : WtV P (n + 1) t x) : ∃ xs, x = .sl (P.cellsOf e) false xs ∧ xs.length * P.bytesOf e ≤ reachBytes ∧ ∀ x ∈ xs, WtV P n e x := by
 unfold WtV at h
 rw [hu] at h
 exact h.2
theorem WtV.struct1 {fs : Array Field} {x : AV} (hu : P.underlying t = some (.struct fs)) (h : WtV P (n + 1) t x) : ∃ l, x = .agg l ∧ WtFs P n (fs.toList.map (·.type)) l := by
 unfold WtV at h
 rw [hu] at h
 exact h.2
theorem WtFs.cons1 {t : Nat} {ts : List TypeId} {l : List AV} (h : WtFs P n (t :: ts) l) : ∃ a b, l = a ++ b ∧ Wt P n t a ∧ WtFs P n ts b := by
 unfold WtFs at h
 obtain ⟨a, b, h1, _, h2, h3⟩ := h
 exact ⟨a, b, h1, h2, h3⟩
theorem WtFs.nil1 {l : List AV} (h : WtFs P n [] l) : l = [] := by
 unfold WtFs at h
 exact h
end
theorem all_map {α : Type} {f : α → AV} {p : AV → Prop} {q : α → Prop} (h : ∀ x, p x → ∃ a, x = f a ∧ q a) : ∀ xs : List AV, (∀ x ∈ xs, p x) → ∃ l : List α, xs = l.map f ∧ ∀ a ∈ l, q a := by
 intro xs
 induction xs with
 | nil => intro _; exact ⟨[], rfl, by simp⟩
 | cons x r ih =>
  intro hx
  obtain ⟨b, rfl, h1⟩ := h x (hx x (List.mem_cons_self ..))
  obtain ⟨l, rfl, h2⟩ := ih fun y hy => hx y (List.mem_cons_of_mem _ hy)
  exact ⟨b :: l, rfl, by
   intro c hc
   rcases List.mem_cons.1 hc with rfl | hc
   ·exact h1
   ·exact h2 c hc⟩
theorem wf_i64 {m : Int} (h : (Lit.int .i64 m).wf = true) : -9223372036854775808 ≤ m ∧ m < 9223372036854775808 := by
 have e1 : IntKind.min .i64 = -9223372036854775808 := by decide
 have e2 : IntKind.max .i64 = 9223372036854775807 := by decide
 simp only [Lit.wf, e1, e2, Bool.and_eq_true, decide_eq_true_eq] at h
 omega
theorem wf_u64 {m : Int} (h : (Lit.int .u64 m).wf = true) : 0 ≤ m ∧ m < 18446744073709551616 := by
 have e1 : IntKind.min .u64 = 0 := by decide
 have e2 : IntKind.max .u64 = 18446744073709551615 := by decide
 simp only [Lit.wf, e1, e2, Bool.and_eq_true, decide_eq_true_eq] at h
 omega
theorem wt_int {n : Nat} {l : List AV} (h : Wt Try.prog (n + 1) 3 l) : ∃ m, l = [.int .i64 m] ∧ -9223372036854775808 ≤ m ∧ m < 9223372036854775808 := by
 obtain ⟨m, h1, h2⟩ := Wt.int1 Try.underlying3 h
 exact ⟨m, h1, wf_i64 h2⟩
theorem wt_u64 {n : Nat} {l : List AV} (h : Wt Try.prog (n + 1) 136 l) : ∃ m, l = [.int .u64 m] ∧ 0 ≤ m ∧ m < 18446744073709551616 := by
 obtain ⟨m, h1, h2⟩ := Wt.int1 Try.underlying136 h
 exact ⟨m, h1, wf_u64 h2⟩
theorem wt_bool {n : Nat} {l : List AV} (h : Wt Try.prog (n + 1) 4 l) : ∃ m, l = [.bool m] := Wt.bool1 Try.underlying4 h
theorem wt_str {n : Nat} {x : AV} (h : WtV Try.prog (n + 1) 9 x) : ∃ s, x = .str s ∧ s.length ≤ 140737488351232 := WtV.str1 Try.underlying9 h
theorem wt_str' {n : Nat} {l : List AV} (h : Wt Try.prog (n + 1) 9 l) : ∃ s, l = [.str s] ∧ s.length ≤ 140737488351232 := Wt.str1 Try.underlying9 h
theorem wt_branch {n : Nat} {x : AV} (h : WtV Try.prog (n + 2) 91 x) : ∃ b : Int × Int, x = brV b ∧ True := by
 obtain ⟨l, rfl, hl⟩ := WtV.struct1 Try.underlying91 h
 obtain ⟨a, r, rfl, h1, h2⟩ := WtFs.cons1 hl
 obtain ⟨b, r, rfl, h3, h4⟩ := WtFs.cons1 h2
 obtain rfl := WtFs.nil1 h4
 obtain ⟨m, rfl, _, hm⟩ := wt_int h1
 obtain ⟨m', rfl, _, hm'⟩ := wt_int h3
 exact ⟨(m, m'), rfl, trivial⟩
theorem wt_line {n : Nat} {x : List AV} (h : Wt Try.prog (n + 3) 35 x) : ∃ l, x = [lnV l] := by
 obtain ⟨xs, rfl, hx, hall⟩ := Wt.sl1 Try.underlying35 h
 have hc : Try.prog.cellsOf 91 = 2 := by kernel_rfl
 rw [hc]
 obtain ⟨l, rfl, h1⟩ := all_map (fun x hx => wt_branch hx) xs hall
 exact ⟨l, rfl⟩
theorem wt_bit {n : Nat} {x : AV} (h : WtV Try.prog (n + 2) 138 x) : ∃ b : Int × Int, x = btV b ∧ (0 ≤ b.2 ∧ b.2 < 18446744073709551616) := by
 obtain ⟨l, rfl, hl⟩ := WtV.struct1 Try.underlying138 h
 obtain ⟨a, r, rfl, h1, h2⟩ := WtFs.cons1 hl
 obtain ⟨b, r, rfl, h3, h4⟩ := WtFs.cons1 h2
 obtain rfl := WtFs.nil1 h4
 obtain ⟨m, rfl, _, hm⟩ := wt_int h1
 obtain ⟨m', rfl, hm'⟩ := wt_u64 h3
 exact ⟨(m, m'), rfl, hm'⟩
theorem wt_bits {n : Nat} {x : List AV} (h : Wt Try.prog (n + 3) 48 x) : ∃ l, x = [btsV l] ∧ UM l := by
 obtain ⟨xs, rfl, hx, hall⟩ := Wt.sl1 Try.underlying48 h
 have hc : Try.prog.cellsOf 138 = 2 := by kernel_rfl
 rw [hc]
 obtain ⟨l, rfl, h1⟩ := all_map (fun x hx => wt_bit hx) xs hall
 exact ⟨l, rfl, h1⟩
theorem wt_write {n : Nat} {x : AV} (h : WtV Try.prog (n + 2) 78 x) : ∃ w : Wr, x = wrV w ∧ True := by
 obtain ⟨l, rfl, hl⟩ := WtV.struct1 Try.underlying78 h
 obtain ⟨a, r, rfl, h1, h2⟩ := WtFs.cons1 hl
 obtain ⟨b, r, rfl, h3, h4⟩ := WtFs.cons1 h2
 obtain ⟨c, r, rfl, h5, h6⟩ := WtFs.cons1 h4
 obtain rfl := WtFs.nil1 h6
 obtain ⟨m, rfl, _, hm⟩ := wt_int h1
 obtain ⟨m', rfl, _, hm'⟩ := wt_int h3
 obtain ⟨s, rfl, hs⟩ := wt_str' h5
 exact ⟨(m, m', s), rfl, trivial⟩
theorem wt_writes {n : Nat} {x : List AV} (h : Wt Try.prog (n + 3) 22 x) : ∃ l : List Wr, x = [wsV l] := by
 obtain ⟨xs, rfl, hx, hall⟩ := Wt.sl1 Try.underlying22 h
 have hc : Try.prog.cellsOf 78 = 3 := by kernel_rfl
 rw [hc]
 obtain ⟨l, rfl, h1⟩ := all_map (fun x hx => wt_write hx) xs hall
 exact ⟨l, rfl⟩
theorem wt_vol {n : Nat} {x : AV} (h : WtV Try.prog (n + 3) 141 x) : ∃ v : Vol, x = volV false v ∧ True := by
 obtain ⟨l, rfl, hl⟩ := WtV.struct1 Try.underlying141 h
 obtain ⟨a, r, rfl, h1, h2⟩ := WtFs.cons1 hl
 obtain ⟨b, r, rfl, h3, h4⟩ := WtFs.cons1 h2
 obtain rfl := WtFs.nil1 h4
 obtain ⟨m, rfl, _, hm⟩ := wt_int h1
 obtain ⟨xs, rfl, hx, hall⟩ := Wt.sl1 Try.underlying139 h3
 have hc : Try.prog.cellsOf 9 = 1 := by kernel_rfl
 rw [hc]
 obtain ⟨l, rfl, h1⟩ := all_map (fun x hx => wt_str hx) xs hall
 exact ⟨(m, l), rfl, trivial⟩
theorem wt_vols {n : Nat} {x : List AV} (h : Wt Try.prog (n + 4) 64 x) : ∃ l : List Vol, x = [vsV l] := by
 obtain ⟨xs, rfl, hx, hall⟩ := Wt.sl1 Try.underlying64 h
 have hc : Try.prog.cellsOf 141 = 2 := by kernel_rfl
 rw [hc]
 obtain ⟨l, rfl, h1⟩ := all_map (fun x hx => wt_vol hx) xs hall
 exact ⟨l, rfl⟩
theorem wt_fields {n : Nat} {l : List AV} (h : WtFs Try.prog (n + 3) [3, 3, 22] l) : ∃ s : Shot, l = [.int .i64 s.1, .int .i64 s.2.1, wsV s.2.2] := by
 obtain ⟨a, r, rfl, h1, h2⟩ := WtFs.cons1 h
 obtain ⟨b, r, rfl, h3, h4⟩ := WtFs.cons1 h2
 obtain ⟨c, r, rfl, h5, h6⟩ := WtFs.cons1 h4
 obtain rfl := WtFs.nil1 h6
 obtain ⟨m, rfl, _, hm⟩ := wt_int h1
 obtain ⟨m', rfl, _, hm'⟩ := wt_int h3
 obtain ⟨ws, rfl⟩ := wt_writes h5
 exact ⟨(m, m', ws), rfl⟩
theorem wt_shot {n : Nat} {x : AV} (h : WtV Try.prog (n + 4) 112 x) : ∃ v : Shot, x = shV v ∧ True := by
 obtain ⟨l, rfl, hl⟩ := WtV.struct1 Try.underlying112 h
 obtain ⟨s, rfl⟩ := wt_fields hl
 exact ⟨s, rfl, trivial⟩
theorem wt_set {n : Nat} {x : AV} (h : WtV Try.prog (n + 4) 51 x) : ∃ v : Shot, x = shV v ∧ True := by
 obtain ⟨l, rfl, hl⟩ := WtV.struct1 Try.underlying51 h
 obtain ⟨s, rfl⟩ := wt_fields hl
 exact ⟨s, rfl, trivial⟩
theorem wt_shots {n : Nat} {x : List AV} (h : Wt Try.prog (n + 5) 65 x) : ∃ l : List Shot, x = [shsV l] := by
 obtain ⟨xs, rfl, hx, hall⟩ := Wt.sl1 Try.underlying65 h
 have hc : Try.prog.cellsOf 112 = 3 := by kernel_rfl
 rw [hc]
 obtain ⟨l, rfl, h1⟩ := all_map (fun x hx => wt_shot hx) xs hall
 exact ⟨l, rfl⟩
theorem wt_sets {n : Nat} {x : List AV} (h : Wt Try.prog (n + 5) 66 x) : ∃ l : List Shot, x = [shsV l] := by
 obtain ⟨xs, rfl, hx, hall⟩ := Wt.sl1 Try.underlying66 h
 have hc : Try.prog.cellsOf 51 = 3 := by kernel_rfl
 rw [hc]
 obtain ⟨l, rfl, h1⟩ := all_map (fun x hx => wt_set hx) xs hall
 exact ⟨l, rfl⟩
theorem wt_pos {n : Nat} {x : List AV} (h : Wt Try.prog (n + 4) 47 x) : ∃ (l : List (Int × Int)) (z : Int), x = [lnV l, .int .i64 z] := by
 have h := Wt.struct1 Try.underlying47 h
 obtain ⟨a, r, rfl, h1, h2⟩ := WtFs.cons1 h
 obtain ⟨b, r, rfl, h3, h4⟩ := WtFs.cons1 h2
 obtain rfl := WtFs.nil1 h4
 obtain ⟨l, rfl⟩ := wt_line h1
 obtain ⟨m', rfl, _, hm'⟩ := wt_int h3
 exact ⟨l, m', rfl⟩
theorem wt_queue {n : Nat} {x : List AV} (h : Wt Try.prog (n + 6) 68 x) : ∃ (l : List Shot) (w : List Wr) (y z : Int), x = [shsV l, wsV w, .int .i64 y, .int .i64 z] := by
 have h := Wt.struct1 Try.underlying68 h
 obtain ⟨a, r, rfl, h1, h2⟩ := WtFs.cons1 h
 obtain ⟨b, r, rfl, h3, h4⟩ := WtFs.cons1 h2
 obtain ⟨c, r, rfl, h5, h6⟩ := WtFs.cons1 h4
 obtain ⟨d, r, rfl, h7, h8⟩ := WtFs.cons1 h6
 obtain rfl := WtFs.nil1 h8
 obtain ⟨l, rfl⟩ := wt_sets h1
 obtain ⟨w, rfl⟩ := wt_writes h3
 obtain ⟨m, rfl, _, _⟩ := wt_int h5
 obtain ⟨m', rfl, _, _⟩ := wt_int h7
 exact ⟨l, w, m, m', rfl⟩
theorem wt_node {n : Nat} {x : AV} (h : WtV Try.prog (n + 7) 70 x) : ∃ m : Nd, x = .agg (ndL m) ∧ UM m.ch := by
 obtain ⟨l, rfl, h0⟩ := WtV.struct1 Try.underlying70 h
 obtain ⟨a0, r, rfl, g0, h1⟩ := WtFs.cons1 h0
 obtain ⟨a1, r, rfl, g1, h2⟩ := WtFs.cons1 h1
 obtain ⟨a2, r, rfl, g2, h3⟩ := WtFs.cons1 h2
 obtain ⟨a3, r, rfl, g3, h4⟩ := WtFs.cons1 h3
 obtain ⟨a4, r, rfl, g4, h5⟩ := WtFs.cons1 h4
 obtain ⟨a5, r, rfl, g5, h6⟩ := WtFs.cons1 h5
 obtain ⟨a6, r, rfl, g6, h7⟩ := WtFs.cons1 h6
 obtain ⟨a7, r, rfl, g7, h8⟩ := WtFs.cons1 h7
 obtain ⟨a8, r, rfl, g8, h9⟩ := WtFs.cons1 h8
 obtain ⟨a9, r, rfl, g9, h10⟩ := WtFs.cons1 h9
 obtain ⟨a10, r, rfl, g10, h11⟩ := WtFs.cons1 h10
 obtain ⟨a11, r, rfl, g11, h12⟩ := WtFs.cons1 h11
 obtain ⟨a12, r, rfl, g12, h13⟩ := WtFs.cons1 h12
 obtain ⟨a13, r, rfl, g13, h14⟩ := WtFs.cons1 h13
 obtain ⟨a14, r, rfl, g14, h15⟩ := WtFs.cons1 h14
 obtain ⟨a15, r, rfl, g15, h16⟩ := WtFs.cons1 h15
 obtain ⟨a16, r, rfl, g16, h17⟩ := WtFs.cons1 h16
 obtain ⟨a17, r, rfl, g17, h18⟩ := WtFs.cons1 h17
 obtain ⟨a18, r, rfl, g18, h19⟩ := WtFs.cons1 h18
 obtain ⟨a19, r, rfl, g19, h20⟩ := WtFs.cons1 h19
 obtain ⟨a20, r, rfl, g20, h21⟩ := WtFs.cons1 h20
 obtain ⟨a21, r, rfl, g21, h22⟩ := WtFs.cons1 h21
 obtain rfl := WtFs.nil1 h22
 obtain ⟨v0, rfl, _, _⟩ := wt_int g0
 obtain ⟨v1, rfl⟩ := wt_bool g1
 obtain ⟨v2, rfl⟩ := wt_bool g2
 obtain ⟨v3, rfl, _, _⟩ := wt_int g3
 obtain ⟨v4, rfl⟩ := wt_line g4
 obtain ⟨v5, rfl, _, _⟩ := wt_int g5
 obtain ⟨v6, rfl⟩ := wt_vols g6
 obtain ⟨v7, rfl⟩ := wt_bool g7
 obtain ⟨v8, rfl⟩ := wt_writes g8
 obtain ⟨v9, w9, rfl⟩ := wt_pos g9
 obtain ⟨v10, rfl, hu⟩ := wt_bits g10
 obtain ⟨v11, rfl⟩ := wt_shots g11
 obtain ⟨v12, rfl, _, _⟩ := wt_int g12
 obtain ⟨v13, rfl, _, _⟩ := wt_int g13
 obtain ⟨v14, rfl, _, _⟩ := wt_int g14
 obtain ⟨v15, rfl⟩ := wt_bool g15
 obtain ⟨v16, rfl⟩ := wt_writes g16
 obtain ⟨v17, rfl, _, _⟩ := wt_int g17
 obtain ⟨v18, w18, x18, y18, rfl⟩ := wt_queue g18
 obtain ⟨v19, rfl, _, _⟩ := wt_int g19
 obtain ⟨v20, rfl, _, _⟩ := wt_int g20
 obtain ⟨v21, rfl, _, _⟩ := wt_int g21
 exact ⟨⟨v0, v1, v2, v3, v4, v5, v6, v7, v8, v9, w9, v10, v11, v12, v13, v14, v15, v16, v17, v18, w18, x18, y18, v19, v20, v21⟩, rfl, hu⟩
theorem noLs : ∀ f fx, pr.f f = some (.inl fx) → fx.ls = [] := by
 have e : fnl.all (fun p => p.2.ls.isEmpty) = true := by kernel_rfl
 intro f fx h
 have h1 : find f fnl = some fx := by
  have h : mkF fnl [] f = some (.inl fx) := h
  simp only [mkF, find] at h
  cases hf : find f fnl with
  | none => rw [hf] at h; simp at h
  | some g => rw [hf] at h; simp at h; rw [h]
 have h2 : ∀ (l : List (Nat × Fx)), find f l = some fx → ∃ m, (m, fx) ∈ l := by
  intro l
  induction l with
  | nil => simp [find]
  | cons p r ih =>
   obtain ⟨m, v⟩ := p
   intro h
   rw [find] at h
   split at h
   ·simp only [Option.some.injEq] at h
    subst h
    exact ⟨m, List.mem_cons_self ..⟩
   ·obtain ⟨m', hm⟩ := ih h
    exact ⟨m', List.mem_cons_of_mem _ hm⟩
 obtain ⟨m, hm⟩ := h2 fnl h1
 have := List.all_eq_true.1 e _ hm
 simpa using this
theorem W_sound (k : Nat) : SoundF Try.prog (W k) := evW_sound pr_ok noLs old ct k
theorem law_bookApart (avs : List AV) (h : WtArgs Try.prog 9 [70, 70, 9] avs) : ∃ k, W k 9 avs [] = some (.bool true, []) := by
 obtain ⟨x, r, rfl, h1, y, r', rfl, h2, z, r'', rfl, h3, h4⟩ := h
 obtain rfl : r'' = [] := h4
 obtain ⟨a, rfl, ha⟩ := wt_node h1
 obtain ⟨b, rfl, hb⟩ := wt_node h2
 obtain ⟨s, rfl, hs⟩ := wt_str h3
 exact ⟨71200, bookApart 71200 (by omega) a b ha hb s hs⟩
end Go.AM.Ytnhfjkckgicidaa
