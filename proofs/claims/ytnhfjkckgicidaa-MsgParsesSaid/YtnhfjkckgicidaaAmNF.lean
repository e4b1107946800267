/- Volumes of sizes: vols.Blank and ref07.Blank: what they answer, plain. -/
import Derived.Test.YtnhfjkckgicidaaAmNE
set_option linter.unusedVariables false
set_option linter.unusedSimpArgs false
namespace Go.AM.Ytnhfjkckgicidaa
open Go.AM Go.Proofs Go

def flat : List (Int × Int) → List Int
  | [] => []
  | p :: r => p.1 :: p.2 :: flat r
def pairs : List Int → List (Int × Int)
  | a :: b :: r => (a, b) :: pairs r
  | _ => []
theorem pairs_flat : ∀ ps, pairs (flat ps) = ps
  | [] => rfl
  | p :: r => by rw [flat, pairs, pairs_flat r]
theorem flat_length : ∀ ps : List (Int × Int), (flat ps).length = 2 * ps.length
  | [] => rfl
  | p :: r => by rw [flat, List.length_cons, List.length_cons, flat_length r, List.length_cons]; omega
theorem ex_flat : ∀ (n : Nat) (sz : List Int), sz.length = 2 * n → ∃ ps, sz = flat ps
  | 0, sz, h => by
    have := List.length_eq_zero_iff.1 (by omega : sz.length = 0)
    exact ⟨[], this⟩
  | n + 1, sz, h => by
    match sz with
    | [] => simp at h
    | [a] => simp at h; omega
    | a :: b :: r =>
      obtain ⟨ps, hp⟩ := ex_flat n r (by simp only [List.length_cons] at h; omega)
      exact ⟨(a, b) :: ps, by rw [flat, hp]⟩
theorem flat_get : ∀ (ps : List (Int × Int)) (j : Nat) (h : j < ps.length), (flat ps)[2 * j]? = some (ps[j]).1 ∧ (flat ps)[2 * j + 1]? = some (ps[j]).2
  | [], j, h => by simp at h
  | p :: r, 0, h => ⟨rfl, rfl⟩
  | p :: r, j + 1, h => by
    have := flat_get r j (by simpa using h)
    rw [flat, show 2 * (j + 1) = 2 * j + 1 + 1 by omega]
    exact this
theorem getZ (ps : List (Int × Int)) (j : Nat) (h : j < ps.length) (hb : ps.length ≤ 1000) : ((flat ps).map (AV.int .i64))[Int.toNat ((2 * j : Nat) : Int)]? = some (.int .i64 (ps[j]).1) ∧ ((flat ps).map (AV.int .i64))[Int.toNat (IntKind.wrap IntKind.i64 (((2 * j : Nat) : Int) + 1))]? = some (.int .i64 (ps[j]).2) := by
  obtain ⟨h1, h2⟩ := flat_get ps j h
  have hw : IntKind.wrap IntKind.i64 (((2 * j : Nat) : Int) + 1) = ((2 * j + 1 : Nat) : Int) := by rw [wrap_small (by omega) (by omega)]; omega
  rw [hw, Int.toNat_natCast, Int.toNat_natCast, List.getElem?_map, List.getElem?_map, h1, h2]
  exact ⟨rfl, rfl⟩
def blankV (p : Int × Int) : Vol := (p.1, List.replicate p.2.toNat [])
/-- Are sizes those of volumes? -/
def szOk (sz : List Int) : Bool := decide (sz.length % 2 = 0 ∧ sz.length ≤ 8) && ((pairs sz).all (fun p => sizeOk p.2) && vOk ((pairs sz).map blankV))

/-! vols.Blank -/
def vblankS (fl d : Bool) (xs : List AV) (v : AV) (i : Int) : St := ⟨46, [(0, AV.sl 1 fl xs), (2, AV.sl 0 true []), (3, AV.int IntKind.i64 0), (4, v), (5, AV.int IntKind.i64 i), (14, AV.bool d)], [], [], [], [], []⟩
theorem vblank_tree (F : Fns) (N : Nat) (fl : Bool) (xs : List AV) : runOf F 59 N [.sl 1 fl xs] [] =
  bif Int.tmod (((List.length xs : Nat) : Int)) 2 != 0 then some (AV.tup [AV.sl 0 true [], AV.int IntKind.i64 1], []) else bif decide (((List.length xs : Nat) : Int) > 8) then some (AV.tup [AV.sl 0 true [], AV.int IntKind.i64 1], []) else loopA (bodyOf F 59 0 N) (deadOf 59 0) (contOf F 59 0 N 0) N { nt := 46, t := [(0, AV.sl 1 fl xs), (2, AV.sl 0 true []), (3, AV.int IntKind.i64 0), (4, AV.sl 0 true []), (5, AV.int IntKind.i64 0), (14, AV.bool (decide (((List.length xs : Nat) : Int) > 8)))], b := [], r := [], g := [], rd := [], wr := [] } := by kernel_rfl
theorem vblank_body0 (F : Fns) (N : Nat) (fl d : Bool) (xs : List AV) (i : Int) (KN : St → Res) : bodyOf F 59 0 N (vblankS fl d xs (.sl 0 true []) i) (brk (contOf F 59 0 N 0) KN) =
  bif decide (i < ((List.length xs : Nat) : Int)) then bif decide (0 ≤ IntKind.wrap IntKind.i64 (i + 1)) then onOpt xs[Int.toNat (IntKind.wrap IntKind.i64 (i + 1))]? fun x => AM.asInt IntKind.i64 x fun n => onRes (F 92 [AV.int IntKind.i64 n] []) fun v bs => AM.asBool v fun b => asNil bs (bif !b then some (AV.tup [AV.sl 0 true [], AV.int IntKind.i64 1], []) else bif decide (0 ≤ i) then onOpt xs[Int.toNat i]? fun x => AM.asInt IntKind.i64 x fun n => bif decide (0 ≤ IntKind.wrap IntKind.i64 (i + 1)) then onOpt xs[Int.toNat (IntKind.wrap IntKind.i64 (i + 1))]? fun x => AM.asInt IntKind.i64 x fun n_1 => bif decide (n_1 = n_1 ∧ 0 ≤ n_1 ∧ n_1 ≤ 9223372036854775807 ∧ fitsB (Int.toNat n_1) 16 = true) then KN { nt := 46, t := [(0, AV.sl 1 fl xs), (2, AV.sl 0 true []), (3, AV.int IntKind.i64 0), (4, AV.tip 41 0 2 [AV.agg [AV.int IntKind.i64 n, AV.sl 1 true (List.replicate (Int.toNat n_1) (AV.str []))]]), (5, AV.int IntKind.i64 (IntKind.wrap IntKind.i64 (i + 2))), (14, AV.bool d), (18, AV.bool (decide (i < ((List.length xs : Nat) : Int)))), (27, AV.bool !b)], b := [], r := [], g := [], rd := [], wr := [] } else none else none else none) else none else onRes (F 93 [AV.sl 0 true []] []) fun v bs => AM.asBool v fun b => asNil bs (bif !b then some (AV.tup [AV.sl 0 true [], AV.int IntKind.i64 1], []) else some (AV.tup [AV.sl 0 true [], AV.int IntKind.i64 0], [])) := by kernel_rfl
theorem vblank_body1 (F : Fns) (N : Nat) (fl d : Bool) (xs ys : List AV) (i : Int) (KN : St → Res) : bodyOf F 59 0 N (vblankS fl d xs (.tip 41 0 2 ys) i) (brk (contOf F 59 0 N 0) KN) =
  bif decide (i < ((List.length xs : Nat) : Int)) then bif decide (0 ≤ IntKind.wrap IntKind.i64 (i + 1)) then onOpt xs[Int.toNat (IntKind.wrap IntKind.i64 (i + 1))]? fun x => AM.asInt IntKind.i64 x fun n => onRes (F 92 [AV.int IntKind.i64 n] []) fun v bs => AM.asBool v fun b => asNil bs (bif !b then some (AV.tup [AV.sl 0 true [], AV.int IntKind.i64 1], []) else bif decide (0 ≤ i) then onOpt xs[Int.toNat i]? fun x => AM.asInt IntKind.i64 x fun n_1 => bif decide (0 ≤ IntKind.wrap IntKind.i64 (i + 1)) then onOpt xs[Int.toNat (IntKind.wrap IntKind.i64 (i + 1))]? fun x => AM.asInt IntKind.i64 x fun n_2 => bif decide (n_2 = n_2 ∧ 0 ≤ n_2 ∧ n_2 ≤ 9223372036854775807 ∧ fitsB (Int.toNat n_2) 16 = true) then bif decide (2 = 2 ∧ fitsB (List.length ys + List.length [AV.agg [AV.int IntKind.i64 n_1, AV.sl 1 true (List.replicate (Int.toNat n_2) (AV.str []))]]) 32 = true ∧ List.length ys + List.length [AV.agg [AV.int IntKind.i64 n_1, AV.sl 1 true (List.replicate (Int.toNat n_2) (AV.str []))]] ≤ 4611686018427387904) then KN { nt := 46, t := [(0, AV.sl 1 fl xs), (2, AV.sl 0 true []), (3, AV.int IntKind.i64 0), (4, AV.tip 41 0 2 (ys ++ [AV.agg [AV.int IntKind.i64 n_1, AV.sl 1 true (List.replicate (Int.toNat n_2) (AV.str []))]])), (5, AV.int IntKind.i64 (IntKind.wrap IntKind.i64 (i + 2))), (14, AV.bool d), (18, AV.bool (decide (i < ((List.length xs : Nat) : Int)))), (27, AV.bool !b)], b := [], r := [], g := [], rd := [], wr := [] } else none else none else none else none) else none else onRes (F 93 [AV.sl 2 false ys] []) fun v bs => AM.asBool v fun b => asNil bs (bif !b then some (AV.tup [AV.sl 0 true [], AV.int IntKind.i64 1], []) else some (AV.tup [AV.sl 2 false ys, AV.int IntKind.i64 0], [])) := by kernel_rfl
theorem volV_blank (fl : Bool) (p : Int × Int) : AV.agg [AV.int IntKind.i64 p.1, AV.sl 1 fl (List.replicate (Int.toNat p.2) (AV.str []))] = volV fl (blankV p) := by
  simp only [volV, blankV, List.map_replicate]
theorem vblank_loop (k : Nat) (hk : 60 ≤ k) (fl d : Bool) (ps : List (Int × Int)) (hl : ps.length ≤ 4) : ∀ (dd j m : Nat) (acc : List Vol) (st : St), j + dd = ps.length → dd < m → acc ≠ [] → acc.length = j → st.clean (deadOf 59 0) = vblankS fl d ((flat ps).map (AV.int .i64)) (.tip 41 0 2 (acc.map (volV true))) ((2 * j : Nat) : Int) →
    ∃ a f x, loopA (bodyOf (evF pr k) 59 0 k) (deadOf 59 0) (contOf (evF pr k) 59 0 k 0) m st = some (.tup [.sl a f x, .int .i64 (if (ps.drop j).all (fun p => sizeOk p.2) && vOk (acc ++ (ps.drop j).map blankV) then 0 else 1)], []) := by
  intro dd
  induction dd with
  | zero =>
    intro j m acc st hj hm ha hal hst
    obtain ⟨m, rfl⟩ : ∃ m', m = m' + 1 := ⟨m - 1, by omega⟩
    have h1 : ps.drop j = [] := List.drop_eq_nil_of_le (by omega)
    rw [loopA_succ, hst, vblank_body1, List.length_map, flat_length, decide_eq_false (by omega), e93 k false true acc (by omega) (by omega), h1]
    simp only [cond_false, onRes, asBool, asNil, List.map_nil, List.append_nil, List.all_nil, Bool.true_and]
    cases vOk acc with
    | false => exact ⟨_, _, _, rfl⟩
    | true => exact ⟨_, _, _, rfl⟩
  | succ dd ih =>
    intro j m acc st hj hm ha hal hst
    obtain ⟨m, rfl⟩ : ∃ m', m = m' + 1 := ⟨m - 1, by omega⟩
    have hlt : j < ps.length := by omega
    obtain ⟨g1, g2⟩ := getZ ps j hlt (by omega)
    have hw : 0 ≤ IntKind.wrap IntKind.i64 (((2 * j : Nat) : Int) + 1) := by rw [wrap_small (by omega) (by omega)]; omega
    rw [loopA_succ, hst, vblank_body1, List.length_map, flat_length, decide_eq_true (show ((2 * j : Nat) : Int) < ((2 * ps.length : Nat) : Int) by omega), decide_eq_true hw, g1, g2, decide_eq_true (show (0 : Int) ≤ ((2 * j : Nat) : Int) by omega), List.drop_eq_getElem_cons hlt, List.all_cons, List.map_cons]
    simp only [cond_true, onOpt, asInt, if_true]
    rw [e92 k (by omega)]
    simp only [onRes, asBool, asNil]
    generalize hp : ps[j] = p at *
    cases hs : sizeOk p.2 with
    | false => exact ⟨_, _, _, rfl⟩
    | true =>
      have hs2 : 1 ≤ p.2 ∧ p.2 ≤ 32 := by unfold sizeOk at hs; exact of_decide_eq_true hs
      rw [decide_eq_true (show True ∧ 0 ≤ p.2 ∧ p.2 ≤ 9223372036854775807 ∧ fitsB (Int.toNat p.2) 16 = true from ⟨trivial, by omega, by omega, fitsB_small (by omega)⟩), decide_eq_true (by
        refine ⟨trivial, fitsB_small ?_, ?_⟩ <;> simp only [List.length_map, List.length_cons, List.length_nil] <;> omega)]
      simp only [Bool.not_true, cond_true, cond_false, Bool.true_and]
      rw [volV_blank, show IntKind.wrap IntKind.i64 (((2 * j : Nat) : Int) + 2) = ((2 * (j + 1) : Nat) : Int) by (rw [wrap_small (by omega) (by omega)]; omega)]
      obtain ⟨a, f, x, h⟩ := ih (j + 1) m (acc ++ [blankV p]) ⟨46, [(0, AV.sl 1 fl ((flat ps).map (AV.int .i64))), (2, AV.sl 0 true []), (3, AV.int IntKind.i64 0), (4, AV.tip 41 0 2 (acc.map (volV true) ++ [volV true (blankV p)])), (5, AV.int IntKind.i64 ((2 * (j + 1) : Nat) : Int)), (14, AV.bool d), (18, AV.bool true), (27, AV.bool false)], [], [], [], [], []⟩ (by omega) (by omega) (by simp) (by simp [hal]) (by rw [List.map_append]; kernel_rfl)
      rw [List.append_assoc, List.singleton_append] at h
      exact ⟨a, f, x, h⟩
theorem e59 (k : Nat) (hk : 70 ≤ k) (fl : Bool) (sz : List Int) : ∃ a f x, evF pr k 59 [.sl 1 fl (sz.map (AV.int .i64))] [] = some (.tup [.sl a f x, .int .i64 (if szOk sz then 0 else 1)], []) := by
  obtain ⟨k, rfl⟩ : ∃ m, k = m + 1 := ⟨k - 1, by omega⟩
  rw [ev_step _ _ _ _ (by kernel_rfl), vblank_tree, List.length_map]
  have e1 : Int.tmod ((sz.length : Nat) : Int) 2 = ((sz.length % 2 : Nat) : Int) := rfl
  rw [e1, szOk]
  by_cases h2 : sz.length % 2 = 0
  · rw [show (((sz.length % 2 : Nat) : Int) != 0) = false by simp [h2]]
    by_cases h8 : sz.length ≤ 8
    · rw [decide_eq_false (show ¬ ((sz.length : Nat) : Int) > 8 by omega), decide_eq_true ⟨h2, h8⟩]
      simp only [cond_false, Bool.true_and]
      obtain ⟨ps, rfl⟩ := ex_flat (sz.length / 2) sz (by omega)
      rw [pairs_flat]
      rw [flat_length] at h8
      obtain ⟨k', hk'⟩ : ∃ m, k = m + 1 := ⟨k - 1, by omega⟩
      conv => arg 1; intro a; arg 1; intro f; arg 1; intro x; lhs; arg 4; rw [hk']
      rw [loopA_succ]
      have hb : ∃ a f x, bodyOf (evF pr k) 59 0 k (vblankS fl false ((flat ps).map (AV.int .i64)) (.sl 0 true []) ((2 * 0 : Nat) : Int)) (brk (contOf (evF pr k) 59 0 k 0) fun st' => loopA (bodyOf (evF pr k) 59 0 k) (deadOf 59 0) (contOf (evF pr k) 59 0 k 0) k' st') = some (.tup [.sl a f x, .int .i64 (if ps.all (fun p => sizeOk p.2) && vOk (ps.map blankV) then 0 else 1)], []) := by
        rw [vblank_body0]
        cases ps with
        | nil =>
          obtain ⟨k2, hk2⟩ : ∃ m, k = m + 6 := ⟨k - 6, by omega⟩
          have h93 : evF pr k 93 [.sl 0 true []] [] = some (.bool true, []) := by rw [hk2]; exact e93nil k2 0 true
          rw [h93]
          exact ⟨_, _, _, rfl⟩
        | cons p r =>
          have hlt : 0 < (p :: r).length := by simp
          obtain ⟨g1, g2⟩ := getZ (p :: r) 0 hlt (by omega)
          have hw : 0 ≤ IntKind.wrap IntKind.i64 (((2 * 0 : Nat) : Int) + 1) := by rw [wrap_small (by omega) (by omega)]; omega
          rw [List.length_map, flat_length, decide_eq_true (show ((2 * 0 : Nat) : Int) < ((2 * (p :: r).length : Nat) : Int) by simp only [List.length_cons]; omega), decide_eq_true hw, g1, g2, decide_eq_true (show (0 : Int) ≤ ((2 * 0 : Nat) : Int) by omega), List.all_cons, List.map_cons]
          simp only [cond_true, onOpt, asInt, if_true, List.getElem_cons_zero]
          rw [e92 k (by omega)]
          simp only [onRes, asBool, asNil]
          cases hs : sizeOk p.2 with
          | false => exact ⟨_, _, _, rfl⟩
          | true =>
            have hs2 : 1 ≤ p.2 ∧ p.2 ≤ 32 := by unfold sizeOk at hs; exact of_decide_eq_true hs
            rw [decide_eq_true (show True ∧ 0 ≤ p.2 ∧ p.2 ≤ 9223372036854775807 ∧ fitsB (Int.toNat p.2) 16 = true from ⟨trivial, by omega, by omega, fitsB_small (by omega)⟩)]
            simp only [Bool.not_true, cond_true, cond_false, Bool.true_and]
            rw [volV_blank]
            exact vblank_loop k (by omega) fl false (p :: r) (by omega) r.length 1 k' [blankV p] _ (by simp only [List.length_cons]; omega) (by simp only [List.length_cons] at h8; omega) (by simp) rfl (by kernel_rfl)
      have hc : ∀ X, X = bodyOf (evF pr k) 59 0 k (vblankS fl false ((flat ps).map (AV.int .i64)) (.sl 0 true []) ((2 * 0 : Nat) : Int)) (brk (contOf (evF pr k) 59 0 k 0) fun st' => loopA (bodyOf (evF pr k) 59 0 k) (deadOf 59 0) (contOf (evF pr k) 59 0 k 0) k' st') → ∃ a f x, X = some (.tup [.sl a f x, .int .i64 (if ps.all (fun p => sizeOk p.2) && vOk (ps.map blankV) then 0 else 1)], []) := fun X hX => by rw [hX]; exact hb
      exact hc _ (by kernel_rfl)
    · rw [decide_eq_true (show ((sz.length : Nat) : Int) > 8 by omega), decide_eq_false (show ¬ (sz.length % 2 = 0 ∧ sz.length ≤ 8) from fun h => h8 h.2)]
      exact ⟨_, _, _, rfl⟩
  · rw [show (((sz.length % 2 : Nat) : Int) != 0) = true by simp only [bne_iff_ne, ne_eq]; omega, decide_eq_false (show ¬ (sz.length % 2 = 0 ∧ sz.length ≤ 8) from fun h => h2 h.1)]
    exact ⟨_, _, _, rfl⟩

/-! ref07.Blank -/
def rvblankS (fl d : Bool) (xs : List AV) (v : AV) (i : Int) : St := ⟨63, [(0, AV.sl 1 fl xs), (2, AV.sl 0 true []), (3, AV.bool false), (4, v), (5, AV.int IntKind.i64 i), (15, AV.bool d)], [], [], [], [], []⟩
def rvbI (fl d e f : Bool) (xs : List AV) (v : AV) (i z : Int) (w : AV) : St := ⟨63, [(0, AV.sl 1 fl xs), (2, AV.sl 0 true []), (3, AV.bool false), (4, v), (5, AV.int IntKind.i64 i), (6, AV.ptr 6 0 0), (15, AV.bool d), (20, AV.bool e), (36, AV.bool f)], [(6, [AV.int IntKind.i64 z, w])], [], [], [], []⟩
theorem rvblank_tree (F : Fns) (N : Nat) (fl : Bool) (xs : List AV) : runOf F 54 N [.sl 1 fl xs] [] =
  bif decide (((List.length xs : Nat) : Int) > 8) then some (AV.tup [AV.sl 0 true [], AV.bool false], []) else bif Int.tmod (((List.length xs : Nat) : Int)) 2 != 0 then some (AV.tup [AV.sl 0 true [], AV.bool false], []) else loopA (bodyOf F 54 0 N) (deadOf 54 0) (contOf F 54 0 N 0) N { nt := 63, t := [(0, AV.sl 1 fl xs), (2, AV.sl 0 true []), (3, AV.bool false), (4, AV.sl 0 true []), (5, AV.int IntKind.i64 0), (15, AV.bool (Int.tmod (((List.length xs : Nat) : Int)) 2 != 0))], b := [], r := [], g := [], rd := [], wr := [] } := by kernel_rfl
theorem rvblank_body0 (F : Fns) (N : Nat) (fl d : Bool) (xs : List AV) (i : Int) (KN : St → Res) : bodyOf F 54 0 N (rvblankS fl d xs (.sl 0 true []) i) (brk (contOf F 54 0 N 0) KN) =
  bif decide (IntKind.wrap IntKind.i64 (i + 1) < ((List.length xs : Nat) : Int)) then bif decide (0 ≤ IntKind.wrap IntKind.i64 (i + 1)) then onOpt xs[Int.toNat (IntKind.wrap IntKind.i64 (i + 1))]? fun x => AM.asInt IntKind.i64 x fun n => bif decide (n < 1) then some (AV.tup [AV.sl 0 true [], AV.bool false], []) else bif decide (0 ≤ IntKind.wrap IntKind.i64 (i + 1)) then onOpt xs[Int.toNat (IntKind.wrap IntKind.i64 (i + 1))]? fun x => AM.asInt IntKind.i64 x fun n => bif decide (n > 32) then some (AV.tup [AV.sl 0 true [], AV.bool false], []) else bif decide (0 ≤ i) then onOpt xs[Int.toNat i]? fun x => AM.asInt IntKind.i64 x fun n_1 => loopA (bodyOf F 54 1 N) (deadOf 54 1) (contBOf F 54 0 0 N (brk (contOf F 54 0 N 0) KN)) N { nt := 63, t := [(0, AV.sl 1 fl xs), (2, AV.sl 0 true []), (3, AV.bool false), (4, AV.sl 0 true []), (5, AV.int IntKind.i64 i), (6, AV.ptr 6 0 0), (15, AV.bool d), (20, AV.bool (decide (IntKind.wrap IntKind.i64 (i + 1) < ((List.length xs : Nat) : Int)))), (36, AV.bool (decide (n > 32)))], b := [(6, [AV.int IntKind.i64 n_1, AV.sl 0 true []])], r := [], g := [], rd := [], wr := [] } else none else none else none else onRes (F 90 [AV.sl 0 true []] []) fun v bs => AM.asBool v fun b => asNil bs (some (AV.tup [AV.sl 0 true [], AV.bool b], [])) := by kernel_rfl
theorem rvblank_body1 (F : Fns) (N : Nat) (fl d : Bool) (xs ys : List AV) (i : Int) (KN : St → Res) : bodyOf F 54 0 N (rvblankS fl d xs (.tip 59 0 2 ys) i) (brk (contOf F 54 0 N 0) KN) =
  bif decide (IntKind.wrap IntKind.i64 (i + 1) < ((List.length xs : Nat) : Int)) then bif decide (0 ≤ IntKind.wrap IntKind.i64 (i + 1)) then onOpt xs[Int.toNat (IntKind.wrap IntKind.i64 (i + 1))]? fun x => AM.asInt IntKind.i64 x fun n => bif decide (n < 1) then some (AV.tup [AV.sl 0 true [], AV.bool false], []) else bif decide (0 ≤ IntKind.wrap IntKind.i64 (i + 1)) then onOpt xs[Int.toNat (IntKind.wrap IntKind.i64 (i + 1))]? fun x => AM.asInt IntKind.i64 x fun n => bif decide (n > 32) then some (AV.tup [AV.sl 0 true [], AV.bool false], []) else bif decide (0 ≤ i) then onOpt xs[Int.toNat i]? fun x => AM.asInt IntKind.i64 x fun n_1 => loopA (bodyOf F 54 1 N) (deadOf 54 1) (contBOf F 54 0 0 N (brk (contOf F 54 0 N 0) KN)) N { nt := 63, t := [(0, AV.sl 1 fl xs), (2, AV.sl 0 true []), (3, AV.bool false), (4, AV.tip 59 0 2 ys), (5, AV.int IntKind.i64 i), (6, AV.ptr 6 0 0), (15, AV.bool d), (20, AV.bool (decide (IntKind.wrap IntKind.i64 (i + 1) < ((List.length xs : Nat) : Int)))), (36, AV.bool (decide (n > 32)))], b := [(6, [AV.int IntKind.i64 n_1, AV.sl 0 true []])], r := [], g := [], rd := [], wr := [] } else none else none else none else onRes (F 90 [AV.sl 2 false ys] []) fun v bs => AM.asBool v fun b => asNil bs (some (AV.tup [AV.sl 2 false ys, AV.bool b], [])) := by kernel_rfl
theorem rvblank_in00 (F : Fns) (N : Nat) (fl d e f : Bool) (xs : List AV) (i z : Int) (KO KN : St → Res) : bodyOf F 54 1 N (rvbI fl d e f xs (.sl 0 true []) i z (.sl 0 true [])) (brk (contBOf F 54 0 0 N (brk (contOf F 54 0 N 0) KO)) KN) =
  bif decide (0 ≤ IntKind.wrap IntKind.i64 (i + 1)) then onOpt xs[Int.toNat (IntKind.wrap IntKind.i64 (i + 1))]? fun x => AM.asInt IntKind.i64 x fun n => bif decide (((List.length ([] : List AV) : Nat) : Int) < n) then KN { nt := 63, t := [(0, AV.sl 1 fl xs), (2, AV.sl 0 true []), (3, AV.bool false), (4, AV.sl 0 true []), (5, AV.int IntKind.i64 i), (6, AV.ptr 6 0 0), (15, AV.bool d), (20, AV.bool e), (36, AV.bool f), (50, AV.bool (decide (((List.length ([] : List AV) : Nat) : Int) < n)))], b := [(6, [AV.int IntKind.i64 z, AV.tip 54 0 1 [AV.str []]])], r := [], g := [], rd := [], wr := [] } else KO { nt := 63, t := [(0, AV.sl 1 fl xs), (2, AV.sl 0 true []), (3, AV.bool false), (4, AV.tip 59 0 2 [AV.agg [AV.int IntKind.i64 z, AV.sl 0 true []]]), (5, AV.int IntKind.i64 (IntKind.wrap IntKind.i64 (i + 2))), (6, AV.ptr 6 0 0), (15, AV.bool d), (20, AV.bool e), (36, AV.bool f), (50, AV.bool (decide (((List.length ([] : List AV) : Nat) : Int) < n)))], b := [(6, [AV.int IntKind.i64 z, AV.sl 0 true []])], r := [], g := [], rd := [], wr := [] } else none := by kernel_rfl
theorem rvblank_in01 (F : Fns) (N : Nat) (fl d e f : Bool) (xs zs : List AV) (i z : Int) (KO KN : St → Res) : bodyOf F 54 1 N (rvbI fl d e f xs (.sl 0 true []) i z (.tip 54 0 1 zs)) (brk (contBOf F 54 0 0 N (brk (contOf F 54 0 N 0) KO)) KN) =
  bif decide (0 ≤ IntKind.wrap IntKind.i64 (i + 1)) then onOpt xs[Int.toNat (IntKind.wrap IntKind.i64 (i + 1))]? fun x => AM.asInt IntKind.i64 x fun n => bif decide (((List.length zs : Nat) : Int) < n) then bif decide (1 = 1 ∧ fitsB (List.length zs + List.length [AV.str []]) 16 = true ∧ List.length zs + List.length [AV.str []] ≤ 4611686018427387904) then KN { nt := 63, t := [(0, AV.sl 1 fl xs), (2, AV.sl 0 true []), (3, AV.bool false), (4, AV.sl 0 true []), (5, AV.int IntKind.i64 i), (6, AV.ptr 6 0 0), (15, AV.bool d), (20, AV.bool e), (36, AV.bool f), (50, AV.bool (decide (((List.length zs : Nat) : Int) < n)))], b := [(6, [AV.int IntKind.i64 z, AV.tip 54 0 1 (zs ++ [AV.str []])])], r := [], g := [], rd := [], wr := [] } else none else KO { nt := 63, t := [(0, AV.sl 1 fl xs), (2, AV.sl 0 true []), (3, AV.bool false), (4, AV.tip 59 0 2 [AV.agg [AV.int IntKind.i64 z, AV.sl 1 false zs]]), (5, AV.int IntKind.i64 (IntKind.wrap IntKind.i64 (i + 2))), (6, AV.ptr 6 0 0), (15, AV.bool d), (20, AV.bool e), (36, AV.bool f), (50, AV.bool (decide (((List.length zs : Nat) : Int) < n)))], b := [(6, [AV.int IntKind.i64 z, AV.tip 54 0 1 zs])], r := [], g := [], rd := [], wr := [] } else none := by kernel_rfl
theorem rvblank_in10 (F : Fns) (N : Nat) (fl d e f : Bool) (xs ys : List AV) (i z : Int) (KO KN : St → Res) : bodyOf F 54 1 N (rvbI fl d e f xs (.tip 59 0 2 ys) i z (.sl 0 true [])) (brk (contBOf F 54 0 0 N (brk (contOf F 54 0 N 0) KO)) KN) =
  bif decide (0 ≤ IntKind.wrap IntKind.i64 (i + 1)) then onOpt xs[Int.toNat (IntKind.wrap IntKind.i64 (i + 1))]? fun x => AM.asInt IntKind.i64 x fun n => bif decide (((List.length ([] : List AV) : Nat) : Int) < n) then KN { nt := 63, t := [(0, AV.sl 1 fl xs), (2, AV.sl 0 true []), (3, AV.bool false), (4, AV.tip 59 0 2 ys), (5, AV.int IntKind.i64 i), (6, AV.ptr 6 0 0), (15, AV.bool d), (20, AV.bool e), (36, AV.bool f), (50, AV.bool (decide (((List.length ([] : List AV) : Nat) : Int) < n)))], b := [(6, [AV.int IntKind.i64 z, AV.tip 54 0 1 [AV.str []]])], r := [], g := [], rd := [], wr := [] } else bif decide (2 = 2 ∧ fitsB (List.length ys + List.length [AV.agg [AV.int IntKind.i64 z, AV.sl 0 true []]]) 32 = true ∧ List.length ys + List.length [AV.agg [AV.int IntKind.i64 z, AV.sl 0 true []]] ≤ 4611686018427387904) then KO { nt := 63, t := [(0, AV.sl 1 fl xs), (2, AV.sl 0 true []), (3, AV.bool false), (4, AV.tip 59 0 2 (ys ++ [AV.agg [AV.int IntKind.i64 z, AV.sl 0 true []]])), (5, AV.int IntKind.i64 (IntKind.wrap IntKind.i64 (i + 2))), (6, AV.ptr 6 0 0), (15, AV.bool d), (20, AV.bool e), (36, AV.bool f), (50, AV.bool (decide (((List.length ([] : List AV) : Nat) : Int) < n)))], b := [(6, [AV.int IntKind.i64 z, AV.sl 0 true []])], r := [], g := [], rd := [], wr := [] } else none else none := by kernel_rfl
theorem rvblank_in11 (F : Fns) (N : Nat) (fl d e f : Bool) (xs ys zs : List AV) (i z : Int) (KO KN : St → Res) : bodyOf F 54 1 N (rvbI fl d e f xs (.tip 59 0 2 ys) i z (.tip 54 0 1 zs)) (brk (contBOf F 54 0 0 N (brk (contOf F 54 0 N 0) KO)) KN) =
  bif decide (0 ≤ IntKind.wrap IntKind.i64 (i + 1)) then onOpt xs[Int.toNat (IntKind.wrap IntKind.i64 (i + 1))]? fun x => AM.asInt IntKind.i64 x fun n => bif decide (((List.length zs : Nat) : Int) < n) then bif decide (1 = 1 ∧ fitsB (List.length zs + List.length [AV.str []]) 16 = true ∧ List.length zs + List.length [AV.str []] ≤ 4611686018427387904) then KN { nt := 63, t := [(0, AV.sl 1 fl xs), (2, AV.sl 0 true []), (3, AV.bool false), (4, AV.tip 59 0 2 ys), (5, AV.int IntKind.i64 i), (6, AV.ptr 6 0 0), (15, AV.bool d), (20, AV.bool e), (36, AV.bool f), (50, AV.bool (decide (((List.length zs : Nat) : Int) < n)))], b := [(6, [AV.int IntKind.i64 z, AV.tip 54 0 1 (zs ++ [AV.str []])])], r := [], g := [], rd := [], wr := [] } else none else bif decide (2 = 2 ∧ fitsB (List.length ys + List.length [AV.agg [AV.int IntKind.i64 z, AV.sl 1 false zs]]) 32 = true ∧ List.length ys + List.length [AV.agg [AV.int IntKind.i64 z, AV.sl 1 false zs]] ≤ 4611686018427387904) then KO { nt := 63, t := [(0, AV.sl 1 fl xs), (2, AV.sl 0 true []), (3, AV.bool false), (4, AV.tip 59 0 2 (ys ++ [AV.agg [AV.int IntKind.i64 z, AV.sl 1 false zs]])), (5, AV.int IntKind.i64 (IntKind.wrap IntKind.i64 (i + 2))), (6, AV.ptr 6 0 0), (15, AV.bool d), (20, AV.bool e), (36, AV.bool f), (50, AV.bool (decide (((List.length zs : Nat) : Int) < n)))], b := [(6, [AV.int IntKind.i64 z, AV.tip 54 0 1 zs])], r := [], g := [], rd := [], wr := [] } else none else none := by kernel_rfl
/-- The state behind the inner loop. -/
def rvbO (fl d e f : Bool) (xs vs : List AV) (i z : Int) (zs : List AV) : St := ⟨63, [(0, AV.sl 1 fl xs), (2, AV.sl 0 true []), (3, AV.bool false), (4, AV.tip 59 0 2 vs), (5, AV.int IntKind.i64 (IntKind.wrap IntKind.i64 (i + 2))), (6, AV.ptr 6 0 0), (15, AV.bool d), (20, AV.bool e), (36, AV.bool f), (50, AV.bool false)], [(6, [AV.int IntKind.i64 z, AV.tip 54 0 1 zs])], [], [], [], []⟩
theorem rvb_in01 (F : Fns) (N : Nat) (fl d e f : Bool) (xs : List AV) (i z : Int) (n : Nat) (hn : n ≤ 1000) (hw : 0 ≤ IntKind.wrap IntKind.i64 (i + 1)) (hx : xs[Int.toNat (IntKind.wrap IntKind.i64 (i + 1))]? = some (.int .i64 (n : Int))) (KO : St → Res) : ∀ (dd c m : Nat) (st : St), c + dd = n → dd < m → st.clean (deadOf 54 1) = rvbI fl d e f xs (.sl 0 true []) i z (.tip 54 0 1 (List.replicate c (.str []))) →
    loopA (bodyOf F 54 1 N) (deadOf 54 1) (contBOf F 54 0 0 N (brk (contOf F 54 0 N 0) KO)) m st = KO (rvbO fl d e f xs [.agg [.int .i64 z, .sl 1 false (List.replicate n (.str []))]] i z (List.replicate n (.str []))) := by
  intro dd
  induction dd with
  | zero =>
    intro c m st hc hm hst
    obtain ⟨m, rfl⟩ : ∃ m', m = m' + 1 := ⟨m - 1, by omega⟩
    rw [loopA_succ, hst, rvblank_in01, decide_eq_true hw, hx]
    simp only [cond_true, onOpt, asInt, if_true, List.length_replicate]
    rw [decide_eq_false (by omega), show c = n by omega]
    rfl
  | succ dd ih =>
    intro c m st hc hm hst
    obtain ⟨m, rfl⟩ : ∃ m', m = m' + 1 := ⟨m - 1, by omega⟩
    rw [loopA_succ, hst, rvblank_in01, decide_eq_true hw, hx]
    simp only [cond_true, onOpt, asInt, if_true, List.length_replicate]
    rw [decide_eq_true (show ((c : Nat) : Int) < n by omega), decide_eq_true (by
      refine ⟨trivial, fitsB_small ?_, ?_⟩ <;> simp only [List.length_cons, List.length_nil] <;> omega)]
    simp only [cond_true]
    exact ih (c + 1) m _ (by omega) (by omega) (by rw [List.replicate_succ']; kernel_rfl)
theorem rvb_in11 (F : Fns) (N : Nat) (fl d e f : Bool) (xs ys : List AV) (hy : ys.length ≤ 1000) (i z : Int) (n : Nat) (hn : n ≤ 1000) (hw : 0 ≤ IntKind.wrap IntKind.i64 (i + 1)) (hx : xs[Int.toNat (IntKind.wrap IntKind.i64 (i + 1))]? = some (.int .i64 (n : Int))) (KO : St → Res) : ∀ (dd c m : Nat) (st : St), c + dd = n → dd < m → st.clean (deadOf 54 1) = rvbI fl d e f xs (.tip 59 0 2 ys) i z (.tip 54 0 1 (List.replicate c (.str []))) →
    loopA (bodyOf F 54 1 N) (deadOf 54 1) (contBOf F 54 0 0 N (brk (contOf F 54 0 N 0) KO)) m st = KO (rvbO fl d e f xs (ys ++ [.agg [.int .i64 z, .sl 1 false (List.replicate n (.str []))]]) i z (List.replicate n (.str []))) := by
  intro dd
  induction dd with
  | zero =>
    intro c m st hc hm hst
    obtain ⟨m, rfl⟩ : ∃ m', m = m' + 1 := ⟨m - 1, by omega⟩
    rw [loopA_succ, hst, rvblank_in11, decide_eq_true hw, hx]
    simp only [cond_true, onOpt, asInt, if_true, List.length_replicate]
    rw [decide_eq_false (by omega), show c = n by omega]
    simp only [cond_false]
    rw [decide_eq_true (by
      refine ⟨trivial, fitsB_small ?_, ?_⟩ <;> simp only [List.length_cons, List.length_nil] <;> omega)]
    rfl
  | succ dd ih =>
    intro c m st hc hm hst
    obtain ⟨m, rfl⟩ : ∃ m', m = m' + 1 := ⟨m - 1, by omega⟩
    rw [loopA_succ, hst, rvblank_in11, decide_eq_true hw, hx]
    simp only [cond_true, onOpt, asInt, if_true, List.length_replicate]
    rw [decide_eq_true (show ((c : Nat) : Int) < n by omega), decide_eq_true (by
      refine ⟨trivial, fitsB_small ?_, ?_⟩ <;> simp only [List.length_cons, List.length_nil] <;> omega)]
    simp only [cond_true]
    exact ih (c + 1) m _ (by omega) (by omega) (by rw [List.replicate_succ']; kernel_rfl)
theorem volV_blank' (p : Int × Int) : AV.agg [AV.int IntKind.i64 p.1, AV.sl 1 false (List.replicate p.2.toNat (AV.str []))] = volV false (blankV p) := volV_blank false p
theorem rvblank_loop (k : Nat) (hk : 80 ≤ k) (fl d : Bool) (ps : List (Int × Int)) (hl : ps.length ≤ 4) : ∀ (dd j m : Nat) (acc : List Vol) (st : St), j + dd = ps.length → dd < m → acc ≠ [] → acc.length = j → st.clean (deadOf 54 0) = rvblankS fl d ((flat ps).map (AV.int .i64)) (.tip 59 0 2 (acc.map (volV false))) ((2 * j : Nat) : Int) →
    ∃ a f x, loopA (bodyOf (evF pr k) 54 0 k) (deadOf 54 0) (contOf (evF pr k) 54 0 k 0) m st = some (.tup [.sl a f x, .bool ((ps.drop j).all (fun p => sizeOk p.2) && vOk (acc ++ (ps.drop j).map blankV))], []) := by
  intro dd
  induction dd with
  | zero =>
    intro j m acc st hj hm ha hal hst
    obtain ⟨m, rfl⟩ : ∃ m', m = m' + 1 := ⟨m - 1, by omega⟩
    have h1 : ps.drop j = [] := List.drop_eq_nil_of_le (by omega)
    rw [loopA_succ, hst, rvblank_body1, List.length_map, flat_length, decide_eq_false (by rw [wrap_small (by omega) (by omega)]; omega), e90 k false false acc (by omega), h1]
    simp only [cond_false, onRes, asBool, asNil, List.map_nil, List.append_nil, List.all_nil, Bool.true_and]
    exact ⟨_, _, _, rfl⟩
  | succ dd ih =>
    intro j m acc st hj hm ha hal hst
    obtain ⟨m, rfl⟩ : ∃ m', m = m' + 1 := ⟨m - 1, by omega⟩
    have hlt : j < ps.length := by omega
    obtain ⟨g1, g2⟩ := getZ ps j hlt (by omega)
    have hw : 0 ≤ IntKind.wrap IntKind.i64 (((2 * j : Nat) : Int) + 1) := by rw [wrap_small (by omega) (by omega)]; omega
    rw [loopA_succ, hst, rvblank_body1, List.length_map, flat_length, decide_eq_true (show IntKind.wrap IntKind.i64 (((2 * j : Nat) : Int) + 1) < ((2 * ps.length : Nat) : Int) by (rw [wrap_small (by omega) (by omega)]; omega)), decide_eq_true hw, g1, g2, decide_eq_true (show (0 : Int) ≤ ((2 * j : Nat) : Int) by omega), List.drop_eq_getElem_cons hlt, List.all_cons, List.map_cons]
    simp only [cond_true, onOpt, asInt, if_true]
    generalize hp : ps[j] = p at *
    by_cases h1 : p.2 < 1
    · rw [decide_eq_true h1, show sizeOk p.2 = false by unfold sizeOk; rw [decide_eq_false_iff_not]; omega]
      exact ⟨_, _, _, rfl⟩
    by_cases h2 : p.2 > 32
    · rw [decide_eq_false h1, decide_eq_true h2, show sizeOk p.2 = false by unfold sizeOk; rw [decide_eq_false_iff_not]; omega]
      exact ⟨_, _, _, rfl⟩
    rw [decide_eq_false h1, decide_eq_false h2, show sizeOk p.2 = true from decide_eq_true (by omega)]
    simp only [cond_false, Bool.true_and]
    have hn : p.2 = ((p.2.toNat : Nat) : Int) := by omega
    have hx : ((flat ps).map (AV.int .i64))[Int.toNat (IntKind.wrap IntKind.i64 (((2 * j : Nat) : Int) + 1))]? = some (.int .i64 ((p.2.toNat : Nat) : Int)) := by rw [g2, ← hn]
    have hin : ∀ st' : St, st'.clean (deadOf 54 1) = rvbI fl d true false ((flat ps).map (AV.int .i64)) (.tip 59 0 2 (acc.map (volV false))) ((2 * j : Nat) : Int) p.1 (.sl 0 true []) →
        loopA (bodyOf (evF pr k) 54 1 k) (deadOf 54 1) (contBOf (evF pr k) 54 0 0 k (brk (contOf (evF pr k) 54 0 k 0) fun st' => loopA (bodyOf (evF pr k) 54 0 k) (deadOf 54 0) (contOf (evF pr k) 54 0 k 0) m st')) k st' = loopA (bodyOf (evF pr k) 54 0 k) (deadOf 54 0) (contOf (evF pr k) 54 0 k 0) m (rvbO fl d true false ((flat ps).map (AV.int .i64)) (acc.map (volV false) ++ [volV false (blankV p)]) ((2 * j : Nat) : Int) p.1 (List.replicate p.2.toNat (.str []))) := by
      intro st' hst'
      obtain ⟨k', hk'⟩ : ∃ m, k = m + 1 := ⟨k - 1, by omega⟩
      conv => lhs; arg 4; rw [hk']
      rw [loopA_succ, hst', rvblank_in10, decide_eq_true hw, hx]
      simp only [cond_true, onOpt, asInt, if_true, List.length_nil]
      rw [decide_eq_true (show (((0 : Nat)) : Int) < ((p.2.toNat : Nat) : Int) by omega)]
      simp only [cond_true]
      refine (rvb_in11 (evF pr k) k fl d true false ((flat ps).map (AV.int .i64)) (acc.map (volV false)) (by rw [List.length_map]; omega) ((2 * j : Nat) : Int) p.1 p.2.toNat (by omega) hw hx _ (p.2.toNat - 1) 1 k' _ (by omega) (by omega) (by kernel_rfl)).trans ?_
      rw [volV_blank']
    obtain ⟨a, f, x, h⟩ := ih (j + 1) m (acc ++ [blankV p]) (rvbO fl d true false ((flat ps).map (AV.int .i64)) (acc.map (volV false) ++ [volV false (blankV p)]) ((2 * j : Nat) : Int) p.1 (List.replicate p.2.toNat (.str []))) (by omega) (by omega) (by simp) (by simp [hal]) (by
      rw [rvbO, show IntKind.wrap IntKind.i64 (((2 * j : Nat) : Int) + 2) = ((2 * (j + 1) : Nat) : Int) by (rw [wrap_small (by omega) (by omega)]; omega), List.map_append]
      kernel_rfl)
    rw [List.append_assoc, List.singleton_append] at h
    exact ⟨a, f, x, (hin _ (by kernel_rfl)).trans h⟩
theorem e54 (k : Nat) (hk : 90 ≤ k) (fl : Bool) (sz : List Int) : ∃ a f x, evF pr k 54 [.sl 1 fl (sz.map (AV.int .i64))] [] = some (.tup [.sl a f x, .bool (szOk sz)], []) := by
  obtain ⟨k, rfl⟩ : ∃ m, k = m + 1 := ⟨k - 1, by omega⟩
  rw [ev_step _ _ _ _ (by kernel_rfl), rvblank_tree, List.length_map]
  have e1 : Int.tmod ((sz.length : Nat) : Int) 2 = ((sz.length % 2 : Nat) : Int) := rfl
  rw [e1, szOk]
  by_cases h8 : sz.length ≤ 8
  · rw [decide_eq_false (show ¬ ((sz.length : Nat) : Int) > 8 by omega)]
    by_cases h2 : sz.length % 2 = 0
    · rw [show (((sz.length % 2 : Nat) : Int) != 0) = false by simp [h2], decide_eq_true ⟨h2, h8⟩]
      simp only [cond_false, Bool.true_and]
      obtain ⟨ps, rfl⟩ := ex_flat (sz.length / 2) sz (by omega)
      rw [pairs_flat]
      rw [flat_length] at h8
      obtain ⟨k', hk'⟩ : ∃ m, k = m + 1 := ⟨k - 1, by omega⟩
      conv => arg 1; intro a; arg 1; intro f; arg 1; intro x; lhs; arg 4; rw [hk']
      rw [loopA_succ]
      have hb : ∃ a f x, bodyOf (evF pr k) 54 0 k (rvblankS fl false ((flat ps).map (AV.int .i64)) (.sl 0 true []) ((2 * 0 : Nat) : Int)) (brk (contOf (evF pr k) 54 0 k 0) fun st' => loopA (bodyOf (evF pr k) 54 0 k) (deadOf 54 0) (contOf (evF pr k) 54 0 k 0) k' st') = some (.tup [.sl a f x, .bool (ps.all (fun p => sizeOk p.2) && vOk (ps.map blankV))], []) := by
        rw [rvblank_body0]
        cases ps with
        | nil =>
          obtain ⟨k2, hk2⟩ : ∃ m, k = m + 6 := ⟨k - 6, by omega⟩
          have h90 : evF pr k 90 [.sl 0 true []] [] = some (.bool true, []) := by rw [hk2]; exact e90nil k2 0 true
          rw [h90]
          exact ⟨_, _, _, rfl⟩
        | cons p r =>
          have hlt : 0 < (p :: r).length := by simp
          obtain ⟨g1, g2⟩ := getZ (p :: r) 0 hlt (by omega)
          have hw : 0 ≤ IntKind.wrap IntKind.i64 (((2 * 0 : Nat) : Int) + 1) := by rw [wrap_small (by omega) (by omega)]; omega
          rw [List.length_map, flat_length, decide_eq_true (show IntKind.wrap IntKind.i64 (((2 * 0 : Nat) : Int) + 1) < ((2 * (p :: r).length : Nat) : Int) by (rw [wrap_small (by omega) (by omega)]; simp only [List.length_cons]; omega)), decide_eq_true hw, g1, g2, decide_eq_true (show (0 : Int) ≤ ((2 * 0 : Nat) : Int) by omega), List.all_cons, List.map_cons]
          simp only [cond_true, onOpt, asInt, if_true, List.getElem_cons_zero]
          simp only [List.getElem_cons_zero] at g1 g2
          by_cases h1 : p.2 < 1
          · rw [decide_eq_true h1, show sizeOk p.2 = false by unfold sizeOk; rw [decide_eq_false_iff_not]; omega]
            exact ⟨_, _, _, rfl⟩
          by_cases h3 : p.2 > 32
          · rw [decide_eq_false h1, decide_eq_true h3, show sizeOk p.2 = false by unfold sizeOk; rw [decide_eq_false_iff_not]; omega]
            exact ⟨_, _, _, rfl⟩
          rw [decide_eq_false h1, decide_eq_false h3, show sizeOk p.2 = true from decide_eq_true (by omega)]
          simp only [cond_false, Bool.true_and]
          have hn : p.2 = ((p.2.toNat : Nat) : Int) := by omega
          have hx : ((flat (p :: r)).map (AV.int .i64))[Int.toNat (IntKind.wrap IntKind.i64 (((2 * 0 : Nat) : Int) + 1))]? = some (.int .i64 ((p.2.toNat : Nat) : Int)) := by rw [g2, ← hn]
          have hin : ∀ st' : St, st'.clean (deadOf 54 1) = rvbI fl false true false ((flat (p :: r)).map (AV.int .i64)) (.sl 0 true []) ((2 * 0 : Nat) : Int) p.1 (.sl 0 true []) →
              loopA (bodyOf (evF pr k) 54 1 k) (deadOf 54 1) (contBOf (evF pr k) 54 0 0 k (brk (contOf (evF pr k) 54 0 k 0) fun st' => loopA (bodyOf (evF pr k) 54 0 k) (deadOf 54 0) (contOf (evF pr k) 54 0 k 0) k' st')) k st' = loopA (bodyOf (evF pr k) 54 0 k) (deadOf 54 0) (contOf (evF pr k) 54 0 k 0) k' (rvbO fl false true false ((flat (p :: r)).map (AV.int .i64)) [volV false (blankV p)] ((2 * 0 : Nat) : Int) p.1 (List.replicate p.2.toNat (.str []))) := by
            intro st' hst'
            conv => lhs; arg 4; rw [hk']
            rw [loopA_succ, hst', rvblank_in00, decide_eq_true hw, hx]
            simp only [cond_true, onOpt, asInt, if_true, List.length_nil]
            rw [decide_eq_true (show (((0 : Nat)) : Int) < ((p.2.toNat : Nat) : Int) by omega)]
            simp only [cond_true]
            refine (rvb_in01 (evF pr k) k fl false true false ((flat (p :: r)).map (AV.int .i64)) ((2 * 0 : Nat) : Int) p.1 p.2.toNat (by omega) hw hx _ (p.2.toNat - 1) 1 k' _ (by omega) (by omega) (by kernel_rfl)).trans ?_
            rw [volV_blank']
          obtain ⟨a, f, x, h⟩ := rvblank_loop k (by omega) fl false (p :: r) (by omega) r.length 1 k' [blankV p] (rvbO fl false true false ((flat (p :: r)).map (AV.int .i64)) [volV false (blankV p)] ((2 * 0 : Nat) : Int) p.1 (List.replicate p.2.toNat (.str []))) (by simp only [List.length_cons]; omega) (by simp only [List.length_cons] at h8; omega) (by simp) rfl (by kernel_rfl)
          exact ⟨a, f, x, (hin _ (by kernel_rfl)).trans h⟩
      have hc : ∀ X, X = bodyOf (evF pr k) 54 0 k (rvblankS fl false ((flat ps).map (AV.int .i64)) (.sl 0 true []) ((2 * 0 : Nat) : Int)) (brk (contOf (evF pr k) 54 0 k 0) fun st' => loopA (bodyOf (evF pr k) 54 0 k) (deadOf 54 0) (contOf (evF pr k) 54 0 k 0) k' st') → ∃ a f x, X = some (.tup [.sl a f x, .bool (ps.all (fun p => sizeOk p.2) && vOk (ps.map blankV))], []) := fun X hX => by rw [hX]; exact hb
      exact hc _ (by kernel_rfl)
    · rw [show (((sz.length % 2 : Nat) : Int) != 0) = true by simp only [bne_iff_ne, ne_eq]; omega, decide_eq_false (show ¬ (sz.length % 2 = 0 ∧ sz.length ≤ 8) from fun h => h2 h.1)]
      exact ⟨_, _, _, rfl⟩
  · rw [decide_eq_true (show ((sz.length : Nat) : Int) > 8 by omega), decide_eq_false (show ¬ (sz.length % 2 = 0 ∧ sz.length ≤ 8) from fun h => h8 h.2)]
    exact ⟨_, _, _, rfl⟩

end Go.AM.Ytnhfjkckgicidaa
