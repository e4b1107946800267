/- Messages: msg.Right, ref17.Right: what they answer, plain. -/
import Derived.Test.YtnhfjkckgicidaaAmNF
set_option linter.unusedVariables false
set_option linter.unusedSimpArgs false
namespace Go.AM.Ytnhfjkckgicidaa
open Go.AM Go.Proofs Go

/-! slices as they come: none, or some -/
theorem nil_len {α : Type} {f : α → AV} {l : List α} (h : l = []) : l.map f = [] := by rw [h]; rfl
theorem e44nil (k a : Nat) (fl : Bool) : evF pr (k + 6) 44 [.sl a fl []] [] = some (.bool false, []) := by kernel_rfl
theorem e46nil (k a : Nat) (fl : Bool) : evF pr (k + 6) 46 [.sl a fl []] [] = some (.bool false, []) := by kernel_rfl
theorem e18nil' (k a : Nat) (fl : Bool) : evF pr (k + 6) 18 [.sl a fl []] [] = some (.bool true, []) := by kernel_rfl
theorem e17nil (k a : Nat) (fl : Bool) : evF pr (k + 6) 17 [.sl a fl []] [] = some (.tup [.str [0], .int .i64 0], []) := by kernel_rfl
theorem e19nil (k a : Nat) (fl : Bool) : evF pr (k + 6) 19 [.sl a fl []] [] = some (.str [0], []) := by kernel_rfl
theorem e53nil (k a : Nat) (fl : Bool) : evF pr (k + 6) 53 [.sl a fl []] [] = some (.tup [.str [0], .int .i64 0], []) := by kernel_rfl
theorem e63nil (k a : Nat) (fl : Bool) : evF pr (k + 6) 63 [.sl a fl []] [] = some (.str [0], []) := by kernel_rfl
theorem e36nil' (k a : Nat) (fl : Bool) : evF pr (k + 6) 36 [.sl a fl []] [] = some (.bool true, []) := by kernel_rfl
theorem e12nil' (k a : Nat) (fl : Bool) : evF pr (k + 6) 12 [.sl a fl []] [] = some (.bool true, []) := by kernel_rfl
theorem e11nil (k a : Nat) (fl : Bool) : evF pr (k + 16) 11 [.sl a fl []] [] = some (.tup [.str [0, 0], .int .i64 0], []) := by kernel_rfl
theorem e13nil (k a : Nat) (fl : Bool) : evF pr (k + 6) 13 [.sl a fl []] [] = some (.str [0, 0], []) := by kernel_rfl
theorem e59nil (k a : Nat) (fl : Bool) : evF pr (k + 9) 59 [.sl a fl []] [] = some (.tup [.sl 0 true [], .int .i64 0], []) := by kernel_rfl
theorem e54nil (k a : Nat) (fl : Bool) : evF pr (k + 9) 54 [.sl a fl []] [] = some (.tup [.sl 0 true [], .bool true], []) := by kernel_rfl
theorem e44' (k : Nat) (hk : 100 ≤ k) {v : AV} {l : List (Int × Int)} (h : IsL v l) : evF pr k 44 [v] [] = some (.bool (lineOk l), []) := by
  rcases h with ⟨fl, rfl⟩ | ⟨rfl, a, fl, rfl⟩
  · exact e44 k (by omega) fl l
  · obtain ⟨k, rfl⟩ : ∃ m, k = m + 6 := ⟨k - 6, by omega⟩
    exact e44nil k a fl
theorem e46' (k : Nat) (hk : 100 ≤ k) {v : AV} {l : List (Int × Int)} (h : IsL v l) : evF pr k 46 [v] [] = some (.bool (lineOk l), []) := by
  rcases h with ⟨fl, rfl⟩ | ⟨rfl, a, fl, rfl⟩
  · exact e46 k (by omega) fl l
  · obtain ⟨k, rfl⟩ : ∃ m, k = m + 6 := ⟨k - 6, by omega⟩
    exact e46nil k a fl
theorem e18' (k : Nat) (hk : 100 ≤ k) {v : AV} {l : List (Int × Int)} (h : IsL v l) : evF pr k 18 [v] [] = some (.bool (lined l), []) := by
  rcases h with ⟨fl, rfl⟩ | ⟨rfl, a, fl, rfl⟩
  · exact e18 k (by omega) fl l
  · obtain ⟨k, rfl⟩ : ∃ m, k = m + 6 := ⟨k - 6, by omega⟩
    exact e18nil' k a fl
theorem e17' (k : Nat) {v : AV} {l : List (Int × Int)} (h : IsL v l) (hk : 100 + l.length ≤ k) (hs : Sm l) (hl : l.length ≤ 1000) : evF pr k 17 [v] [] = some (if lined l then .tup [.str (putL l), .int .i64 0] else .tup [.str [], .int .i64 1], []) := by
  rcases h with ⟨fl, rfl⟩ | ⟨rfl, a, fl, rfl⟩
  · exact e17 k fl l (by omega) hs hl
  · obtain ⟨k, rfl⟩ : ∃ m, k = m + 6 := ⟨k - 6, by omega⟩
    exact e17nil k a fl
theorem e19' (k : Nat) {v : AV} {l : List (Int × Int)} (h : IsL v l) (hk : 100 + l.length ≤ k) (hs : Sm l) (hl : l.length ≤ 1000) : evF pr k 19 [v] [] = some (.str (putL l), []) := by
  rcases h with ⟨fl, rfl⟩ | ⟨rfl, a, fl, rfl⟩
  · exact e19 k fl l (by omega) hs hl
  · obtain ⟨k, rfl⟩ : ∃ m, k = m + 6 := ⟨k - 6, by omega⟩
    exact e19nil k a fl
theorem e62' (k : Nat) {v : AV} {l : List (Int × Int)} (h : IsT v l) (hk : 100 + l.length ≤ k) (hl : l.length ≤ 1000) : evF pr k 62 [v] [] = some (.bool (bOk l), []) := by
  rcases h with ⟨fl, rfl⟩ | ⟨rfl, a, fl, rfl⟩
  · exact e62 k fl l (by omega) (by omega)
  · obtain ⟨k, rfl⟩ : ∃ m, k = m + 6 := ⟨k - 6, by omega⟩
    exact e62nil k a fl
theorem e58' (k : Nat) {v : AV} {l : List (Int × Int)} (h : IsT v l) (hk : 100 + l.length ≤ k) (hl : l.length ≤ 1000) : evF pr k 58 [v] [] = some (.bool (bOk l), []) := by
  rcases h with ⟨fl, rfl⟩ | ⟨rfl, a, fl, rfl⟩
  · exact e58 k fl l (by omega) (by omega)
  · obtain ⟨k, rfl⟩ : ∃ m, k = m + 6 := ⟨k - 6, by omega⟩
    exact e58nil k a fl
theorem e53' (k : Nat) {v : AV} {l : List (Int × Int)} (h : IsT v l) (hu : UM l) (hk : 100 + l.length ≤ k) (hl : l.length ≤ 1000) : evF pr k 53 [v] [] = some (if bOk l then .tup [.str (putB l), .int .i64 0] else .tup [.str [], .int .i64 1], []) := by
  rcases h with ⟨fl, rfl⟩ | ⟨rfl, a, fl, rfl⟩
  · exact e53 k fl l hu (by omega) hl
  · obtain ⟨k, rfl⟩ : ∃ m, k = m + 6 := ⟨k - 6, by omega⟩
    exact e53nil k a fl
theorem e63' (k : Nat) {v : AV} {l : List (Int × Int)} (h : IsT v l) (hu : UM l) (hk : 100 + l.length ≤ k) (hok : bOk l = true) : evF pr k 63 [v] [] = some (.str (putB l), []) := by
  rcases h with ⟨fl, rfl⟩ | ⟨rfl, a, fl, rfl⟩
  · exact e63 k fl l hu (by omega) hok
  · obtain ⟨k, rfl⟩ : ∃ m, k = m + 6 := ⟨k - 6, by omega⟩
    exact e63nil k a fl
theorem e36' (k : Nat) {v : AV} {l : List Wr} (h : IsW v l) (hk : 240 ≤ k) : evF pr k 36 [v] [] = some (.bool (wOk l), []) := by
  rcases h with ⟨fl, rfl⟩ | ⟨rfl, a, fl, rfl⟩
  · exact e36 k fl l (by omega)
  · obtain ⟨k, rfl⟩ : ∃ m, k = m + 6 := ⟨k - 6, by omega⟩
    exact e36nil' k a fl
theorem e12' (k : Nat) {v : AV} {l : List Wr} (h : IsW v l) (hk : 240 ≤ k) : evF pr k 12 [v] [] = some (.bool (wOk l), []) := by
  rcases h with ⟨fl, rfl⟩ | ⟨rfl, a, fl, rfl⟩
  · exact e12 k fl l (by omega)
  · obtain ⟨k, rfl⟩ : ∃ m, k = m + 6 := ⟨k - 6, by omega⟩
    exact e12nil' k a fl
theorem e11' (k : Nat) {v : AV} {l : List Wr} (h : IsW v l) (hk : 240 ≤ k) : evF pr k 11 [v] [] = some (if wOk l then .tup [.str (putW l), .int .i64 0] else .tup [.str [], .int .i64 1], []) := by
  rcases h with ⟨fl, rfl⟩ | ⟨rfl, a, fl, rfl⟩
  · exact e11 k fl l (by omega)
  · obtain ⟨k, rfl⟩ : ∃ m, k = m + 16 := ⟨k - 16, by omega⟩
    exact e11nil k a fl
theorem e13' (k : Nat) {v : AV} {l : List Wr} (h : IsW v l) (hk : 240 ≤ k) (hok : wOk l = true) : evF pr k 13 [v] [] = some (.str (putW l), []) := by
  rcases h with ⟨fl, rfl⟩ | ⟨rfl, a, fl, rfl⟩
  · exact e13 k fl l (by omega) hok
  · obtain ⟨k, rfl⟩ : ∃ m, k = m + 6 := ⟨k - 6, by omega⟩
    exact e13nil k a fl
/-- Slices of whole numbers, as they come. -/
def IsZ (v : AV) (l : List Int) : Prop := (∃ fl, v = .sl 1 fl (l.map (AV.int .i64))) ∨ (l = [] ∧ ∃ a fl, v = .sl a fl [])
theorem e59' (k : Nat) (hk : 100 ≤ k) {v : AV} {l : List Int} (h : IsZ v l) : ∃ a f x, evF pr k 59 [v] [] = some (.tup [.sl a f x, .int .i64 (if szOk l then 0 else 1)], []) := by
  rcases h with ⟨fl, rfl⟩ | ⟨rfl, a, fl, rfl⟩
  · exact e59 k (by omega) fl l
  · obtain ⟨k, rfl⟩ : ∃ m, k = m + 9 := ⟨k - 9, by omega⟩
    exact ⟨_, _, _, e59nil k a fl⟩
theorem e54' (k : Nat) (hk : 100 ≤ k) {v : AV} {l : List Int} (h : IsZ v l) : ∃ a f x, evF pr k 54 [v] [] = some (.tup [.sl a f x, .bool (szOk l)], []) := by
  rcases h with ⟨fl, rfl⟩ | ⟨rfl, a, fl, rfl⟩
  · exact e54 k (by omega) fl l
  · obtain ⟨k, rfl⟩ : ∃ m, k = m + 9 := ⟨k - 9, by omega⟩
    exact ⟨_, _, _, e54nil k a fl⟩
theorem IsL.sl {v : AV} {l : List (Int × Int)} (h : IsL v l) : ∃ a f xs, v = .sl a f xs ∧ xs.length = l.length := by
  rcases h with ⟨fl, rfl⟩ | ⟨rfl, a, fl, rfl⟩
  · exact ⟨_, _, _, rfl, by simp⟩
  · exact ⟨_, _, _, rfl, rfl⟩
theorem IsT.sl {v : AV} {l : List (Int × Int)} (h : IsT v l) : ∃ a f xs, v = .sl a f xs ∧ xs.length = l.length := by
  rcases h with ⟨fl, rfl⟩ | ⟨rfl, a, fl, rfl⟩
  · exact ⟨_, _, _, rfl, by simp⟩
  · exact ⟨_, _, _, rfl, rfl⟩
theorem IsW.sl {v : AV} {l : List Wr} (h : IsW v l) : ∃ a f xs, v = .sl a f xs ∧ xs.length = l.length := by
  rcases h with ⟨fl, rfl⟩ | ⟨rfl, a, fl, rfl⟩
  · exact ⟨_, _, _, rfl, by simp⟩
  · exact ⟨_, _, _, rfl, rfl⟩
theorem IsZ.sl {v : AV} {l : List Int} (h : IsZ v l) : ∃ a f xs, v = .sl a f xs ∧ xs.length = l.length := by
  rcases h with ⟨fl, rfl⟩ | ⟨rfl, a, fl, rfl⟩
  · exact ⟨_, _, _, rfl, by simp⟩
  · exact ⟨_, _, _, rfl, rfl⟩

/-! numbers, places -/
def fitsI (z : Int) : Bool := decide (0 ≤ z ∧ z ≤ 1099511627776)
theorem fits_tree (F : Fns) (N : Nat) (z : Int) : runOf F 55 N [.int .i64 z] [] =
  bif decide (z ≥ 0) then some (AV.bool (decide (z ≤ 1099511627776)), []) else some (AV.bool false, []) := by kernel_rfl
theorem mnumber_tree (F : Fns) (N : Nat) (z : Int) : runOf F 60 N [.int .i64 z] [] =
  bif decide (z ≥ 0) then some (AV.bool (decide (z ≤ 1099511627776)), []) else some (AV.bool false, []) := by kernel_rfl
theorem e55 (k : Nat) (hk : 1 ≤ k) (z : Int) : evF pr k 55 [.int .i64 z] [] = some (.bool (fitsI z), []) := by
  obtain ⟨k, rfl⟩ : ∃ m, k = m + 1 := ⟨k - 1, by omega⟩
  rw [ev_step _ _ _ _ (by kernel_rfl), fits_tree]
  by_cases h : z ≥ 0
  · rw [decide_eq_true h, show fitsI z = decide (z ≤ 1099511627776) by unfold fitsI; rw [decide_eq_decide]; omega]; rfl
  · rw [decide_eq_false h, show fitsI z = false by unfold fitsI; rw [decide_eq_false_iff_not]; omega]; rfl
theorem e60 (k : Nat) (hk : 1 ≤ k) (z : Int) : evF pr k 60 [.int .i64 z] [] = some (.bool (fitsI z), []) := by
  obtain ⟨k, rfl⟩ : ∃ m, k = m + 1 := ⟨k - 1, by omega⟩
  rw [ev_step _ _ _ _ (by kernel_rfl), mnumber_tree]
  by_cases h : z ≥ 0
  · rw [decide_eq_true h, show fitsI z = decide (z ≤ 1099511627776) by unfold fitsI; rw [decide_eq_decide]; omega]; rfl
  · rw [decide_eq_false h, show fitsI z = false by unfold fitsI; rw [decide_eq_false_iff_not]; omega]; rfl
def lastAt (l : List (Int × Int)) : Int := (l.getD (l.length - 1) (0, 0)).2
def placedOk (l : List (Int × Int)) (z : Int) : Bool := lineOk l && decide (lastAt l ≤ z ∧ z ≤ 1099511627776)
def noneOk (l : List (Int × Int)) (z : Int) : Bool := decide (l.length = 0) && decide (z = 0)
theorem none_tree (F : Fns) (N : Nat) (a : Nat) (fl : Bool) (xs : List AV) (z : Int) : runOf F 56 N [.agg [.sl a fl xs, .int .i64 z]] [] =
  bif ((List.length xs : Nat) : Int) == 0 then some (AV.bool (z == 0), []) else some (AV.bool false, []) := by kernel_rfl
theorem e56 (k : Nat) (hk : 1 ≤ k) {v : AV} {l : List (Int × Int)} (h : IsL v l) (z : Int) : evF pr k 56 [.agg [v, .int .i64 z]] [] = some (.bool (noneOk l z), []) := by
  obtain ⟨k, rfl⟩ : ∃ m, k = m + 1 := ⟨k - 1, by omega⟩
  obtain ⟨a, f, xs, rfl, hl⟩ := h.sl
  rw [ev_step _ _ _ _ (by kernel_rfl), none_tree, hl, noneOk]
  by_cases h0 : l.length = 0
  · rw [show (((l.length : Nat) : Int) == 0) = true by simp [h0], decide_eq_true h0, show (z == 0) = decide (z = 0) from rfl]
    rfl
  · rw [show (((l.length : Nat) : Int) == 0) = false by simp only [beq_eq_false_iff_ne, ne_eq]; omega, decide_eq_false h0]
    rfl
theorem rplaced_tree (F : Fns) (N : Nat) (fl : Bool) (xs : List AV) (z : Int) : runOf F 57 N [.agg [.sl 2 fl xs, .int .i64 z]] [] =
  onRes (F 46 [AV.sl 2 fl xs] []) fun v bs => AM.asBool v fun b => asNil bs (bif b then bif decide (z ≤ 1099511627776) then bif decide (0 ≤ IntKind.wrap IntKind.i64 (((List.length xs : Nat) : Int) - 1)) then onOpt xs[Int.toNat (IntKind.wrap IntKind.i64 (((List.length xs : Nat) : Int) - 1))]? fun x => AM.asAgg x fun cs => asCons cs fun v r => AM.asInt IntKind.i64 v fun n => asCons r fun v r => AM.asInt IntKind.i64 v fun n => asNil r (some (AV.bool (decide (n ≤ z)), [])) else none else some (AV.bool false, []) else some (AV.bool false, [])) := by kernel_rfl
theorem lplaced_tree (F : Fns) (N : Nat) (fl : Bool) (xs : List AV) (z : Int) : runOf F 94 N [.agg [.sl 2 fl xs, .int .i64 z]] [] =
  onRes (F 44 [AV.sl 2 fl xs] []) fun v bs => AM.asBool v fun b => asNil bs (bif b then bif decide (0 ≤ IntKind.wrap IntKind.i64 (((List.length xs : Nat) : Int) - 1)) then onOpt xs[Int.toNat (IntKind.wrap IntKind.i64 (((List.length xs : Nat) : Int) - 1))]? fun x => AM.asAgg x fun cs => asCons cs fun v r => AM.asInt IntKind.i64 v fun n => asCons r fun v r => AM.asInt IntKind.i64 v fun n => asNil r (bif decide (z ≥ n) then some (AV.bool (decide (z ≤ 1099511627776)), []) else some (AV.bool false, [])) else none else some (AV.bool false, [])) := by kernel_rfl
theorem e57nil (k a : Nat) (fl : Bool) (z : Int) : evF pr (k + 6) 57 [.agg [.sl a fl [], .int .i64 z]] [] = some (.bool false, []) := by kernel_rfl
theorem e94nil (k a : Nat) (fl : Bool) (z : Int) : evF pr (k + 6) 94 [.agg [.sl a fl [], .int .i64 z]] [] = some (.bool false, []) := by kernel_rfl
theorem getLast (l : List (Int × Int)) (h : lineOk l = true) : 0 ≤ IntKind.wrap IntKind.i64 ((((l.map brV).length : Nat) : Int) - 1) ∧ ∃ e, (l.map brV)[Int.toNat (IntKind.wrap IntKind.i64 ((((l.map brV).length : Nat) : Int) - 1))]? = some (.agg [.int .i64 e, .int .i64 (lastAt l)]) := by
  have hl : l.length ≤ 64 ∧ 0 < l.length := by
    cases l with
    | nil => simp [lineOk] at h
    | cons b r =>
      rw [lineOk, Bool.and_eq_true, decide_eq_true_eq] at h
      exact ⟨h.1, by simp⟩
  have hw : IntKind.wrap IntKind.i64 ((((l.map brV).length : Nat) : Int) - 1) = ((l.length - 1 : Nat) : Int) := by
    rw [List.length_map, wrap_small (by omega) (by omega)]
    omega
  rw [hw, getBr l (l.length - 1) (by omega)]
  refine ⟨by omega, (l[l.length - 1]).1, ?_⟩
  have : lastAt l = (l[l.length - 1]).2 := by
    unfold lastAt
    rw [List.getD_eq_getElem?_getD, List.getElem?_eq_getElem (by omega)]
    rfl
  rw [this]
theorem e57 (k : Nat) (hk : 110 ≤ k) {v : AV} {l : List (Int × Int)} (h : IsL v l) (z : Int) : evF pr k 57 [.agg [v, .int .i64 z]] [] = some (.bool (placedOk l z), []) := by
  rcases h with ⟨fl, rfl⟩ | ⟨rfl, a, fl, rfl⟩
  · obtain ⟨k, rfl⟩ : ∃ m, k = m + 1 := ⟨k - 1, by omega⟩
    rw [ev_step _ _ _ _ (by kernel_rfl), rplaced_tree, e46 k (by omega), placedOk]
    simp only [onRes, asBool, asNil]
    cases hok : lineOk l with
    | false => rfl
    | true =>
      obtain ⟨g1, e, g2⟩ := getLast l hok
      rw [decide_eq_true g1, g2]
      simp only [cond_true, onOpt, asAgg, asCons, asInt, if_true, asNil, Bool.true_and]
      by_cases h1 : z ≤ 1099511627776
      · rw [decide_eq_true h1, show decide (lastAt l ≤ z ∧ z ≤ 1099511627776) = decide (lastAt l ≤ z) by rw [decide_eq_decide]; omega]
        rfl
      · rw [decide_eq_false h1, decide_eq_false (show ¬ (lastAt l ≤ z ∧ z ≤ 1099511627776) by omega)]
        rfl
  · obtain ⟨k, rfl⟩ : ∃ m, k = m + 6 := ⟨k - 6, by omega⟩
    exact e57nil k a fl z
theorem e94 (k : Nat) (hk : 110 ≤ k) {v : AV} {l : List (Int × Int)} (h : IsL v l) (z : Int) : evF pr k 94 [.agg [v, .int .i64 z]] [] = some (.bool (placedOk l z), []) := by
  rcases h with ⟨fl, rfl⟩ | ⟨rfl, a, fl, rfl⟩
  · obtain ⟨k, rfl⟩ : ∃ m, k = m + 1 := ⟨k - 1, by omega⟩
    rw [ev_step _ _ _ _ (by kernel_rfl), lplaced_tree, e44 k (by omega), placedOk]
    simp only [onRes, asBool, asNil]
    cases hok : lineOk l with
    | false => rfl
    | true =>
      obtain ⟨g1, e, g2⟩ := getLast l hok
      rw [decide_eq_true g1, g2]
      simp only [cond_true, onOpt, asAgg, asCons, asInt, if_true, asNil, Bool.true_and]
      by_cases h1 : z ≥ lastAt l
      · rw [decide_eq_true h1, show decide (lastAt l ≤ z ∧ z ≤ 1099511627776) = decide (z ≤ 1099511627776) by rw [decide_eq_decide]; omega]
        rfl
      · rw [decide_eq_false h1, decide_eq_false (show ¬ (lastAt l ≤ z ∧ z ≤ 1099511627776) by omega)]
        rfl
  · obtain ⟨k, rfl⟩ : ∃ m, k = m + 6 := ⟨k - 6, by omega⟩
    exact e94nil k a fl z
def anchorOk (l : List (Int × Int)) (z : Int) : Bool := noneOk l z || placedOk l z
theorem mplaced_tree (F : Fns) (N : Nat) (a : Nat) (fl : Bool) (xs : List AV) (z : Int) : runOf F 61 N [.agg [.sl a fl xs, .int .i64 z]] [] =
  bif ((List.length xs : Nat) : Int) == 0 then bif z == 0 then some (AV.bool true, []) else onRes (F 94 [AV.agg [AV.sl a fl xs, AV.int IntKind.i64 z]] []) fun v bs => AM.asBool v fun b => asNil bs (some (AV.bool b, [])) else onRes (F 94 [AV.agg [AV.sl a fl xs, AV.int IntKind.i64 z]] []) fun v bs => AM.asBool v fun b => asNil bs (some (AV.bool b, [])) := by kernel_rfl
theorem e61 (k : Nat) (hk : 120 ≤ k) {v : AV} {l : List (Int × Int)} (h : IsL v l) (z : Int) : evF pr k 61 [.agg [v, .int .i64 z]] [] = some (.bool (anchorOk l z), []) := by
  obtain ⟨k, rfl⟩ : ∃ m, k = m + 1 := ⟨k - 1, by omega⟩
  have h94 := e94 k (by omega) h z
  obtain ⟨a, f, xs, rfl, hl⟩ := h.sl
  rw [ev_step _ _ _ _ (by kernel_rfl), mplaced_tree, hl, anchorOk, noneOk, h94]
  by_cases h0 : l.length = 0
  · rw [show (((l.length : Nat) : Int) == 0) = true by simp [h0], decide_eq_true h0, show (z == 0) = decide (z = 0) from rfl]
    cases decide (z = 0) <;> rfl
  · rw [show (((l.length : Nat) : Int) == 0) = false by simp only [beq_eq_false_iff_ne, ne_eq]; omega, decide_eq_false h0]
    rfl

/-! messages -/
/-- A message. -/
structure Ms where
  kd : Int
  ep : Int
  ln : List (Int × Int)
  sq : Int
  nn : Int
  fo : Int
  fu : Bool
  an : List (Int × Int)
  asq : Int
  bt : List (Int × Int)
  sz : List Int
  fr : Int
  to : Int
  wr : List Wr
def msV (m : Ms) (v1 v2 v3 v4 v5 : AV) : AV := .agg [.int .i64 m.kd, .int .i64 m.ep, v1, .int .i64 m.sq, .int .i64 m.nn, .int .i64 m.fo, .bool m.fu, v2, .int .i64 m.asq, v3, v4, .int .i64 m.fr, .int .i64 m.to, v5]
/-- A message as it comes. -/
def IsM (x : AV) (m : Ms) : Prop := ∃ v1 v2 v3 v4 v5, x = msV m v1 v2 v3 v4 v5 ∧ IsL v1 m.ln ∧ IsL v2 m.an ∧ IsT v3 m.bt ∧ IsZ v4 m.sz ∧ IsW v5 m.wr
/-- Is a message right? -/
def okM (m : Ms) : Bool := decide (1 ≤ m.kd ∧ m.kd ≤ 9) && (szOk m.sz && (decide (m.fr ≤ m.to) && ([m.ep, m.sq, m.nn, m.fo, m.fr, m.to].all fitsI && (lined m.ln && (anchorOk m.an m.asq && (bOk m.bt && wOk m.wr))))))
def mgL (kd ep : Int) (v1 : AV) (sq nn fo : Int) (fu : Bool) (v2 : AV) (asq : Int) (v3 v4 : AV) (fr to : Int) (v5 : AV) : List AV := [.int .i64 kd, .int .i64 ep, v1, .int .i64 sq, .int .i64 nn, .int .i64 fo, .bool fu, v2, .int .i64 asq, v3, v4, .int .i64 fr, .int .i64 to, v5]
def mrightS (g : List AV) (e : Int) (ok : Bool) (xs : List AV) (len i : Int) : St := ⟨89, [(0, AV.agg g), (1, AV.ptr 1 0 0), (2, AV.bool false), (4, AV.int IntKind.i64 e), (5, AV.bool ok), (49, AV.sl 1 true xs), (50, AV.int IntKind.i64 len), (51, AV.int IntKind.i64 i)], [(1, g)], [], [], [], []⟩
theorem mright_body (F : Fns) (N : Nat) (kd ep : Int) (l : List AV) (sq nn fo : Int) (fu : Bool) (an : List AV) (asq : Int) (bt sz : List AV) (fr to : Int) (wr : List AV) (f1 f2 f3 f4 f5 : Bool) (a1 a2 a3 a4 a5 : Nat) (e : Int) (ok : Bool) (xs : List AV) (len i : Int) (KN : St → Res) : bodyOf F 29 0 N (mrightS (mgL kd ep (.sl a1 f1 l) sq nn fo fu (.sl a2 f2 an) asq (.sl a3 f3 bt) (.sl a4 f4 sz) fr to (.sl a5 f5 wr)) e ok xs len i) (brk (contOf F 29 0 N 0) KN) =
  bif decide (i < len) then bif decide (0 ≤ i) then onOpt xs[Int.toNat i]? fun x => AM.asInt IntKind.i64 x fun n => bif ok then onRes (F 60 [AV.int IntKind.i64 n] []) fun v bs => AM.asBool v fun b => asNil bs (KN { nt := 89, t := [(0, AV.agg [AV.int IntKind.i64 kd, AV.int IntKind.i64 ep, AV.sl a1 f1 l, AV.int IntKind.i64 sq, AV.int IntKind.i64 nn, AV.int IntKind.i64 fo, AV.bool fu, AV.sl a2 f2 an, AV.int IntKind.i64 asq, AV.sl a3 f3 bt, AV.sl a4 f4 sz, AV.int IntKind.i64 fr, AV.int IntKind.i64 to, AV.sl a5 f5 wr]), (1, AV.ptr 1 0 0), (2, AV.bool false), (4, AV.int IntKind.i64 e), (5, AV.bool b), (7, AV.int IntKind.i64 n), (49, AV.sl 1 true xs), (50, AV.int IntKind.i64 len), (51, AV.int IntKind.i64 (IntKind.wrap IntKind.i64 (i + 1))), (52, AV.bool (decide (i < len)))], b := [(1, [AV.int IntKind.i64 kd, AV.int IntKind.i64 ep, AV.sl a1 f1 l, AV.int IntKind.i64 sq, AV.int IntKind.i64 nn, AV.int IntKind.i64 fo, AV.bool fu, AV.sl a2 f2 an, AV.int IntKind.i64 asq, AV.sl a3 f3 bt, AV.sl a4 f4 sz, AV.int IntKind.i64 fr, AV.int IntKind.i64 to, AV.sl a5 f5 wr])], r := [], g := [], rd := [], wr := [] }) else KN { nt := 89, t := [(0, AV.agg [AV.int IntKind.i64 kd, AV.int IntKind.i64 ep, AV.sl a1 f1 l, AV.int IntKind.i64 sq, AV.int IntKind.i64 nn, AV.int IntKind.i64 fo, AV.bool fu, AV.sl a2 f2 an, AV.int IntKind.i64 asq, AV.sl a3 f3 bt, AV.sl a4 f4 sz, AV.int IntKind.i64 fr, AV.int IntKind.i64 to, AV.sl a5 f5 wr]), (1, AV.ptr 1 0 0), (2, AV.bool false), (4, AV.int IntKind.i64 e), (5, AV.bool false), (7, AV.int IntKind.i64 n), (49, AV.sl 1 true xs), (50, AV.int IntKind.i64 len), (51, AV.int IntKind.i64 (IntKind.wrap IntKind.i64 (i + 1))), (52, AV.bool (decide (i < len)))], b := [(1, [AV.int IntKind.i64 kd, AV.int IntKind.i64 ep, AV.sl a1 f1 l, AV.int IntKind.i64 sq, AV.int IntKind.i64 nn, AV.int IntKind.i64 fo, AV.bool fu, AV.sl a2 f2 an, AV.int IntKind.i64 asq, AV.sl a3 f3 bt, AV.sl a4 f4 sz, AV.int IntKind.i64 fr, AV.int IntKind.i64 to, AV.sl a5 f5 wr])], r := [], g := [], rd := [], wr := [] } else none else bif ok then bif ((List.length l : Nat) : Int) == 0 then onRes (F 61 [AV.agg [AV.sl a2 f2 an, AV.int IntKind.i64 asq]] []) fun v bs => AM.asBool v fun b => asNil bs (bif b then onRes (F 62 [AV.sl a3 f3 bt] []) fun v bs => AM.asBool v fun b => asNil bs (bif b then onRes (F 36 [AV.sl a5 f5 wr] []) fun v bs => AM.asBool v fun b => asNil bs (some (AV.bool b, [])) else some (AV.bool false, [])) else some (AV.bool false, [])) else onRes (F 44 [AV.sl a1 f1 l] []) fun v bs => AM.asBool v fun b => asNil bs (bif b then onRes (F 61 [AV.agg [AV.sl a2 f2 an, AV.int IntKind.i64 asq]] []) fun v bs => AM.asBool v fun b => asNil bs (bif b then onRes (F 62 [AV.sl a3 f3 bt] []) fun v bs => AM.asBool v fun b => asNil bs (bif b then onRes (F 36 [AV.sl a5 f5 wr] []) fun v bs => AM.asBool v fun b => asNil bs (some (AV.bool b, [])) else some (AV.bool false, [])) else some (AV.bool false, [])) else some (AV.bool false, [])) else some (AV.bool false, []) := by kernel_rfl
theorem mright_tree (F : Fns) (N : Nat) (kd ep : Int) (l : List AV) (sq nn fo : Int) (fu : Bool) (an : List AV) (asq : Int) (bt sz : List AV) (fr to : Int) (wr : List AV) (f1 f2 f3 f4 f5 : Bool) (a1 a2 a3 a4 a5 : Nat) : runOf F 29 N [.agg [.int .i64 kd, .int .i64 ep, .sl a1 f1 l, .int .i64 sq, .int .i64 nn, .int .i64 fo, .bool fu, .sl a2 f2 an, .int .i64 asq, .sl a3 f3 bt, .sl a4 f4 sz, .int .i64 fr, .int .i64 to, .sl a5 f5 wr]] [] =
  onRes (F 59 [AV.sl a4 f4 sz] []) fun v bs => asTup v fun cs => asCons cs fun v r => asSl v fun m fl xs => asCons r fun v r => AM.asInt IntKind.i64 v fun n => asNil r (asNil bs (bif decide (kd ≥ 1) then bif decide (kd ≤ 9) then bif n == 0 then loopA (bodyOf F 29 0 N) (deadOf 29 0) (contOf F 29 0 N 0) N { nt := 89, t := [(0, AV.agg [AV.int IntKind.i64 kd, AV.int IntKind.i64 ep, AV.sl a1 f1 l, AV.int IntKind.i64 sq, AV.int IntKind.i64 nn, AV.int IntKind.i64 fo, AV.bool fu, AV.sl a2 f2 an, AV.int IntKind.i64 asq, AV.sl a3 f3 bt, AV.sl a4 f4 sz, AV.int IntKind.i64 fr, AV.int IntKind.i64 to, AV.sl a5 f5 wr]), (1, AV.ptr 1 0 0), (2, AV.bool false), (4, AV.int IntKind.i64 n), (5, AV.bool (decide (fr ≤ to))), (49, AV.sl 1 true [AV.int IntKind.i64 ep, AV.int IntKind.i64 sq, AV.int IntKind.i64 nn, AV.int IntKind.i64 fo, AV.int IntKind.i64 fr, AV.int IntKind.i64 to]), (50, AV.int IntKind.i64 ((List.length [AV.int IntKind.i64 ep, AV.int IntKind.i64 sq, AV.int IntKind.i64 nn, AV.int IntKind.i64 fo, AV.int IntKind.i64 fr, AV.int IntKind.i64 to] : Nat) : Int)), (51, AV.int IntKind.i64 0)], b := [(1, [AV.int IntKind.i64 kd, AV.int IntKind.i64 ep, AV.sl a1 f1 l, AV.int IntKind.i64 sq, AV.int IntKind.i64 nn, AV.int IntKind.i64 fo, AV.bool fu, AV.sl a2 f2 an, AV.int IntKind.i64 asq, AV.sl a3 f3 bt, AV.sl a4 f4 sz, AV.int IntKind.i64 fr, AV.int IntKind.i64 to, AV.sl a5 f5 wr])], r := [], g := [], rd := [], wr := [] } else loopA (bodyOf F 29 0 N) (deadOf 29 0) (contOf F 29 0 N 0) N { nt := 89, t := [(0, AV.agg [AV.int IntKind.i64 kd, AV.int IntKind.i64 ep, AV.sl a1 f1 l, AV.int IntKind.i64 sq, AV.int IntKind.i64 nn, AV.int IntKind.i64 fo, AV.bool fu, AV.sl a2 f2 an, AV.int IntKind.i64 asq, AV.sl a3 f3 bt, AV.sl a4 f4 sz, AV.int IntKind.i64 fr, AV.int IntKind.i64 to, AV.sl a5 f5 wr]), (1, AV.ptr 1 0 0), (2, AV.bool false), (4, AV.int IntKind.i64 n), (5, AV.bool false), (49, AV.sl 1 true [AV.int IntKind.i64 ep, AV.int IntKind.i64 sq, AV.int IntKind.i64 nn, AV.int IntKind.i64 fo, AV.int IntKind.i64 fr, AV.int IntKind.i64 to]), (50, AV.int IntKind.i64 ((List.length [AV.int IntKind.i64 ep, AV.int IntKind.i64 sq, AV.int IntKind.i64 nn, AV.int IntKind.i64 fo, AV.int IntKind.i64 fr, AV.int IntKind.i64 to] : Nat) : Int)), (51, AV.int IntKind.i64 0)], b := [(1, [AV.int IntKind.i64 kd, AV.int IntKind.i64 ep, AV.sl a1 f1 l, AV.int IntKind.i64 sq, AV.int IntKind.i64 nn, AV.int IntKind.i64 fo, AV.bool fu, AV.sl a2 f2 an, AV.int IntKind.i64 asq, AV.sl a3 f3 bt, AV.sl a4 f4 sz, AV.int IntKind.i64 fr, AV.int IntKind.i64 to, AV.sl a5 f5 wr])], r := [], g := [], rd := [], wr := [] } else loopA (bodyOf F 29 0 N) (deadOf 29 0) (contOf F 29 0 N 0) N { nt := 89, t := [(0, AV.agg [AV.int IntKind.i64 kd, AV.int IntKind.i64 ep, AV.sl a1 f1 l, AV.int IntKind.i64 sq, AV.int IntKind.i64 nn, AV.int IntKind.i64 fo, AV.bool fu, AV.sl a2 f2 an, AV.int IntKind.i64 asq, AV.sl a3 f3 bt, AV.sl a4 f4 sz, AV.int IntKind.i64 fr, AV.int IntKind.i64 to, AV.sl a5 f5 wr]), (1, AV.ptr 1 0 0), (2, AV.bool false), (4, AV.int IntKind.i64 n), (5, AV.bool false), (49, AV.sl 1 true [AV.int IntKind.i64 ep, AV.int IntKind.i64 sq, AV.int IntKind.i64 nn, AV.int IntKind.i64 fo, AV.int IntKind.i64 fr, AV.int IntKind.i64 to]), (50, AV.int IntKind.i64 ((List.length [AV.int IntKind.i64 ep, AV.int IntKind.i64 sq, AV.int IntKind.i64 nn, AV.int IntKind.i64 fo, AV.int IntKind.i64 fr, AV.int IntKind.i64 to] : Nat) : Int)), (51, AV.int IntKind.i64 0)], b := [(1, [AV.int IntKind.i64 kd, AV.int IntKind.i64 ep, AV.sl a1 f1 l, AV.int IntKind.i64 sq, AV.int IntKind.i64 nn, AV.int IntKind.i64 fo, AV.bool fu, AV.sl a2 f2 an, AV.int IntKind.i64 asq, AV.sl a3 f3 bt, AV.sl a4 f4 sz, AV.int IntKind.i64 fr, AV.int IntKind.i64 to, AV.sl a5 f5 wr])], r := [], g := [], rd := [], wr := [] } else loopA (bodyOf F 29 0 N) (deadOf 29 0) (contOf F 29 0 N 0) N { nt := 89, t := [(0, AV.agg [AV.int IntKind.i64 kd, AV.int IntKind.i64 ep, AV.sl a1 f1 l, AV.int IntKind.i64 sq, AV.int IntKind.i64 nn, AV.int IntKind.i64 fo, AV.bool fu, AV.sl a2 f2 an, AV.int IntKind.i64 asq, AV.sl a3 f3 bt, AV.sl a4 f4 sz, AV.int IntKind.i64 fr, AV.int IntKind.i64 to, AV.sl a5 f5 wr]), (1, AV.ptr 1 0 0), (2, AV.bool false), (4, AV.int IntKind.i64 n), (5, AV.bool false), (49, AV.sl 1 true [AV.int IntKind.i64 ep, AV.int IntKind.i64 sq, AV.int IntKind.i64 nn, AV.int IntKind.i64 fo, AV.int IntKind.i64 fr, AV.int IntKind.i64 to]), (50, AV.int IntKind.i64 ((List.length [AV.int IntKind.i64 ep, AV.int IntKind.i64 sq, AV.int IntKind.i64 nn, AV.int IntKind.i64 fo, AV.int IntKind.i64 fr, AV.int IntKind.i64 to] : Nat) : Int)), (51, AV.int IntKind.i64 0)], b := [(1, [AV.int IntKind.i64 kd, AV.int IntKind.i64 ep, AV.sl a1 f1 l, AV.int IntKind.i64 sq, AV.int IntKind.i64 nn, AV.int IntKind.i64 fo, AV.bool fu, AV.sl a2 f2 an, AV.int IntKind.i64 asq, AV.sl a3 f3 bt, AV.sl a4 f4 sz, AV.int IntKind.i64 fr, AV.int IntKind.i64 to, AV.sl a5 f5 wr])], r := [], g := [], rd := [], wr := [] })) := by kernel_rfl
theorem mright_loop (k : Nat) (m : Ms) (hbt : m.bt.length ≤ 1000) (hk : 1200 ≤ k) (l an bt sz wr : List AV) (f1 f2 f3 f4 f5 : Bool) (a1 a2 a3 a4 a5 : Nat) (h1 : IsL (.sl a1 f1 l) m.ln) (h2 : IsL (.sl a2 f2 an) m.an) (h3 : IsT (.sl a3 f3 bt) m.bt) (h5 : IsW (.sl a5 f5 wr) m.wr) (e : Int) (ns : List Int) (hns : ns.length ≤ 100) : ∀ (dd i n : Nat) (ok : Bool) (st : St), i + dd = ns.length → dd < n →
    st.clean (deadOf 29 0) = mrightS (mgL m.kd m.ep (.sl a1 f1 l) m.sq m.nn m.fo m.fu (.sl a2 f2 an) m.asq (.sl a3 f3 bt) (.sl a4 f4 sz) m.fr m.to (.sl a5 f5 wr)) e ok (ns.map (AV.int .i64)) ns.length i →
    loopA (bodyOf (evF pr k) 29 0 k) (deadOf 29 0) (contOf (evF pr k) 29 0 k 0) n st = some (.bool (ok && ((ns.drop i).all fitsI && (lined m.ln && (anchorOk m.an m.asq && (bOk m.bt && wOk m.wr))))), []) := by
  have hl1 : l.length = m.ln.length := by
    obtain ⟨a, f, xs, h, hl⟩ := h1.sl
    cases h
    exact hl
  intro dd
  induction dd with
  | zero =>
    intro i n ok st hi hn hst
    obtain ⟨n, rfl⟩ : ∃ m', n = m' + 1 := ⟨n - 1, by omega⟩
    have hd : ns.drop i = [] := List.drop_eq_nil_of_le (by omega)
    rw [loopA_succ, hst, mright_body, decide_eq_false (by omega), hd, List.all_nil, Bool.true_and]
    simp only [cond_false]
    cases ok with
    | false => rfl
    | true =>
      rw [hl1, e44' k (by omega) h1, e61 k (by omega) h2, e62' k h3 (by omega) hbt, e36' k h5 (by omega)]
      simp only [cond_true, onRes, asBool, asNil, Bool.true_and]
      have hlin : lined m.ln = (decide (m.ln.length = 0) || lineOk m.ln) := by
        cases m.ln with
        | nil => rfl
        | cons b r => rfl
      rw [hlin]
      by_cases h0 : m.ln.length = 0
      · rw [show (((m.ln.length : Nat) : Int) == 0) = true by simp [h0], decide_eq_true h0]
        cases anchorOk m.an m.asq <;> cases bOk m.bt <;> rfl
      · rw [show (((m.ln.length : Nat) : Int) == 0) = false by simp only [beq_eq_false_iff_ne, ne_eq]; omega, decide_eq_false h0]
        cases lineOk m.ln <;> cases anchorOk m.an m.asq <;> cases bOk m.bt <;> rfl
  | succ dd ih =>
    intro i n ok st hi hn hst
    obtain ⟨n, rfl⟩ : ∃ m', n = m' + 1 := ⟨n - 1, by omega⟩
    have hlt : i < ns.length := by omega
    rw [loopA_succ, hst, mright_body, decide_eq_true (show (i : Int) < ns.length by omega), decide_eq_true (show (0 : Int) ≤ i by omega), Int.toNat_natCast, List.getElem?_map, List.getElem?_eq_getElem hlt, List.drop_eq_getElem_cons hlt, List.all_cons, wrap_small (n := (i : Int) + 1) (by omega) (by omega)]
    simp only [cond_true, Option.map_some, onOpt, asInt, if_true]
    cases ok with
    | false =>
      simp only [cond_false, Bool.false_and]
      refine (ih (i + 1) n false _ (by omega) (by omega) (by kernel_rfl)).trans ?_
      rfl
    | true =>
      rw [e60 k (by omega)]
      simp only [cond_true, onRes, asBool, asNil, Bool.true_and]
      refine (ih (i + 1) n (fitsI ns[i]) _ (by omega) (by omega) (by kernel_rfl)).trans ?_
      rw [Bool.and_assoc]
theorem e29 (k : Nat) (hk : 1201 ≤ k) {x : AV} {m : Ms} (h : IsM x m) (hbt : m.bt.length ≤ 1000) : evF pr k 29 [x] [] = some (.bool (okM m), []) := by
  obtain ⟨k, rfl⟩ : ∃ m, k = m + 1 := ⟨k - 1, by omega⟩
  obtain ⟨v1, v2, v3, v4, v5, rfl, h1, h2, h3, h4, h5⟩ := h
  obtain ⟨a, f, y, h59⟩ := e59' k (by omega) h4
  obtain ⟨a1, f1, l, rfl, _⟩ := h1.sl
  obtain ⟨a2, f2, an, rfl, _⟩ := h2.sl
  obtain ⟨a3, f3, bt, rfl, _⟩ := h3.sl
  obtain ⟨a4, f4, sz, rfl, _⟩ := h4.sl
  obtain ⟨a5, f5, wr, rfl, _⟩ := h5.sl
  rw [ev_step _ _ _ _ (by kernel_rfl)]
  refine (mright_tree (evF pr k) k m.kd m.ep l m.sq m.nn m.fo m.fu an m.asq bt sz m.fr m.to wr f1 f2 f3 f4 f5 a1 a2 a3 a4 a5).trans ?_
  rw [h59]
  simp only [onRes, asTup, asCons, asSl, asInt, if_true, asNil]
  have fin : ∀ (e : Int) (ok : Bool) (st : St), st.clean (deadOf 29 0) = mrightS (mgL m.kd m.ep (.sl a1 f1 l) m.sq m.nn m.fo m.fu (.sl a2 f2 an) m.asq (.sl a3 f3 bt) (.sl a4 f4 sz) m.fr m.to (.sl a5 f5 wr)) e ok ([m.ep, m.sq, m.nn, m.fo, m.fr, m.to].map (AV.int .i64)) (6 : Nat) (0 : Nat) →
      loopA (bodyOf (evF pr k) 29 0 k) (deadOf 29 0) (contOf (evF pr k) 29 0 k 0) k st = some (.bool (ok && ([m.ep, m.sq, m.nn, m.fo, m.fr, m.to].all fitsI && (lined m.ln && (anchorOk m.an m.asq && (bOk m.bt && wOk m.wr))))), []) :=
    fun e ok st hst => mright_loop k m hbt (by omega) l an bt sz wr f1 f2 f3 f4 f5 a1 a2 a3 a4 a5 h1 h2 h3 h5 e [m.ep, m.sq, m.nn, m.fo, m.fr, m.to] (by simp) 6 0 k ok st rfl (by omega) hst
  unfold okM
  by_cases k1 : m.kd ≥ 1
  · by_cases k2 : m.kd ≤ 9
    · rw [decide_eq_true k1, decide_eq_true k2, decide_eq_true (show 1 ≤ m.kd ∧ m.kd ≤ 9 from ⟨k1, k2⟩)]
      simp only [cond_true, Bool.true_and]
      cases hsz : szOk m.sz with
      | true =>
        simp only [if_true, show ((0 : Int) == 0) = true from rfl, cond_true, Bool.true_and]
        exact fin 0 (decide (m.fr ≤ m.to)) _ (by kernel_rfl)
      | false =>
        simp only [Bool.false_eq_true, if_false, show ((1 : Int) == 0) = false from rfl, cond_false, Bool.false_and]
        exact (fin 1 false _ (by kernel_rfl)).trans rfl
    · rw [decide_eq_true k1, decide_eq_false k2, decide_eq_false (show ¬ (1 ≤ m.kd ∧ m.kd ≤ 9) by omega)]
      simp only [cond_true, cond_false, Bool.false_and]
      exact (fin (if szOk m.sz = true then 0 else 1) false _ (by kernel_rfl)).trans rfl
  · rw [decide_eq_false k1, decide_eq_false (show ¬ (1 ≤ m.kd ∧ m.kd ≤ 9) by omega)]
    simp only [cond_false, Bool.false_and]
    exact (fin (if szOk m.sz = true then 0 else 1) false _ (by kernel_rfl)).trans rfl
theorem rmright_tree (F : Fns) (N : Nat) (kd ep : Int) (l : List AV) (sq nn fo : Int) (fu : Bool) (an : List AV) (asq : Int) (bt sz : List AV) (fr to : Int) (wr : List AV) (f1 f2 f3 f4 f5 : Bool) (a1 a2 a3 a4 a5 : Nat) : runOf F 28 N [.agg [.int .i64 kd, .int .i64 ep, .sl a1 f1 l, .int .i64 sq, .int .i64 nn, .int .i64 fo, .bool fu, .sl a2 f2 an, .int .i64 asq, .sl a3 f3 bt, .sl a4 f4 sz, .int .i64 fr, .int .i64 to, .sl a5 f5 wr]] [] =
  onRes (F 54 [AV.sl a4 f4 sz] []) fun v bs => asTup v fun cs => asCons cs fun v r => asSl v fun m fl xs => asCons r fun v r => AM.asBool v fun b => asNil r (asNil bs (bif decide (kd > 0) then bif decide (kd < 10) then onRes (F 55 [AV.int IntKind.i64 ep] []) fun v bs => AM.asBool v fun b_1 => asNil bs (bif b_1 then onRes (F 55 [AV.int IntKind.i64 sq] []) fun v bs => AM.asBool v fun b_2 => asNil bs (bif b_2 then onRes (F 55 [AV.int IntKind.i64 nn] []) fun v bs => AM.asBool v fun b_3 => asNil bs (bif b_3 then onRes (F 55 [AV.int IntKind.i64 fo] []) fun v bs => AM.asBool v fun b_4 => asNil bs (bif b_4 then onRes (F 55 [AV.int IntKind.i64 fr] []) fun v bs => AM.asBool v fun b_5 => asNil bs (bif b_5 then onRes (F 55 [AV.int IntKind.i64 to] []) fun v bs => AM.asBool v fun b_6 => asNil bs (bif b_6 then bif decide (fr ≤ to) then onRes (F 18 [AV.sl a1 f1 l] []) fun v bs => AM.asBool v fun b_7 => asNil bs (bif b_7 then onRes (F 56 [AV.agg [AV.sl a2 f2 an, AV.int IntKind.i64 asq]] []) fun v bs => AM.asBool v fun b_8 => asNil bs (bif b_8 then onRes (F 58 [AV.sl a3 f3 bt] []) fun v bs => AM.asBool v fun b_9 => asNil bs (bif b_9 then bif b then onRes (F 12 [AV.sl a5 f5 wr] []) fun v bs => AM.asBool v fun b => asNil bs (some (AV.bool b, [])) else some (AV.bool false, []) else some (AV.bool false, [])) else onRes (F 57 [AV.agg [AV.sl a2 f2 an, AV.int IntKind.i64 asq]] []) fun v bs => AM.asBool v fun b_9 => asNil bs (bif b_9 then onRes (F 58 [AV.sl a3 f3 bt] []) fun v bs => AM.asBool v fun b_10 => asNil bs (bif b_10 then bif b then onRes (F 12 [AV.sl a5 f5 wr] []) fun v bs => AM.asBool v fun b => asNil bs (some (AV.bool b, [])) else some (AV.bool false, []) else some (AV.bool false, [])) else some (AV.bool false, []))) else some (AV.bool false, [])) else some (AV.bool false, []) else some (AV.bool false, [])) else some (AV.bool false, [])) else some (AV.bool false, [])) else some (AV.bool false, [])) else some (AV.bool false, [])) else some (AV.bool false, [])) else some (AV.bool false, []) else some (AV.bool false, []))) := by kernel_rfl
theorem e28 (k : Nat) (hk : 1201 ≤ k) {x : AV} {m : Ms} (h : IsM x m) (hbt : m.bt.length ≤ 1000) : evF pr k 28 [x] [] = some (.bool (okM m), []) := by
  obtain ⟨k, rfl⟩ : ∃ m, k = m + 1 := ⟨k - 1, by omega⟩
  obtain ⟨v1, v2, v3, v4, v5, rfl, h1, h2, h3, h4, h5⟩ := h
  obtain ⟨a, f, y, h54⟩ := e54' k (by omega) h4
  obtain ⟨a1, f1, l, rfl, _⟩ := h1.sl
  obtain ⟨a2, f2, an, rfl, _⟩ := h2.sl
  obtain ⟨a3, f3, bt, rfl, _⟩ := h3.sl
  obtain ⟨a4, f4, sz, rfl, _⟩ := h4.sl
  obtain ⟨a5, f5, wr, rfl, _⟩ := h5.sl
  rw [ev_step _ _ _ _ (by kernel_rfl)]
  refine (rmright_tree (evF pr k) k m.kd m.ep l m.sq m.nn m.fo m.fu an m.asq bt sz m.fr m.to wr f1 f2 f3 f4 f5 a1 a2 a3 a4 a5).trans ?_
  rw [h54, e18' k (by omega) h1, e56 k (by omega) h2, e57 k (by omega) h2, e58' k h3 (by omega) hbt, e12' k h5 (by omega), e55 k (by omega), e55 k (by omega), e55 k (by omega), e55 k (by omega), e55 k (by omega), e55 k (by omega)]
  simp only [onRes, asTup, asCons, asSl, asBool, asNil]
  unfold okM anchorOk
  simp only [List.all_cons, List.all_nil, Bool.and_true]
  by_cases k1 : m.kd > 0
  · by_cases k2 : m.kd < 10
    · rw [decide_eq_true k1, decide_eq_true k2, decide_eq_true (show 1 ≤ m.kd ∧ m.kd ≤ 9 by omega)]
      simp only [cond_true, Bool.true_and]
      cases fitsI m.ep
      · cases szOk m.sz <;> cases decide (m.fr ≤ m.to) <;> rfl
      cases fitsI m.sq
      · cases szOk m.sz <;> cases decide (m.fr ≤ m.to) <;> rfl
      cases fitsI m.nn
      · cases szOk m.sz <;> cases decide (m.fr ≤ m.to) <;> rfl
      cases fitsI m.fo
      · cases szOk m.sz <;> cases decide (m.fr ≤ m.to) <;> rfl
      cases fitsI m.fr
      · cases szOk m.sz <;> cases decide (m.fr ≤ m.to) <;> rfl
      cases fitsI m.to
      · cases szOk m.sz <;> cases decide (m.fr ≤ m.to) <;> rfl
      cases decide (m.fr ≤ m.to)
      · cases szOk m.sz <;> rfl
      cases lined m.ln
      · cases szOk m.sz <;> rfl
      cases noneOk m.an m.asq <;> cases placedOk m.an m.asq <;> cases bOk m.bt <;> cases szOk m.sz <;> rfl
    · rw [decide_eq_true k1, decide_eq_false k2, decide_eq_false (show ¬ (1 ≤ m.kd ∧ m.kd ≤ 9) by omega)]
      rfl
  · rw [decide_eq_false k1, decide_eq_false (show ¬ (1 ≤ m.kd ∧ m.kd ≤ 9) by omega)]
    rfl

end Go.AM.Ytnhfjkckgicidaa
