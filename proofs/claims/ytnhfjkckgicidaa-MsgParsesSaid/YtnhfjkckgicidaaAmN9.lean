/- Writes: ref08.Equal, ref17.Writable, PutWrites, TakeWrites: what they answer, plain. -/
import Derived.Test.YtnhfjkckgicidaaAmN8
set_option linter.unusedVariables false
set_option linter.unusedSimpArgs false
namespace Go.AM.Ytnhfjkckgicidaa
open Go.AM Go.Proofs Go

/-! ref08.Equal -/
def weqS (fl fl' c : Bool) (xs ys : List AV) (i : Int) : St := ⟨26, [(0, AV.sl 3 fl xs), (1, AV.sl 3 fl' ys), (4, AV.bool false), (5, AV.int IntKind.i64 i), (10, AV.bool c)], [], [], [], [], []⟩
def weqS0 (a b : Nat) (fl fl' c : Bool) : St := ⟨26, [(0, AV.sl a fl []), (1, AV.sl b fl' []), (4, AV.bool false), (5, AV.int IntKind.i64 0), (10, AV.bool c)], [], [], [], [], []⟩
theorem weq_tree (F : Fns) (N : Nat) (a b : Nat) (fl fl' : Bool) (xs ys : List AV) : runOf F 16 N [.sl a fl xs, .sl b fl' ys] [] =
  bif ((List.length xs : Nat) : Int) != ((List.length ys : Nat) : Int) then some (AV.bool false, []) else loopA (bodyOf F 16 0 N) (deadOf 16 0) (contOf F 16 0 N 0) N { nt := 26, t := [(0, AV.sl a fl xs), (1, AV.sl b fl' ys), (4, AV.bool false), (5, AV.int IntKind.i64 0), (10, AV.bool (((List.length xs : Nat) : Int) != ((List.length ys : Nat) : Int)))], b := [], r := [], g := [], rd := [], wr := [] } := by kernel_rfl
theorem weq_body (F : Fns) (N : Nat) (fl fl' c : Bool) (xs ys : List AV) (i : Int) (KN : St → Res) : bodyOf F 16 0 N (weqS fl fl' c xs ys i) (brk (contOf F 16 0 N 0) KN) =
  bif decide (i < ((List.length xs : Nat) : Int)) then bif decide (0 ≤ i) then onOpt xs[Int.toNat i]? fun x => AM.asAgg x fun cs => asCons cs fun v r => AM.asInt IntKind.i64 v fun n => asCons r fun v r => AM.asInt IntKind.i64 v fun n_1 => asCons r fun v r => asStr v fun s => asNil r (bif decide (0 ≤ i) then onOpt ys[Int.toNat i]? fun x => AM.asAgg x fun cs => asCons cs fun v r => AM.asInt IntKind.i64 v fun n_2 => asCons r fun v r => AM.asInt IntKind.i64 v fun n_3 => asCons r fun v r => asStr v fun s_1 => asNil r (bif !(n == n_2 && (n_1 == n_3 && (s == s_1 && true))) then some (AV.bool false, []) else KN { nt := 26, t := [(0, AV.sl 3 fl xs), (1, AV.sl 3 fl' ys), (4, AV.bool false), (5, AV.int IntKind.i64 (IntKind.wrap IntKind.i64 (i + 1))), (10, AV.bool c), (14, AV.bool (decide (i < ((List.length xs : Nat) : Int)))), (25, AV.bool !(n == n_2 && (n_1 == n_3 && (s == s_1 && true))))], b := [], r := [], g := [], rd := [], wr := [] }) else none) else none else some (AV.bool true, []) := by kernel_rfl
theorem weq_body0 (F : Fns) (N : Nat) (a b : Nat) (fl fl' c : Bool) (KN : St → Res) : bodyOf F 16 0 N (weqS0 a b fl fl' c) (brk (contOf F 16 0 N 0) KN) =
  some (AV.bool true, []) := by kernel_rfl
theorem weq_loop (F : Fns) (N : Nat) (fl fl' c : Bool) (l l' : List Wr) (hl : l.length = l'.length) (hb : l.length < 4611686018427387904) : ∀ (dd i m : Nat) (st : St), i + dd = l.length → dd < m → st.clean (deadOf 16 0) = weqS fl fl' c (l.map wrV) (l'.map wrV) i →
    loopA (bodyOf F 16 0 N) (deadOf 16 0) (contOf F 16 0 N 0) m st = some (.bool (decide (l.drop i = l'.drop i)), []) := by
  intro dd
  induction dd with
  | zero =>
    intro i m st hi hm hst
    obtain ⟨m, rfl⟩ : ∃ m', m = m' + 1 := ⟨m - 1, by omega⟩
    have h1 : l.drop i = [] := List.drop_eq_nil_of_le (by omega)
    have h2 : l'.drop i = [] := List.drop_eq_nil_of_le (by omega)
    rw [loopA_succ, hst, weq_body, List.length_map, decide_eq_false (by omega), h1, h2]
    rfl
  | succ dd ih =>
    intro i m st hi hm hst
    obtain ⟨m, rfl⟩ : ∃ m', m = m' + 1 := ⟨m - 1, by omega⟩
    have hlt : i < l.length := by omega
    have hlt' : i < l'.length := by omega
    rw [loopA_succ, hst, weq_body, List.length_map, decide_eq_true (show (i : Int) < l.length by omega), decide_eq_true (show (0 : Int) ≤ i by omega), getWr l i hlt, getWr l' i hlt', List.drop_eq_getElem_cons hlt, List.drop_eq_getElem_cons hlt']
    simp only [cond_true, onOpt, asAgg, asCons, asInt, asStr, if_true, asNil]
    rw [wrap_small (n := (i : Int) + 1) (by omega) (by omega)]
    by_cases hc : l[i] = l'[i]
    · rw [hc]
      simp only [beq_self_eq_true, Bool.true_and, Bool.not_true, cond_false]
      refine (ih (i + 1) m _ (by omega) (by omega) (by kernel_rfl)).trans ?_
      have : decide (l.drop (i + 1) = l'.drop (i + 1)) = decide (l'[i] :: l.drop (i + 1) = l'[i] :: l'.drop (i + 1)) := by
        rw [decide_eq_decide]
        simp only [List.cons.injEq, true_and]
      rw [this]
    · have : ((l[i]).1 == (l'[i]).1 && ((l[i]).2.1 == (l'[i]).2.1 && ((l[i]).2.2 == (l'[i]).2.2 && true))) = false := by
        by_cases h1 : (l[i]).1 = (l'[i]).1
        · by_cases h2 : (l[i]).2.1 = (l'[i]).2.1
          · have h3 : (l[i]).2.2 ≠ (l'[i]).2.2 := fun h3 => hc (Prod.ext h1 (Prod.ext h2 h3))
            simp [h1, h2, h3]
          · simp [h1, h2]
        · simp [h1]
      rw [this, decide_eq_false (fun h => hc (List.cons.inj h).1)]
      rfl
theorem weq_nil (F : Fns) (N m a b : Nat) (fl fl' c : Bool) (st : St) (h : st.clean (deadOf 16 0) = weqS0 a b fl fl' c) : loopA (bodyOf F 16 0 N) (deadOf 16 0) (contOf F 16 0 N 0) (m + 1) st = some (.bool true, []) := by rw [loopA_succ, h, weq_body0]
theorem weq_nils (k a b : Nat) (fl fl' : Bool) : evF pr (k + 2) 16 [.sl a fl [], .sl b fl' []] [] = some (.bool true, []) := by
  rw [ev_step _ _ _ _ (by kernel_rfl), weq_tree, show ((((([] : List AV).length : Nat) : Int)) != ((([] : List AV).length : Nat) : Int)) = false from rfl, cond_false]
  exact weq_nil _ _ _ a b fl fl' false _ (by kernel_rfl)
theorem e16 (k : Nat) (fl fl' : Bool) (l l' : List Wr) (hk : l.length + 3 ≤ k) (hb : l.length < 4611686018427387904) : evF pr k 16 [.sl 3 fl (l.map wrV), .sl 3 fl' (l'.map wrV)] [] = some (.bool (decide (l = l')), []) := by
  obtain ⟨k, rfl⟩ : ∃ m, k = m + 1 := ⟨k - 1, by omega⟩
  rw [ev_step _ _ _ _ (by kernel_rfl), weq_tree, List.length_map, List.length_map]
  by_cases h : l.length = l'.length
  · rw [show (((l.length : Nat) : Int) != ((l'.length : Nat) : Int)) = false by simp [h]]
    exact weq_loop (evF pr k) k fl fl' false l l' h hb l.length 0 k _ (Nat.zero_add _) (by omega) (by kernel_rfl)
  · rw [show (((l.length : Nat) : Int) != ((l'.length : Nat) : Int)) = true by simp only [bne_iff_ne, ne_eq]; omega, decide_eq_false (fun e => h (by rw [e]))]
    rfl
/-- Slices of writes, as they come. -/
def IsW (v : AV) (l : List Wr) : Prop := (∃ fl, v = .sl 3 fl (l.map wrV)) ∨ (l = [] ∧ ∃ a fl, v = .sl a fl [])
theorem IsW.slW (l : List Wr) : IsW (slW l) l := by
  unfold AM.Ytnhfjkckgicidaa.slW
  split
  · rename_i h; exact .inr ⟨h, _, _, rfl⟩
  · exact .inl ⟨_, rfl⟩
theorem e16' (k : Nat) {v v' : AV} {l l' : List Wr} (hv : IsW v l) (hv' : IsW v' l') (hk : l.length + 3 ≤ k) (hb : l.length < 4611686018427387904) : evF pr k 16 [v, v'] [] = some (.bool (decide (l = l')), []) := by
  rcases hv with ⟨fl, rfl⟩ | ⟨rfl, a, fl, rfl⟩
  · rcases hv' with ⟨fl', rfl⟩ | ⟨rfl, a', fl', rfl⟩
    · exact e16 k fl fl' l l' hk hb
    · cases l with
      | nil =>
        obtain ⟨k, rfl⟩ : ∃ m, k = m + 2 := ⟨k - 2, by omega⟩
        exact weq_nils k 3 a' fl fl'
      | cons b r =>
        obtain ⟨k, rfl⟩ : ∃ m, k = m + 1 := ⟨k - 1, by omega⟩
        rw [ev_step _ _ _ _ (by kernel_rfl), weq_tree, List.length_map]
        rw [show ((((b :: r).length : Nat) : Int) != ((([] : List AV).length : Nat) : Int)) = true by simp only [bne_iff_ne, ne_eq, List.length_cons, List.length_nil]; omega]
        rfl
  · rcases hv' with ⟨fl', rfl⟩ | ⟨rfl, a', fl', rfl⟩
    · cases l' with
      | nil =>
        obtain ⟨k, rfl⟩ : ∃ m, k = m + 2 := ⟨k - 2, by simp at hk; omega⟩
        exact weq_nils k a 3 fl fl'
      | cons b r =>
        obtain ⟨k, rfl⟩ : ∃ m, k = m + 1 := ⟨k - 1, by omega⟩
        rw [ev_step _ _ _ _ (by kernel_rfl), weq_tree, List.length_map]
        rw [show (((([] : List AV).length : Nat) : Int) != (((b :: r).length : Nat) : Int)) = true by simp only [bne_iff_ne, ne_eq, List.length_cons, List.length_nil]; omega]
        rfl
    · obtain ⟨k, rfl⟩ : ∃ m, k = m + 2 := ⟨k - 2, by simp at hk; omega⟩
      exact weq_nils k a a' fl fl'
theorem slW_sl (l : List Wr) : ∃ m fl xs, slW l = .sl m fl xs ∧ xs.length = l.length := by
  unfold slW
  split
  · rename_i h; exact ⟨_, _, _, rfl, by simp [h]⟩
  · exact ⟨_, _, _, rfl, by simp⟩

/-! ref17.Writable -/
def rwableS (fl d : Bool) (xs : List AV) (i : Int) : St := ⟨59, [(0, AV.sl 3 fl xs), (2, AV.bool false), (3, AV.int IntKind.i64 i), (13, AV.bool d)], [], [], [], [], []⟩
theorem rwable_tree (F : Fns) (N : Nat) (fl : Bool) (xs : List AV) : runOf F 12 N [.sl 3 fl xs] [] =
  bif decide (((List.length xs : Nat) : Int) > 128) then some (AV.bool false, []) else onRes (F 39 [AV.sl 3 fl xs] []) fun v bs => asSl v fun m fl_1 xs_1 => asNil bs (onRes (F 16 [AV.sl 3 fl xs, AV.sl m fl_1 xs_1] []) fun v bs => AM.asBool v fun b => asNil bs (bif !b then some (AV.bool false, []) else loopA (bodyOf F 12 0 N) (deadOf 12 0) (contOf F 12 0 N 0) N { nt := 59, t := [(0, AV.sl 3 fl xs), (2, AV.bool false), (3, AV.int IntKind.i64 0), (13, AV.bool !b)], b := [], r := [], g := [], rd := [], wr := [] })) := by kernel_rfl
theorem rwable_body (F : Fns) (N : Nat) (fl d : Bool) (xs : List AV) (i : Int) (KN : St → Res) : bodyOf F 12 0 N (rwableS fl d xs i) (brk (contOf F 12 0 N 0) KN) =
  bif decide (i < ((List.length xs : Nat) : Int)) then bif decide (0 ≤ i) then onOpt xs[Int.toNat i]? fun x => AM.asAgg x fun cs => asCons cs fun v r => AM.asInt IntKind.i64 v fun n => asCons r fun v r => AM.asInt IntKind.i64 v fun n_1 => asCons r fun v r => asStr v fun s => asNil r (bif decide (n < 1) then some (AV.bool false, []) else bif decide (0 ≤ i) then onOpt xs[Int.toNat i]? fun x => AM.asAgg x fun cs => asCons cs fun v r => AM.asInt IntKind.i64 v fun n => asCons r fun v r => AM.asInt IntKind.i64 v fun n_2 => asCons r fun v r => asStr v fun s => asNil r (bif decide (n > 255) then some (AV.bool false, []) else bif decide (0 ≤ i) then onOpt xs[Int.toNat i]? fun x => AM.asAgg x fun cs => asCons cs fun v r => AM.asInt IntKind.i64 v fun n => asCons r fun v r => AM.asInt IntKind.i64 v fun n => asCons r fun v r => asStr v fun s => asNil r (bif decide (n < 0) then some (AV.bool false, []) else bif decide (0 ≤ i) then onOpt xs[Int.toNat i]? fun x => AM.asAgg x fun cs => asCons cs fun v r => AM.asInt IntKind.i64 v fun n => asCons r fun v r => AM.asInt IntKind.i64 v fun n => asCons r fun v r => asStr v fun s => asNil r (bif decide (n > 31) then some (AV.bool false, []) else bif decide (0 ≤ i) then onOpt xs[Int.toNat i]? fun x => AM.asAgg x fun cs => asCons cs fun v r => AM.asInt IntKind.i64 v fun n => asCons r fun v r => AM.asInt IntKind.i64 v fun n => asCons r fun v r => asStr v fun s => asNil r (bif decide (((List.length s : Nat) : Int) > 8) then some (AV.bool false, []) else KN { nt := 59, t := [(0, AV.sl 3 fl xs), (2, AV.bool false), (3, AV.int IntKind.i64 (IntKind.wrap IntKind.i64 (i + 1))), (13, AV.bool d), (17, AV.bool (decide (i < ((List.length xs : Nat) : Int)))), (58, AV.bool (decide (((List.length s : Nat) : Int) > 8)))], b := [], r := [], g := [], rd := [], wr := [] }) else none) else none) else none) else none) else none else some (AV.bool true, []) := by kernel_rfl
theorem rwable_loop (F : Fns) (N : Nat) (fl d : Bool) (l : List Wr) (hl : l.length ≤ 1000) : ∀ (dd i m : Nat) (st : St), i + dd = l.length → dd < m → st.clean (deadOf 12 0) = rwableS fl d (l.map wrV) i →
    loopA (bodyOf F 12 0 N) (deadOf 12 0) (contOf F 12 0 N 0) m st = some (.bool (!((l.drop i).any badW)), []) := by
  intro dd
  induction dd with
  | zero =>
    intro i m st hi hm hst
    obtain ⟨m, rfl⟩ : ∃ m', m = m' + 1 := ⟨m - 1, by omega⟩
    have h1 : l.drop i = [] := List.drop_eq_nil_of_le (by omega)
    rw [loopA_succ, hst, rwable_body, List.length_map, decide_eq_false (by omega), h1]
    rfl
  | succ dd ih =>
    intro i m st hi hm hst
    obtain ⟨m, rfl⟩ : ∃ m', m = m' + 1 := ⟨m - 1, by omega⟩
    have hlt : i < l.length := by omega
    rw [loopA_succ, hst, rwable_body, List.length_map, decide_eq_true (show (i : Int) < l.length by omega), decide_eq_true (show (0 : Int) ≤ i by omega), getWr l i hlt, List.drop_eq_getElem_cons hlt, List.any_cons]
    simp only [cond_true, onOpt, asAgg, asCons, asInt, asStr, if_true, asNil]
    rw [wrap_small (n := (i : Int) + 1) (by omega) (by omega)]
    generalize l[i] = w
    by_cases h1 : w.1 < 1
    · rw [decide_eq_true h1, show badW w = true from decide_eq_true (.inl h1)]; rfl
    by_cases h2 : w.1 > 255
    · rw [decide_eq_false h1, decide_eq_true h2, show badW w = true from decide_eq_true (.inr (.inl h2))]; rfl
    by_cases h3 : w.2.1 < 0
    · rw [decide_eq_false h1, decide_eq_false h2, decide_eq_true h3, show badW w = true from decide_eq_true (.inr (.inr (.inl h3)))]; rfl
    by_cases h4 : w.2.1 > 31
    · rw [decide_eq_false h1, decide_eq_false h2, decide_eq_false h3, decide_eq_true h4, show badW w = true from decide_eq_true (.inr (.inr (.inr (.inl (by omega)))))]; rfl
    by_cases h5 : (w.2.2.length : Int) > 8
    · rw [decide_eq_false h1, decide_eq_false h2, decide_eq_false h3, decide_eq_false h4, decide_eq_true h5, show badW w = true from decide_eq_true (.inr (.inr (.inr (.inr h5))))]; rfl
    rw [decide_eq_false h1, decide_eq_false h2, decide_eq_false h3, decide_eq_false h4, decide_eq_false h5, show badW w = false by unfold badW; rw [decide_eq_false_iff_not]; omega]
    simp only [cond_false, Bool.false_or]
    exact ih (i + 1) m _ (by omega) (by omega) (by kernel_rfl)
theorem e12 (k : Nat) (fl : Bool) (l : List Wr) (hk : 230 ≤ k) : evF pr k 12 [.sl 3 fl (l.map wrV)] [] = some (.bool (wOk l), []) := by
  obtain ⟨k, rfl⟩ : ∃ m, k = m + 1 := ⟨k - 1, by omega⟩
  rw [ev_step _ _ _ _ (by kernel_rfl), rwable_tree, List.length_map, wOk]
  by_cases h : l.length ≤ 128
  · rw [decide_eq_false (show ¬ ((l.length : Nat) : Int) > 128 by omega), decide_eq_true h, e39 k fl l (by omega) (by omega)]
    have he := e16' k (.inl ⟨fl, rfl⟩ : IsW (.sl 3 fl (l.map wrV)) l) (IsW.slW (foldAll l)) (by omega) (by omega)
    rw [foldAll_iff] at he
    obtain ⟨m, f2, xs, hsl, _⟩ := slW_sl (foldAll l)
    rw [hsl] at he ⊢
    simp only [cond_false, onRes, asSl, asNil, he, asBool]
    cases sortedW l with
    | false => rfl
    | true =>
      simp only [Bool.not_true, cond_false, Bool.true_and]
      exact rwable_loop (evF pr k) k fl false l (by omega) l.length 0 k _ (Nat.zero_add _) (by omega) (by kernel_rfl)
  · rw [decide_eq_true (show ((l.length : Nat) : Int) > 128 by omega), decide_eq_false h]
    rfl
theorem e12nil (k : Nat) : evF pr (k + 6) 12 [.sl 0 true []] [] = some (.bool true, []) := by kernel_rfl

/-! octet.Text, octet.Take -/
theorem putV_small (n w : Nat) (hw1 : 1 ≤ w) (hw : w ≤ 8) (h : n < 256 ^ w) : putV (n : Int) (w : Int) = (be w n, 0) := by
  unfold putV
  have : n / 256 ^ w = 0 := Nat.div_eq_of_lt h
  rw [if_neg (by omega), if_neg (by omega), Int.toNat_natCast, Int.toNat_natCast, if_neg (by simp [this])]
theorem text_tree (F : Fns) (N : Nat) (s : List UInt8) : runOf F 38 N [.str s] [] =
  bif decide (((List.length s : Nat) : Int) > 65535) then some (AV.tup [AV.str [], AV.int IntKind.i64 5], []) else onRes (F 37 [AV.int IntKind.i64 ((List.length s : Nat) : Int), AV.int IntKind.i64 2] []) fun v bs => asTup v fun cs => asCons cs fun v r => asStr v fun s_1 => asCons r fun v r => AM.asInt IntKind.i64 v fun n => asNil r (asNil bs (bif decide (List.length s_1 + List.length s ≤ 4611686018427387904) then some (AV.tup [AV.str (s_1 ++ s), AV.int IntKind.i64 0], []) else none)) := by kernel_rfl
theorem e38 (k : Nat) (hk : 12 ≤ k) (s : List UInt8) (hs : s.length ≤ 65535) : evF pr k 38 [.str s] [] = some (.tup [.str (be 2 s.length ++ s), .int .i64 0], []) := by
  obtain ⟨k, rfl⟩ : ∃ m, k = m + 1 := ⟨k - 1, by omega⟩
  rw [ev_step _ _ _ _ (by kernel_rfl), text_tree, decide_eq_false (show ¬ ((s.length : Nat) : Int) > 65535 by omega), show (2 : Int) = ((2 : Nat) : Int) from rfl, e37 k (by omega) _ (by omega) 2 (by omega) (by omega), putV_small s.length 2 (by omega) (by omega) (by omega)]
  simp only [cond_false, onRes, asTup, asCons, asStr, asInt, if_true, asNil]
  rw [decide_eq_true (by rw [be_length]; omega)]
  rfl
/-- A text at the beginning, and the rest. -/
def takeT (s : List UInt8) : Option (List UInt8 × List UInt8) := match num 2 s with
  | none => none
  | some (n, t) => if t.length < n then none else some (t.take n, t.drop n)
theorem take_tree (F : Fns) (N : Nat) (s : List UInt8) : runOf F 85 N [.str s] [] =
  onRes (F 88 [AV.str s, AV.int IntKind.i64 2] []) fun v bs => asTup v fun cs => asCons cs fun v r => AM.asInt IntKind.i64 v fun n => asCons r fun v r => asStr v fun s => asCons r fun v r => AM.asInt IntKind.i64 v fun n_1 => asNil r (asNil bs (bif n_1 != 0 then some (AV.tup [AV.str [], AV.str [], AV.int IntKind.i64 2], []) else bif decide (((List.length s : Nat) : Int) < n) then some (AV.tup [AV.str [], AV.str [], AV.int IntKind.i64 2], []) else bif decide ((0 : Int) ≤ 0 ∧ 0 ≤ n ∧ n ≤ ((List.length s : Nat) : Int)) then bif decide (0 ≤ n ∧ n ≤ ((List.length s : Nat) : Int) ∧ ((List.length s : Nat) : Int) ≤ ((List.length s : Nat) : Int)) then some (AV.tup [AV.str (List.drop (Int.toNat 0) (List.take (Int.toNat n) s)), AV.str (List.drop (Int.toNat n) (List.take (Int.toNat ((List.length s : Nat) : Int)) s)), AV.int IntKind.i64 0], []) else none else none)) := by kernel_rfl
theorem e85 (k : Nat) (hk : 12 ≤ k) (s : List UInt8) : evF pr k 85 [.str s] [] = (match takeT s with
    | none => some (.tup [.str [], .str [], .int .i64 2], [])
    | some (a, b) => some (.tup [.str a, .str b, .int .i64 0], [])) := by
  obtain ⟨k, rfl⟩ : ∃ m, k = m + 1 := ⟨k - 1, by omega⟩
  rw [ev_step _ _ _ _ (by kernel_rfl), take_tree, show (2 : Int) = ((2 : Nat) : Int) from rfl, e88 k (by omega) s 2 (by omega) (by omega)]
  simp only [onRes, asTup, asCons, asStr, asInt, if_true, asNil]
  unfold takeT
  cases h : num 2 s with
  | none =>
    rw [show (numE 2 s != 0) = true by simp [num_no h]]
    rfl
  | some q =>
    obtain ⟨n, t⟩ := q
    obtain ⟨r1, r2, r3⟩ := num_at h
    have r4 : numR 2 s = t := by rw [numR, if_pos r1, r3]
    rw [r1, r2, r4]
    simp only [show ((0 : Int) != 0) = false from rfl, cond_false]
    by_cases hl : t.length < n
    · rw [decide_eq_true (show ((t.length : Nat) : Int) < n by omega), if_pos hl]
      rfl
    · rw [decide_eq_false (show ¬ ((t.length : Nat) : Int) < n by omega), if_neg hl, decide_eq_true (show (0 : Int) ≤ 0 ∧ 0 ≤ ((n : Nat) : Int) ∧ ((n : Nat) : Int) ≤ t.length by omega), decide_eq_true (show 0 ≤ ((n : Nat) : Int) ∧ ((n : Nat) : Int) ≤ t.length ∧ ((t.length : Nat) : Int) ≤ t.length by omega)]
      simp only [cond_false, cond_true, Int.toNat_natCast, Int.toNat_zero, List.drop_zero, List.take_length]

/-! PutWrites -/
def wrB (w : Wr) : List UInt8 := [UInt8.ofNat w.1.toNat, UInt8.ofNat w.2.1.toNat] ++ (be 2 w.2.2.length ++ w.2.2)
def putW (l : List Wr) : List UInt8 := be 2 l.length ++ l.flatMap wrB
theorem badW_not {w : Wr} (h : badW w = false) : 1 ≤ w.1 ∧ w.1 ≤ 255 ∧ 0 ≤ w.2.1 ∧ w.2.1 ≤ 31 ∧ w.2.2.length ≤ 8 := by
  unfold badW at h
  rw [decide_eq_false_iff_not] at h
  omega
theorem wrB_length {w : Wr} (h : badW w = false) : (wrB w).length ≤ 12 := by
  have := badW_not h
  unfold wrB
  rw [List.length_append, List.length_append, be_length]
  simp only [List.length_cons, List.length_nil]
  omega
def putwS (fl d : Bool) (xs bs : List AV) (s : List UInt8) (len i : Int) : St := ⟨48, [(0, AV.sl 3 fl xs), (2, AV.str []), (3, AV.int IntKind.i64 0), (4, AV.str s), (6, AV.tip 21 0 1 bs), (13, AV.bool d), (22, AV.sl 3 fl xs), (23, AV.int IntKind.i64 len), (24, AV.int IntKind.i64 i)], [], [], [], [], []⟩
theorem putw_tree (F : Fns) (N : Nat) (fl : Bool) (xs : List AV) : runOf F 11 N [.sl 3 fl xs] [] =
  onRes (F 36 [AV.sl 3 fl xs] []) fun v bs => AM.asBool v fun b => asNil bs (bif !b then some (AV.tup [AV.str [], AV.int IntKind.i64 1], []) else onRes (F 37 [AV.int IntKind.i64 ((List.length xs : Nat) : Int), AV.int IntKind.i64 2] []) fun v bs => asTup v fun cs => asCons cs fun v r => asStr v fun s => asCons r fun v r => AM.asInt IntKind.i64 v fun n => asNil r (asNil bs (bif decide (List.length s ≤ 4611686018427387904) then loopA (bodyOf F 11 0 N) (deadOf 11 0) (contOf F 11 0 N 0) N { nt := 48, t := [(0, AV.sl 3 fl xs), (2, AV.str []), (3, AV.int IntKind.i64 0), (4, AV.str s), (6, AV.tip 21 0 1 (ofBytes s)), (13, AV.bool !b), (22, AV.sl 3 fl xs), (23, AV.int IntKind.i64 ((List.length xs : Nat) : Int)), (24, AV.int IntKind.i64 0)], b := [], r := [], g := [], rd := [], wr := [] } else none))) := by kernel_rfl
theorem putw_body (F : Fns) (N : Nat) (fl d : Bool) (xs bs : List AV) (s : List UInt8) (len i : Int) (KN : St → Res) : bodyOf F 11 0 N (putwS fl d xs bs s len i) (brk (contOf F 11 0 N 0) KN) =
  bif decide (i < len) then bif decide (0 ≤ i) then onOpt xs[Int.toNat i]? fun x => AM.asAgg x fun cs => asCons cs fun v r => AM.asInt IntKind.i64 v fun n => asCons r fun v r => AM.asInt IntKind.i64 v fun n_1 => asCons r fun v r => asStr v fun s_1 => asNil r (onRes (F 38 [AV.str s_1] []) fun v bs_1 => asTup v fun cs => asCons cs fun v r => asStr v fun s_2 => asCons r fun v r => AM.asInt IntKind.i64 v fun n_2 => asNil r (asNil bs_1 (bif decide (1 = 1 ∧ fitsB (List.length bs + List.length [AV.int IntKind.u8 (IntKind.wrap IntKind.u8 n), AV.int IntKind.u8 (IntKind.wrap IntKind.u8 n_1)]) 1 = true ∧ List.length bs + List.length [AV.int IntKind.u8 (IntKind.wrap IntKind.u8 n), AV.int IntKind.u8 (IntKind.wrap IntKind.u8 n_1)] ≤ 4611686018427387904) then bif decide (1 = 1 ∧ fitsB (List.length (bs ++ [AV.int IntKind.u8 (IntKind.wrap IntKind.u8 n), AV.int IntKind.u8 (IntKind.wrap IntKind.u8 n_1)]) + List.length (ofBytes s_2)) 1 = true ∧ List.length (bs ++ [AV.int IntKind.u8 (IntKind.wrap IntKind.u8 n), AV.int IntKind.u8 (IntKind.wrap IntKind.u8 n_1)]) + List.length (ofBytes s_2) ≤ 4611686018427387904) then KN { nt := 48, t := [(0, AV.sl 3 fl xs), (2, AV.str []), (3, AV.int IntKind.i64 0), (4, AV.str s), (6, AV.tip 21 0 1 (bs ++ [AV.int IntKind.u8 (IntKind.wrap IntKind.u8 n), AV.int IntKind.u8 (IntKind.wrap IntKind.u8 n_1)] ++ ofBytes s_2)), (8, AV.ptr 8 0 0), (9, AV.str s_2), (13, AV.bool d), (22, AV.sl 3 fl xs), (23, AV.int IntKind.i64 len), (24, AV.int IntKind.i64 (IntKind.wrap IntKind.i64 (i + 1))), (25, AV.bool (decide (i < len)))], b := [(8, [AV.int IntKind.i64 n, AV.int IntKind.i64 n_1, AV.str s_1])], r := [], g := [], rd := [], wr := [] } else none else none))) else none else onOpt (Option.map AV.str (bytesOf bs)) fun x => asStr x fun s => some (AV.tup [AV.str s, AV.int IntKind.i64 0], []) := by kernel_rfl
theorem u8_wrap {n : Int} (h0 : 0 ≤ n) (h1 : n ≤ 255) : IntKind.wrap IntKind.u8 n = n := by
  simp [IntKind.wrap, IntKind.bits, IntKind.signed]
  omega
theorem putw_loop (k : Nat) (hk : 12 ≤ k) (fl d : Bool) (s0 : List UInt8) (l : List Wr) (hl : l.length ≤ 1000) (hb : l.any badW = false) : ∀ (dd i m : Nat) (acc : List UInt8) (st : St), i + dd = l.length → dd < m → acc.length ≤ 12 * i + 12 → st.clean (deadOf 11 0) = putwS fl d (l.map wrV) (ofBytes acc) s0 l.length i →
    loopA (bodyOf (evF pr k) 11 0 k) (deadOf 11 0) (contOf (evF pr k) 11 0 k 0) m st = some (.tup [.str (acc ++ (l.drop i).flatMap wrB), .int .i64 0], []) := by
  intro dd
  induction dd with
  | zero =>
    intro i m acc st hi hm ha hst
    obtain ⟨m, rfl⟩ : ∃ m', m = m' + 1 := ⟨m - 1, by omega⟩
    have h1 : l.drop i = [] := List.drop_eq_nil_of_le (by omega)
    rw [loopA_succ, hst, putw_body, decide_eq_false (by omega), h1, bytesOf_ofBytes]
    simp [onOpt, asStr]
  | succ dd ih =>
    intro i m acc st hi hm ha hst
    obtain ⟨m, rfl⟩ : ∃ m', m = m' + 1 := ⟨m - 1, by omega⟩
    have hlt : i < l.length := by omega
    have hbi : badW l[i] = false := by
      cases hc : badW l[i] with
      | false => rfl
      | true =>
        have : l.any badW = true := List.any_eq_true.2 ⟨l[i], List.getElem_mem hlt, hc⟩
        rw [hb] at this
        exact absurd this (by simp)
    have hg := badW_not hbi
    have hlen := wrB_length hbi
    rw [loopA_succ, hst, putw_body, decide_eq_true (show (i : Int) < l.length by omega), decide_eq_true (show (0 : Int) ≤ i by omega), getWr l i hlt, List.drop_eq_getElem_cons hlt, List.flatMap_cons]
    simp only [cond_true, onOpt, asAgg, asCons, asInt, asStr, if_true, asNil]
    rw [e38 k (by omega) _ (by omega)]
    simp only [onRes, asTup, asCons, asStr, asInt, if_true, asNil]
    generalize l[i] = w at *
    rw [u8_wrap (by omega) (by omega), u8_wrap (by omega) (by omega)]
    have e1 : [AV.int IntKind.u8 w.1, AV.int IntKind.u8 w.2.1] = ofBytes [UInt8.ofNat w.1.toNat, UInt8.ofNat w.2.1.toNat] := by
      have a1 : ((UInt8.ofNat w.1.toNat).toNat : Int) = w.1 := by simp; omega
      have a2 : ((UInt8.ofNat w.2.1.toNat).toNat : Int) = w.2.1 := by simp; omega
      simp only [ofBytes, List.map_cons, List.map_nil, a1, a2]
    rw [e1, ofBytes_append, ofBytes_append]
    have hle : (wrB w).length = 2 + (be 2 w.2.2.length ++ w.2.2).length := by
      unfold wrB
      rw [List.length_append]
      simp only [List.length_cons, List.length_nil]
    rw [decide_eq_true (by
      refine ⟨trivial, fitsB_small ?_, ?_⟩ <;> simp only [ofBytes, List.length_map, List.length_cons, List.length_nil] <;> omega)]
    rw [decide_eq_true (by
      refine ⟨trivial, fitsB_small ?_, ?_⟩ <;> simp only [ofBytes, List.length_map, List.length_append, List.length_cons, List.length_nil] at hle ⊢ <;> omega)]
    simp only [cond_true]
    rw [wrap_small (n := (i : Int) + 1) (by omega) (by omega)]
    have hacc : acc ++ wrB w = acc ++ [UInt8.ofNat w.1.toNat, UInt8.ofNat w.2.1.toNat] ++ (be 2 w.2.2.length ++ w.2.2) := by rw [wrB, List.append_assoc]
    refine (ih (i + 1) m (acc ++ wrB w) _ (by omega) (by omega) (by rw [List.length_append]; omega) (by rw [hacc]; kernel_rfl)).trans ?_
    rw [List.append_assoc]
theorem wOk_parts {l : List Wr} (h : wOk l = true) : l.length ≤ 128 ∧ sortedW l = true ∧ l.any badW = false := by
  unfold wOk at h
  simp only [Bool.and_eq_true, decide_eq_true_eq, Bool.not_eq_true'] at h
  exact ⟨h.1, h.2.1, h.2.2⟩
theorem e11 (k : Nat) (fl : Bool) (l : List Wr) (hk : 230 ≤ k) : evF pr k 11 [.sl 3 fl (l.map wrV)] [] = some (if wOk l then .tup [.str (putW l), .int .i64 0] else .tup [.str [], .int .i64 1], []) := by
  obtain ⟨k, rfl⟩ : ∃ m, k = m + 1 := ⟨k - 1, by omega⟩
  rw [ev_step _ _ _ _ (by kernel_rfl), putw_tree, List.length_map, e36 k fl l (by omega)]
  simp only [onRes, asBool, asNil]
  cases hok : wOk l with
  | false => rfl
  | true =>
    obtain ⟨h1, h2, h3⟩ := wOk_parts hok
    rw [show (2 : Int) = ((2 : Nat) : Int) from rfl, e37 k (by omega) _ (by omega) 2 (by omega) (by omega), putV_small l.length 2 (by omega) (by omega) (by omega)]
    simp only [Bool.not_true, cond_false, onRes, asTup, asCons, asStr, asInt, if_true, asNil]
    rw [decide_eq_true (by rw [be_length]; omega)]
    exact putw_loop k (by omega) fl false (be 2 l.length) l (by omega) h3 l.length 0 k (be 2 l.length) _ (Nat.zero_add _) (by omega) (by rw [be_length]; omega) (by kernel_rfl)
def rputwS (fl : Bool) (xs : List AV) (s : List UInt8) (i : Int) : St := ⟨44, [(0, AV.sl 3 fl xs), (2, AV.str []), (3, AV.str s), (4, AV.int IntKind.i64 i)], [], [], [], [], []⟩
theorem rputw_tree (F : Fns) (N : Nat) (fl : Bool) (xs : List AV) : runOf F 13 N [.sl 3 fl xs] [] =
  onRes (F 40 [AV.int IntKind.i64 ((List.length xs : Nat) : Int)] []) fun v bs => asStr v fun s => asNil bs (loopA (bodyOf F 13 0 N) (deadOf 13 0) (contOf F 13 0 N 0) N { nt := 44, t := [(0, AV.sl 3 fl xs), (2, AV.str []), (3, AV.str s), (4, AV.int IntKind.i64 0)], b := [], r := [], g := [], rd := [], wr := [] }) := by kernel_rfl
theorem rputw_body (F : Fns) (N : Nat) (fl : Bool) (xs : List AV) (s : List UInt8) (i : Int) (KN : St → Res) : bodyOf F 13 0 N (rputwS fl xs s i) (brk (contOf F 13 0 N 0) KN) =
  bif decide (i < ((List.length xs : Nat) : Int)) then bif decide (0 ≤ i) then onOpt xs[Int.toNat i]? fun x => AM.asAgg x fun cs => asCons cs fun v r => AM.asInt IntKind.i64 v fun n => asCons r fun v r => AM.asInt IntKind.i64 v fun n_1 => asCons r fun v r => asStr v fun s_1 => asNil r (onRes (F 41 [AV.int IntKind.i64 n] []) fun v bs => asStr v fun s_2 => asNil bs (bif decide (List.length s + List.length s_2 ≤ 4611686018427387904) then bif decide (0 ≤ i) then onOpt xs[Int.toNat i]? fun x => AM.asAgg x fun cs => asCons cs fun v r => AM.asInt IntKind.i64 v fun n => asCons r fun v r => AM.asInt IntKind.i64 v fun n => asCons r fun v r => asStr v fun s_3 => asNil r (onRes (F 41 [AV.int IntKind.i64 n] []) fun v bs => asStr v fun s_4 => asNil bs (bif decide (List.length (s ++ s_2) + List.length s_4 ≤ 4611686018427387904) then bif decide (0 ≤ i) then onOpt xs[Int.toNat i]? fun x => AM.asAgg x fun cs => asCons cs fun v r => AM.asInt IntKind.i64 v fun n => asCons r fun v r => AM.asInt IntKind.i64 v fun n => asCons r fun v r => asStr v fun s_5 => asNil r (onRes (F 40 [AV.int IntKind.i64 ((List.length s_5 : Nat) : Int)] []) fun v bs => asStr v fun s_6 => asNil bs (bif decide (List.length (s ++ s_2 ++ s_4) + List.length s_6 ≤ 4611686018427387904) then bif decide (0 ≤ i) then onOpt xs[Int.toNat i]? fun x => AM.asAgg x fun cs => asCons cs fun v r => AM.asInt IntKind.i64 v fun n => asCons r fun v r => AM.asInt IntKind.i64 v fun n => asCons r fun v r => asStr v fun s_7 => asNil r (bif decide (List.length (s ++ s_2 ++ s_4 ++ s_6) + List.length s_7 ≤ 4611686018427387904) then KN { nt := 44, t := [(0, AV.sl 3 fl xs), (2, AV.str []), (3, AV.str (s ++ s_2 ++ s_4 ++ s_6 ++ s_7)), (4, AV.int IntKind.i64 (IntKind.wrap IntKind.i64 (i + 1))), (11, AV.bool (decide (i < ((List.length xs : Nat) : Int))))], b := [], r := [], g := [], rd := [], wr := [] } else none) else none else none)) else none else none)) else none else none)) else none else some (AV.str s, []) := by kernel_rfl
theorem e41' (k : Nat) (hk : 1 ≤ k) (n : Int) (hn : 0 ≤ n) : evF pr k 41 [.int .i64 n] [] = some (.str [UInt8.ofNat n.toNat], []) := by
  obtain ⟨m, rfl⟩ : ∃ m : Nat, n = m := ⟨n.toNat, by omega⟩
  rw [e41 k hk m, Int.toNat_natCast]
theorem rputw_loop (k : Nat) (hk : 12 ≤ k) (fl : Bool) (l : List Wr) (hl : l.length ≤ 1000) (hb : l.any badW = false) : ∀ (dd i m : Nat) (acc : List UInt8) (st : St), i + dd = l.length → dd < m → acc.length ≤ 12 * i + 12 → st.clean (deadOf 13 0) = rputwS fl (l.map wrV) acc i →
    loopA (bodyOf (evF pr k) 13 0 k) (deadOf 13 0) (contOf (evF pr k) 13 0 k 0) m st = some (.str (acc ++ (l.drop i).flatMap wrB), []) := by
  intro dd
  induction dd with
  | zero =>
    intro i m acc st hi hm ha hst
    obtain ⟨m, rfl⟩ : ∃ m', m = m' + 1 := ⟨m - 1, by omega⟩
    have h1 : l.drop i = [] := List.drop_eq_nil_of_le (by omega)
    rw [loopA_succ, hst, rputw_body, List.length_map, decide_eq_false (by omega), h1]
    simp
  | succ dd ih =>
    intro i m acc st hi hm ha hst
    obtain ⟨m, rfl⟩ : ∃ m', m = m' + 1 := ⟨m - 1, by omega⟩
    have hlt : i < l.length := by omega
    have hbi : badW l[i] = false := by
      cases hc : badW l[i] with
      | false => rfl
      | true =>
        have : l.any badW = true := List.any_eq_true.2 ⟨l[i], List.getElem_mem hlt, hc⟩
        rw [hb] at this
        exact absurd this (by simp)
    have hg := badW_not hbi
    have hlen := wrB_length hbi
    rw [loopA_succ, hst, rputw_body, List.length_map, decide_eq_true (show (i : Int) < l.length by omega), decide_eq_true (show (0 : Int) ≤ i by omega), getWr l i hlt, List.drop_eq_getElem_cons hlt, List.flatMap_cons]
    simp only [cond_true, onOpt, asAgg, asCons, asInt, asStr, if_true, asNil]
    generalize l[i] = w at *
    rw [e41' k (by omega) w.1 (by omega), e41' k (by omega) w.2.1 (by omega), e40 k (by omega) w.2.2.length (by omega)]
    simp only [onRes, asStr, asNil]
    have hle : (wrB w).length = 2 + (be 2 w.2.2.length ++ w.2.2).length := by
      unfold wrB
      rw [List.length_append]
      simp only [List.length_cons, List.length_nil]
    simp only [List.length_append, List.length_cons, List.length_nil, be_length] at hle ⊢
    rw [decide_eq_true (show acc.length + (0 + 1) ≤ 4611686018427387904 by omega), decide_eq_true (show acc.length + (0 + 1) + (0 + 1) ≤ 4611686018427387904 by omega), decide_eq_true (show acc.length + (0 + 1) + (0 + 1) + 2 ≤ 4611686018427387904 by omega), decide_eq_true (show acc.length + (0 + 1) + (0 + 1) + 2 + w.2.2.length ≤ 4611686018427387904 by omega)]
    simp only [cond_true]
    rw [wrap_small (n := (i : Int) + 1) (by omega) (by omega)]
    have hacc : acc ++ wrB w = acc ++ [UInt8.ofNat w.1.toNat] ++ [UInt8.ofNat w.2.1.toNat] ++ be 2 w.2.2.length ++ w.2.2 := by simp [wrB]
    refine (ih (i + 1) m (acc ++ wrB w) _ (by omega) (by omega) (by rw [List.length_append]; omega) (by rw [hacc]; kernel_rfl)).trans ?_
    rw [List.append_assoc]
theorem e13 (k : Nat) (fl : Bool) (l : List Wr) (hk : 230 ≤ k) (hok : wOk l = true) : evF pr k 13 [.sl 3 fl (l.map wrV)] [] = some (.str (putW l), []) := by
  obtain ⟨k, rfl⟩ : ∃ m, k = m + 1 := ⟨k - 1, by omega⟩
  obtain ⟨h1, h2, h3⟩ := wOk_parts hok
  rw [ev_step _ _ _ _ (by kernel_rfl), rputw_tree, List.length_map, e40 k (by omega) l.length (by omega)]
  simp only [onRes, asStr, asNil]
  exact rputw_loop k (by omega) fl l (by omega) h3 l.length 0 k (be 2 l.length) _ (Nat.zero_add _) (by omega) (by rw [be_length]; omega) (by kernel_rfl)

end Go.AM.Ytnhfjkckgicidaa
