/- Bits: ref10.Parse, Equal; numbers and places; volumes: Right and Blank: what they answer, plain. -/
import Derived.Test.YtnhfjkckgicidaaAmNC
set_option linter.unusedVariables false
set_option linter.unusedSimpArgs false
namespace Go.AM.Ytnhfjkckgicidaa
open Go.AM Go.Proofs Go

/-! ref10.Equal -/
def teqS (fl fl' c : Bool) (xs ys : List AV) (i : Int) : St := ⟨26, [(0, AV.sl 2 fl xs), (1, AV.sl 2 fl' ys), (4, AV.bool false), (5, AV.int IntKind.i64 i), (10, AV.bool c)], [], [], [], [], []⟩
def teqS0 (a b : Nat) (fl fl' c : Bool) : St := ⟨26, [(0, AV.sl a fl []), (1, AV.sl b fl' []), (4, AV.bool false), (5, AV.int IntKind.i64 0), (10, AV.bool c)], [], [], [], [], []⟩
theorem teq_tree (F : Fns) (N : Nat) (a b : Nat) (fl fl' : Bool) (xs ys : List AV) : runOf F 52 N [.sl a fl xs, .sl b fl' ys] [] =
  bif ((List.length xs : Nat) : Int) != ((List.length ys : Nat) : Int) then some (AV.bool false, []) else loopA (bodyOf F 52 0 N) (deadOf 52 0) (contOf F 52 0 N 0) N { nt := 26, t := [(0, AV.sl a fl xs), (1, AV.sl b fl' ys), (4, AV.bool false), (5, AV.int IntKind.i64 0), (10, AV.bool (((List.length xs : Nat) : Int) != ((List.length ys : Nat) : Int)))], b := [], r := [], g := [], rd := [], wr := [] } := by kernel_rfl
theorem teq_body (F : Fns) (N : Nat) (fl fl' c : Bool) (xs ys : List AV) (i : Int) (KN : St → Res) : bodyOf F 52 0 N (teqS fl fl' c xs ys i) (brk (contOf F 52 0 N 0) KN) =
  bif decide (i < ((List.length xs : Nat) : Int)) then bif decide (0 ≤ i) then onOpt xs[Int.toNat i]? fun x => AM.asAgg x fun cs => asCons cs fun v r => AM.asInt IntKind.i64 v fun n => asCons r fun v r => AM.asInt IntKind.u64 v fun n_1 => asNil r (bif decide (0 ≤ i) then onOpt ys[Int.toNat i]? fun x => AM.asAgg x fun cs => asCons cs fun v r => AM.asInt IntKind.i64 v fun n_2 => asCons r fun v r => AM.asInt IntKind.u64 v fun n_3 => asNil r (bif !(n == n_2 && (n_1 == n_3 && true)) then some (AV.bool false, []) else KN { nt := 26, t := [(0, AV.sl 2 fl xs), (1, AV.sl 2 fl' ys), (4, AV.bool false), (5, AV.int IntKind.i64 (IntKind.wrap IntKind.i64 (i + 1))), (10, AV.bool c), (14, AV.bool (decide (i < ((List.length xs : Nat) : Int)))), (25, AV.bool !(n == n_2 && (n_1 == n_3 && true)))], b := [], r := [], g := [], rd := [], wr := [] }) else none) else none else some (AV.bool true, []) := by kernel_rfl
theorem teq_body0 (F : Fns) (N : Nat) (a b : Nat) (fl fl' c : Bool) (KN : St → Res) : bodyOf F 52 0 N (teqS0 a b fl fl' c) (brk (contOf F 52 0 N 0) KN) =
  some (AV.bool true, []) := by kernel_rfl
theorem teq_loop (F : Fns) (N : Nat) (fl fl' c : Bool) (l l' : List (Int × Int)) (hl : l.length = l'.length) (hb : l.length < 4611686018427387904) : ∀ (dd i m : Nat) (st : St), i + dd = l.length → dd < m → st.clean (deadOf 52 0) = teqS fl fl' c (l.map btV) (l'.map btV) i →
    loopA (bodyOf F 52 0 N) (deadOf 52 0) (contOf F 52 0 N 0) m st = some (.bool (decide (l.drop i = l'.drop i)), []) := by
  intro dd
  induction dd with
  | zero =>
    intro i m st hi hm hst
    obtain ⟨m, rfl⟩ : ∃ m', m = m' + 1 := ⟨m - 1, by omega⟩
    have h1 : l.drop i = [] := List.drop_eq_nil_of_le (by omega)
    have h2 : l'.drop i = [] := List.drop_eq_nil_of_le (by omega)
    rw [loopA_succ, hst, teq_body, List.length_map, decide_eq_false (by omega), h1, h2]
    rfl
  | succ dd ih =>
    intro i m st hi hm hst
    obtain ⟨m, rfl⟩ : ∃ m', m = m' + 1 := ⟨m - 1, by omega⟩
    have hlt : i < l.length := by omega
    have hlt' : i < l'.length := by omega
    rw [loopA_succ, hst, teq_body, List.length_map, decide_eq_true (show (i : Int) < l.length by omega), decide_eq_true (show (0 : Int) ≤ i by omega), getBt l i hlt, getBt l' i hlt', List.drop_eq_getElem_cons hlt, List.drop_eq_getElem_cons hlt']
    simp only [cond_true, onOpt, asAgg, asCons, asInt, if_true, asNil]
    rw [wrap_small (n := (i : Int) + 1) (by omega) (by omega)]
    by_cases hc : l[i] = l'[i]
    · rw [hc]
      simp only [beq_self_eq_true, Bool.true_and, Bool.not_true, cond_false]
      refine (ih (i + 1) m _ (by omega) (by omega) (by kernel_rfl)).trans ?_
      have : decide (l.drop (i + 1) = l'.drop (i + 1)) = decide (l'[i] :: l.drop (i + 1) = l'[i] :: l'.drop (i + 1)) := by
        rw [decide_eq_decide]
        simp only [List.cons.injEq, true_and]
      rw [this]
    · have : ((l[i]).1 == (l'[i]).1 && ((l[i]).2 == (l'[i]).2 && true)) = false := by
        by_cases h1 : (l[i]).1 = (l'[i]).1
        · have h2 : (l[i]).2 ≠ (l'[i]).2 := fun h2 => hc (Prod.ext h1 h2)
          simp [h1, h2]
        · simp [h1]
      rw [this, decide_eq_false (fun h => hc (List.cons.inj h).1)]
      rfl
theorem teq_nil (F : Fns) (N m a b : Nat) (fl fl' c : Bool) (st : St) (h : st.clean (deadOf 52 0) = teqS0 a b fl fl' c) : loopA (bodyOf F 52 0 N) (deadOf 52 0) (contOf F 52 0 N 0) (m + 1) st = some (.bool true, []) := by rw [loopA_succ, h, teq_body0]
theorem e52 (k : Nat) (fl fl' : Bool) (l l' : List (Int × Int)) (hk : l.length + 3 ≤ k) (hb : l.length < 4611686018427387904) : evF pr k 52 [.sl 2 fl (l.map btV), .sl 2 fl' (l'.map btV)] [] = some (.bool (decide (l = l')), []) := by
  obtain ⟨k, rfl⟩ : ∃ m, k = m + 1 := ⟨k - 1, by omega⟩
  rw [ev_step _ _ _ _ (by kernel_rfl), teq_tree, List.length_map, List.length_map]
  by_cases h : l.length = l'.length
  · rw [show (((l.length : Nat) : Int) != ((l'.length : Nat) : Int)) = false by simp [h]]
    exact teq_loop (evF pr k) k fl fl' false l l' h hb l.length 0 k _ (Nat.zero_add _) (by omega) (by kernel_rfl)
  · rw [show (((l.length : Nat) : Int) != ((l'.length : Nat) : Int)) = true by simp only [bne_iff_ne, ne_eq]; omega, decide_eq_false (fun e => h (by rw [e]))]
    rfl
theorem teq_nils (k a b : Nat) (fl fl' : Bool) : evF pr (k + 2) 52 [.sl a fl [], .sl b fl' []] [] = some (.bool true, []) := by
  rw [ev_step _ _ _ _ (by kernel_rfl), teq_tree, show ((((([] : List AV).length : Nat) : Int)) != ((([] : List AV).length : Nat) : Int)) = false from rfl, cond_false]
  exact teq_nil _ _ _ a b fl fl' false _ (by kernel_rfl)
/-- Slices of bits, as they come. -/
def IsT (v : AV) (l : List (Int × Int)) : Prop := (∃ fl, v = .sl 2 fl (l.map btV)) ∨ (l = [] ∧ ∃ a fl, v = .sl a fl [])
theorem IsT.slT (l : List (Int × Int)) : IsT (slT l) l := by
  unfold AM.Ytnhfjkckgicidaa.slT
  split
  · rename_i h; exact .inr ⟨h, _, _, rfl⟩
  · exact .inl ⟨_, rfl⟩
theorem e52' (k : Nat) {v v' : AV} {l l' : List (Int × Int)} (hv : IsT v l) (hv' : IsT v' l') (hk : l.length + 3 ≤ k) (hb : l.length < 4611686018427387904) : evF pr k 52 [v, v'] [] = some (.bool (decide (l = l')), []) := by
  rcases hv with ⟨fl, rfl⟩ | ⟨rfl, a, fl, rfl⟩
  · rcases hv' with ⟨fl', rfl⟩ | ⟨rfl, a', fl', rfl⟩
    · exact e52 k fl fl' l l' hk hb
    · cases l with
      | nil =>
        obtain ⟨k, rfl⟩ : ∃ m, k = m + 2 := ⟨k - 2, by omega⟩
        exact teq_nils k 2 a' fl fl'
      | cons b r =>
        obtain ⟨k, rfl⟩ : ∃ m, k = m + 1 := ⟨k - 1, by omega⟩
        rw [ev_step _ _ _ _ (by kernel_rfl), teq_tree, List.length_map]
        rw [show ((((b :: r).length : Nat) : Int) != ((([] : List AV).length : Nat) : Int)) = true by simp only [bne_iff_ne, ne_eq, List.length_cons, List.length_nil]; omega]
        rfl
  · rcases hv' with ⟨fl', rfl⟩ | ⟨rfl, a', fl', rfl⟩
    · cases l' with
      | nil =>
        obtain ⟨k, rfl⟩ : ∃ m, k = m + 2 := ⟨k - 2, by simp at hk; omega⟩
        exact teq_nils k a 2 fl fl'
      | cons b r =>
        obtain ⟨k, rfl⟩ : ∃ m, k = m + 1 := ⟨k - 1, by omega⟩
        rw [ev_step _ _ _ _ (by kernel_rfl), teq_tree, List.length_map]
        rw [show (((([] : List AV).length : Nat) : Int) != (((b :: r).length : Nat) : Int)) = true by simp only [bne_iff_ne, ne_eq, List.length_cons, List.length_nil]; omega]
        rfl
    · obtain ⟨k, rfl⟩ : ∃ m, k = m + 2 := ⟨k - 2, by simp at hk; omega⟩
      exact teq_nils k a a' fl fl'

theorem slT_sl (l : List (Int × Int)) : ∃ m fl xs, slT l = .sl m fl xs ∧ xs.length = l.length := by
  unfold slT
  split
  · rename_i h; exact ⟨_, _, _, rfl, by simp [h]⟩
  · exact ⟨_, _, _, rfl, by simp⟩

/-! ref10.Parse -/
def rbparseS (s : List UInt8) (v : AV) (i : Int) (d : Bool) : St := ⟨72, [(0, AV.str s), (2, AV.sl 0 true []), (3, AV.str []), (4, AV.int IntKind.i64 0), (5, v), (6, AV.int IntKind.i64 i), (20, AV.bool d)], [], [], [], [], []⟩
theorem rbparse_tree (F : Fns) (N : Nat) (s : List UInt8) : runOf F 51 N [.str s] [] =
  bif ((List.length s : Nat) : Int) == 0 then some (AV.tup [AV.sl 0 true [], AV.str [], AV.int IntKind.i64 2], []) else onOpt (Option.map (fun b => AV.int IntKind.u8 ((UInt8.toNat b : Nat) : Int)) s[Int.toNat 0]?) fun x => AM.asInt IntKind.u8 x fun n => bif decide (IntKind.wrap IntKind.i64 (((List.length s : Nat) : Int) - 1) < IntKind.wrap IntKind.i64 (5 * IntKind.wrap IntKind.i64 n)) then some (AV.tup [AV.sl 0 true [], AV.str [], AV.int IntKind.i64 2], []) else loopA (bodyOf F 51 0 N) (deadOf 51 0) (contOf F 51 0 N 0) N { nt := 72, t := [(0, AV.str s), (2, AV.sl 0 true []), (3, AV.str []), (4, AV.int IntKind.i64 0), (5, AV.sl 0 true []), (6, AV.int IntKind.i64 0), (20, AV.bool (decide (IntKind.wrap IntKind.i64 (((List.length s : Nat) : Int) - 1) < IntKind.wrap IntKind.i64 (5 * IntKind.wrap IntKind.i64 n))))], b := [], r := [], g := [], rd := [], wr := [] } := by kernel_rfl
theorem rbparse_body0 (F : Fns) (N : Nat) (s : List UInt8) (i : Int) (d : Bool) (KN : St → Res) : bodyOf F 51 0 N (rbparseS s (.sl 0 true []) i d) (brk (contOf F 51 0 N 0) KN) =
  onOpt (Option.map (fun b => AV.int IntKind.u8 ((UInt8.toNat b : Nat) : Int)) s[Int.toNat 0]?) fun x => AM.asInt IntKind.u8 x fun n => bif decide (i < IntKind.wrap IntKind.i64 n) then bif decide (0 ≤ IntKind.wrap IntKind.i64 (1 + IntKind.wrap IntKind.i64 (5 * i)) ∧ IntKind.wrap IntKind.i64 (1 + IntKind.wrap IntKind.i64 (5 * i)) ≤ IntKind.wrap IntKind.i64 (6 + IntKind.wrap IntKind.i64 (5 * i)) ∧ IntKind.wrap IntKind.i64 (6 + IntKind.wrap IntKind.i64 (5 * i)) ≤ ((List.length s : Nat) : Int)) then onOpt (Option.map (fun b => AV.int IntKind.u8 ((UInt8.toNat b : Nat) : Int)) (List.drop (Int.toNat (IntKind.wrap IntKind.i64 (1 + IntKind.wrap IntKind.i64 (5 * i)))) (List.take (Int.toNat (IntKind.wrap IntKind.i64 (6 + IntKind.wrap IntKind.i64 (5 * i)))) s))[Int.toNat 0]?) fun x => AM.asInt IntKind.u8 x fun n_1 => onOpt (Option.map (fun b => AV.int IntKind.u8 ((UInt8.toNat b : Nat) : Int)) (List.drop (Int.toNat (IntKind.wrap IntKind.i64 (1 + IntKind.wrap IntKind.i64 (5 * i)))) (List.take (Int.toNat (IntKind.wrap IntKind.i64 (6 + IntKind.wrap IntKind.i64 (5 * i)))) s))[Int.toNat 1]?) fun x => AM.asInt IntKind.u8 x fun n_2 => onOpt (Option.map (fun b => AV.int IntKind.u8 ((UInt8.toNat b : Nat) : Int)) (List.drop (Int.toNat (IntKind.wrap IntKind.i64 (1 + IntKind.wrap IntKind.i64 (5 * i)))) (List.take (Int.toNat (IntKind.wrap IntKind.i64 (6 + IntKind.wrap IntKind.i64 (5 * i)))) s))[Int.toNat 2]?) fun x => AM.asInt IntKind.u8 x fun n_3 => onOpt (Option.map (fun b => AV.int IntKind.u8 ((UInt8.toNat b : Nat) : Int)) (List.drop (Int.toNat (IntKind.wrap IntKind.i64 (1 + IntKind.wrap IntKind.i64 (5 * i)))) (List.take (Int.toNat (IntKind.wrap IntKind.i64 (6 + IntKind.wrap IntKind.i64 (5 * i)))) s))[Int.toNat 3]?) fun x => AM.asInt IntKind.u8 x fun n_4 => onOpt (Option.map (fun b => AV.int IntKind.u8 ((UInt8.toNat b : Nat) : Int)) (List.drop (Int.toNat (IntKind.wrap IntKind.i64 (1 + IntKind.wrap IntKind.i64 (5 * i)))) (List.take (Int.toNat (IntKind.wrap IntKind.i64 (6 + IntKind.wrap IntKind.i64 (5 * i)))) s))[Int.toNat 4]?) fun x => AM.asInt IntKind.u8 x fun n_5 => KN { nt := 72, t := [(0, AV.str s), (2, AV.sl 0 true []), (3, AV.str []), (4, AV.int IntKind.i64 0), (5, AV.tip 60 0 2 [AV.agg [AV.int IntKind.i64 (IntKind.wrap IntKind.i64 n_1), AV.int IntKind.u64 (IntKind.wrap IntKind.u64 (IntKind.wrap IntKind.u64 (IntKind.wrap IntKind.u64 (IntKind.wrap IntKind.u64 (IntKind.wrap IntKind.u64 n_2 * 16777216) + IntKind.wrap IntKind.u64 (IntKind.wrap IntKind.u64 n_3 * 65536)) + IntKind.wrap IntKind.u64 (IntKind.wrap IntKind.u64 n_4 * 256)) + IntKind.wrap IntKind.u64 n_5))]]), (6, AV.int IntKind.i64 (IntKind.wrap IntKind.i64 (i + 1))), (7, AV.str (List.drop (Int.toNat (IntKind.wrap IntKind.i64 (1 + IntKind.wrap IntKind.i64 (5 * i)))) (List.take (Int.toNat (IntKind.wrap IntKind.i64 (6 + IntKind.wrap IntKind.i64 (5 * i)))) s))), (20, AV.bool d), (25, AV.bool (decide (i < IntKind.wrap IntKind.i64 n)))], b := [], r := [], g := [], rd := [], wr := [] } else none else onRes (F 58 [AV.sl 0 true []] []) fun v bs => AM.asBool v fun b => asNil bs (bif !b then some (AV.tup [AV.sl 0 true [], AV.str [], AV.int IntKind.i64 3], []) else onOpt (Option.map (fun b => AV.int IntKind.u8 ((UInt8.toNat b : Nat) : Int)) s[Int.toNat 0]?) fun x => AM.asInt IntKind.u8 x fun n => bif decide (0 ≤ IntKind.wrap IntKind.i64 (1 + IntKind.wrap IntKind.i64 (5 * IntKind.wrap IntKind.i64 n)) ∧ IntKind.wrap IntKind.i64 (1 + IntKind.wrap IntKind.i64 (5 * IntKind.wrap IntKind.i64 n)) ≤ ((List.length s : Nat) : Int) ∧ ((List.length s : Nat) : Int) ≤ ((List.length s : Nat) : Int)) then some (AV.tup [AV.sl 0 true [], AV.str (List.drop (Int.toNat (IntKind.wrap IntKind.i64 (1 + IntKind.wrap IntKind.i64 (5 * IntKind.wrap IntKind.i64 n)))) (List.take (Int.toNat ((List.length s : Nat) : Int)) s)), AV.int IntKind.i64 0], []) else none) := by kernel_rfl
theorem rbparse_body1 (F : Fns) (N : Nat) (s : List UInt8) (ys : List AV) (i : Int) (d : Bool) (KN : St → Res) : bodyOf F 51 0 N (rbparseS s (.tip 60 0 2 ys) i d) (brk (contOf F 51 0 N 0) KN) =
  onOpt (Option.map (fun b => AV.int IntKind.u8 ((UInt8.toNat b : Nat) : Int)) s[Int.toNat 0]?) fun x => AM.asInt IntKind.u8 x fun n => bif decide (i < IntKind.wrap IntKind.i64 n) then bif decide (0 ≤ IntKind.wrap IntKind.i64 (1 + IntKind.wrap IntKind.i64 (5 * i)) ∧ IntKind.wrap IntKind.i64 (1 + IntKind.wrap IntKind.i64 (5 * i)) ≤ IntKind.wrap IntKind.i64 (6 + IntKind.wrap IntKind.i64 (5 * i)) ∧ IntKind.wrap IntKind.i64 (6 + IntKind.wrap IntKind.i64 (5 * i)) ≤ ((List.length s : Nat) : Int)) then onOpt (Option.map (fun b => AV.int IntKind.u8 ((UInt8.toNat b : Nat) : Int)) (List.drop (Int.toNat (IntKind.wrap IntKind.i64 (1 + IntKind.wrap IntKind.i64 (5 * i)))) (List.take (Int.toNat (IntKind.wrap IntKind.i64 (6 + IntKind.wrap IntKind.i64 (5 * i)))) s))[Int.toNat 0]?) fun x => AM.asInt IntKind.u8 x fun n_1 => onOpt (Option.map (fun b => AV.int IntKind.u8 ((UInt8.toNat b : Nat) : Int)) (List.drop (Int.toNat (IntKind.wrap IntKind.i64 (1 + IntKind.wrap IntKind.i64 (5 * i)))) (List.take (Int.toNat (IntKind.wrap IntKind.i64 (6 + IntKind.wrap IntKind.i64 (5 * i)))) s))[Int.toNat 1]?) fun x => AM.asInt IntKind.u8 x fun n_2 => onOpt (Option.map (fun b => AV.int IntKind.u8 ((UInt8.toNat b : Nat) : Int)) (List.drop (Int.toNat (IntKind.wrap IntKind.i64 (1 + IntKind.wrap IntKind.i64 (5 * i)))) (List.take (Int.toNat (IntKind.wrap IntKind.i64 (6 + IntKind.wrap IntKind.i64 (5 * i)))) s))[Int.toNat 2]?) fun x => AM.asInt IntKind.u8 x fun n_3 => onOpt (Option.map (fun b => AV.int IntKind.u8 ((UInt8.toNat b : Nat) : Int)) (List.drop (Int.toNat (IntKind.wrap IntKind.i64 (1 + IntKind.wrap IntKind.i64 (5 * i)))) (List.take (Int.toNat (IntKind.wrap IntKind.i64 (6 + IntKind.wrap IntKind.i64 (5 * i)))) s))[Int.toNat 3]?) fun x => AM.asInt IntKind.u8 x fun n_4 => onOpt (Option.map (fun b => AV.int IntKind.u8 ((UInt8.toNat b : Nat) : Int)) (List.drop (Int.toNat (IntKind.wrap IntKind.i64 (1 + IntKind.wrap IntKind.i64 (5 * i)))) (List.take (Int.toNat (IntKind.wrap IntKind.i64 (6 + IntKind.wrap IntKind.i64 (5 * i)))) s))[Int.toNat 4]?) fun x => AM.asInt IntKind.u8 x fun n_5 => bif decide (2 = 2 ∧ fitsB (List.length ys + List.length [AV.agg [AV.int IntKind.i64 (IntKind.wrap IntKind.i64 n_1), AV.int IntKind.u64 (IntKind.wrap IntKind.u64 (IntKind.wrap IntKind.u64 (IntKind.wrap IntKind.u64 (IntKind.wrap IntKind.u64 (IntKind.wrap IntKind.u64 n_2 * 16777216) + IntKind.wrap IntKind.u64 (IntKind.wrap IntKind.u64 n_3 * 65536)) + IntKind.wrap IntKind.u64 (IntKind.wrap IntKind.u64 n_4 * 256)) + IntKind.wrap IntKind.u64 n_5))]]) 16 = true ∧ List.length ys + List.length [AV.agg [AV.int IntKind.i64 (IntKind.wrap IntKind.i64 n_1), AV.int IntKind.u64 (IntKind.wrap IntKind.u64 (IntKind.wrap IntKind.u64 (IntKind.wrap IntKind.u64 (IntKind.wrap IntKind.u64 (IntKind.wrap IntKind.u64 n_2 * 16777216) + IntKind.wrap IntKind.u64 (IntKind.wrap IntKind.u64 n_3 * 65536)) + IntKind.wrap IntKind.u64 (IntKind.wrap IntKind.u64 n_4 * 256)) + IntKind.wrap IntKind.u64 n_5))]] ≤ 4611686018427387904) then KN { nt := 72, t := [(0, AV.str s), (2, AV.sl 0 true []), (3, AV.str []), (4, AV.int IntKind.i64 0), (5, AV.tip 60 0 2 (ys ++ [AV.agg [AV.int IntKind.i64 (IntKind.wrap IntKind.i64 n_1), AV.int IntKind.u64 (IntKind.wrap IntKind.u64 (IntKind.wrap IntKind.u64 (IntKind.wrap IntKind.u64 (IntKind.wrap IntKind.u64 (IntKind.wrap IntKind.u64 n_2 * 16777216) + IntKind.wrap IntKind.u64 (IntKind.wrap IntKind.u64 n_3 * 65536)) + IntKind.wrap IntKind.u64 (IntKind.wrap IntKind.u64 n_4 * 256)) + IntKind.wrap IntKind.u64 n_5))]])), (6, AV.int IntKind.i64 (IntKind.wrap IntKind.i64 (i + 1))), (7, AV.str (List.drop (Int.toNat (IntKind.wrap IntKind.i64 (1 + IntKind.wrap IntKind.i64 (5 * i)))) (List.take (Int.toNat (IntKind.wrap IntKind.i64 (6 + IntKind.wrap IntKind.i64 (5 * i)))) s))), (20, AV.bool d), (25, AV.bool (decide (i < IntKind.wrap IntKind.i64 n)))], b := [], r := [], g := [], rd := [], wr := [] } else none else none else onRes (F 58 [AV.sl 2 false ys] []) fun v bs => AM.asBool v fun b => asNil bs (bif !b then some (AV.tup [AV.sl 0 true [], AV.str [], AV.int IntKind.i64 3], []) else onOpt (Option.map (fun b => AV.int IntKind.u8 ((UInt8.toNat b : Nat) : Int)) s[Int.toNat 0]?) fun x => AM.asInt IntKind.u8 x fun n => bif decide (0 ≤ IntKind.wrap IntKind.i64 (1 + IntKind.wrap IntKind.i64 (5 * IntKind.wrap IntKind.i64 n)) ∧ IntKind.wrap IntKind.i64 (1 + IntKind.wrap IntKind.i64 (5 * IntKind.wrap IntKind.i64 n)) ≤ ((List.length s : Nat) : Int) ∧ ((List.length s : Nat) : Int) ≤ ((List.length s : Nat) : Int)) then some (AV.tup [AV.sl 2 false ys, AV.str (List.drop (Int.toNat (IntKind.wrap IntKind.i64 (1 + IntKind.wrap IntKind.i64 (5 * IntKind.wrap IntKind.i64 n)))) (List.take (Int.toNat ((List.length s : Nat) : Int)) s)), AV.int IntKind.i64 0], []) else none) := by kernel_rfl
theorem mask_sum (b c d e : UInt8) : IntKind.wrap IntKind.u64 (IntKind.wrap IntKind.u64 (IntKind.wrap IntKind.u64 (IntKind.wrap IntKind.u64 (IntKind.wrap IntKind.u64 ((b.toNat : Nat) : Int) * 16777216) + IntKind.wrap IntKind.u64 (IntKind.wrap IntKind.u64 ((c.toNat : Nat) : Int) * 65536)) + IntKind.wrap IntKind.u64 (IntKind.wrap IntKind.u64 ((d.toNat : Nat) : Int) * 256)) + IntKind.wrap IntKind.u64 ((e.toNat : Nat) : Int)) = ((unbe [b, c, d, e] 0 : Nat) : Int) := by
  have hb := b.toNat_lt
  have hc := c.toNat_lt
  have hd := d.toNat_lt
  have he := e.toNat_lt
  have w : ∀ n : Nat, n < 18446744073709551616 → IntKind.wrap IntKind.u64 (n : Int) = n := fun n h => wrap_u64 h
  simp only [unbe]
  rw [w _ (by omega), w _ (by omega), w _ (by omega), w _ (by omega)]
  rw [show ((b.toNat : Int) * 16777216) = ((b.toNat * 16777216 : Nat) : Int) by omega, show ((c.toNat : Int) * 65536) = ((c.toNat * 65536 : Nat) : Int) by omega, show ((d.toNat : Int) * 256) = ((d.toNat * 256 : Nat) : Int) by omega, w _ (by omega), w _ (by omega), w _ (by omega)]
  rw [show ((b.toNat * 16777216 : Nat) : Int) + ((c.toNat * 65536 : Nat) : Int) = ((b.toNat * 16777216 + c.toNat * 65536 : Nat) : Int) by omega, w _ (by omega)]
  rw [show ((b.toNat * 16777216 + c.toNat * 65536 : Nat) : Int) + ((d.toNat * 256 : Nat) : Int) = ((b.toNat * 16777216 + c.toNat * 65536 + d.toNat * 256 : Nat) : Int) by omega, w _ (by omega)]
  rw [show ((b.toNat * 16777216 + c.toNat * 65536 + d.toNat * 256 : Nat) : Int) + (e.toNat : Int) = ((b.toNat * 16777216 + c.toNat * 65536 + d.toNat * 256 + e.toNat : Nat) : Int) by omega, w _ (by omega)]
  omega
/-- What a round of ref10.Parse sees. -/
theorem five (s : List UInt8) (q : Nat) (h : q + 5 ≤ s.length) : ∃ a b c d e r, s.drop q = a :: b :: c :: d :: e :: r := by
  have hl : (s.drop q).length = s.length - q := List.length_drop
  match hx : s.drop q with
  | a :: b :: c :: d :: e :: r => exact ⟨a, b, c, d, e, r, rfl⟩
  | [] => rw [hx] at hl; simp at hl; omega
  | [a] => rw [hx] at hl; simp at hl; omega
  | [a, b] => rw [hx] at hl; simp at hl; omega
  | [a, b, c] => rw [hx] at hl; simp at hl; omega
  | [a, b, c, d] => rw [hx] at hl; simp at hl; omega
theorem rbparse_wraps (i : Nat) (hi : i ≤ 1000) : IntKind.wrap IntKind.i64 (1 + IntKind.wrap IntKind.i64 (5 * (i : Int))) = ((1 + 5 * i : Nat) : Int) ∧ IntKind.wrap IntKind.i64 (6 + IntKind.wrap IntKind.i64 (5 * (i : Int))) = ((1 + 5 * i + 5 : Nat) : Int) := by
  rw [wrap_small (n := 5 * (i : Int)) (by omega) (by omega), wrap_small (by omega) (by omega), wrap_small (by omega) (by omega)]
  omega
theorem rbparse_loop (k : Nat) (s t : List UInt8) (c0 : UInt8) (hs : s = c0 :: t) (hbig : s.length < 1152921504606846976) (ht : 5 * c0.toNat ≤ t.length) (hk : 400 ≤ k) (d : Bool) : ∀ (dd i m : Nat) (acc : List (Int × Int)) (st : St), i + dd = c0.toNat → dd < m → acc ≠ [] → acc.length = i → st.clean (deadOf 51 0) = rbparseS s (.tip 60 0 2 (acc.map btV)) i d →
    loopA (bodyOf (evF pr k) 51 0 k) (deadOf 51 0) (contOf (evF pr k) 51 0 k 0) m st = some (if bOk (acc ++ bts dd (s.drop (1 + 5 * i))) then .tup [.sl 2 false ((acc ++ bts dd (s.drop (1 + 5 * i))).map btV), .str (s.drop (1 + 5 * c0.toNat)), .int .i64 0] else .tup [.sl 0 true [], .str [], .int .i64 3], []) := by
  have hc0 := c0.toNat_lt
  have h0 : Option.map (fun b => AV.int IntKind.u8 ((UInt8.toNat b : Nat) : Int)) s[Int.toNat 0]? = some (AV.int .u8 ((c0.toNat : Nat) : Int)) := by rw [hs]; rfl
  have hlen : s.length = t.length + 1 := by rw [hs]; rfl
  intro dd
  induction dd with
  | zero =>
    intro i m acc st hi hm ha hl hst
    obtain ⟨m, rfl⟩ : ∃ m', m = m' + 1 := ⟨m - 1, by omega⟩
    have hi : i = c0.toNat := by omega
    rw [loopA_succ, hst, rbparse_body1, h0]
    simp only [onOpt, asInt, if_true, byte_i64]
    rw [decide_eq_false (by omega), e58 k false acc (by omega) (by omega), (rbparse_wraps c0.toNat (by omega)).1]
    simp only [cond_false, onRes, asBool, asNil, bts, List.append_nil]
    cases bOk acc with
    | false => rfl
    | true =>
      rw [decide_eq_true (show 0 ≤ ((1 + 5 * c0.toNat : Nat) : Int) ∧ ((1 + 5 * c0.toNat : Nat) : Int) ≤ ((s.length : Nat) : Int) ∧ ((s.length : Nat) : Int) ≤ ((s.length : Nat) : Int) by omega)]
      simp only [Bool.not_true, cond_false, cond_true, Int.toNat_natCast, List.take_length, if_true]
  | succ dd ih =>
    intro i m acc st hi hm ha hl hst
    obtain ⟨m, rfl⟩ : ∃ m', m = m' + 1 := ⟨m - 1, by omega⟩
    obtain ⟨x, y1, y2, y3, y4, r, hu⟩ := five s (1 + 5 * i) (by omega)
    rw [loopA_succ, hst, rbparse_body1, h0]
    simp only [onOpt, asInt, if_true, byte_i64]
    rw [decide_eq_true (show (i : Int) < ((c0.toNat : Nat) : Int) by omega), (rbparse_wraps i (by omega)).1, (rbparse_wraps i (by omega)).2, decide_eq_true (show 0 ≤ ((1 + 5 * i : Nat) : Int) ∧ ((1 + 5 * i : Nat) : Int) ≤ ((1 + 5 * i + 5 : Nat) : Int) ∧ ((1 + 5 * i + 5 : Nat) : Int) ≤ s.length by omega)]
    rw [Int.toNat_natCast, Int.toNat_natCast, List.drop_take, hu, show 1 + 5 * i + 5 - (1 + 5 * i) = 5 by omega]
    simp only [cond_true, List.take_succ_cons, List.take_zero, show Int.toNat 0 = 0 from rfl, show Int.toNat 1 = 1 from rfl, show Int.toNat 2 = 2 from rfl, show Int.toNat 3 = 3 from rfl, show Int.toNat 4 = 4 from rfl, List.getElem?_cons_zero, List.getElem?_cons_succ, Option.map_some, onOpt, asInt, if_true, byte_i64, mask_sum]
    rw [decide_eq_true (by
      refine ⟨trivial, fitsB_small ?_, ?_⟩ <;> simp only [List.length_map, List.length_cons, List.length_nil] <;> omega)]
    simp only [cond_true]
    rw [wrap_small (n := (i : Int) + 1) (by omega) (by omega)]
    have hb : bt1 (s.drop (1 + 5 * i)) = (((x.toNat : Nat) : Int), ((unbe [y1, y2, y3, y4] 0 : Nat) : Int)) := by rw [hu]; rfl
    refine (ih (i + 1) m (acc ++ [(((x.toNat : Nat) : Int), ((unbe [y1, y2, y3, y4] 0 : Nat) : Int))]) _ (by omega) (by omega) (by simp) (by simp [hl]) (by rw [List.map_append]; kernel_rfl)).trans ?_
    rw [← hu, bts, hb, List.append_assoc, List.singleton_append, List.drop_drop, show 1 + 5 * i + 5 = 1 + 5 * (i + 1) by omega]
theorem e51 (k : Nat) (hk : 401 ≤ k) (s : List UInt8) (hbig : s.length < 1152921504606846976) : ParseBR (parseB s) (evF pr k 51 [.str s] []) := by
  obtain ⟨k, rfl⟩ : ∃ m, k = m + 1 := ⟨k - 1, by omega⟩
  rw [ev_step _ _ _ _ (by kernel_rfl), rbparse_tree]
  unfold parseB
  rw [num_eq 1 (by omega)]
  match hs : s with
  | [] => exact ⟨2, by omega, rfl⟩
  | c0 :: t =>
    have hc0 := c0.toNat_lt
    have hu : unbe ((c0 :: t).take 1) 0 = c0.toNat := by simp [unbe]
    rw [if_neg (by simp only [List.length_cons]; omega), hu, show (c0 :: t).drop 1 = t from rfl]
    simp only [List.length_cons] at hbig
    have h0 : Option.map (fun b => AV.int IntKind.u8 ((UInt8.toNat b : Nat) : Int)) (c0 :: t)[Int.toNat 0]? = some (AV.int .u8 ((c0.toNat : Nat) : Int)) := rfl
    rw [show (((((c0 :: t).length : Nat) : Int)) == 0) = false by simp only [beq_eq_false_iff_ne, ne_eq, List.length_cons]; omega, h0]
    simp only [cond_false, onOpt, asInt, if_true, byte_i64]
    rw [wrap_small (n := 5 * ((c0.toNat : Nat) : Int)) (by omega) (by omega), show IntKind.wrap IntKind.i64 ((((c0 :: t).length : Nat) : Int) - 1) = ((t.length : Nat) : Int) by (rw [List.length_cons, wrap_small (by omega) (by omega)]; omega)]
    by_cases hl : t.length < 5 * c0.toNat
    · rw [decide_eq_true (show ((t.length : Nat) : Int) < 5 * ((c0.toNat : Nat) : Int) by omega), if_pos hl]
      exact ⟨2, by omega, rfl⟩
    · rw [decide_eq_false (show ¬ ((t.length : Nat) : Int) < 5 * ((c0.toNat : Nat) : Int) by omega), if_neg hl]
      simp only [cond_false]
      obtain ⟨k', hk'⟩ : ∃ m, k = m + 1 := ⟨k - 1, by omega⟩
      conv => arg 2; arg 4; rw [hk']
      rw [loopA_succ]
      have hb : bodyOf (evF pr k) 51 0 k (rbparseS (c0 :: t) (.sl 0 true []) 0 false) (brk (contOf (evF pr k) 51 0 k 0) fun st' => loopA (bodyOf (evF pr k) 51 0 k) (deadOf 51 0) (contOf (evF pr k) 51 0 k 0) k' st') = some (if bOk (bts c0.toNat t) then .tup [slT (bts c0.toNat t), .str (t.drop (5 * c0.toNat)), .int .i64 0] else .tup [.sl 0 true [], .str [], .int .i64 3], []) := by
        rw [rbparse_body0, h0]
        simp only [onOpt, asInt, if_true, byte_i64]
        by_cases hz : c0.toNat = 0
        · obtain ⟨k2, hk2⟩ : ∃ m, k = m + 6 := ⟨k - 6, by omega⟩
          have h58 : evF pr k 58 [.sl 0 true []] [] = some (.bool true, []) := by rw [hk2]; exact e58nil k2 0 true
          rw [h58, hz]
          have hd : (List.drop (Int.toNat (IntKind.wrap IntKind.i64 (1 + IntKind.wrap IntKind.i64 (5 * ((0 : Nat) : Int))))) (List.take (Int.toNat ((((c0 :: t).length : Nat) : Int))) (c0 :: t))) = t := by
            rw [Int.toNat_natCast, List.take_length]
            rfl
          rw [hd, show IntKind.wrap IntKind.i64 (1 + IntKind.wrap IntKind.i64 (5 * ((0 : Nat) : Int))) = 1 from rfl, decide_eq_true (show (0 : Int) ≤ 1 ∧ (1 : Int) ≤ (((c0 :: t).length : Nat) : Int) ∧ ((((c0 :: t).length : Nat) : Int)) ≤ ((((c0 :: t).length : Nat) : Int)) by simp only [List.length_cons]; omega)]
          rfl
        · obtain ⟨n, hn⟩ : ∃ n, c0.toNat = n + 1 := ⟨c0.toNat - 1, by omega⟩
          obtain ⟨x, y1, y2, y3, y4, r, hu5⟩ := five (c0 :: t) 1 (by simp only [List.length_cons]; omega)
          have ht : t = x :: y1 :: y2 :: y3 :: y4 :: r := hu5
          rw [decide_eq_true (show (0 : Int) < ((c0.toNat : Nat) : Int) by omega), show IntKind.wrap IntKind.i64 (5 * 0) = 0 from rfl, show IntKind.wrap IntKind.i64 (1 + 0) = 1 from rfl, show IntKind.wrap IntKind.i64 (6 + 0) = 6 from rfl, decide_eq_true (show (0 : Int) ≤ 1 ∧ (1 : Int) ≤ 6 ∧ (6 : Int) ≤ (((c0 :: t).length : Nat) : Int) by simp only [List.length_cons]; omega), show Int.toNat 1 = 1 from rfl, show Int.toNat 6 = 6 from rfl, List.drop_take, hu5]
          simp only [cond_true, List.take_succ_cons, List.take_zero, show Int.toNat 0 = 0 from rfl, show Int.toNat 2 = 2 from rfl, show Int.toNat 3 = 3 from rfl, show Int.toNat 4 = 4 from rfl, List.getElem?_cons_zero, List.getElem?_cons_succ, Option.map_some, onOpt, asInt, if_true, byte_i64, mask_sum, show 6 - 1 = 5 from rfl]
          have hb : bt1 t = (((x.toNat : Nat) : Int), ((unbe [y1, y2, y3, y4] 0 : Nat) : Int)) := by rw [ht]; rfl
          refine (rbparse_loop k (c0 :: t) t c0 rfl (by simp only [List.length_cons]; omega) (by omega) (by omega) false n 1 k' [(((x.toNat : Nat) : Int), ((unbe [y1, y2, y3, y4] 0 : Nat) : Int))] _ (by omega) (by omega) (by simp) rfl (by kernel_rfl)).trans ?_
          have hd6 : (c0 :: t).drop (1 + 5 * 1) = t.drop 5 := rfl
          have hdn : (c0 :: t).drop (1 + 5 * c0.toNat) = t.drop (5 * c0.toNat) := by rw [Nat.add_comm, List.drop_succ_cons]
          have hbt : [(((x.toNat : Nat) : Int), ((unbe [y1, y2, y3, y4] 0 : Nat) : Int))] ++ bts n (t.drop 5) = bts c0.toNat t := by rw [hn, bts, hb]; rfl
          rw [hd6, hdn, hbt, show slT (bts c0.toNat t) = .sl 2 false ((bts c0.toNat t).map btV) from if_neg (by rw [hn, bts]; simp)]
      have hfin : ParseBR (if bOk (bts c0.toNat t) = true then some (bts c0.toNat t, List.drop (5 * c0.toNat) t) else none) (some (if bOk (bts c0.toNat t) then .tup [slT (bts c0.toNat t), .str (t.drop (5 * c0.toNat)), .int .i64 0] else .tup [.sl 0 true [], .str [], .int .i64 3], [])) := by
        cases bOk (bts c0.toNat t) with
        | false => exact ⟨3, by omega, rfl⟩
        | true => rfl
      rw [← hb] at hfin
      exact hfin

end Go.AM.Ytnhfjkckgicidaa
