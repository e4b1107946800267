/- msg.Parse: what it answers, plain. -/
import Derived.Test.YtnhfjkckgicidaaAmNI
set_option linter.unusedVariables false
set_option linter.unusedSimpArgs false
namespace Go.AM.Ytnhfjkckgicidaa
open Go.AM Go.Proofs Go

/-! heads, one by one -/
theorem h_on (v : AV) (bs : Boxes) (K : AV → Boxes → Res) : onRes (some (v, bs)) K = K v bs := rfl
theorem h_int (k : IntKind) (n : Int) (K : Int → Res) : asInt k (.int k n) K = K n := if_pos rfl
theorem h_bool (b : Bool) (K : Bool → Res) : asBool (.bool b) K = K b := rfl
theorem h_str (s : List UInt8) (K : List UInt8 → Res) : asStr (.str s) K = K s := rfl
theorem h_sl (s : Nat) (f : Bool) (xs : List AV) (K : Nat → Bool → List AV → Res) : asSl (.sl s f xs) K = K s f xs := rfl
theorem h_tup (l : List AV) (K : List AV → Res) : asTup (.tup l) K = K l := rfl
theorem h_agg (l : List AV) (K : List AV → Res) : asAgg (.agg l) K = K l := rfl
theorem h_cons {α : Type} (v : α) (r : List α) (K : α → List α → Res) : asCons (v :: r) K = K v r := rfl
theorem h_nil {α : Type} (K : Res) : asNil ([] : List α) K = K := rfl
theorem h_opt {α : Type} (v : α) (K : α → Res) : onOpt (some v) K = K v := rfl

/-! one step of the reader -/
theorem stepN (k : Nat) (hk : 12 ≤ k) (s : List UInt8) (b : Bool) (w : Nat) (hw1 : 1 ≤ w) (hw : w ≤ 8) : ∃ (n : Int) (s' : List UInt8) (b' : Bool), evF pr k 49 [.ptr 0 0 0, .int .i64 (w : Int)] [[.str s, .bool b]] = some (.int .i64 n, [[.str s', .bool b']]) ∧ (b' = false → b = false ∧ ∃ v : Nat, num w s = some (v, s') ∧ n = v) ∧ (b = false → ∀ v t, num w s = some (v, t) → b' = false) := by
  refine ⟨_, _, _, e49 k hk s b w hw1 hw, fun h => ?_, fun h v t hv => ?_⟩
  · cases b with
    | true => rw [(rd_bad w s).1] at h; exact absurd h (by simp)
    | false =>
      refine ⟨rfl, ?_⟩
      cases hn : num w s with
      | none => rw [rd_none hn] at h; exact absurd h (by simp)
      | some p =>
        obtain ⟨v, t⟩ := p
        obtain ⟨r1, r2, r3⟩ := rd_some hn
        rw [r2, r3]
        exact ⟨v, rfl, rfl⟩
  · rw [h]
    exact (rd_some hv).1
theorem e48bad (k : Nat) (hk : 20 ≤ k) (s : List UInt8) : evF pr k 48 [.ptr 0 0 0] [[.str s, .bool true]] = some (.sl 0 true [], [[.str s, .bool true]]) := by
  obtain ⟨k, rfl⟩ : ∃ m, k = m + 1 := ⟨k - 1, by omega⟩
  rw [ev_step _ _ _ _ (by kernel_rfl), rline_tree, show (1 : Int) = ((1 : Nat) : Int) from rfl, e49 k (by omega) s true 1 (by omega) (by omega), (rd_bad 1 s).1, (rd_bad 1 s).2.1, (rd_bad 1 s).2.2]
  simp only [onRes, asBool, asNil, asInt, if_true, asCons, asStr]
  obtain ⟨k', hk'⟩ : ∃ m, k = m + 1 := ⟨k - 1, by omega⟩
  conv => lhs; arg 4; rw [hk']
  rw [loopA_succ]
  exact rline_body0 _ _ s true ((0 : Nat) : Int) 0 _
theorem e42bad (k : Nat) (hk : 20 ≤ k) (s : List UInt8) : evF pr k 42 [.ptr 0 0 0] [[.str s, .bool true]] = some (.sl 0 true [], [[.str s, .bool true]]) := by
  obtain ⟨k, rfl⟩ : ∃ m, k = m + 1 := ⟨k - 1, by omega⟩
  rw [ev_step _ _ _ _ (by kernel_rfl), rwrites_tree, show (2 : Int) = ((2 : Nat) : Int) from rfl, e49 k (by omega) s true 2 (by omega) (by omega), (rd_bad 2 s).1, (rd_bad 2 s).2.1, (rd_bad 2 s).2.2]
  simp only [onRes, asBool, asNil, asInt, if_true, asCons, asStr]
  obtain ⟨k', hk'⟩ : ∃ m, k = m + 1 := ⟨k - 1, by omega⟩
  conv => lhs; arg 4; rw [hk']
  rw [loopA_succ]
  exact rwrites_body0 _ _ s true ((0 : Nat) : Int) 0 _
theorem stepL (k : Nat) (hk : 1100 ≤ k) (s : List UInt8) (b : Bool) : ∃ m fl xs s' b', evF pr k 48 [.ptr 0 0 0] [[.str s, .bool b]] = some (.sl m fl xs, [[.str s', .bool b']]) ∧ (b' = false → b = false ∧ ∃ l, takeL s = some (l, s') ∧ AV.sl m fl xs = slB l) ∧ (b = false → ∀ l t, takeL s = some (l, t) → b' = false) := by
  cases b with
  | true => exact ⟨_, _, _, _, _, e48bad k (by omega) s, fun h => absurd h (by simp), fun h => absurd h (by simp)⟩
  | false =>
    have h := e48 k hk s
    cases ht : takeL s with
    | none =>
      rw [ht] at h
      obtain ⟨m, fl, xs, s', h⟩ := h
      exact ⟨m, fl, xs, s', true, h, fun h => absurd h (by simp), fun _ l t hlt => absurd hlt (by simp)⟩
    | some p =>
      obtain ⟨l, t⟩ := p
      rw [ht] at h
      obtain ⟨m, fl, xs, hsl, _⟩ := slB_sl l
      have h : _ = some (slB l, _) := h
      rw [hsl] at h
      exact ⟨m, fl, xs, t, false, h, fun _ => ⟨rfl, l, rfl, hsl.symm⟩, fun _ _ _ _ => rfl⟩
theorem stepW (k : Nat) (hk : 66000 ≤ k) (s : List UInt8) (b : Bool) : ∃ m fl xs s' b', evF pr k 42 [.ptr 0 0 0] [[.str s, .bool b]] = some (.sl m fl xs, [[.str s', .bool b']]) ∧ (b' = false → b = false ∧ ∃ l, takeW s = some (l, s') ∧ AV.sl m fl xs = slW l) ∧ (b = false → ∀ l t, takeW s = some (l, t) → b' = false) := by
  cases b with
  | true => exact ⟨_, _, _, _, _, e42bad k (by omega) s, fun h => absurd h (by simp), fun h => absurd h (by simp)⟩
  | false =>
    have h := e42 k hk s
    cases ht : takeW s with
    | none =>
      rw [ht] at h
      obtain ⟨m, fl, xs, s', h⟩ := h
      exact ⟨m, fl, xs, s', true, h, fun h => absurd h (by simp), fun _ l t hlt => absurd hlt (by simp)⟩
    | some p =>
      obtain ⟨l, t⟩ := p
      rw [ht] at h
      obtain ⟨m, fl, xs, hsl, _⟩ := slW_sl l
      have h : _ = some (slW l, _) := h
      rw [hsl] at h
      exact ⟨m, fl, xs, t, false, h, fun _ => ⟨rfl, l, rfl, hsl.symm⟩, fun _ _ _ _ => rfl⟩
theorem stepB (k : Nat) (hk : 400 ≤ k) (s : List UInt8) : ∃ m fl xs t e, evF pr k 50 [.str s] [] = some (.tup [.sl m fl xs, .str t, .int .i64 e], []) ∧ (e = 0 → ∃ l, parseB s = some (l, t) ∧ AV.sl m fl xs = slT l) ∧ (∀ l t, parseB s = some (l, t) → e = 0) := by
  have h := e50 k hk s
  cases ht : parseB s with
  | none =>
    rw [ht] at h
    obtain ⟨e, he, h⟩ := h
    exact ⟨_, _, _, _, e, h, fun h => absurd h he, fun l t hlt => absurd hlt (by simp)⟩
  | some p =>
    obtain ⟨l, t⟩ := p
    rw [ht] at h
    obtain ⟨m, fl, xs, hsl, _⟩ := slT_sl l
    have h : _ = some (AV.tup [slT l, .str t, .int .i64 0], []) := h
    rw [hsl] at h
    exact ⟨m, fl, xs, t, 0, h, fun _ => ⟨l, rfl, hsl.symm⟩, fun _ _ _ => rfl⟩

/-! parsing, plain -/
def zs : Nat → List UInt8 → Option (List Int × List UInt8)
  | 0, s => some ([], s)
  | n + 1, s => (num 1 s).bind fun p => (zs n p.2).bind fun q => some ((p.1 : Int) :: q.1, q.2)
def finM (m0 : Ms) (sz : List Int) (s : List UInt8) : Option Ms :=
  (num 8 s).bind fun p => (num 8 p.2).bind fun q => (takeW q.2).bind fun r => if r.2 = [] ∧ okM ⟨m0.kd, m0.ep, m0.ln, m0.sq, m0.nn, m0.fo, m0.fu, m0.an, m0.asq, m0.bt, sz, p.1, q.1, r.1⟩ = true then some ⟨m0.kd, m0.ep, m0.ln, m0.sq, m0.nn, m0.fo, m0.fu, m0.an, m0.asq, m0.bt, sz, p.1, q.1, r.1⟩ else none
/-- The message that bytes are. -/
def parseM (s : List UInt8) : Option Ms :=
  (num 1 s).bind fun a1 => (num 8 a1.2).bind fun a2 => (takeL a2.2).bind fun a3 => (num 8 a3.2).bind fun a4 => (num 8 a4.2).bind fun a5 => (num 8 a5.2).bind fun a6 => (num 1 a6.2).bind fun a7 => (takeL a7.2).bind fun a8 => (num 8 a8.2).bind fun a9 => (parseB a9.2).bind fun a10 => if a7.1 > 1 then none else (num 1 a10.2).bind fun a11 => (zs a11.1 a11.2).bind fun a12 =>
    finM ⟨a1.1, a2.1, a3.1, a4.1, a5.1, a6.1, ((a7.1 : Int) == 1), a8.1, a9.1, a10.1, [], 0, 0, []⟩ a12.1 a12.2
def zM : AV := .agg [.int .i64 0, .int .i64 0, .sl 0 true [], .int .i64 0, .int .i64 0, .int .i64 0, .bool false, .sl 0 true [], .int .i64 0, .sl 0 true [], .sl 0 true [], .int .i64 0, .int .i64 0, .sl 0 true []]
def ParR (x : Option Ms) (r : Res) : Prop := match x with
  | none => r = some (.tup [zM, .int .i64 3], [])
  | some m => ∃ y, IsM y m ∧ r = some (.tup [y, .int .i64 0], [])
theorem pk_on {x : Option Ms} {r : Res} {v : AV} {bs : Boxes} {K : AV → Boxes → Res} (h : r = some (v, bs)) (hk : ParR x (K v bs)) : ParR x (onRes r K) := by rw [h]; exact hk
theorem pk_int {x : Option Ms} {k : IntKind} {n : Int} {K : Int → Res} (hk : ParR x (K n)) : ParR x (asInt k (.int k n) K) := by rw [h_int]; exact hk
theorem pk_bool {x : Option Ms} {b : Bool} {K : Bool → Res} (hk : ParR x (K b)) : ParR x (asBool (.bool b) K) := hk
theorem pk_str {x : Option Ms} {s : List UInt8} {K : List UInt8 → Res} (hk : ParR x (K s)) : ParR x (asStr (.str s) K) := hk
theorem pk_sl {x : Option Ms} {s : Nat} {f : Bool} {xs : List AV} {K : Nat → Bool → List AV → Res} (hk : ParR x (K s f xs)) : ParR x (asSl (.sl s f xs) K) := hk
theorem pk_tup {x : Option Ms} {l : List AV} {K : List AV → Res} (hk : ParR x (K l)) : ParR x (asTup (.tup l) K) := hk
theorem pk_cons {α : Type} {x : Option Ms} {v : α} {r : List α} {K : α → List α → Res} (hk : ParR x (K v r)) : ParR x (asCons (v :: r) K) := hk
theorem pk_nil {α : Type} {x : Option Ms} {K : Res} (hk : ParR x K) : ParR x (asNil ([] : List α) K) := hk
def mgL3 (kd ep : Int) (v1 : AV) (sq nn fo : Int) (fu : Bool) (v2 : AV) (asq : Int) (v3 v4 : AV) (fr to : Int) (v5 : AV) : List AV := [.int .i64 kd, .int .i64 ep, v1, .int .i64 sq, .int .i64 nn, .int .i64 fo, .bool fu, v2, .int .i64 asq, v3, v4, .int .i64 fr, .int .i64 to, v5]
def mparseS (s0 : List UInt8) (full : Int) (v3 : AV) (s10 : List UInt8) (e : Int) (d : Bool) (n i : Int) (g : List AV) (s : List UInt8) (b : Bool) : St := ⟨114, [(0, AV.str s0), (2, AV.ptr 2 0 0), (3, AV.int IntKind.i64 0), (4, AV.ptr 12 0 0), (5, AV.ptr 5 0 0), (6, AV.int IntKind.i64 full), (7, v3), (8, AV.str s10), (9, AV.int IntKind.i64 e), (64, AV.bool d), (73, AV.int IntKind.i64 n), (74, AV.int IntKind.i64 i)], [(2, mgL3 0 0 (.sl 0 true []) 0 0 0 false (.sl 0 true []) 0 (.sl 0 true []) (.sl 0 true []) 0 0 (.sl 0 true [])), (5, g), (12, [AV.str s, AV.bool b])], [], [], [], []⟩
theorem mparse_tree (F : Fns) (N : Nat) (s : List UInt8) : runOf F 23 N [.str s] [] =
  onRes (F 49 [AV.ptr 0 0 0, AV.int IntKind.i64 1] [[AV.str s, AV.bool false]]) fun v bs => AM.asInt IntKind.i64 v fun n => asCons bs fun v r => asCons v fun v r_1 => asStr v fun s_1 => asCons r_1 fun v r_2 => AM.asBool v fun b => asNil r_2 (asNil r (onRes (F 49 [AV.ptr 0 0 0, AV.int IntKind.i64 8] [[AV.str s_1, AV.bool b]]) fun v bs => AM.asInt IntKind.i64 v fun n_1 => asCons bs fun v r => asCons v fun v r_3 => asStr v fun s_2 => asCons r_3 fun v r_4 => AM.asBool v fun b => asNil r_4 (asNil r (onRes (F 48 [AV.ptr 0 0 0] [[AV.str s_2, AV.bool b]]) fun v bs => asSl v fun m fl xs => asCons bs fun v r => asCons v fun v r_5 => asStr v fun s_3 => asCons r_5 fun v r_6 => AM.asBool v fun b => asNil r_6 (asNil r (onRes (F 49 [AV.ptr 0 0 0, AV.int IntKind.i64 8] [[AV.str s_3, AV.bool b]]) fun v bs => AM.asInt IntKind.i64 v fun n_2 => asCons bs fun v r => asCons v fun v r_7 => asStr v fun s_4 => asCons r_7 fun v r_8 => AM.asBool v fun b => asNil r_8 (asNil r (onRes (F 49 [AV.ptr 0 0 0, AV.int IntKind.i64 8] [[AV.str s_4, AV.bool b]]) fun v bs => AM.asInt IntKind.i64 v fun n_3 => asCons bs fun v r => asCons v fun v r_9 => asStr v fun s_5 => asCons r_9 fun v r_10 => AM.asBool v fun b => asNil r_10 (asNil r (onRes (F 49 [AV.ptr 0 0 0, AV.int IntKind.i64 8] [[AV.str s_5, AV.bool b]]) fun v bs => AM.asInt IntKind.i64 v fun n_4 => asCons bs fun v r => asCons v fun v r_11 => asStr v fun s_6 => asCons r_11 fun v r_12 => AM.asBool v fun b => asNil r_12 (asNil r (onRes (F 49 [AV.ptr 0 0 0, AV.int IntKind.i64 1] [[AV.str s_6, AV.bool b]]) fun v bs => AM.asInt IntKind.i64 v fun n_5 => asCons bs fun v r => asCons v fun v r_13 => asStr v fun s_7 => asCons r_13 fun v r_14 => AM.asBool v fun b => asNil r_14 (asNil r (onRes (F 48 [AV.ptr 0 0 0] [[AV.str s_7, AV.bool b]]) fun v bs => asSl v fun m_1 fl_1 xs_1 => asCons bs fun v r => asCons v fun v r_15 => asStr v fun s_8 => asCons r_15 fun v r_16 => AM.asBool v fun b => asNil r_16 (asNil r (onRes (F 49 [AV.ptr 0 0 0, AV.int IntKind.i64 8] [[AV.str s_8, AV.bool b]]) fun v bs => AM.asInt IntKind.i64 v fun n_6 => asCons bs fun v r => asCons v fun v r_17 => asStr v fun s_9 => asCons r_17 fun v r_18 => AM.asBool v fun b => asNil r_18 (asNil r (onRes (F 50 [AV.str s_9] []) fun v bs => asTup v fun cs => asCons cs fun v r => asSl v fun m_2 fl_2 xs_2 => asCons r fun v r => asStr v fun s_10 => asCons r fun v r => AM.asInt IntKind.i64 v fun n_7 => asNil r (asNil bs (bif b then some (AV.tup [AV.agg [AV.int IntKind.i64 0, AV.int IntKind.i64 0, AV.sl 0 true [], AV.int IntKind.i64 0, AV.int IntKind.i64 0, AV.int IntKind.i64 0, AV.bool false, AV.sl 0 true [], AV.int IntKind.i64 0, AV.sl 0 true [], AV.sl 0 true [], AV.int IntKind.i64 0, AV.int IntKind.i64 0, AV.sl 0 true []], AV.int IntKind.i64 3], []) else bif n_7 != 0 then some (AV.tup [AV.agg [AV.int IntKind.i64 0, AV.int IntKind.i64 0, AV.sl 0 true [], AV.int IntKind.i64 0, AV.int IntKind.i64 0, AV.int IntKind.i64 0, AV.bool false, AV.sl 0 true [], AV.int IntKind.i64 0, AV.sl 0 true [], AV.sl 0 true [], AV.int IntKind.i64 0, AV.int IntKind.i64 0, AV.sl 0 true []], AV.int IntKind.i64 3], []) else bif decide (n_5 > 1) then some (AV.tup [AV.agg [AV.int IntKind.i64 0, AV.int IntKind.i64 0, AV.sl 0 true [], AV.int IntKind.i64 0, AV.int IntKind.i64 0, AV.int IntKind.i64 0, AV.bool false, AV.sl 0 true [], AV.int IntKind.i64 0, AV.sl 0 true [], AV.sl 0 true [], AV.int IntKind.i64 0, AV.int IntKind.i64 0, AV.sl 0 true []], AV.int IntKind.i64 3], []) else onRes (F 49 [AV.ptr 0 0 0, AV.int IntKind.i64 1] [[AV.str s_10, AV.bool b]]) fun v bs => AM.asInt IntKind.i64 v fun n_8 => asCons bs fun v r => asCons v fun v r_19 => asStr v fun s_11 => asCons r_19 fun v r_20 => AM.asBool v fun b => asNil r_20 (asNil r (loopA (bodyOf F 23 0 N) (deadOf 23 0) (contOf F 23 0 N 0) N { nt := 114, t := [(0, AV.str s), (2, AV.ptr 2 0 0), (3, AV.int IntKind.i64 0), (4, AV.ptr 12 0 0), (5, AV.ptr 5 0 0), (6, AV.int IntKind.i64 n_5), (7, AV.sl m_2 fl_2 xs_2), (8, AV.str s_10), (9, AV.int IntKind.i64 n_7), (64, AV.bool (decide (n_5 > 1))), (73, AV.int IntKind.i64 n_8), (74, AV.int IntKind.i64 0)], b := [(2, [AV.int IntKind.i64 0, AV.int IntKind.i64 0, AV.sl 0 true [], AV.int IntKind.i64 0, AV.int IntKind.i64 0, AV.int IntKind.i64 0, AV.bool false, AV.sl 0 true [], AV.int IntKind.i64 0, AV.sl 0 true [], AV.sl 0 true [], AV.int IntKind.i64 0, AV.int IntKind.i64 0, AV.sl 0 true []]), (5, [AV.int IntKind.i64 n, AV.int IntKind.i64 n_1, AV.sl m fl xs, AV.int IntKind.i64 n_2, AV.int IntKind.i64 n_3, AV.int IntKind.i64 n_4, AV.bool (n_5 == 1), AV.sl m_1 fl_1 xs_1, AV.int IntKind.i64 n_6, AV.sl m_2 fl_2 xs_2, AV.sl 0 true [], AV.int IntKind.i64 0, AV.int IntKind.i64 0, AV.sl 0 true []]), (12, [AV.str s_11, AV.bool b])], r := [], g := [], rd := [], wr := [] })))))))))))))))))))))) := by kernel_rfl
theorem mparse_body0 (F : Fns) (N : Nat) (kd ep : Int) (l : List AV) (sq nn fo : Int) (fu : Bool) (an : List AV) (asq : Int) (bt : List AV) (f1 f2 f3 : Bool) (a1 a2 a3 : Nat) (s0 : List UInt8) (full : Int) (s10 : List UInt8) (e : Int) (d : Bool) (n i : Int) (s : List UInt8) (b : Bool) (KN : St → Res) : bodyOf F 23 0 N (mparseS s0 full (.sl a3 f3 bt) s10 e d n i (mgL3 kd ep (.sl a1 f1 l) sq nn fo fu (.sl a2 f2 an) asq (.sl a3 f3 bt) (.sl 0 true []) 0 0 (.sl 0 true [])) s b) (brk (contOf F 23 0 N 0) KN) =
  bif decide (i < n) then onRes (F 49 [AV.ptr 0 0 0, AV.int IntKind.i64 1] [[AV.str s, AV.bool b]]) fun v bs => AM.asInt IntKind.i64 v fun n_1 => asCons bs fun v r => asCons v fun v r_1 => asStr v fun s => asCons r_1 fun v r_2 => AM.asBool v fun b => asNil r_2 (asNil r (KN { nt := 114, t := [(0, AV.str s0), (2, AV.ptr 2 0 0), (3, AV.int IntKind.i64 0), (4, AV.ptr 12 0 0), (5, AV.ptr 5 0 0), (6, AV.int IntKind.i64 full), (7, AV.sl a3 f3 bt), (8, AV.str s10), (9, AV.int IntKind.i64 e), (64, AV.bool d), (73, AV.int IntKind.i64 n), (74, AV.int IntKind.i64 (IntKind.wrap IntKind.i64 (i + 1))), (75, AV.bool (decide (i < n)))], b := [(2, [AV.int IntKind.i64 0, AV.int IntKind.i64 0, AV.sl 0 true [], AV.int IntKind.i64 0, AV.int IntKind.i64 0, AV.int IntKind.i64 0, AV.bool false, AV.sl 0 true [], AV.int IntKind.i64 0, AV.sl 0 true [], AV.sl 0 true [], AV.int IntKind.i64 0, AV.int IntKind.i64 0, AV.sl 0 true []]), (5, [AV.int IntKind.i64 kd, AV.int IntKind.i64 ep, AV.sl a1 f1 l, AV.int IntKind.i64 sq, AV.int IntKind.i64 nn, AV.int IntKind.i64 fo, AV.bool fu, AV.sl a2 f2 an, AV.int IntKind.i64 asq, AV.sl a3 f3 bt, AV.tip 81 0 1 [AV.int IntKind.i64 n_1], AV.int IntKind.i64 0, AV.int IntKind.i64 0, AV.sl 0 true []]), (12, [AV.str s, AV.bool b])], r := [], g := [], rd := [], wr := [] })) else onRes (F 49 [AV.ptr 0 0 0, AV.int IntKind.i64 8] [[AV.str s, AV.bool b]]) fun v bs => AM.asInt IntKind.i64 v fun n => asCons bs fun v r => asCons v fun v r_1 => asStr v fun s => asCons r_1 fun v r_2 => AM.asBool v fun b => asNil r_2 (asNil r (onRes (F 49 [AV.ptr 0 0 0, AV.int IntKind.i64 8] [[AV.str s, AV.bool b]]) fun v bs => AM.asInt IntKind.i64 v fun n_1 => asCons bs fun v r => asCons v fun v r_3 => asStr v fun s => asCons r_3 fun v r_4 => AM.asBool v fun b => asNil r_4 (asNil r (onRes (F 42 [AV.ptr 0 0 0] [[AV.str s, AV.bool b]]) fun v bs => asSl v fun m fl xs => asCons bs fun v r => asCons v fun v r_5 => asStr v fun s => asCons r_5 fun v r_6 => AM.asBool v fun b => asNil r_6 (asNil r (bif b then some (AV.tup [AV.agg [AV.int IntKind.i64 0, AV.int IntKind.i64 0, AV.sl 0 true [], AV.int IntKind.i64 0, AV.int IntKind.i64 0, AV.int IntKind.i64 0, AV.bool false, AV.sl 0 true [], AV.int IntKind.i64 0, AV.sl 0 true [], AV.sl 0 true [], AV.int IntKind.i64 0, AV.int IntKind.i64 0, AV.sl 0 true []], AV.int IntKind.i64 3], []) else bif !s == [] then some (AV.tup [AV.agg [AV.int IntKind.i64 0, AV.int IntKind.i64 0, AV.sl 0 true [], AV.int IntKind.i64 0, AV.int IntKind.i64 0, AV.int IntKind.i64 0, AV.bool false, AV.sl 0 true [], AV.int IntKind.i64 0, AV.sl 0 true [], AV.sl 0 true [], AV.int IntKind.i64 0, AV.int IntKind.i64 0, AV.sl 0 true []], AV.int IntKind.i64 3], []) else onRes (F 29 [AV.agg [AV.int IntKind.i64 kd, AV.int IntKind.i64 ep, AV.sl a1 f1 l, AV.int IntKind.i64 sq, AV.int IntKind.i64 nn, AV.int IntKind.i64 fo, AV.bool fu, AV.sl a2 f2 an, AV.int IntKind.i64 asq, AV.sl a3 f3 bt, AV.sl 0 true [], AV.int IntKind.i64 n, AV.int IntKind.i64 n_1, AV.sl m fl xs]] []) fun v bs => AM.asBool v fun b => asNil bs (bif !b then some (AV.tup [AV.agg [AV.int IntKind.i64 0, AV.int IntKind.i64 0, AV.sl 0 true [], AV.int IntKind.i64 0, AV.int IntKind.i64 0, AV.int IntKind.i64 0, AV.bool false, AV.sl 0 true [], AV.int IntKind.i64 0, AV.sl 0 true [], AV.sl 0 true [], AV.int IntKind.i64 0, AV.int IntKind.i64 0, AV.sl 0 true []], AV.int IntKind.i64 3], []) else some (AV.tup [AV.agg [AV.int IntKind.i64 kd, AV.int IntKind.i64 ep, AV.sl a1 f1 l, AV.int IntKind.i64 sq, AV.int IntKind.i64 nn, AV.int IntKind.i64 fo, AV.bool fu, AV.sl a2 f2 an, AV.int IntKind.i64 asq, AV.sl a3 f3 bt, AV.sl 0 true [], AV.int IntKind.i64 n, AV.int IntKind.i64 n_1, AV.sl m fl xs], AV.int IntKind.i64 0], [])))))))) := by kernel_rfl
theorem mparse_body1 (F : Fns) (N : Nat) (kd ep : Int) (l : List AV) (sq nn fo : Int) (fu : Bool) (an : List AV) (asq : Int) (bt : List AV) (f1 f2 f3 : Bool) (a1 a2 a3 : Nat) (s0 : List UInt8) (full : Int) (s10 : List UInt8) (e : Int) (d : Bool) (n i : Int) (ys : List AV) (s : List UInt8) (b : Bool) (KN : St → Res) : bodyOf F 23 0 N (mparseS s0 full (.sl a3 f3 bt) s10 e d n i (mgL3 kd ep (.sl a1 f1 l) sq nn fo fu (.sl a2 f2 an) asq (.sl a3 f3 bt) (.tip 81 0 1 ys) 0 0 (.sl 0 true [])) s b) (brk (contOf F 23 0 N 0) KN) =
  bif decide (i < n) then onRes (F 49 [AV.ptr 0 0 0, AV.int IntKind.i64 1] [[AV.str s, AV.bool b]]) fun v bs => AM.asInt IntKind.i64 v fun n_1 => asCons bs fun v r => asCons v fun v r_1 => asStr v fun s_1 => asCons r_1 fun v r_2 => AM.asBool v fun b_1 => asNil r_2 (asNil r (bif decide (1 = 1 ∧ fitsB (List.length ys + List.length [AV.int IntKind.i64 n_1]) 8 = true ∧ List.length ys + List.length [AV.int IntKind.i64 n_1] ≤ 4611686018427387904) then KN { nt := 114, t := [(0, AV.str s0), (2, AV.ptr 2 0 0), (3, AV.int IntKind.i64 0), (4, AV.ptr 12 0 0), (5, AV.ptr 5 0 0), (6, AV.int IntKind.i64 full), (7, AV.sl a3 f3 bt), (8, AV.str s10), (9, AV.int IntKind.i64 e), (64, AV.bool d), (73, AV.int IntKind.i64 n), (74, AV.int IntKind.i64 (IntKind.wrap IntKind.i64 (i + 1))), (75, AV.bool (decide (i < n)))], b := [(2, [AV.int IntKind.i64 0, AV.int IntKind.i64 0, AV.sl 0 true [], AV.int IntKind.i64 0, AV.int IntKind.i64 0, AV.int IntKind.i64 0, AV.bool false, AV.sl 0 true [], AV.int IntKind.i64 0, AV.sl 0 true [], AV.sl 0 true [], AV.int IntKind.i64 0, AV.int IntKind.i64 0, AV.sl 0 true []]), (5, [AV.int IntKind.i64 kd, AV.int IntKind.i64 ep, AV.sl a1 f1 l, AV.int IntKind.i64 sq, AV.int IntKind.i64 nn, AV.int IntKind.i64 fo, AV.bool fu, AV.sl a2 f2 an, AV.int IntKind.i64 asq, AV.sl a3 f3 bt, AV.tip 81 0 1 (ys ++ [AV.int IntKind.i64 n_1]), AV.int IntKind.i64 0, AV.int IntKind.i64 0, AV.sl 0 true []]), (12, [AV.str s_1, AV.bool b_1])], r := [], g := [], rd := [], wr := [] } else none)) else onRes (F 49 [AV.ptr 0 0 0, AV.int IntKind.i64 8] [[AV.str s, AV.bool b]]) fun v bs => AM.asInt IntKind.i64 v fun n => asCons bs fun v r => asCons v fun v r_1 => asStr v fun s => asCons r_1 fun v r_2 => AM.asBool v fun b => asNil r_2 (asNil r (onRes (F 49 [AV.ptr 0 0 0, AV.int IntKind.i64 8] [[AV.str s, AV.bool b]]) fun v bs => AM.asInt IntKind.i64 v fun n_1 => asCons bs fun v r => asCons v fun v r_3 => asStr v fun s => asCons r_3 fun v r_4 => AM.asBool v fun b => asNil r_4 (asNil r (onRes (F 42 [AV.ptr 0 0 0] [[AV.str s, AV.bool b]]) fun v bs => asSl v fun m fl xs => asCons bs fun v r => asCons v fun v r_5 => asStr v fun s => asCons r_5 fun v r_6 => AM.asBool v fun b => asNil r_6 (asNil r (bif b then some (AV.tup [AV.agg [AV.int IntKind.i64 0, AV.int IntKind.i64 0, AV.sl 0 true [], AV.int IntKind.i64 0, AV.int IntKind.i64 0, AV.int IntKind.i64 0, AV.bool false, AV.sl 0 true [], AV.int IntKind.i64 0, AV.sl 0 true [], AV.sl 0 true [], AV.int IntKind.i64 0, AV.int IntKind.i64 0, AV.sl 0 true []], AV.int IntKind.i64 3], []) else bif !s == [] then some (AV.tup [AV.agg [AV.int IntKind.i64 0, AV.int IntKind.i64 0, AV.sl 0 true [], AV.int IntKind.i64 0, AV.int IntKind.i64 0, AV.int IntKind.i64 0, AV.bool false, AV.sl 0 true [], AV.int IntKind.i64 0, AV.sl 0 true [], AV.sl 0 true [], AV.int IntKind.i64 0, AV.int IntKind.i64 0, AV.sl 0 true []], AV.int IntKind.i64 3], []) else onRes (F 29 [AV.agg [AV.int IntKind.i64 kd, AV.int IntKind.i64 ep, AV.sl a1 f1 l, AV.int IntKind.i64 sq, AV.int IntKind.i64 nn, AV.int IntKind.i64 fo, AV.bool fu, AV.sl a2 f2 an, AV.int IntKind.i64 asq, AV.sl a3 f3 bt, AV.sl 1 false ys, AV.int IntKind.i64 n, AV.int IntKind.i64 n_1, AV.sl m fl xs]] []) fun v bs => AM.asBool v fun b => asNil bs (bif !b then some (AV.tup [AV.agg [AV.int IntKind.i64 0, AV.int IntKind.i64 0, AV.sl 0 true [], AV.int IntKind.i64 0, AV.int IntKind.i64 0, AV.int IntKind.i64 0, AV.bool false, AV.sl 0 true [], AV.int IntKind.i64 0, AV.sl 0 true [], AV.sl 0 true [], AV.int IntKind.i64 0, AV.int IntKind.i64 0, AV.sl 0 true []], AV.int IntKind.i64 3], []) else some (AV.tup [AV.agg [AV.int IntKind.i64 kd, AV.int IntKind.i64 ep, AV.sl a1 f1 l, AV.int IntKind.i64 sq, AV.int IntKind.i64 nn, AV.int IntKind.i64 fo, AV.bool fu, AV.sl a2 f2 an, AV.int IntKind.i64 asq, AV.sl a3 f3 bt, AV.sl 1 false ys, AV.int IntKind.i64 n, AV.int IntKind.i64 n_1, AV.sl m fl xs], AV.int IntKind.i64 0], [])))))))) := by kernel_rfl
/-- What stands behind the sizes. -/
theorem mparse_tail (k : Nat) (hk : 66100 ≤ k) (m0 : Ms) (hbt : m0.bt.length ≤ 1000) (l an bt : List AV) (f1 f2 f3 : Bool) (a1 a2 a3 : Nat) (h1 : IsL (.sl a1 f1 l) m0.ln) (h2 : IsL (.sl a2 f2 an) m0.an) (h3 : IsT (.sl a3 f3 bt) m0.bt) (sz : List Int) (a4 : Nat) (f4 : Bool) (zz : List AV) (h4 : IsZ (.sl a4 f4 zz) sz) (s : List UInt8) (b : Bool) :
    ParR (if b then none else finM m0 sz s) (onRes (evF pr k 49 [AV.ptr 0 0 0, AV.int IntKind.i64 8] [[AV.str s, AV.bool b]]) fun v bs => AM.asInt IntKind.i64 v fun n => asCons bs fun v r => asCons v fun v r_1 => asStr v fun s => asCons r_1 fun v r_2 => AM.asBool v fun b => asNil r_2 (asNil r (onRes (evF pr k 49 [AV.ptr 0 0 0, AV.int IntKind.i64 8] [[AV.str s, AV.bool b]]) fun v bs => AM.asInt IntKind.i64 v fun n_1 => asCons bs fun v r => asCons v fun v r_3 => asStr v fun s => asCons r_3 fun v r_4 => AM.asBool v fun b => asNil r_4 (asNil r (onRes (evF pr k 42 [AV.ptr 0 0 0] [[AV.str s, AV.bool b]]) fun v bs => asSl v fun m fl xs => asCons bs fun v r => asCons v fun v r_5 => asStr v fun s => asCons r_5 fun v r_6 => AM.asBool v fun b => asNil r_6 (asNil r (bif b then some (AV.tup [zM, AV.int IntKind.i64 3], []) else bif !s == [] then some (AV.tup [zM, AV.int IntKind.i64 3], []) else onRes (evF pr k 29 [AV.agg [AV.int IntKind.i64 m0.kd, AV.int IntKind.i64 m0.ep, AV.sl a1 f1 l, AV.int IntKind.i64 m0.sq, AV.int IntKind.i64 m0.nn, AV.int IntKind.i64 m0.fo, AV.bool m0.fu, AV.sl a2 f2 an, AV.int IntKind.i64 m0.asq, AV.sl a3 f3 bt, AV.sl a4 f4 zz, AV.int IntKind.i64 n, AV.int IntKind.i64 n_1, AV.sl m fl xs]] []) fun v bs => AM.asBool v fun b => asNil bs (bif !b then some (AV.tup [zM, AV.int IntKind.i64 3], []) else some (AV.tup [AV.agg [AV.int IntKind.i64 m0.kd, AV.int IntKind.i64 m0.ep, AV.sl a1 f1 l, AV.int IntKind.i64 m0.sq, AV.int IntKind.i64 m0.nn, AV.int IntKind.i64 m0.fo, AV.bool m0.fu, AV.sl a2 f2 an, AV.int IntKind.i64 m0.asq, AV.sl a3 f3 bt, AV.sl a4 f4 zz, AV.int IntKind.i64 n, AV.int IntKind.i64 n_1, AV.sl m fl xs], AV.int IntKind.i64 0], []))))))))) := by
  obtain ⟨n1, s1, b1, E1, P1, Q1⟩ := stepN k (by omega) s b 8 (by omega) (by omega)
  obtain ⟨n2, s2, b2, E2, P2, Q2⟩ := stepN k (by omega) s1 b1 8 (by omega) (by omega)
  obtain ⟨m3, f3', x3, s3, b3, E3, P3, Q3⟩ := stepW k (by omega) s2 b2
  have E1 : evF pr k 49 [.ptr 0 0 0, .int .i64 8] [[.str s, .bool b]] = _ := E1
  have E2 : evF pr k 49 [.ptr 0 0 0, .int .i64 8] [[.str s1, .bool b1]] = _ := E2
  refine pk_on E1 (pk_int (pk_cons (pk_cons (pk_str (pk_cons (pk_bool (pk_nil (pk_nil ?_))))))))
  refine pk_on E2 (pk_int (pk_cons (pk_cons (pk_str (pk_cons (pk_bool (pk_nil (pk_nil ?_))))))))
  refine pk_on E3 (pk_sl (pk_cons (pk_cons (pk_str (pk_cons (pk_bool (pk_nil (pk_nil ?_))))))))
  cases b3 with
  | true =>
    have hno : (if b then none else finM m0 sz s) = none := by
      cases b with
      | true => rfl
      | false =>
        simp only [Bool.false_eq_true, if_false, finM]
        cases g1 : num 8 s with
        | none => rfl
        | some p =>
          obtain ⟨v1, t1⟩ := p
          obtain rfl := Q1 rfl v1 t1 g1
          obtain ⟨_, w1, h, _⟩ := P1 rfl
          rw [g1] at h
          obtain ⟨rfl, rfl⟩ : v1 = w1 ∧ t1 = s1 := by simpa using h
          simp only [Option.bind_some]
          cases g2 : num 8 t1 with
          | none => rfl
          | some p =>
            obtain ⟨v2, t2⟩ := p
            obtain rfl := Q2 rfl v2 t2 g2
            obtain ⟨_, w2, h, _⟩ := P2 rfl
            rw [g2] at h
            obtain ⟨rfl, rfl⟩ : v2 = w2 ∧ t2 = s2 := by simpa using h
            simp only [Option.bind_some]
            cases g3 : takeW t2 with
            | none => rfl
            | some p =>
              obtain ⟨wl, t3⟩ := p
              exact absurd (Q3 rfl wl t3 g3) (by simp)
    rw [hno]
    rfl
  | false =>
    obtain ⟨rfl, wl, g3, hx3⟩ := P3 rfl
    obtain ⟨rfl, v2, g2, rfl⟩ := P2 rfl
    obtain ⟨rfl, v1, g1, rfl⟩ := P1 rfl
    simp only [cond_false, Bool.false_eq_true, if_false, finM]
    rw [g1]
    simp only [Option.bind_some]
    rw [g2]
    simp only [Option.bind_some]
    rw [g3]
    simp only [Option.bind_some]
    have h5 : IsW (.sl m3 f3' x3) wl := by rw [hx3]; exact IsW.slW wl
    have hM : IsM (AV.agg [AV.int IntKind.i64 m0.kd, AV.int IntKind.i64 m0.ep, AV.sl a1 f1 l, AV.int IntKind.i64 m0.sq, AV.int IntKind.i64 m0.nn, AV.int IntKind.i64 m0.fo, AV.bool m0.fu, AV.sl a2 f2 an, AV.int IntKind.i64 m0.asq, AV.sl a3 f3 bt, AV.sl a4 f4 zz, AV.int IntKind.i64 v1, AV.int IntKind.i64 v2, AV.sl m3 f3' x3]) ⟨m0.kd, m0.ep, m0.ln, m0.sq, m0.nn, m0.fo, m0.fu, m0.an, m0.asq, m0.bt, sz, v1, v2, wl⟩ := ⟨_, _, _, _, _, rfl, h1, h2, h3, h4, h5⟩
    by_cases hs : s3 = []
    · subst hs
      rw [e29 k (by omega) hM hbt]
      simp only [true_and, beq_self_eq_true, Bool.not_true, cond_false, h_on, h_bool, h_nil]
      cases hok : okM ⟨m0.kd, m0.ep, m0.ln, m0.sq, m0.nn, m0.fo, m0.fu, m0.an, m0.asq, m0.bt, sz, v1, v2, wl⟩ with
      | false => rfl
      | true => exact ⟨_, hM, rfl⟩
    · rw [show (s3 == []) = false by simpa using hs, if_neg (fun h => hs h.1)]
      rfl
theorem mparse_loop (k : Nat) (hk : 66100 ≤ k) (m0 : Ms) (hbt : m0.bt.length ≤ 1000) (l an bt : List AV) (f1 f2 f3 : Bool) (a1 a2 a3 : Nat) (h1 : IsL (.sl a1 f1 l) m0.ln) (h2 : IsL (.sl a2 f2 an) m0.an) (h3 : IsT (.sl a3 f3 bt) m0.bt) (s0 s10 : List UInt8) (full e : Int) (d : Bool) (n : Nat) (hn : n ≤ 1000) : ∀ (dd i mm : Nat) (acc : List Int) (s : List UInt8) (b : Bool) (st : St), i + dd = n → dd < mm → acc.length = i →
    st.clean (deadOf 23 0) = mparseS s0 full (.sl a3 f3 bt) s10 e d n i (mgL3 m0.kd m0.ep (.sl a1 f1 l) m0.sq m0.nn m0.fo m0.fu (.sl a2 f2 an) m0.asq (.sl a3 f3 bt) (.tip 81 0 1 (acc.map (AV.int .i64))) 0 0 (.sl 0 true [])) s b →
    ParR (if b then none else (zs dd s).bind fun q => finM m0 (acc ++ q.1) q.2) (loopA (bodyOf (evF pr k) 23 0 k) (deadOf 23 0) (contOf (evF pr k) 23 0 k 0) mm st) := by
  intro dd
  induction dd with
  | zero =>
    intro i mm acc s b st hi hm ha hst
    obtain ⟨mm, rfl⟩ : ∃ m', mm = m' + 1 := ⟨mm - 1, by omega⟩
    rw [loopA_succ, hst, mparse_body1, decide_eq_false (by omega)]
    simp only [cond_false, zs, Option.bind_some, List.append_nil]
    exact mparse_tail k hk m0 hbt l an bt f1 f2 f3 a1 a2 a3 h1 h2 h3 acc 1 false (acc.map (AV.int .i64)) (.inl ⟨false, rfl⟩) s b
  | succ dd ih =>
    intro i mm acc s b st hi hm ha hst
    obtain ⟨mm, rfl⟩ : ∃ m', mm = m' + 1 := ⟨mm - 1, by omega⟩
    obtain ⟨n1, s1, b1, E1, P1, Q1⟩ := stepN k (by omega) s b 1 (by omega) (by omega)
    have E1 : evF pr k 49 [.ptr 0 0 0, .int .i64 1] [[.str s, .bool b]] = _ := E1
    rw [loopA_succ, hst, mparse_body1, decide_eq_true (show (i : Int) < n by omega)]
    simp only [cond_true]
    refine pk_on E1 (pk_int (pk_cons (pk_cons (pk_str (pk_cons (pk_bool (pk_nil (pk_nil ?_))))))))
    rw [decide_eq_true (by
      refine ⟨trivial, fitsB_small ?_, ?_⟩ <;> simp only [List.length_map, List.length_cons, List.length_nil] <;> omega), wrap_small (n := (i : Int) + 1) (by omega) (by omega)]
    simp only [cond_true]
    have := ih (i + 1) mm (acc ++ [n1]) s1 b1 ⟨114, [(0, AV.str s0), (2, AV.ptr 2 0 0), (3, AV.int IntKind.i64 0), (4, AV.ptr 12 0 0), (5, AV.ptr 5 0 0), (6, AV.int IntKind.i64 full), (7, AV.sl a3 f3 bt), (8, AV.str s10), (9, AV.int IntKind.i64 e), (64, AV.bool d), (73, AV.int IntKind.i64 n), (74, AV.int IntKind.i64 ((i : Int) + 1)), (75, AV.bool true)], [(2, mgL3 0 0 (.sl 0 true []) 0 0 0 false (.sl 0 true []) 0 (.sl 0 true []) (.sl 0 true []) 0 0 (.sl 0 true [])), (5, mgL3 m0.kd m0.ep (.sl a1 f1 l) m0.sq m0.nn m0.fo m0.fu (.sl a2 f2 an) m0.asq (.sl a3 f3 bt) (.tip 81 0 1 (acc.map (AV.int .i64) ++ [AV.int IntKind.i64 n1])) 0 0 (.sl 0 true [])), (12, [AV.str s1, AV.bool b1])], [], [], [], []⟩ (by omega) (by omega) (by simp [ha]) (by rw [List.map_append]; kernel_rfl)
    have heq : (if b then none else (zs (dd + 1) s).bind fun q => finM m0 (acc ++ q.1) q.2) = (if b1 then none else (zs dd s1).bind fun q => finM m0 (acc ++ [n1] ++ q.1) q.2) := by
      cases b1 with
      | true =>
        cases b with
        | true => rfl
        | false =>
          simp only [Bool.false_eq_true, if_false, if_true, zs]
          cases g1 : num 1 s with
          | none => rfl
          | some p => exact absurd (Q1 rfl p.1 p.2 g1) (by simp)
      | false =>
        obtain ⟨rfl, v1, g1, rfl⟩ := P1 rfl
        simp only [Bool.false_eq_true, if_false, zs]
        rw [g1]
        simp only [Option.bind_some]
        cases zs dd s1 with
        | none => rfl
        | some q =>
          simp only [Option.bind_some, List.append_assoc, List.singleton_append]
    rw [heq]
    exact this

set_option maxRecDepth 100000 in
theorem e23 (k : Nat) (hk : 66200 ≤ k) (s : List UInt8) : ParR (parseM s) (evF pr k 23 [.str s] []) := by
  obtain ⟨k, rfl⟩ : ∃ m, k = m + 1 := ⟨k - 1, by omega⟩
  obtain ⟨n1, s1, b1, E1, P1, Q1⟩ := stepN k (by omega) s false 1 (by omega) (by omega)
  obtain ⟨n2, s2, b2, E2, P2, Q2⟩ := stepN k (by omega) s1 b1 8 (by omega) (by omega)
  obtain ⟨m3, f3, x3, s3, b3, E3, P3, Q3⟩ := stepL k (by omega) s2 b2
  obtain ⟨n4, s4, b4, E4, P4, Q4⟩ := stepN k (by omega) s3 b3 8 (by omega) (by omega)
  obtain ⟨n5, s5, b5, E5, P5, Q5⟩ := stepN k (by omega) s4 b4 8 (by omega) (by omega)
  obtain ⟨n6, s6, b6, E6, P6, Q6⟩ := stepN k (by omega) s5 b5 8 (by omega) (by omega)
  obtain ⟨n7, s7, b7, E7, P7, Q7⟩ := stepN k (by omega) s6 b6 1 (by omega) (by omega)
  obtain ⟨m8, f8, x8, s8, b8, E8, P8, Q8⟩ := stepL k (by omega) s7 b7
  obtain ⟨n9, s9, b9, E9, P9, Q9⟩ := stepN k (by omega) s8 b8 8 (by omega) (by omega)
  obtain ⟨m10, f10, x10, s10, e10, E10, P10, Q10⟩ := stepB k (by omega) s9
  have E1 : evF pr k 49 [.ptr 0 0 0, .int .i64 1] [[.str s, .bool false]] = _ := E1
  have E2 : evF pr k 49 [.ptr 0 0 0, .int .i64 8] [[.str s1, .bool b1]] = _ := E2
  have E4 : evF pr k 49 [.ptr 0 0 0, .int .i64 8] [[.str s3, .bool b3]] = _ := E4
  have E5 : evF pr k 49 [.ptr 0 0 0, .int .i64 8] [[.str s4, .bool b4]] = _ := E5
  have E6 : evF pr k 49 [.ptr 0 0 0, .int .i64 8] [[.str s5, .bool b5]] = _ := E6
  have E7 : evF pr k 49 [.ptr 0 0 0, .int .i64 1] [[.str s6, .bool b6]] = _ := E7
  have E9 : evF pr k 49 [.ptr 0 0 0, .int .i64 8] [[.str s8, .bool b8]] = _ := E9
  rw [ev_step _ _ _ _ (by kernel_rfl), mparse_tree]
  refine pk_on E1 (pk_int (pk_cons (pk_cons (pk_str (pk_cons (pk_bool (pk_nil (pk_nil ?_))))))))
  refine pk_on E2 (pk_int (pk_cons (pk_cons (pk_str (pk_cons (pk_bool (pk_nil (pk_nil ?_))))))))
  refine pk_on E3 (pk_sl (pk_cons (pk_cons (pk_str (pk_cons (pk_bool (pk_nil (pk_nil ?_))))))))
  refine pk_on E4 (pk_int (pk_cons (pk_cons (pk_str (pk_cons (pk_bool (pk_nil (pk_nil ?_))))))))
  refine pk_on E5 (pk_int (pk_cons (pk_cons (pk_str (pk_cons (pk_bool (pk_nil (pk_nil ?_))))))))
  refine pk_on E6 (pk_int (pk_cons (pk_cons (pk_str (pk_cons (pk_bool (pk_nil (pk_nil ?_))))))))
  refine pk_on E7 (pk_int (pk_cons (pk_cons (pk_str (pk_cons (pk_bool (pk_nil (pk_nil ?_))))))))
  refine pk_on E8 (pk_sl (pk_cons (pk_cons (pk_str (pk_cons (pk_bool (pk_nil (pk_nil ?_))))))))
  refine pk_on E9 (pk_int (pk_cons (pk_cons (pk_str (pk_cons (pk_bool (pk_nil (pk_nil ?_))))))))
  refine pk_on E10 (pk_tup (pk_cons (pk_sl (pk_cons (pk_str (pk_cons (pk_int (pk_nil (pk_nil ?_)))))))))
  have chain : ∀ a1 a2 a3 a4 a5 a6 a7 a8 a9, num 1 s = some a1 → num 8 a1.2 = some a2 → takeL a2.2 = some a3 → num 8 a3.2 = some a4 → num 8 a4.2 = some a5 → num 8 a5.2 = some a6 → num 1 a6.2 = some a7 → takeL a7.2 = some a8 → num 8 a8.2 = some a9 → b9 = false := by
    intro a1 a2 a3 a4 a5 a6 a7 a8 a9 g1 g2 g3 g4 g5 g6 g7 g8 g9
    have h1 := Q1 rfl a1.1 a1.2 g1
    obtain ⟨_, w1, j1, _⟩ := P1 h1
    rw [g1] at j1
    have r1 : a1.2 = s1 := congrArg Prod.snd (Option.some.inj j1)
    rw [r1] at g2
    have h2 := Q2 h1 a2.1 a2.2 g2
    obtain ⟨_, w2, j2, _⟩ := P2 h2
    rw [g2] at j2
    have r2 : a2.2 = s2 := congrArg Prod.snd (Option.some.inj j2)
    rw [r2] at g3
    have h3 := Q3 h2 a3.1 a3.2 g3
    obtain ⟨_, w3, j3, _⟩ := P3 h3
    rw [g3] at j3
    have r3 : a3.2 = s3 := congrArg Prod.snd (Option.some.inj j3)
    rw [r3] at g4
    have h4 := Q4 h3 a4.1 a4.2 g4
    obtain ⟨_, w4, j4, _⟩ := P4 h4
    rw [g4] at j4
    have r4 : a4.2 = s4 := congrArg Prod.snd (Option.some.inj j4)
    rw [r4] at g5
    have h5 := Q5 h4 a5.1 a5.2 g5
    obtain ⟨_, w5, j5, _⟩ := P5 h5
    rw [g5] at j5
    have r5 : a5.2 = s5 := congrArg Prod.snd (Option.some.inj j5)
    rw [r5] at g6
    have h6 := Q6 h5 a6.1 a6.2 g6
    obtain ⟨_, w6, j6, _⟩ := P6 h6
    rw [g6] at j6
    have r6 : a6.2 = s6 := congrArg Prod.snd (Option.some.inj j6)
    rw [r6] at g7
    have h7 := Q7 h6 a7.1 a7.2 g7
    obtain ⟨_, w7, j7, _⟩ := P7 h7
    rw [g7] at j7
    have r7 : a7.2 = s7 := congrArg Prod.snd (Option.some.inj j7)
    rw [r7] at g8
    have h8 := Q8 h7 a8.1 a8.2 g8
    obtain ⟨_, w8, j8, _⟩ := P8 h8
    rw [g8] at j8
    have r8 : a8.2 = s8 := congrArg Prod.snd (Option.some.inj j8)
    rw [r8] at g9
    exact Q9 h8 a9.1 a9.2 g9
  cases b9 with
  | true =>
    have hno : parseM s = none := by
      unfold parseM
      cases g1 : num 1 s with
      | none => rfl
      | some a1 =>
        simp only [Option.bind_some]
        cases g2 : num 8 a1.2 with
        | none => rfl
        | some a2 =>
          simp only [Option.bind_some]
          cases g3 : takeL a2.2 with
          | none => rfl
          | some a3 =>
            simp only [Option.bind_some]
            cases g4 : num 8 a3.2 with
            | none => rfl
            | some a4 =>
              simp only [Option.bind_some]
              cases g5 : num 8 a4.2 with
              | none => rfl
              | some a5 =>
                simp only [Option.bind_some]
                cases g6 : num 8 a5.2 with
                | none => rfl
                | some a6 =>
                  simp only [Option.bind_some]
                  cases g7 : num 1 a6.2 with
                  | none => rfl
                  | some a7 =>
                    simp only [Option.bind_some]
                    cases g8 : takeL a7.2 with
                    | none => rfl
                    | some a8 =>
                      simp only [Option.bind_some]
                      cases g9 : num 8 a8.2 with
                      | none => rfl
                      | some a9 => exact absurd (chain a1 a2 a3 a4 a5 a6 a7 a8 a9 g1 g2 g3 g4 g5 g6 g7 g8 g9) (by simp)
    rw [hno]
    simp only [cond_true]
    rfl
  | false =>
    obtain ⟨rfl, v9, g9, rfl⟩ := P9 rfl
    obtain ⟨rfl, l8, g8, hx8⟩ := P8 rfl
    obtain ⟨rfl, v7, g7, rfl⟩ := P7 rfl
    obtain ⟨rfl, v6, g6, rfl⟩ := P6 rfl
    obtain ⟨rfl, v5, g5, rfl⟩ := P5 rfl
    obtain ⟨rfl, v4, g4, rfl⟩ := P4 rfl
    obtain ⟨rfl, l3, g3, hx3⟩ := P3 rfl
    obtain ⟨rfl, v2, g2, rfl⟩ := P2 rfl
    obtain ⟨_, v1, g1, rfl⟩ := P1 rfl
    have hpm : parseM s = ((parseB s9).bind fun a10 => if v7 > 1 then none else (num 1 a10.2).bind fun a11 => (zs a11.1 a11.2).bind fun a12 =>
        finM ⟨v1, v2, l3, v4, v5, v6, ((v7 : Int) == 1), l8, v9, a10.1, [], 0, 0, []⟩ a12.1 a12.2) := by
      unfold parseM
      rw [g1]
      simp only [Option.bind_some]
      rw [g2]
      simp only [Option.bind_some]
      rw [g3]
      simp only [Option.bind_some]
      rw [g4]
      simp only [Option.bind_some]
      rw [g5]
      simp only [Option.bind_some]
      rw [g6]
      simp only [Option.bind_some]
      rw [g7]
      simp only [Option.bind_some]
      rw [g8]
      simp only [Option.bind_some]
      rw [g9]
      simp only [Option.bind_some]
    rw [hpm]
    by_cases he : e10 = 0
    · subst he
      obtain ⟨l10, g10, hx10⟩ := P10 rfl
      rw [g10]
      simp only [Option.bind_some, cond_false, show ((0 : Int) != 0) = false from rfl]
      by_cases h7 : v7 > 1
      · rw [decide_eq_true (show (v7 : Int) > 1 by omega), if_pos h7]
        simp only [cond_true]
        rfl
      · rw [decide_eq_false (show ¬ (v7 : Int) > 1 by omega), if_neg h7]
        simp only [cond_false]
        obtain ⟨n11, s11, b11, E11, P11, Q11⟩ := stepN k (by omega) s10 false 1 (by omega) (by omega)
        have E11 : evF pr k 49 [.ptr 0 0 0, .int .i64 1] [[.str s10, .bool false]] = _ := E11
        refine pk_on E11 (pk_int (pk_cons (pk_cons (pk_str (pk_cons (pk_bool (pk_nil (pk_nil ?_))))))))
        have hbl : l10.length ≤ 1000 := by
          unfold parseB at g10
          split at g10
          · simp at g10
          · rename_i nn tt hnn
            have hlt := (num_lt hnn).1
            split at g10
            · simp at g10
            · split at g10
              · simp only [Option.some.injEq, Prod.mk.injEq] at g10
                rw [← g10.1, bts_length]
                omega
              · simp at g10
        have h1 : IsL (.sl m3 f3 x3) l3 := by rw [hx3]; exact IsL.slB l3
        have h2 : IsL (.sl m8 f8 x8) l8 := by rw [hx8]; exact IsL.slB l8
        have h3 : IsT (.sl m10 f10 x10) l10 := by rw [hx10]; exact IsT.slT l10
        have m0eq : ∃ m0 : Ms, m0 = ⟨v1, v2, l3, v4, v5, v6, ((v7 : Int) == 1), l8, v9, l10, [], 0, 0, []⟩ := ⟨_, rfl⟩
        obtain ⟨k', hk'⟩ : ∃ m, k = m + 1 := ⟨k - 1, by omega⟩
        have hb : ∀ (N11 : Nat), n11 = (N11 : Int) → (b11 = false → num 1 s10 = some (N11, s11)) → N11 < 256 → (b11 = true → N11 = 0) → ∀ X : Res, X =
            (bodyOf (evF pr k) 23 0 k (mparseS s v7 (.sl m10 f10 x10) s10 0 false N11 ((0 : Nat) : Int) (mgL3 v1 v2 (.sl m3 f3 x3) v4 v5 v6 ((v7 : Int) == 1) (.sl m8 f8 x8) v9 (.sl m10 f10 x10) (.sl 0 true []) 0 0 (.sl 0 true [])) s11 b11) (brk (contOf (evF pr k) 23 0 k 0) fun st' => loopA (bodyOf (evF pr k) 23 0 k) (deadOf 23 0) (contOf (evF pr k) 23 0 k 0) k' st')) → ParR (if b11 then none else (zs N11 s11).bind fun a12 => finM ⟨v1, v2, l3, v4, v5, v6, ((v7 : Int) == 1), l8, v9, l10, [], 0, 0, []⟩ a12.1 a12.2) X := by
          intro N11 hN _ hN2 hN3 X hX
          rw [hX, mparse_body0]
          cases N11 with
          | zero =>
            rw [decide_eq_false (show ¬ ((0 : Nat) : Int) < ((0 : Nat) : Int) by omega)]
            simp only [cond_false, zs, Option.bind_some]
            exact mparse_tail k (by omega) ⟨v1, v2, l3, v4, v5, v6, ((v7 : Int) == 1), l8, v9, l10, [], 0, 0, []⟩ hbl x3 x8 x10 f3 f8 f10 m3 m8 m10 h1 h2 h3 [] 0 true [] (.inr ⟨rfl, 0, true, rfl⟩) s11 b11
          | succ N =>
            have hb11 : b11 = false := by
              cases b11 with
              | true => exact absurd (hN3 rfl) (by omega)
              | false => rfl
            subst hb11
            obtain ⟨n12, s12, b12, E12, P12, Q12⟩ := stepN k (by omega) s11 false 1 (by omega) (by omega)
            have E12 : evF pr k 49 [.ptr 0 0 0, .int .i64 1] [[.str s11, .bool false]] = _ := E12
            rw [decide_eq_true (show ((0 : Nat) : Int) < ((N + 1 : Nat) : Int) by omega)]
            simp only [cond_true]
            refine pk_on E12 (pk_int (pk_cons (pk_cons (pk_str (pk_cons (pk_bool (pk_nil (pk_nil ?_))))))))
            have := mparse_loop k (by omega) ⟨v1, v2, l3, v4, v5, v6, ((v7 : Int) == 1), l8, v9, l10, [], 0, 0, []⟩ hbl x3 x8 x10 f3 f8 f10 m3 m8 m10 h1 h2 h3 s s10 v7 0 false (N + 1) (by omega) N 1 k' [n12] s12 b12 ⟨114, [(0, AV.str s), (2, AV.ptr 2 0 0), (3, AV.int IntKind.i64 0), (4, AV.ptr 12 0 0), (5, AV.ptr 5 0 0), (6, AV.int IntKind.i64 v7), (7, AV.sl m10 f10 x10), (8, AV.str s10), (9, AV.int IntKind.i64 0), (64, AV.bool false), (73, AV.int IntKind.i64 ((N + 1 : Nat) : Int)), (74, AV.int IntKind.i64 (IntKind.wrap IntKind.i64 (((0 : Nat) : Int) + 1))), (75, AV.bool true)], [(2, mgL3 0 0 (.sl 0 true []) 0 0 0 false (.sl 0 true []) 0 (.sl 0 true []) (.sl 0 true []) 0 0 (.sl 0 true [])), (5, mgL3 v1 v2 (.sl m3 f3 x3) v4 v5 v6 ((v7 : Int) == 1) (.sl m8 f8 x8) v9 (.sl m10 f10 x10) (.tip 81 0 1 [AV.int IntKind.i64 n12]) 0 0 (.sl 0 true [])), (12, [AV.str s12, AV.bool b12])], [], [], [], []⟩ (by omega) (by omega) rfl (by kernel_rfl)
            have heq : ((zs (N + 1) s11).bind fun a12 => finM ⟨v1, v2, l3, v4, v5, v6, ((v7 : Int) == 1), l8, v9, l10, [], 0, 0, []⟩ a12.1 a12.2) = (if b12 then none else (zs N s12).bind fun q => finM ⟨v1, v2, l3, v4, v5, v6, ((v7 : Int) == 1), l8, v9, l10, [], 0, 0, []⟩ ([n12] ++ q.1) q.2) := by
              cases b12 with
              | true =>
                simp only [if_true, zs]
                cases g12 : num 1 s11 with
                | none => rfl
                | some p => exact absurd (Q12 rfl p.1 p.2 g12) (by simp)
              | false =>
                obtain ⟨_, v12, g12, rfl⟩ := P12 rfl
                simp only [Bool.false_eq_true, if_false, zs]
                rw [g12]
                simp only [Option.bind_some]
                cases zs N s12 with
                | none => rfl
                | some q => rfl
            simp only [Bool.false_eq_true, if_false]
            rw [heq]
            exact this
        conv => arg 2; arg 4; rw [hk']
        rw [loopA_succ]
        cases b11 with
        | true =>
          have hn11 : num 1 s10 = none ∧ n11 = 0 := by
            have e := e49 k (by omega) s10 false 1 (by omega) (by omega)
            have e : evF pr k 49 [.ptr 0 0 0, .int .i64 1] [[.str s10, .bool false]] = _ := e
            rw [E11] at e
            simp only [Option.some.injEq, Prod.mk.injEq, AV.int.injEq, List.cons.injEq, AV.bool.injEq, true_and, and_true] at e
            cases g : num 1 s10 with
            | none =>
              refine ⟨rfl, ?_⟩
              rw [e.1]
              simp [rdN, rd_none g]
            | some p => exact absurd (Q11 rfl p.1 p.2 g) (by simp)
          rw [hn11.1]
          simp only [Option.bind_none]
          rw [hn11.2]
          exact hb 0 hn11.2 (fun h => absurd h (by simp)) (by omega) (fun _ => rfl) _ (by kernel_rfl)
        | false =>
          obtain ⟨_, v11, g11, rfl⟩ := P11 rfl
          have hlt := (num_lt g11).1
          rw [g11]
          simp only [Option.bind_some]
          exact hb v11 rfl (fun _ => g11) (by omega) (fun h => absurd h (by simp)) _ (by kernel_rfl)
    · have hno : parseB s9 = none := by
        cases g : parseB s9 with
        | none => rfl
        | some p => exact absurd (Q10 p.1 p.2 g) he
      rw [hno, show (e10 != 0) = true by simp [he]]
      simp only [cond_false, cond_true]
      rfl

end Go.AM.Ytnhfjkckgicidaa
