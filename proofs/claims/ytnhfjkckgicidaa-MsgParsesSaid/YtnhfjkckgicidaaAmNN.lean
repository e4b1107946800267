/- ref17.Parse: what it answers, plain. -/
import Derived.Test.YtnhfjkckgicidaaAmNM
set_option linter.unusedVariables false
set_option linter.unusedSimpArgs false
namespace Go.AM.Ytnhfjkckgicidaa
open Go.AM Go.Proofs Go

def PP (P : Res → Prop) (r : Res) : Prop := P r
section
variable {P : Res → Prop}
theorem pq_on {r : Res} {v : AV} {bs : Boxes} {K : AV → Boxes → Res} (h : r = some (v, bs)) (hk : PP P (K v bs)) : PP P (onRes r K) := by rw [h]; exact hk
theorem pq_opt {α : Type} {x : Option α} {v : α} {K : α → Res} (h : x = some v) (hk : PP P (K v)) : PP P (onOpt x K) := by rw [h]; exact hk
theorem pq_int {k : IntKind} {n : Int} {K : Int → Res} (hk : PP P (K n)) : PP P (asInt k (.int k n) K) := by rw [h_int]; exact hk
theorem pq_bool {b : Bool} {K : Bool → Res} (hk : PP P (K b)) : PP P (asBool (.bool b) K) := hk
theorem pq_str {s : List UInt8} {K : List UInt8 → Res} (hk : PP P (K s)) : PP P (asStr (.str s) K) := hk
theorem pq_sl {s : Nat} {f : Bool} {xs : List AV} {K : Nat → Bool → List AV → Res} (hk : PP P (K s f xs)) : PP P (asSl (.sl s f xs) K) := hk
theorem pq_tup {l : List AV} {K : List AV → Res} (hk : PP P (K l)) : PP P (asTup (.tup l) K) := hk
theorem pq_cons {α : Type} {v : α} {r : List α} {K : α → List α → Res} (hk : PP P (K v r)) : PP P (asCons (v :: r) K) := hk
theorem pq_nil {α : Type} {K : Res} (hk : PP P K) : PP P (asNil ([] : List α) K) := hk
theorem pq_yes {b : Bool} {x y : Res} (h : b = true) (ht : PP P x) : PP P (bif b then x else y) := by rw [h]; exact ht
theorem pq_no {b : Bool} {x y : Res} (h : b = false) (ht : PP P y) : PP P (bif b then x else y) := by rw [h]; exact ht
end

/-! places, plain -/
def lineAt (p : Nat) (s : List UInt8) : Option (List (Int × Int) × Nat) := match num 1 (s.drop p) with
  | none => none
  | some (n, t) => match brs n t with
    | none => none
    | some (l, _) => if lined l then some (l, p + 1 + 16 * n) else none
theorem lineAt_bound {p : Nat} {s : List UInt8} {l : List (Int × Int)} {q : Nat} (h : lineAt p s = some (l, q)) : p < s.length ∧ q ≤ s.length := by
  unfold lineAt at h
  split at h
  · simp at h
  · rename_i n t h1
    split at h
    · simp at h
    · rename_i l' u h2
      split at h
      · simp only [Option.some.injEq, Prod.mk.injEq] at h
        obtain ⟨e1, e2⟩ := num_suffix h1
        have g3 := (brs_spec n t l' u h2).2.2.1
        rw [e1, List.length_drop, List.length_drop] at g3
        rw [List.length_drop] at e2
        omega
      · simp at h
theorem rta (p : Nat) (s : List UInt8) : ∃ m fl xs z b, RTakeAt p s = some (.tup [.sl m fl xs, .int .i64 z, .bool b], []) ∧ (b = true → ∃ l q, lineAt p s = some (l, q) ∧ AV.sl m fl xs = slB l ∧ z = (q : Nat)) ∧ (b = false → lineAt p s = none) := by
  unfold RTakeAt lineAt
  cases num 1 (s.drop p) with
  | none => exact ⟨_, _, _, _, _, rfl, fun h => absurd h (by simp), fun _ => rfl⟩
  | some a =>
    obtain ⟨n, t⟩ := a
    simp only
    cases brs n t with
    | none => exact ⟨_, _, _, _, _, rfl, fun h => absurd h (by simp), fun _ => rfl⟩
    | some a =>
      obtain ⟨l, u⟩ := a
      simp only [RTake, List.nil_append]
      obtain ⟨m, fl, xs, hsl, _⟩ := slB_sl l
      rw [hsl]
      refine ⟨m, fl, xs, _, _, rfl, fun h => ?_, fun h => ?_⟩
      · rw [if_pos h]
        exact ⟨l, _, rfl, hsl.symm, rfl⟩
      · rw [if_neg (by simp [h])]
def wrsAt (p : Nat) (s : List UInt8) : Option (List Wr × Nat) := match num 2 (s.drop p) with
  | none => none
  | some (n, t) => match wrs n t with
    | none => none
    | some (l, u) => if wOk l then some (l, s.length - u.length) else none
theorem wrsAt_bound {p : Nat} {s : List UInt8} {l : List Wr} {q : Nat} (h : wrsAt p s = some (l, q)) : p + 2 ≤ s.length := by
  unfold wrsAt at h
  split at h
  · simp at h
  · rename_i n t h1
    have e2 := (num_suffix h1).2
    rw [List.length_drop] at e2
    omega
theorem rtw (p : Nat) (s : List UInt8) : ∃ m fl xs z b, RTakeWAt p s = some (.tup [.sl m fl xs, .int .i64 z, .bool b], []) ∧ (b = true → ∃ l q, wrsAt p s = some (l, q) ∧ AV.sl m fl xs = slW l ∧ z = (q : Nat)) ∧ (b = false → wrsAt p s = none) := by
  unfold RTakeWAt wrsAt
  cases num 2 (s.drop p) with
  | none => exact ⟨_, _, _, _, _, rfl, fun h => absurd h (by simp), fun _ => rfl⟩
  | some a =>
    obtain ⟨n, t⟩ := a
    simp only
    cases wrs n t with
    | none => exact ⟨_, _, _, _, _, rfl, fun h => absurd h (by simp), fun _ => rfl⟩
    | some a =>
      obtain ⟨l, u⟩ := a
      simp only [RTakeW, List.nil_append]
      obtain ⟨m, fl, xs, hsl, _⟩ := slW_sl l
      rw [hsl]
      refine ⟨m, fl, xs, _, _, rfl, fun h => ?_, fun h => ?_⟩
      · rw [if_pos h]
        exact ⟨l, _, rfl, hsl.symm, rfl⟩
      · rw [if_neg (by simp [h])]
/-- The sizes that stand in a rest. -/
def szs (nz : Nat) (rest : List UInt8) : List Int := ((rest.drop 1).take nz).map fun b => ((b.toNat : Nat) : Int)
/-- What the parts that were found make. -/
def mkM (s : List UInt8) (l : List (Int × Int)) (p : Nat) (l2 : List (Int × Int)) (q : Nat) (bt : List (Int × Int)) (rest : List UInt8) (nz : Nat) (sz : List Int) (wl : List Wr) : Ms :=
  ⟨((s.getD 0 0).toNat : Nat), (numN 8 (s.drop 1) : Nat), l, (numN 8 (s.drop p) : Nat), (numN 8 (s.drop (p + 8)) : Nat), (numN 8 (s.drop (p + 16)) : Nat), ((((s.getD (p + 24) 0).toNat : Nat) : Int) == 1), l2, (numN 8 (s.drop q) : Nat), bt, sz, (numN 8 (rest.drop (1 + nz)) : Nat), (numN 8 (rest.drop (9 + nz)) : Nat), wl⟩
def cand (s : List UInt8) : Option Ms :=
  (lineAt 9 s).bind fun a => (lineAt (a.2 + 25) s).bind fun b => if s.length < b.2 + 8 then none else (parseB (s.drop (b.2 + 8))).bind fun c => if c.2 = [] then none else
    (wrsAt (17 + (c.2.getD 0 0).toNat) c.2).bind fun w => if w.2 = c.2.length then some (mkM s a.1 a.2 b.1 b.2 c.1 c.2 (c.2.getD 0 0).toNat (szs (c.2.getD 0 0).toNat c.2) w.1) else none
def RefQ (m : Ms) (s : List UInt8) (r : Res) : Prop := (okM m = true ∧ mB m = s → ∃ y, IsM y m ∧ r = some (.tup [y, .bool true], [])) ∧ (¬ (okM m = true ∧ mB m = s) → r = some (.tup [zM, .bool false], []))
def RefR (s : List UInt8) (x : Option Ms) (r : Res) : Prop := match x with
  | none => r = some (.tup [zM, .bool false], [])
  | some m => RefQ m s r
def rpT (F : Fns) (s : List UInt8) (x5 : List AV) (f5 : Bool) (a5 : Nat) (p : Int) (x8 : List AV) (f8 : Bool) (a8 : Nat) (q : Int) (x10 : List AV) (f10 : Bool) (a10 : Nat) (rest : List UInt8) (nz : Int) (x14 : List AV) (f14 : Bool) (a14 : Nat) (x4 : List AV) (f4 : Bool) (a4 : Nat) : Res :=
  onOpt (Option.map (fun b => AV.int IntKind.u8 ((UInt8.toNat b : Nat) : Int)) s[Int.toNat 0]?) fun x => AM.asInt IntKind.u8 x fun n => onRes (F 43 [AV.str s, AV.int IntKind.i64 1, AV.int IntKind.i64 8] []) fun v bs => asTup v fun cs => asCons cs fun v r => AM.asInt IntKind.i64 v fun n_1 => asCons r fun v r => AM.asBool v fun b => asNil r (asNil bs (onRes (F 43 [AV.str s, AV.int IntKind.i64 p, AV.int IntKind.i64 8] []) fun v bs => asTup v fun cs => asCons cs fun v r => AM.asInt IntKind.i64 v fun n_2 => asCons r fun v r => AM.asBool v fun b => asNil r (asNil bs (onRes (F 43 [AV.str s, AV.int IntKind.i64 (IntKind.wrap IntKind.i64 (p + 8)), AV.int IntKind.i64 8] []) fun v bs => asTup v fun cs => asCons cs fun v r => AM.asInt IntKind.i64 v fun n_3 => asCons r fun v r => AM.asBool v fun b => asNil r (asNil bs (onRes (F 43 [AV.str s, AV.int IntKind.i64 (IntKind.wrap IntKind.i64 (p + 16)), AV.int IntKind.i64 8] []) fun v bs => asTup v fun cs => asCons cs fun v r => AM.asInt IntKind.i64 v fun n_4 => asCons r fun v r => AM.asBool v fun b => asNil r (asNil bs (bif decide (0 ≤ IntKind.wrap IntKind.i64 (p + 24)) then onOpt (Option.map (fun b => AV.int IntKind.u8 ((UInt8.toNat b : Nat) : Int)) s[Int.toNat (IntKind.wrap IntKind.i64 (p + 24))]?) fun x => AM.asInt IntKind.u8 x fun n_5 => onRes (F 43 [AV.str s, AV.int IntKind.i64 q, AV.int IntKind.i64 8] []) fun v bs => asTup v fun cs => asCons cs fun v r => AM.asInt IntKind.i64 v fun n_6 => asCons r fun v r => AM.asBool v fun b => asNil r (asNil bs (onRes (F 43 [AV.str rest, AV.int IntKind.i64 (IntKind.wrap IntKind.i64 (1 + nz)), AV.int IntKind.i64 8] []) fun v bs => asTup v fun cs => asCons cs fun v r => AM.asInt IntKind.i64 v fun n_7 => asCons r fun v r => AM.asBool v fun b => asNil r (asNil bs (onRes (F 43 [AV.str rest, AV.int IntKind.i64 (IntKind.wrap IntKind.i64 (9 + nz)), AV.int IntKind.i64 8] []) fun v bs => asTup v fun cs => asCons cs fun v r => AM.asInt IntKind.i64 v fun n_8 => asCons r fun v r => AM.asBool v fun b => asNil r (asNil bs (onRes (F 28 [AV.agg [AV.int IntKind.i64 (IntKind.wrap IntKind.i64 n), AV.int IntKind.i64 n_1, AV.sl a5 f5 x5, AV.int IntKind.i64 n_2, AV.int IntKind.i64 n_3, AV.int IntKind.i64 n_4, AV.bool (n_5 == 1), AV.sl a8 f8 x8, AV.int IntKind.i64 n_6, AV.sl a10 f10 x10, AV.sl a4 f4 x4, AV.int IntKind.i64 n_7, AV.int IntKind.i64 n_8, AV.sl a14 f14 x14]] []) fun v bs => AM.asBool v fun b => asNil bs (bif !b then some (AV.tup [zM, AV.bool false], []) else onRes (F 30 [AV.agg [AV.int IntKind.i64 (IntKind.wrap IntKind.i64 n), AV.int IntKind.i64 n_1, AV.sl a5 f5 x5, AV.int IntKind.i64 n_2, AV.int IntKind.i64 n_3, AV.int IntKind.i64 n_4, AV.bool (n_5 == 1), AV.sl a8 f8 x8, AV.int IntKind.i64 n_6, AV.sl a10 f10 x10, AV.sl a4 f4 x4, AV.int IntKind.i64 n_7, AV.int IntKind.i64 n_8, AV.sl a14 f14 x14]] []) fun v bs => asStr v fun s_1 => asNil bs (bif !s_1 == s then some (AV.tup [zM, AV.bool false], []) else some (AV.tup [AV.agg [AV.int IntKind.i64 (IntKind.wrap IntKind.i64 n), AV.int IntKind.i64 n_1, AV.sl a5 f5 x5, AV.int IntKind.i64 n_2, AV.int IntKind.i64 n_3, AV.int IntKind.i64 n_4, AV.bool (n_5 == 1), AV.sl a8 f8 x8, AV.int IntKind.i64 n_6, AV.sl a10 f10 x10, AV.sl a4 f4 x4, AV.int IntKind.i64 n_7, AV.int IntKind.i64 n_8, AV.sl a14 f14 x14], AV.bool true], []))))))))) else none))))))))
theorem rp_tail (k : Nat) (hk : 1300 ≤ k) (s : List UInt8) (hs : s.length < 1152921504606846976) (l l2 : List (Int × Int)) (p q : Nat) (bt : List (Int × Int)) (rest : List UInt8) (nz : Nat) (sz : List Int) (wl : List Wr) (x5 x8 x10 x14 x4 : List AV) (f5 f8 f10 f14 f4 : Bool) (a5 a8 a10 a14 a4 : Nat) (h5 : IsL (.sl a5 f5 x5) l) (h8 : IsL (.sl a8 f8 x8) l2) (h10 : IsT (.sl a10 f10 x10) bt) (h4 : IsZ (.sl a4 f4 x4) sz) (h14 : IsW (.sl a14 f14 x14) wl) (hbt : bt.length ≤ 1000) (hu : UM bt) (hp : p + 25 < s.length) (hq : q ≤ s.length) (hr : rest.length < 1152921504606846976) (hnz : nz < 256) :
    RefQ (mkM s l p l2 q bt rest nz sz wl) s (rpT (evF pr k) s x5 f5 a5 p x8 f8 a8 q x10 f10 a10 rest nz x14 f14 a14 x4 f4 a4) := by
  show PP (RefQ (mkM s l p l2 q bt rest nz sz wl) s) _
  unfold rpT
  rw [show IntKind.wrap IntKind.i64 ((p : Int) + 8) = ((p + 8 : Nat) : Int) by (rw [wrap_small (by omega) (by omega)]; omega), show IntKind.wrap IntKind.i64 ((p : Int) + 16) = ((p + 16 : Nat) : Int) by (rw [wrap_small (by omega) (by omega)]; omega), show IntKind.wrap IntKind.i64 ((p : Int) + 24) = ((p + 24 : Nat) : Int) by (rw [wrap_small (by omega) (by omega)]; omega), show IntKind.wrap IntKind.i64 (1 + (nz : Int)) = ((1 + nz : Nat) : Int) by (rw [wrap_small (by omega) (by omega)]; omega), show IntKind.wrap IntKind.i64 (9 + (nz : Int)) = ((9 + nz : Nat) : Int) by (rw [wrap_small (by omega) (by omega)]; omega)]
  refine pq_opt (getD_map s 0 (by omega)) (pq_int ?_)
  refine pq_on (e43 k (by omega) s (by omega) 1 (by omega) 8 (by omega) (by omega)) (pq_tup (pq_cons (pq_int (pq_cons (pq_bool (pq_nil (pq_nil ?_)))))))
  refine pq_on (e43 k (by omega) s (by omega) p (by omega) 8 (by omega) (by omega)) (pq_tup (pq_cons (pq_int (pq_cons (pq_bool (pq_nil (pq_nil ?_)))))))
  refine pq_on (e43 k (by omega) s (by omega) (p + 8) (by omega) 8 (by omega) (by omega)) (pq_tup (pq_cons (pq_int (pq_cons (pq_bool (pq_nil (pq_nil ?_)))))))
  refine pq_on (e43 k (by omega) s (by omega) (p + 16) (by omega) 8 (by omega) (by omega)) (pq_tup (pq_cons (pq_int (pq_cons (pq_bool (pq_nil (pq_nil ?_)))))))
  refine pq_yes (decide_eq_true (by omega)) ?_
  refine pq_opt (getD_map s (p + 24) (by omega)) (pq_int ?_)
  refine pq_on (e43 k (by omega) s (by omega) q (by omega) 8 (by omega) (by omega)) (pq_tup (pq_cons (pq_int (pq_cons (pq_bool (pq_nil (pq_nil ?_)))))))
  refine pq_on (e43 k (by omega) rest (by omega) (1 + nz) (by omega) 8 (by omega) (by omega)) (pq_tup (pq_cons (pq_int (pq_cons (pq_bool (pq_nil (pq_nil ?_)))))))
  refine pq_on (e43 k (by omega) rest (by omega) (9 + nz) (by omega) 8 (by omega) (by omega)) (pq_tup (pq_cons (pq_int (pq_cons (pq_bool (pq_nil (pq_nil ?_)))))))
  rw [byte_i64]
  have hM : IsM (msV (mkM s l p l2 q bt rest nz sz wl) (.sl a5 f5 x5) (.sl a8 f8 x8) (.sl a10 f10 x10) (.sl a4 f4 x4) (.sl a14 f14 x14)) (mkM s l p l2 q bt rest nz sz wl) := ⟨_, _, _, _, _, rfl, h5, h8, h10, h4, h14⟩
  refine pq_on (e28 k (by omega) hM hbt) (pq_bool (pq_nil ?_))
  cases hok : okM (mkM s l p l2 q bt rest nz sz wl) with
  | false =>
    refine pq_yes rfl ?_
    exact ⟨fun h => absurd h.1 (by rw [hok]; simp), fun _ => rfl⟩
  | true =>
    refine pq_no rfl ?_
    refine pq_on (e30 k (by omega) hM hu hok) (pq_str (pq_nil ?_))
    by_cases he : mB (mkM s l p l2 q bt rest nz sz wl) = s
    · refine pq_no (by rw [he]; simp) ?_
      exact ⟨fun _ => ⟨_, hM, rfl⟩, fun h => absurd ⟨hok, he⟩ h⟩
    · refine pq_yes (by simpa using he) ?_
      exact ⟨fun h => absurd h.2 he, fun _ => rfl⟩

end Go.AM.Ytnhfjkckgicidaa
