/- The disk: Flush, Crash, New as answers. -/
import Derived.Test.YtpdifkaeiecdpaaAmD7
set_option linter.unusedVariables false
set_option maxRecDepth 100000
namespace Go.AM.Ytpdifkaeiecdpaa
open Go.AM Go.Proofs Go
def setF (f : List (List UInt8)) (x : T77) : List (List UInt8) := f.set x.at_.toNat x.s
def crF : List T77 → List Bool → List (List UInt8) → List (List UInt8)
  | [], _, f => f
  | _ :: _, [], f => f
  | x :: q, b :: ks, f => crF q ks (bif b then setF f x else f)
theorem bif_t {α : Type} {b : Bool} {x y : α} (h : b = true) : (bif b then x else y) = x := by rw [h]; rfl
theorem drop_get {α : Type} {p q : List α} {k : Nat} {x : α} (h : p.drop k = x :: q) : p[k]? = some x ∧ p.drop (k + 1) = q ∧ k < p.length := by
  have h1 : k < p.length := by
    have : (p.drop k).length = (x :: q).length := by rw [h]
    simp at this
    omega
  rw [List.drop_eq_getElem_cons h1] at h
  simp only [List.cons.injEq] at h
  exact ⟨by rw [List.getElem?_eq_getElem h1, h.1], h.2, h1⟩
theorem drop_nil {α : Type} {p : List α} {k : Nat} (h : p.drop k = []) : p.length ≤ k := by
  have : (p.drop k).length = 0 := by rw [h]; rfl
  simp at this
  omega
theorem l13 (N : Nat) (l : Int) (a d : Bool) (p : List T77) (hp : p.length < 1000000) : ∀ (q : List T77) (k m : Nat) (f : List (List UInt8)) (st : St), p.drop k = q → q.length < m → (∀ x ∈ q, 0 ≤ x.at_ ∧ x.at_ < (f.length : Int)) → st.clean (fx13.deadAt (loopAt fx13 0)) = s13 l k a d f p →
    loopF F1 tb fx13 0 N (contF F1 tb fx13 N 0 1) m st = some (.int .i64 0, dB l a d (q.foldl setF f) []) := by
  intro q
  induction q with
  | nil =>
    intro k m f st hq hm hx hst
    obtain ⟨m, rfl⟩ : ∃ m', m = m' + 1 := ⟨m - 1, by omega⟩
    have := drop_nil hq
    rw [loopF_succ, hst, b13, decide_eq_false (by omega)]
    rfl
  | cons x q ih =>
    intro k m f st hq hm hx hst
    obtain ⟨m, rfl⟩ : ∃ m', m = m' + 1 := ⟨m - 1, by omega⟩
    obtain ⟨h1, h2, h3⟩ := drop_get hq
    obtain ⟨h4, h5⟩ := hx x (by simp)
    have hlt : x.at_.toNat < f.length := by omega
    rw [loopF_succ, hst, b13, decide_eq_true (show (k : Int) < ((p.length : Nat) : Int) by omega), decide_eq_true (show 0 ≤ (k : Int) ∧ (k : Int) < ((p.length : Nat) : Int) by omega)]
    simp only [cond_true, Nat.zero_add, Int.toNat_natCast, h1, getO]
    rw [decide_eq_true (show 0 ≤ x.at_ ∧ x.at_ < ((f.length : Nat) : Int) from ⟨h4, h5⟩)]
    simp only [cond_true, List.getElem?_eq_getElem hlt]
    rw [wrap_id (by omega) (by omega)]
    refine ih (k + 1) m (setF f x) _ h2 (by simp at hm; omega) (fun y hy => ?_) (by kernel_rfl)
    have := hx y (by simp [hy])
    simpa [setF] using this
theorem l16 (N : Nat) (l : Int) (a d : Bool) (p : List T77) (ks : List Bool) (hp : p.length < 1000000) : ∀ (q : List T77) (kr : List Bool) (k m : Nat) (f : List (List UInt8)) (st : St), p.drop k = q → ks.drop k = kr → q.length < m → (∀ x ∈ q, 0 ≤ x.at_ ∧ x.at_ < (f.length : Int)) → st.clean (fx16.deadAt (loopAt fx16 0)) = s16 l k a d f p ks →
    loopF F1 tb fx16 0 N (contF F1 tb fx16 N 0 1) m st = some (.tup [], dB 0 false false (crF q kr f) []) := by
  intro q
  induction q with
  | nil =>
    intro kr k m f st hq hk hm hx hst
    obtain ⟨m, rfl⟩ : ∃ m', m = m' + 1 := ⟨m - 1, by omega⟩
    have := drop_nil hq
    rw [loopF_succ, hst, b16, decide_eq_false (by omega)]
    rfl
  | cons x q ih =>
    intro kr k m f st hq hk hm hx hst
    obtain ⟨m, rfl⟩ : ∃ m', m = m' + 1 := ⟨m - 1, by omega⟩
    obtain ⟨h1, h2, h3⟩ := drop_get hq
    obtain ⟨h4, h5⟩ := hx x (by simp)
    have hlt : x.at_.toNat < f.length := by omega
    have hx' : ∀ g : List (List UInt8), g.length = f.length → ∀ y ∈ q, 0 ≤ y.at_ ∧ y.at_ < (g.length : Int) := fun g hg y hy => by rw [hg]; exact hx y (by simp [hy])
    rw [loopF_succ, hst, b16, decide_eq_true (show (k : Int) < ((p.length : Nat) : Int) by omega), decide_eq_true (show 0 ≤ (k : Int) ∧ (k : Int) < ((p.length : Nat) : Int) by omega)]
    simp only [cond_true, Nat.zero_add, Int.toNat_natCast, h1, getO]
    rw [wrap_id (show -9223372036854775808 ≤ (k : Int) + 1 by omega) (by omega)]
    cases kr with
    | nil =>
      have hle := drop_nil hk
      rw [decide_eq_false (show ¬ ((k : Int) < ((ks.length : Nat) : Int)) by omega)]
      simp only [cond_false]
      have hn : crF (x :: q) [] f = crF q [] f := by cases q <;> rfl
      rw [hn]
      exact ih [] (k + 1) m f _ h2 (List.drop_eq_nil_of_le (by omega)) (by simp at hm; omega) (hx' f rfl) (by kernel_rfl)
    | cons b kr =>
      obtain ⟨g1, g2, g3⟩ := drop_get hk
      rw [decide_eq_true (show (k : Int) < ((ks.length : Nat) : Int) by omega), decide_eq_true (show 0 ≤ (k : Int) by omega)]
      simp only [cond_true, g1]
      cases b
      · simp only [cond_false]
        exact ih kr (k + 1) m f _ h2 g2 (by simp at hm; omega) (hx' f rfl) (by kernel_rfl)
      · simp only [cond_true]
        rw [decide_eq_true (show 0 ≤ x.at_ ∧ x.at_ < ((f.length : Nat) : Int) from ⟨h4, h5⟩)]
        simp only [cond_true, List.getElem?_eq_getElem hlt]
        exact ih kr (k + 1) m (setF f x) _ h2 g2 (by simp at hm; omega) (hx' _ (by simp [setF])) (by kernel_rfl)
theorem l10 (N n : Nat) (hn : n ≤ 4096) : ∀ (r k m : Nat) (st : St), k + r = n → r < m → st.clean (fx10.deadAt (loopAt fx10 0)) = s10 n k (List.replicate k (pad 32)) →
    loopF F1 tb fx10 0 N (contF F1 tb fx10 N 0 0) m st = some (.ptr 0 0, dB 0 false false (List.replicate n (pad 32)) []) := by
  intro r
  induction r with
  | zero =>
    intro k m st hk hm hst
    obtain ⟨m, rfl⟩ : ∃ m', m = m' + 1 := ⟨m - 1, by omega⟩
    obtain rfl : k = n := by omega
    rw [loopF_succ, hst, b10, decide_eq_false (by omega)]
    rfl
  | succ r ih =>
    intro k m st hk hm hst
    obtain ⟨m, rfl⟩ : ∃ m', m = m' + 1 := ⟨m - 1, by omega⟩
    rw [loopF_succ, hst, b10, decide_eq_true (by omega)]
    have hf : ∀ x : List UInt8, (fitsB ((List.replicate k (pad 32)).length + [x].length) 16 && decide ((List.replicate k (pad 32)).length + [x].length ≤ big62)) = true := fun x => by
      simp only [List.length_replicate, List.length_singleton, Bool.and_eq_true]
      exact ⟨decide_eq_true (by unfold roomB; omega), decide_eq_true (by unfold big62; omega)⟩
    refine (bif_t rfl).trans ((bif_t (hf [])).trans ?_)
    rw [wrap_id (by omega) (by omega)]
    refine ih (k + 1) m _ (by omega) (by omega) ?_
    rw [List.replicate_succ' (n := k)]
    kernel_rfl
end Go.AM.Ytpdifkaeiecdpaa
