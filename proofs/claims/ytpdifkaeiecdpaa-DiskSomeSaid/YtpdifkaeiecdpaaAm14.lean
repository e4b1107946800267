/- A part of the proof: machine and program. -/
import Derived.Test.YtpdifkaeiecdpaaAm13
namespace Go.AM
open Go.RowKit Go.Lib
section
variable [Reg]
section
variable {P : Program} {c : Ctx} {γ γ' γ'' : Gh} {D D' D'' : Dead} {st : St} {a : Act} {w w' w'' : World} {tb : Tb} {H : Hints} {h h' h'' : Heap} {u u' u'' : List Nat}

/-- Where a row lies in the results. -/
def conIx (k : Nat) : Nat → List AV → Option (Nat × Nat)
  | _, [] => none
  | j, v :: r => match rowPos k 0 v.cells with | some i => some (j, i) | none => conIx k (j + 1) r
theorem conPos_at {k t : Nat} (hk : 1000 ≤ k) : ∀ {cs : List AV} {i m : Nat}, (cs.flatMap conC).Nodup → cs[i]? = some (.vw k t) → rowPos k m cs = some (m + i)
  | [], i, m, _, h => by simp at h
  | c :: r, i, m, hn, h => by
    rw [List.flatMap_cons] at hn
    cases i with
    | zero =>
      simp at h
      subst h
      simp [rowPos]
    | succ i =>
      have hkr : r[i]? = some (.vw k t) := by simpa using h
      have hblt : Nat.blt k 1000 = false := by
        cases hb : Nat.blt k 1000 with
        | false => rfl
        | true => have := blt_iff.1 hb; omega
      have hin : k ∈ r.flatMap conC := List.mem_flatMap.2 ⟨.vw k t, List.mem_of_getElem? hkr, by simp [conC, hblt]⟩
      have ih := conPos_at (m := m + 1) hk (List.nodup_append.1 hn).2.1 hkr
      unfold rowPos
      split
      · rename_i k' t'
        have hne : Nat.beq k' k = false := by
          cases hb : Nat.beq k' k with
          | false => rfl
          | true =>
            have := Nat.eq_of_beq_eq_true hb
            subst this
            exact absurd rfl ((List.nodup_append.1 hn).2.2 k' (by simp [conC, hblt]) k' hin)
        rw [hne]
        simp only [cond_false, ih]
        congr 1
        omega
      · rw [ih]
        congr 1
        omega
theorem conIx_at {k t : Nat} (hk : 1000 ≤ k) : ∀ {vs : List AV} {j i m : Nat} {v : AV}, (vs.flatMap conV).Nodup → vs[j]? = some v → v.cells[i]? = some (.vw k t) → conIx k m vs = some (m + j, i)
  | [], j, i, m, v, _, h, _ => by simp at h
  | x :: r, j, i, m, v, hn, h, h2 => by
    rw [List.flatMap_cons] at hn
    obtain ⟨n1, n2, n3⟩ := List.nodup_append.1 hn
    cases j with
    | zero =>
      simp at h
      subst h
      unfold conIx
      rw [conPos_at hk n1 h2]
      simp
    | succ j =>
      have h1 : r[j]? = some v := by simpa using h
      have ih := conIx_at (m := m + 1) hk n2 h1 h2
      have hblt : Nat.blt k 1000 = false := by
        cases hb : Nat.blt k 1000 with
        | false => rfl
        | true => have := blt_iff.1 hb; omega
      have hin : ∀ {cs : List AV} {i : Nat} {t : Nat}, cs[i]? = some (.vw k t) → k ∈ cs.flatMap conC := fun {cs i t} he => List.mem_flatMap.2 ⟨.vw k t, List.mem_of_getElem? he, by simp [conC, hblt]⟩
      unfold conIx
      split
      · rename_i i' hi
        obtain ⟨_, t', hi⟩ := rowPos_spec hi
        exact absurd rfl (n3 k (hin hi) k (List.mem_flatMap.2 ⟨v, List.mem_of_getElem? h1, hin h2⟩))
      · rw [ih]; congr 2; omega
theorem conIx_spec {k : Nat} : ∀ {vs : List AV} {j i m : Nat}, conIx k m vs = some (j, i) → m ≤ j ∧ ∃ v t, vs[j - m]? = some v ∧ v.cells[i]? = some (.vw k t)
  | [], j, i, m, e => by simp [conIx] at e
  | x :: r, j, i, m, e => by
    unfold conIx at e
    split at e
    · rename_i i' hi
      simp only [Option.some.injEq, Prod.mk.injEq] at e
      obtain ⟨rfl, rfl⟩ := e
      obtain ⟨_, t, hi⟩ := rowPos_spec hi
      exact ⟨Nat.le_refl _, x, t, by simp, by simpa using hi⟩
    · obtain ⟨h1, v, t, h2, h3⟩ := conIx_spec e
      refine ⟨by omega, v, t, ?_, h3⟩
      rw [show j - m = (j - (m + 1)) + 1 by omega, List.getElem?_cons_succ]
      exact h2

theorem ownV_cells (x : AV) : (ownV h x).cells = x.cells.map (ownC h) := by
  cases x with
  | vw k t =>
    show (ownC h (.vw k t)).cells = [ownC h (.vw k t)]
    unfold ownC
    simp only
    cases Nat.blt k 1000
    · simp only [cond_false]
      split
      · split <;> rfl
      · rfl
    · rfl
  | _ => rfl
theorem outC_cells {ks : List Nat} {x d : AV} (e : outC ks x = some d) : d.cells = [d] ∧ (∀ l, d ≠ .tup l) ∧ (∀ l, d ≠ .agg l) ∧ ((∃ t xs, x = .ow t xs) ∨ ((∀ t xs, d ≠ .ow t xs) ∧ ∀ r, in0 (fun n => n) r d = d)) := by
  cases x <;> simp only [outC, out0, AV.dat, Option.some.injEq, reduceCtorEq] at e
  case ptr => split at e <;> simp at e; subst e; exact ⟨rfl, by simp, by simp, .inr ⟨by simp, fun _ => rfl⟩⟩
  case vw => split at e <;> simp at e; subst e; exact ⟨rfl, by simp, by simp, .inr ⟨by simp, fun _ => rfl⟩⟩
  case sv => split at e <;> simp at e; subst e; exact ⟨rfl, by simp, by simp, .inr ⟨by simp, fun _ => rfl⟩⟩
  case fn n cs =>
    split at e
    · rename_i l hl
      simp only [Option.some.injEq] at e
      subst e
      refine ⟨rfl, by simp, by simp, .inr ⟨by simp, fun r => ?_⟩⟩
      simp only [in0]
      congr 1
      exact (List.map_congr_left fun x _ => by cases x <;> rfl).trans (List.map_id l)
    · simp at e
  case ow t xs => subst e; exact ⟨rfl, by simp, by simp, .inl ⟨t, xs, rfl⟩⟩
  all_goals (subst e; exact ⟨rfl, by simp, by simp, .inr ⟨by simp, fun _ => rfl⟩⟩)
theorem outV_cells {ks : List Nat} {x d : AV} (e : outV ks x = some d) : (∀ l, d ≠ .tup l) ∧ d.cells.length = x.cells.length ∧ ∀ (i : Nat) (b : AV), d.cells[i]? = some b → ∃ a, x.cells[i]? = some a ∧ outC ks a = some b := by
  by_cases hx : ∃ cs, x = .agg cs
  · obtain ⟨cs, rfl⟩ := hx
    simp only [outV] at e
    split at e
    · rename_i l hl
      simp only [Option.some.injEq] at e
      subst e
      exact ⟨by simp, (mapO_spec hl).1, (mapO_spec hl).2⟩
    · simp at e
  · have hc : x.cells = [x] := by cases x <;> first | rfl | exact absurd ⟨_, rfl⟩ hx
    have ho : outC ks x = some d := by
      rw [← e]
      cases x <;> first | rfl | exact absurd ⟨_, rfl⟩ hx
    obtain ⟨h1, h2, _⟩ := outC_cells ho
    refine ⟨h2, by rw [h1, hc]; rfl, fun i b hb => ?_⟩
    rw [h1] at hb
    rw [hc]
    cases i with
    | zero => simp at hb; subst hb; exact ⟨x, rfl, ho⟩
    | succ i => simp at hb

theorem parts_tupOf {l : List AV} (hl : ∀ v ∈ l, ∀ vs, v ≠ .tup vs) : parts (tupOf l) = l := by
  match l, hl with
  | [], _ => rfl
  | [v], hl =>
    have := hl v (by simp)
    show parts v = [v]
    cases v <;> first | rfl | exact absurd rfl (this _)
  | v :: u :: r, _ => rfl
theorem inVs_get (bid : Nat → Nat) (rid : Nat → Nat → Nat) : ∀ (l : List AV) (j i : Nat), (inVs bid rid j l)[i]? = (l[i]?).map (inV bid (rid (j + i)))
  | [], j, i => by simp [inVs]
  | v :: r, j, 0 => by simp [inVs]
  | v :: r, j, i + 1 => by
    simp only [inVs, List.getElem?_cons_succ]
    rw [inVs_get bid rid r (j + 1) i, show j + 1 + i = j + (i + 1) by omega]
theorem inVs_len (bid : Nat → Nat) (rid : Nat → Nat → Nat) : ∀ (l : List AV) (j : Nat), (inVs bid rid j l).length = l.length
  | [], j => rfl
  | v :: r, j => by simp [inVs, inVs_len bid rid r (j + 1)]
theorem rowsVs_mem {rid : Nat → Nat → Nat} {t : Nat} {xs : List (R t)} : ∀ {l : List AV} {j m i : Nat} {v : AV}, l[j]? = some v → v.cells[i]? = some (.ow t xs) → (rid (m + j) i, Ob.row t xs) ∈ rowsVs rid m l
  | [], j, m, i, v, h, _ => by simp at h
  | x :: r, j, m, i, v, h, h2 => by
    simp only [rowsVs]
    cases j with
    | zero =>
      simp at h
      subst h
      have := rowsCs_mem (rid := rid m) (n := 0) h2
      exact List.mem_append.2 (.inl (by simpa using this))
    | succ j =>
      have := rowsVs_mem (rid := rid) (m := m + 1) (j := j) (by simpa using h) h2
      rw [show m + 1 + j = m + (j + 1) by omega] at this
      exact List.mem_append.2 (.inr this)
omit [Reg] in
theorem find_append {α : Type} {k : Nat} : ∀ {a b : List (Nat × α)}, find k (a ++ b) = match find k a with | some o => some o | none => find k b
  | [], b => rfl
  | (m, o) :: r, b => by
    simp only [List.cons_append, find]
    split
    · rfl
    · exact find_append

def phiE (h : Heap) (ks : List Nat) (vs : List AV) (k : Nat) : Option Nat :=
  match phi h ks k with
  | some x => some x
  | none => if k < 1000 then none else (match conIx k 0 vs with | some (j, i) => some (rrd0 j i) | none => none)

section
variable {ks : List Nat} {os : List Ob} {vs l : List AV}
theorem end_cell (hvs : mapO (outV ks) (vs.map (ownV h)) = some l) {j i k t : Nat} {v : AV} (hv : vs[j]? = some v) (hc : v.cells[i]? = some (.vw k t)) (hk : 1000 ≤ k) : ∃ v' xs, l[j]? = some v' ∧ v'.cells[i]? = some (.ow t xs) ∧ find k h = some (.row t xs) := by
  obtain ⟨h1, h2⟩ := mapO_spec hvs
  have hj : j < l.length := by rw [h1, List.length_map]; exact (List.getElem?_eq_some_iff.1 hv).1
  have e1 := List.getElem?_eq_getElem hj
  obtain ⟨x, g1, g2⟩ := h2 j l[j] e1
  rw [List.getElem?_map, hv] at g1
  simp only [Option.map_some, Option.some.injEq] at g1
  subst g1
  obtain ⟨_, g3, g4⟩ := outV_cells g2
  have hi : i < l[j].cells.length := by
    rw [g3, ownV_cells, List.length_map]; exact (List.getElem?_eq_some_iff.1 hc).1
  have e2 := List.getElem?_eq_getElem hi
  obtain ⟨b, g5, g6⟩ := g4 i _ e2
  rw [ownV_cells, List.getElem?_map, hc] at g5
  simp only [Option.map_some, Option.some.injEq] at g5
  have hblt : Nat.blt k 1000 = false := by
    cases hb : Nat.blt k 1000 with
    | false => rfl
    | true => have := blt_iff.1 hb; omega
  simp only [ownC, hblt, cond_false] at g5
  split at g5
  · rename_i t' xs hr
    split at g5
    · rename_i e
      subst e
      subst g5
      simp only [outC, Option.some.injEq] at g6
      exact ⟨_, xs, e1, by rw [e2, ← g6], hr⟩
    · subst g5; simp [outC, out0, AV.dat] at g6
  · subst g5; simp [outC, out0, AV.dat] at g6

theorem end_ren {cvs : List Value} (hR : RepLs (RepB γ h u w D) vs cvs) (hnd : (ks ++ (inls h ks ++ vs.flatMap conV)).Nodup) (hos : mapO (packO h ks) ks = some os) (hvs : mapO (outV ks) (vs.map (ownV h)) = some l) (hok : objsOk os = true) (hr : resOk (tupOf l) = true) (hnt : os.all notTok = true) (hk : (keys (heapR (tupOf l) os)).Nodup) :
    Ren (phiE h ks vs) h (heapR (tupOf l) os) u (keys (heapR (tupOf l) os)) := by
  obtain ⟨n1, n2, n3⟩ := List.nodup_append.1 hnd
  obtain ⟨n4, n5, n6⟩ := List.nodup_append.1 n2
  have hnd' : (ks ++ inls h ks).Nodup := List.nodup_append.2 ⟨n1, n4, fun x hx y hy => n3 x hx y (List.mem_append.2 (.inl hy))⟩
  obtain ⟨m1, m2⟩ := mapO_spec hvs
  have hl : ∀ v ∈ l, ∀ vs', v ≠ .tup vs' := fun v hv => by
    obtain ⟨j, hj⟩ := List.getElem?_of_mem hv
    obtain ⟨x, _, g⟩ := m2 j v hj
    exact (outV_cells g).1
  have hP : heapR (tupOf l) os = heap0 os ++ rowsVs rrd0 0 l := by unfold heapR; rw [parts_tupOf hl]; rfl
  have hk' := hk
  rw [hP] at hk'
  simp only [keys, List.map_append] at hk'
  obtain ⟨k1, k2, k3⟩ := List.nodup_append.1 hk'
  have rO := ren_out (u := u) hnd' hos hok k1 hnt
  simp only [resOk, parts_tupOf hl, Bool.and_eq_true, Nat.ble_eq] at hr
  have h128 : ∀ {j i : Nat} {v c : AV}, vs[j]? = some v → v.cells[i]? = some c → i < 128 := fun {j i v c} hv hc => by
    have hj : j < l.length := by rw [m1, List.length_map]; exact (List.getElem?_eq_some_iff.1 hv).1
    obtain ⟨x, g1, g2⟩ := m2 j l[j] (List.getElem?_eq_getElem hj)
    rw [List.getElem?_map, hv] at g1
    simp only [Option.map_some, Option.some.injEq] at g1
    subst g1
    have g3 := (outV_cells g2).2.1
    rw [ownV_cells, List.length_map] at g3
    have := List.all_eq_true.1 hr.2 l[j] (List.getElem_mem hj)
    simp only [cellsOk, Bool.and_eq_true, Nat.ble_eq] at this
    have := (List.getElem?_eq_some_iff.1 hc).1
    omega
  -- what a number comes to
  have hcase : ∀ {k k'}, phiE h ks vs k = some k' → phi h ks k = some k' ∨ (1000 ≤ k ∧ ∃ j i v t v' xs, k' = rrd0 j i ∧ vs[j]? = some v ∧ v.cells[i]? = some (.vw k t) ∧ i < 128 ∧ l[j]? = some v' ∧ v'.cells[i]? = some (.ow t xs) ∧ find k h = some (.row t xs)) := fun {k k'} e => by
    unfold phiE at e
    split at e
    · rename_i x hx
      simp only [Option.some.injEq] at e
      subst e
      exact .inl hx
    · split at e
      · simp at e
      · rename_i hlt
        split at e
        · rename_i j i hc
          simp only [Option.some.injEq] at e
          subst e
          obtain ⟨_, v, t, g1, g2⟩ := conIx_spec hc
          rw [Nat.sub_zero] at g1
          obtain ⟨v', xs, g3, g4, g5⟩ := end_cell hvs g1 g2 (by omega)
          exact .inr ⟨by omega, j, i, v, t, v', xs, rfl, g1, g2, h128 g1 g2, g3, g4, g5⟩
        · simp at e
  have hin : ∀ {j i t : Nat} {v' : AV} {xs : List (R t)}, l[j]? = some v' → v'.cells[i]? = some (.ow t xs) → rrd0 j i ∈ keys (rowsVs rrd0 0 l) := fun {j i t v' xs} g1 g2 => by
    have := rowsVs_mem (rid := rrd0) (m := 0) g1 g2
    rw [Nat.zero_add] at this
    exact List.mem_map.2 ⟨_, this, rfl⟩
  refine ⟨fun x y i e1 e2 => ?_, fun k' o' e => ?_, fun k k' e => ?_⟩
  · rcases hcase e1 with a1 | ⟨_, j, i1, v, t, v', xs, rfl, g1, g2, g3, g4, g5, _⟩ <;> rcases hcase e2 with b1 | ⟨_, j', i1', v2, t', v2', xs', b0, b1, b2, b3, b4, b5, _⟩
    · exact rO.inj _ _ _ a1 b1
    · subst b0
      exact absurd rfl (k3 _ (rO.u _ _ a1) _ (hin b4 b5))
    · exact absurd rfl (k3 _ (rO.u _ _ b1) _ (hin g4 g5))
    · unfold rrd0 at b0
      have e3 : j = j' := by omega
      have e4 : i1 = i1' := by omega
      subst e3
      subst e4
      rw [g1] at b1
      cases b1
      rw [g2] at b2
      cases b2
      rfl
  · rw [hP, find_append] at e
    split at e
    · rename_i o hf
      cases e
      obtain ⟨k, o, h1, h2, h3⟩ := out_at (f := phiE h ks vs) (u := u) (fun k k' e => by simp only [phiE, e]) hnd' hos hok k1 hnt k' _ hf
      exact ⟨k, o, by simp only [phiE, h1], h2, h3⟩
    · obtain ⟨j, v', i, t, xs, g1, g2, rfl, rfl⟩ := mem_rowsVs (find_mem e)
      obtain ⟨x, g3, g4⟩ := m2 j v' g1
      rw [List.getElem?_map, Option.map_eq_some_iff] at g3
      obtain ⟨v, g3, rfl⟩ := g3
      obtain ⟨_, _, g5⟩ := outV_cells g4
      obtain ⟨b, g6, g7⟩ := g5 i _ g2
      rw [ownV_cells, List.getElem?_map, Option.map_eq_some_iff] at g6
      obtain ⟨c', g6, rfl⟩ := g6
      have how : ownC h c' = .ow t xs := by
        rcases (outC_cells g7).2.2.2 with ⟨t', xs', e'⟩ | ⟨e', _⟩
        · rw [e'] at g7 ⊢
          simp only [outC, Option.some.injEq] at g7
          exact g7
        · exact absurd rfl (e' t xs)
      have hlt : j < cvs.length := by rw [hR.get.1]; exact (List.getElem?_eq_some_iff.1 g3).1
      have hrep := hR.at g3 (List.getElem?_eq_getElem hlt)
      have hno : ∀ t' xs', c' ≠ .ow t' xs' := fun t' xs' e' => by
        subst e'
        by_cases hag : ∃ cs, v = .agg cs
        · obtain ⟨cs, rfl⟩ := hag
          obtain ⟨arr, _, hn, hh⟩ := hrep
          have hi2 : i < arr.size := by rw [hn]; exact (List.getElem?_eq_some_iff.1 g6).1
          have := (hh i _ _ g6 (Array.getElem?_eq_getElem hi2)).1
          exact (nomatch (show RepD w D (.ow t' xs') _ from this))
        · have hcl : v.cells = [v] := by cases v <;> first | rfl | exact absurd ⟨_, rfl⟩ hag
          rw [hcl] at g6
          cases i with
          | zero =>
            simp at g6
            rw [g6] at hrep
            exact (nomatch (show RepD w D (.ow t' xs') _ from hrep))
          | succ i => simp at g6
      have hc : ∃ k, c' = .vw k t ∧ 1000 ≤ k ∧ find k h = some (.row t xs) := by
        cases c' with
        | vw k t' =>
          simp only [ownC] at how
          cases hb : Nat.blt k 1000 with
          | true => rw [hb] at how; simp at how
          | false =>
            rw [hb] at how
            simp only [cond_false] at how
            have hge : 1000 ≤ k := Nat.le_of_not_lt fun h => by rw [blt_iff.2 h] at hb; cases hb
            split at how
            · rename_i t2 xs2 hf
              split at how
              · rename_i e2
                subst e2
                cases how
                exact ⟨k, rfl, hge, hf⟩
              · simp at how
            · simp at how
        | ow t' xs' => exact absurd rfl (hno t' xs')
        | _ => simp [ownC] at how
      obtain ⟨k, rfl, hge, hf⟩ := hc
      have hix := conIx_at (m := 0) hge n5 g3 g6
      have hcon : k ∈ vs.flatMap conV := List.mem_flatMap.2 ⟨v, List.mem_of_getElem? g3, List.mem_flatMap.2 ⟨.vw k t, List.mem_of_getElem? g6, by
        have hblt : Nat.blt k 1000 = false := by
          cases hb : Nat.blt k 1000 with
          | false => rfl
          | true => have := blt_iff.1 hb; omega
        simp [conC, hblt]⟩⟩
      have hphi : phi h ks k = none := by
        cases hp : phi h ks k with
        | none => rfl
        | some m =>
          rcases List.mem_append.1 (phi_mem hp) with hm | hm
          · exact absurd rfl (n3 k hm k (List.mem_append.2 (.inr hcon)))
          · exact absurd rfl (n6 k hm k hcon)
      refine ⟨k, _, ?_, hf, rfl⟩
      simp only [phiE, hphi, if_neg (show ¬ k < 1000 by omega), hix]
  · rw [hP]
    simp only [keys, List.map_append]
    rcases hcase e with a1 | ⟨_, j, i1, v, t, v', xs, rfl, g1, g2, g3, g4, g5, _⟩
    · exact List.mem_append.2 (.inl (rO.u _ _ a1))
    · exact List.mem_append.2 (.inr (hin g4 g5))

theorem end_rep {f : Nat → Option Nat} (hf : ∀ k m, idxOf k ks 0 = some m → f k = some m) {j : Nat} {v v' : AV} {y : Value} (hcon : ∀ i k t, v.cells[i]? = some (.vw k t) → 1000 ≤ k → f k = some (rrd0 j i)) (hx : RepB γ' h' u' w D (renB f v) y) (hx0 : RepB γ h u w D v y) (e : outV ks (ownV h v) = some v') : RepB γ' h' u' w D (inV (fun n => n) (rrd0 j) v') y := by
  have cell : ∀ {i : Nat} {c' b : AV} {z : Value}, v.cells[i]? = some c' → (∀ t xs, c' ≠ .ow t xs) → outC ks (ownC h c') = some b → RepC γ' h' u' w D (renC f c') z → RepC γ' h' u' w D (in0 (fun n => n) (rrd0 j i) b) z ∧ Cell (in0 (fun n => n) (rrd0 j i) b) := fun {i c' b z} hc hno ho hz => by
    have keep : ownC h c' = c' → RepC γ' h' u' w D (in0 (fun n => n) (rrd0 j i) b) z ∧ Cell (in0 (fun n => n) (rrd0 j i) b) := fun ek => by
      rw [ek] at ho
      rcases (outC_cells ho).2.2.2 with ⟨t', xs', e'⟩ | ⟨_, e'⟩
      · exact absurd e' (hno t' xs')
      · rw [e']
        exact outC_rep hf ho hz
    cases c' with
    | vw k t =>
      cases hb : Nat.blt k 1000 with
      | true => exact keep (by simp only [ownC, hb, cond_true])
      | false =>
        have hge : 1000 ≤ k := Nat.le_of_not_lt fun h => by rw [blt_iff.2 h] at hb; cases hb
        simp only [ownC, hb, cond_false] at ho
        split at ho
        · split at ho
          · rename_i e2
            subst e2
            simp only [outC, Option.some.injEq] at ho
            subst ho
            simp only [renC, ren1, hcon i k _ hc hge] at hz
            exact ⟨hz, .inr rfl⟩
          · simp [outC, out0, AV.dat] at ho
        · simp [outC, out0, AV.dat] at ho
    | ow t xs => exact absurd rfl (hno t xs)
    | _ => exact keep rfl
  by_cases hag : ∃ cs, v = .agg cs
  · obtain ⟨cs, rfl⟩ := hag
    simp only [ownV, outV] at e
    split at e
    · rename_i l hl
      simp only [Option.some.injEq] at e
      subst e
      obtain ⟨h1, h2⟩ := mapO_spec hl
      obtain ⟨arr, e1, hn, hh⟩ := hx
      obtain ⟨arr0, e10, hn0, hh0⟩ := hx0
      refine ⟨arr, e1, by rw [hn, inCs_len, h1]; simp, fun i b z hi hj => ?_⟩
      rw [inCs_get, Option.map_eq_some_iff] at hi
      obtain ⟨b0, hb0, rfl⟩ := hi
      obtain ⟨x, g1, g2⟩ := h2 i b0 hb0
      rw [List.getElem?_map, Option.map_eq_some_iff] at g1
      obtain ⟨c', g1, rfl⟩ := g1
      rw [Nat.zero_add]
      refine cell (i := i) g1 (fun t xs e' => ?_) g2 (hh i (renC f c') z (by simp [g1]) hj).1
      subst e'
      have hi2 : i < arr0.size := by rw [hn0]; exact (List.getElem?_eq_some_iff.1 g1).1
      have := (hh0 i _ _ g1 (Array.getElem?_eq_getElem hi2)).1
      exact (nomatch (show RepD w D (.ow t xs) _ from this))
    · simp at e
  · have hne : ∀ cs, v ≠ .agg cs := fun cs e => hag ⟨cs, e⟩
    have hcl : v.cells = [v] := by cases v <;> first | rfl | exact absurd rfl (hne _)
    have hno : ∀ t xs, v ≠ .ow t xs := fun t xs e' => by
      subst e'
      exact (nomatch (show RepD w D (.ow t xs) _ from hx0))
    have ho : outC ks (ownC h v) = some v' := by
      rw [← e]
      cases v <;> first | rfl | (exact absurd rfl (hne _)) | skip
      rename_i k t
      show outC ks (ownC h (.vw k t)) = outV ks (ownC h (.vw k t))
      unfold ownC
      simp only
      cases Nat.blt k 1000
      · simp only [cond_false]
        split
        · split <;> rfl
        · rfl
      · rfl
    have hcell : Cell v := by
      cases v <;> first | exact .inl rfl | exact .inr rfl | (exact absurd rfl (hne _)) | (exact absurd rfl (hno _ _)) | skip
      exact (nomatch (show RepD w D (.tup _) _ from hx0))
    rw [renB_ne hne] at hx
    have := cell (i := 0) (c' := v) (b := v') (z := y) (by rw [hcl]; rfl) hno ho (hx.toC (renC_cell f hcell))
    have e2 : inV (fun n => n) (rrd0 j) v' = in0 (fun n => n) (rrd0 j 0) v' := by
      have := (outC_cells ho).2.2.1
      cases v' <;> first | rfl | exact absurd rfl (this _)
    rw [e2]
    exact this.1.b
end
end
end
end Go.AM
namespace Go.AM
open Go.RowKit Go.Lib
section
variable [Reg]
section
variable {P : Program} {c : Ctx} {γ γ' γ'' : Gh} {D D' D'' : Dead} {st : St} {a : Act} {w w' w'' : World} {tb : Tb} {H : Hints} {h h' h'' : Heap} {u u' u'' : List Nat}

theorem phiE_con {ks : List Nat} {vs : List AV} (hnd : (ks ++ (inls h ks ++ vs.flatMap conV)).Nodup) {j i k t : Nat} {v : AV} (hv : vs[j]? = some v) (hc : v.cells[i]? = some (.vw k t)) (hge : 1000 ≤ k) : phiE h ks vs k = some (rrd0 j i) := by
  obtain ⟨n1, n2, n3⟩ := List.nodup_append.1 hnd
  obtain ⟨n4, n5, n6⟩ := List.nodup_append.1 n2
  have hix := conIx_at (m := 0) hge n5 hv hc
  have hcon : k ∈ vs.flatMap conV := List.mem_flatMap.2 ⟨v, List.mem_of_getElem? hv, List.mem_flatMap.2 ⟨.vw k t, List.mem_of_getElem? hc, by
    have hblt : Nat.blt k 1000 = false := by
      cases hb : Nat.blt k 1000 with
      | false => rfl
      | true => have := blt_iff.1 hb; omega
    simp [conC, hblt]⟩⟩
  have hphi : phi h ks k = none := by
    cases hp : phi h ks k with
    | none => rfl
    | some m =>
      rcases List.mem_append.1 (phi_mem hp) with hm | hm
      · exact absurd rfl (n3 k hm k (List.mem_append.2 (.inr hcon)))
      · exact absurd rfl (n6 k hm k hcon)
  simp only [phiE, hphi, if_neg (show ¬ k < 1000 by omega), hix, Nat.zero_add]

/-- What comes back. -/
theorem end_sound (hT : TbOk P tb) {fn : Func} {ow : List Nat} {m : Nat} {r : AV} {os : List Ob} (hi : Inv c γ D st a w) (hs : endA tb fn ow m st = some (r, os)) :
    a.defers = [] ∧ ∃ v, (results fn a.tmps).run P w = .ok v w ∧ Post c m r os (.returned v) w := by
  refine ⟨hi.dfr, ?_⟩
  unfold endA at hs
  split at hs
  · rename_i l0 hl0
    obtain ⟨cvs, hrun, hR0⟩ := rawA_sound hT hi hl0
    obtain ⟨γ1, D1, hi1, hR, _⟩ := finVs_sound (ow := ow) (p := 0) hi hR0
    generalize finVs ow 0 st.h l0 = q at hs hi1 hR
    obtain ⟨vs, h⟩ := q
    simp only at hs hi1 hR
    generalize reach (boxRefs h) 200 [] (List.range m ++ (vs.map (ownV h)).flatMap AV.refs) = ks at hs
    unfold endO at hs
    split at hs
    · rename_i l os' hvs hos
      generalize hb : ((nodupB (ks ++ (inls h ks ++ vs.flatMap conV)) && os'.all notTok) && (Nat.ble m 1000 && decide (ks.take m = List.range m))) = b at hs
      cases b
      · simp at hs
      · simp only [cond_true, Option.some.injEq, Prod.mk.injEq] at hs
        obtain ⟨rfl, rfl⟩ := hs
        simp only [Bool.and_eq_true, Nat.ble_eq, decide_eq_true_eq] at hb
        obtain ⟨⟨b1, hnt⟩, hm, htk⟩ := hb
        have hnd := nodupB_iff b1
        refine ⟨resV cvs, results_run hrun, resV cvs, γ1.ren (phiE h ks vs) (heapR (tupOf l) os'), D1, rfl, fun hok hr hk => ?_⟩
        have rE := end_ren (u := st.u) hR hnd hos hvs hok hr hnt hk
        obtain ⟨m1, m2⟩ := mapO_spec hvs
        have hl : ∀ v ∈ l, ∀ vs', v ≠ .tup vs' := fun v hv => by
          obtain ⟨j, hj⟩ := List.getElem?_of_mem hv
          obtain ⟨x, _, g⟩ := m2 j v hj
          exact (outV_cells g).1
        have hlen : cvs.length = l.length := by rw [hR.get.1, m1, List.length_map]
        have hrep : ∀ j v' y, l[j]? = some v' → cvs[j]? = some y → RepB (γ1.ren (phiE h ks vs) (heapR (tupOf l) os')) (heapR (tupOf l) os') (keys (heapR (tupOf l) os')) w D1 (inV (fun n => n) (rrd0 j) v') y := fun j v' y g1 g2 => by
          obtain ⟨x, g3, g4⟩ := m2 j v' g1
          rw [List.getElem?_map, Option.map_eq_some_iff] at g3
          obtain ⟨v, g3, rfl⟩ := g3
          have hx := hR.at g3 g2
          exact end_rep (fun k m e => by simp only [phiE, phi_idx e]) (fun i k t hc hge => phiE_con hnd g3 hc hge) (rE.repB hx) hx g4
        have hself : ∀ {k}, k < m → phiE h ks vs k = some k := fun {k} hkm => by
          have e1 : ks[k]? = some k := by
            have : (ks.take m)[k]? = (List.range m)[k]? := by rw [htk]
            rw [List.getElem?_take, if_pos hkm] at this
            rw [this]
            simp [hkm]
          have := idxOf_at (i := 0) (List.nodup_append.1 hnd).1 e1
          rw [Nat.zero_add] at this
          simp only [phiE, phi_idx this]
        refine ⟨rE.hok hi1.hp, ?_, ?_⟩
        · match l, cvs, hlen, hl, hrep with
          | [], [], _, _, _ => exact ⟨#[], rfl, rfl, by simp [inVs]⟩
          | [v'], [y], _, hl, hrep =>
            have := hrep 0 v' y rfl rfl
            have e2 : inR (fun n => n) rrd0 (tupOf [v']) = inV (fun n => n) (rrd0 0) v' := by
              have := hl v' (by simp)
              show inR (fun n => n) rrd0 v' = _
              cases v' <;> first | rfl | exact absurd rfl (this _)
            rw [e2]
            exact this.v
          | v1 :: v2 :: l', y1 :: y2 :: cvs', hlen, _, hrep =>
            refine ⟨(y1 :: y2 :: cvs').toArray, rfl, ?_, fun i c' x g1 g2 => ?_⟩
            · rw [inVs_len]; simpa using hlen
            · rw [inVs_get, Option.map_eq_some_iff] at g1
              obtain ⟨v', g1, rfl⟩ := g1
              rw [Nat.zero_add]
              exact hrep i v' x g1 (by simpa using g2)
        · refine ⟨hi1.os, hi1.tape, hi1.output, hi1.size, hi1.block, hi1.lg, fun b k ho => ?_, hi1.dd, hi1.dl, fun k hkm cs e => ?_, fun k hkm t xs e => ?_, fun k hkm t xs e => ?_⟩
          · obtain ⟨k0, h1, _⟩ := Ren.own ho
            exact hi1.ow b k0 h1
          · have hf := hself hkm
            obtain ⟨cs1, h1, _⟩ := rE.box hf e
            obtain ⟨h2, h3⟩ := hi1.ob k (by omega) cs1 h1
            exact ⟨h2, by rw [rE.g hf]; exact h3⟩
          · have hf := hself hkm
            obtain ⟨h2, h3, h4⟩ := hi1.or k (by omega) t xs (rE.row hf e)
            refine ⟨h2, by rw [rE.g hf]; exact h3, fun ho => ?_⟩
            rw [rE.g hf] at ho ⊢
            exact Ren.own_of (h4 ho) hf (by rw [e]; simp)
          · have hf := hself hkm
            exact hi1.ofz k (by omega) t xs (rE.fz hf e)
    · simp at hs
  · simp at hs

/-- A function's text: its code, its name. -/
structure FnOk (P : Program) (tb : Tb) (f : Nat) (fx : Fx) : Prop where
  fn : P.funcs[f]? = some fx.fn
  name : (fx.fn.name == "runtime.NumGoroutine") = false
  code : ∀ c, fx.fn.body = some c → CodeOk P tb c
/-- What a function answers, and that it does. -/
abbrev Over := List AV → List Ob → Q Ret
def OverOk (P : Program) (f : Nat) (g : Over) : Prop :=
  ∀ vs os r os', (g vs os).val = some (r, os') →
    (∃ fn, P.funcs[f]? = some fn ∧ (fn.name == "runtime.NumGoroutine") = false ∧ fn.body.isNone = false) ∧
    ∀ (c : Ctx) (args : Array Value), Pre c vs os args → Calls P f args c.w (Post c os.length r os')
/-- Functions by a table. -/
def tabF (l : List (Nat × Over)) : Fns := fun f vs os => match find f l with | some g => g vs os | none => .fail
omit [Reg] in
theorem find_mem' {α : Type _} {k : Nat} {v : α} : ∀ {l : List (Nat × α)}, AM.find k l = some v → (k, v) ∈ l
  | [], h => by simp [AM.find] at h
  | (m, u) :: r, h => by
    simp only [AM.find] at h
    split at h
    · rename_i e
      subst e
      simp only [Option.some.injEq] at h
      subst h
      simp
    · exact List.mem_cons_of_mem _ (find_mem' h)
theorem SoundF.tab {l : List (Nat × Over)} (h : ∀ p ∈ l, OverOk P (p.1 % 1000000) p.2) : SoundF P (tabF l) := by
  intro f vs os r os' hr
  unfold tabF at hr
  split at hr
  · rename_i g hg
    exact h (f, g) (find_mem' hg) vs os r os' hr
  · cases hr
theorem evFn_sound {F : Fns} (hF : SoundF P F) (hT : TbOk P tb) {f : Nat} {fx : Fx} (hfx : FnOk P tb f fx) {vs : List AV} {os : List Ob} {r : AV} {os' : List Ob} {n : Nat} (h : evFn F tb fx n vs os = some (r, os')) :
    (∃ fn, P.funcs[f]? = some fn ∧ (fn.name == "runtime.NumGoroutine") = false ∧ fn.body.isNone = false) ∧ ∀ (c : Ctx) (args : Array Value), Pre c vs os args → Calls P f args c.w (Post c os.length r os') := by
  unfold evFn at h
  split at h
  · rename_i cd hcd
    generalize hb : (Nat.beq vs.length (fx.fn.params.size + fx.fn.nfree) && Nat.ble (fx.fn.params.size + fx.fn.nfree) fx.fn.ntmps) = b at h
    cases b
    · simp at h
    · simp only [cond_true] at h
      simp only [Bool.and_eq_true, Nat.beq_eq, Nat.ble_eq] at hb
      refine ⟨⟨fx.fn, hfx.fn, hfx.name, by rw [hcd]; rfl⟩, fun c args hp => ?_⟩
      refine calls_of_wp hfx.fn hcd ?_
      have hE : EvOk P ⟨F, tb, fx.H⟩ := ⟨hF, hT⟩
      refine wp_mono (evC_sound hE fx cd (hfx.code cd hcd) n _ (r, os') _ _ _ _ _ (Inv.start (nt := fx.fn.ntmps) hp (by omega)) h) fun e a w' hq => ?_
      cases e with
      | normal => obtain ⟨γ, D', st, hI, hk⟩ := hq; exact end_sound hT hI hk
      | exit id => obtain ⟨γ, D', st, hI, hk⟩ := hq; simp [endK] at hk
      | ret => obtain ⟨γ, D', st, hI, hk⟩ := hq; exact end_sound hT hI hk
      | goto l => exact hq.elim
      | panic ch => exact hq.elim
      | outgrown => exact hq.elim
  · simp at h
/-- A function's answer, once shown, stands for the function. -/
theorem OverOk.of {F : Fns} (hF : SoundF P F) (hT : TbOk P tb) {f : Nat} {fx : Fx} (hfx : FnOk P tb f fx) {g : Over} (h : ∀ vs os r, (g vs os).val = some r → ∃ n, evFn F tb fx n vs os = some r) : OverOk P f g := by
  intro vs os r os' hg
  obtain ⟨n, hn⟩ := h vs os _ hg
  exact evFn_sound hF hT hfx hn
end
end
end Go.AM
namespace Go.AM
open Go.RowKit Go.Lib
section
variable [Reg]
section
variable {tb : Tb} {H : Hints} {h h' : Heap} {u : List Nat} {ev ev2 : Operand → AV} {op : Op}

theorem fillParts_congr {fs : List (Nat × Nat)} : ∀ {ps : List (Nat × Operand)} {cs : List AV}, (∀ p ∈ ps, ev2 p.2 = ev p.2) → fillParts tb fs ev2 cs ps = fillParts tb fs ev cs ps
  | [], cs, _ => rfl
  | (i, x) :: r, cs, h => by
    have h1 := h (i, x) (by simp)
    have ih := fun cs => fillParts_congr (fs := fs) (ps := r) (cs := cs) fun p hp => h p (by simp [hp])
    simp only [fillParts, ih]
    simp only at h1
    rw [h1]
theorem optmap_congr {lo : Option Operand} (h : ∀ x, lo = some x → ev2 x = ev x) : lo.map ev2 = lo.map ev := by
  cases lo with
  | none => rfl
  | some x => simp [h x rfl]
theorem args_congr {args : Array Operand} (h : ∀ x ∈ args.toList, ev2 x = ev x) : args.toList.map ev2 = args.toList.map ev := List.map_congr_left h

theorem pure_congr (h : ∀ x ∈ op.operands.toList, ev2 x = ev x) : pureQ tb ev2 op = pureQ tb ev op := by
  cases op with
  | build t ps =>
    have h' : ∀ p ∈ ps.toList, ev2 p.2 = ev p.2 := fun p hp => h p.2 (by simp only [Op.operands, List.toList_toArray]; exact List.mem_map_of_mem hp)
    simp only [pureQ, fillParts_congr h']
  | buildSlice t n ps =>
    have h' : ∀ p ∈ ps.toList, ev2 p.2 = ev p.2 := fun p hp => h p.2 (by simp only [Op.operands, List.toList_toArray]; exact List.mem_map_of_mem hp)
    simp only [pureQ, fillParts_congr h']
  | call c =>
    obtain ⟨callee, args, ts⟩ := c
    have h' : args.toList.map ev2 = args.toList.map ev := List.map_congr_left fun x hx => h x (by simp only [Op.operands, Call.operands]; cases callee <;> simp [Array.mem_toList_iff.1 hx])
    cases callee with
    | builtin b => simp only [pureQ, h']
    | value f => rfl
    | invoke f n => rfl
  | makeFunc f first cap =>
    have h' : cap.toList.map ev2 = cap.toList.map ev := List.map_congr_left fun x hx => h x (by simp only [Op.operands]; simp [Array.mem_toList_iff.1 hx])
    cases f <;> simp only [pureQ, h']
  | _ =>
    simp [Op.operands] at h
    simp only [pureQ, h]
theorem look_congr (h : ∀ x ∈ op.operands.toList, ev2 x = ev x) {hp : Heap} : lookQ tb ev2 hp op = lookQ tb ev hp op := by
  cases op with
  | slice t x lo hi mx =>
    have hx : ev2 x = ev x := h x (by simp [Op.operands])
    have h1 := optmap_congr (ev := ev) (ev2 := ev2) (lo := lo) fun y hy => h y (by subst hy; simp [Op.operands])
    have h2 := optmap_congr (ev := ev) (ev2 := ev2) (lo := hi) fun y hy => h y (by subst hy; simp [Op.operands])
    have h3 := optmap_congr (ev := ev) (ev2 := ev2) (lo := mx) fun y hy => h y (by subst hy; simp [Op.operands])
    simp only [lookQ, hx, h1, h2, h3]
  | call c =>
    obtain ⟨callee, args, ts⟩ := c
    have h' : args.toList.map ev2 = args.toList.map ev := List.map_congr_left fun x hx => h x (by simp only [Op.operands, Call.operands]; cases callee <;> simp [Array.mem_toList_iff.1 hx])
    cases callee with
    | builtin b => simp only [lookQ, h']
    | value f => rfl
    | invoke f n => rfl
  | load t x => simp [Op.operands] at h; simp only [lookQ, h]
  | convert s d x => simp [Op.operands] at h; simp only [lookQ, h]
  | indexAddr t x i => simp [Op.operands] at h; simp only [lookQ, h]
  | _ => rfl
theorem eff_congr (h : ∀ x ∈ op.operands.toList, ev2 x = ev x) {hp : Heap} {dst : Option Nat} : effQ tb H ev2 hp u dst op = effQ tb H ev hp u dst op := by
  cases op with
  | call c =>
    obtain ⟨callee, args, ts⟩ := c
    have h' : args.toList.map ev2 = args.toList.map ev := List.map_congr_left fun x hx => h x (by simp only [Op.operands, Call.operands]; cases callee <;> simp [Array.mem_toList_iff.1 hx])
    cases callee with
    | builtin b => simp only [effQ, h']
    | value f => rfl
    | invoke f n => rfl
  | box e x => simp [Op.operands] at h; simp only [effQ, h]
  | store t x v => simp [Op.operands] at h; simp only [effQ, h]
  | makeInterface t x => simp [Op.operands] at h; simp only [effQ, h]
  | convert s d x => simp [Op.operands] at h; simp only [effQ, h]
  | makeSlice t l m => simp [Op.operands] at h; simp only [effQ, h]
  | _ => rfl

theorem asSv_congr {v : AV} (hk : ∀ k, keyOf v = some k → find k h' = find k h) : asSv h' v = asSv h v := by
  cases v <;> first | rfl | skip
  all_goals (simp only [keyOf, Option.some.injEq, forall_eq'] at hk; simp only [asSv, vwN, rowAt, hk])
theorem look_frame {e : AV × Option Nat} (hv : (lookQ tb ev h op).val = some e) (hk : ∀ k, e.2 = some k → find k h' = find k h) : (lookQ tb ev h' op).val = some e := by
  cases op with
  | load t x =>
    unfold lookQ at hv ⊢
    simp only at hv ⊢
    split at hv
    · cases hv
    · split at hv
      · split at hv
        · split at hv
          · cases hv
            rename_i hx _ _ hf _ _ hp
            have := hk _ rfl
            simp only [this, hf, hp]
            rfl
          · cases hv
        · cases hv
      · exact hv
      · split at hv
        · split at hv
          · rename_i hr hu
            obtain ⟨y, h1, h2⟩ := Q.val_get hv
            split at h2
            · rename_i hp
              cases h2
              have := hk _ rfl
              have e2 : ∀ k, find k h' = find k h → rowAt h' k = rowAt h k := fun k e => by unfold rowAt; rw [e]
              simp only [e2 _ this, hr, if_pos hu]
              subst hu
              simp only [Q.val, Q.run, getO, h1, hp]
            · cases h2
          · cases hv
        · cases hv
      · cases hv
  | convert s d x =>
    unfold lookQ at hv ⊢
    simp only at hv ⊢
    split at hv
    · split at hv
      · rename_i k hkk
        split at hv
        · split at hv
          · rename_i l hl
            split at hv
            · rename_i hc
              cases hv
              have := hk _ rfl
              have e2 : elemsOf h' _ (ev x) = some l := by
                rw [← hl]
                generalize ev x = X at hkk
                cases X <;> simp only [keyOf, reduceCtorEq, Option.some.injEq] at hkk <;> (subst hkk; simp only [elemsOf, rowAt, this])
              simp only [e2, if_pos hc]
              rfl
            · cases hv
          · cases hv
        · cases hv
      · exact hv
    · cases hv
  | slice t x lo hi mx =>
    unfold lookQ at hv ⊢
    simp only at hv ⊢
    obtain ⟨v, h1, h2⟩ := Q.val_bind hv
    cases h2
    rw [asSv_congr (h' := h') (h := h) hk]
    exact hv
  | indexAddr t x i =>
    unfold lookQ at hv ⊢
    simp only at hv ⊢
    split at hv
    · obtain ⟨v, h1, h2⟩ := Q.val_bind hv
      cases h2
      rw [asSv_congr (h' := h') (h := h) hk]
      exact hv
    · cases hv
  | call c =>
    obtain ⟨callee, args, ts⟩ := c
    cases callee with
    | builtin b =>
      unfold lookQ at hv ⊢
      simp only at hv ⊢
      split at hv
      · rename_i t x hts hargs
        have key : e.2 = keyOf x := by
          split at hv
          · split at hv
            · cases hv; rfl
            · cases hv; rfl
            · cases hv; rfl
            · split at hv
              · cases hv; rfl
              · cases hv
            · cases hv; rfl
            · cases hv
          · cases hv
        rw [key] at hk
        rw [asSv_congr (h' := h') (h := h) hk]
        exact hv
      · exact hv
      · cases hv
    | _ => cases hv
  | _ => cases hv
end
end
end Go.AM
