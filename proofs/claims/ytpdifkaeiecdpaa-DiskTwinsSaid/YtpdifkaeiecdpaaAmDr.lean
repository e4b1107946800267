/- strings.Repeat of a zero byte, by the kit's shelf. -/
import Derived.Test.YtpdifkaeiecdpaaAmDb
import Derived.Test.YtpdifkaeiecdpaaAmDl
import Derived.Shelf.Strings.Repeat
import Derived.Ground.NamesProg
import Derived.KernelRfl
namespace Go.Proofs
open Go.Shelf Go.RowKit
theorem Try.extraRepeat : Builder.Extra Try.prog Try.laysRepeat_ren where
  sizeBuilder := by kernel_rfl
  liesBuilder := by kernel_rfl
  t5 := Try.laysRepeat.t5
  a5 := Try.laysRepeat.a5
  z5 := Try.laysRepeat.z5
  v5 := Try.laysRepeat.v5
  infoByte := by kernel_rfl
  cellsByte := by kernel_rfl
  sizeByte := by kernel_rfl
  neB5 := by decide
theorem Try.strings_Repeat (s : ByteArray) (c : Nat) (w : World) (hc : c ≤ 9223372036854775807) (hlen : s.size * c ≤ 140737488355328) :
    Calls Try.prog 33 #[.string s, .int .i64 c] w fun e w' => e = .returned (.string ⟨(Lib.repeatL s.data.toList c).toArray⟩) ∧ Below w.heap.size w w' :=
  Any.strings_Repeat Try.laysRepeat Try.extraRepeat s c w hc hlen
end Go.Proofs
namespace Go.AM.Ytpdifkaeiecdpaa
open Go.AM Go.Proofs Go
theorem p33 : OverOk Try.prog 33 o33 := by
  intro vs os r os' hg
  unfold o33 at hg
  split at hg
  · rename_i n
    obtain ⟨hn, hg⟩ := Q.val_ask hg
    have hn := of_decide_eq_true hn
    cases hg
    refine ⟨⟨Try.f33, Try.func33, by kernel_rfl, by kernel_rfl⟩, fun c args hp => ?_⟩
    have hs := hp.size
    have hs2 : args.size = 2 := hs
    have l0 : 0 < args.size := by omega
    have l1 : 1 < args.size := by omega
    have h0 := hp.args 0 (.str [0]) args[0] rfl (Array.getElem?_eq_getElem (by omega))
    have h1 := hp.args 1 (.int .i64 n) args[1] rfl (Array.getElem?_eq_getElem (by omega))
    obtain ⟨s, e0, hsz⟩ : ∃ s : ByteArray, args[0] = .string s ∧ s.data.toList = [0] := by
      generalize args[0] = V at h0
      cases (show RepD c.w c.D (.str [0]) V from h0)
      exact ⟨_, rfl, by assumption⟩
    have e1 : args[1] = .int .i64 n := by
      generalize args[1] = V at h1
      cases (show RepD c.w c.D (.int .i64 n) V from h1)
      rfl
    have ea : args = #[.string s, .int .i64 ((n.toNat : Nat) : Int)] := by
      rw [← e0, show ((n.toNat : Nat) : Int) = n by omega, ← e1]
      refine Array.ext (by simp [hs]) fun i hi _ => ?_
      have : i = 0 ∨ i = 1 := by simp [hs] at hi; omega
      rcases this with rfl | rfl <;> rfl
    have hsize : s.size = 1 := by
      have : s.data.toList.length = 1 := by rw [hsz]; rfl
      simpa using this
    have hown : ∀ b, c.γ.own b = none := fun b => by
      cases ho : c.γ.own b with
      | none => rfl
      | some k => exact absurd rfl (hp.ok.own b k ho).2.1
    rw [ea]
    refine (Try.strings_Repeat s n.toNat c.w (by omega) (by rw [hsize]; omega)).mono fun e w' he => ?_
    obtain ⟨rfl, bel⟩ := he
    refine ⟨_, c.γ, c.D, rfl, fun _ _ _ => ⟨⟨fun k cs e => (nomatch e), fun k t xs e => (nomatch e), fun b k ho => by rw [hown] at ho; simp at ho, fun b k ho => by rw [hown] at ho; simp at ho, fun k e => absurd rfl e⟩, ?_, bel.os, bel.tape, bel.output, bel.size, fun b hb _ => bel.block b hb, fun b m hb => ?_, fun b k ho => by rw [hown] at ho; simp at ho, ⟨fun _ _ h => h, fun _ _ _ _ h => h⟩, fun b o hd => Nat.lt_of_lt_of_le (hp.dl b o hd) bel.size, fun k hk => by simp at hk, fun k hk => by simp at hk, fun k hk => by simp at hk⟩⟩
    · refine RepV.of (.str _ _ ?_)
      rw [hsz]
      have := Lib.repeatL_replicate 0 1 n.toNat
      simp only [List.replicate_one, Nat.mul_one] at this
      simp [this, pad]
    · obtain ⟨vs, E, q1, q2⟩ := hb
      exact ⟨vs, E, (bel.block b (Array.getElem?_eq_some_iff.1 q1).1).trans q1, q2⟩
  · cases hg
theorem twins : OverOk Try.prog 7 o7 := p7 p33
#print axioms twins
end Go.AM.Ytpdifkaeiecdpaa
