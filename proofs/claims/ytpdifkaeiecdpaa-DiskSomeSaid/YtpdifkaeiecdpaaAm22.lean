/- A part of the proof: machine and program. -/
import Derived.Shelf.Strings.Repeat
import Derived.Ground.NamesProg
import Derived.KernelRfl
import Derived.Test.YtpdifkaeiecdpaaProg
import Derived.Test.YtpdifkaeiecdpaaAm20
namespace Go.Proofs
open Go.Shelf
def Try.laysRepeat_ren : Go.Shelf.Ren := ⟨fun | 105 => 33 | 212 => 56 | 99 => 57 | 165 => 58 | 166 => 59 | 170 => 60 | 169 => 61 | 263 => 69 | 264 => 70 | 206 => 71 | 240 => 72 | 241 => 73 | 276 => 78 | 277 => 79 | n => n, fun | 9 => 9 | 3 => 3 | 4 => 4 | 20 => 20 | 0 => 0 | 46 => 78 | 109 => 102 | 5 => 5 | 72 => 108 | 76 => 109 | 51 => 125 | 146 => 126 | 53 => 128 | 148 => 129 | 70 => 105 | 37 => 106 | 75 => 59 | 127 => 131 | 164 => 139 | 80 => 111 | n => n, fun | n => n⟩
theorem Try.laysRepeat : Go.Proofs.Lays.n105 Try.prog Try.laysRepeat_ren := {
  mixed := by kernel_rfl
  f99 := Try.func57.trans (congrArg some (by kernel_rfl))
  f105 := Try.func33.trans (congrArg some (by kernel_rfl))
  f165 := Try.func58.trans (congrArg some (by kernel_rfl))
  f166 := Try.func59.trans (congrArg some (by kernel_rfl))
  f169 := Try.func61.trans (congrArg some (by kernel_rfl))
  f170 := Try.func60.trans (congrArg some (by kernel_rfl))
  f206 := Try.func71.trans (congrArg some (by kernel_rfl))
  f212 := Try.func56.trans (congrArg some (by kernel_rfl))
  f240 := Try.func72.trans (congrArg some (by kernel_rfl))
  f241 := Try.func73.trans (congrArg some (by kernel_rfl))
  f263 := Try.func69.trans (congrArg some (by kernel_rfl))
  f264 := Try.func70.trans (congrArg some (by kernel_rfl))
  f276 := Try.func78.trans (congrArg some (by kernel_rfl))
  f277 := Try.func79.trans (congrArg some (by kernel_rfl))
  t0 := Try.underlying0
  a0 := Try.isAgg0
  z0 := Try.sizeOf0
  v0 := Try.zeroValue0
  t3 := Try.underlying3
  a3 := Try.isAgg3
  z3 := Try.sizeOf3
  v3 := Try.zeroValue3
  t4 := Try.underlying4
  a4 := Try.isAgg4
  z4 := Try.sizeOf4
  v4 := Try.zeroValue4
  t5 := Try.underlying5
  a5 := Try.isAgg5
  z5 := Try.sizeOf5
  v5 := Try.zeroValue5
  t9 := Try.underlying9
  a9 := Try.isAgg9
  z9 := Try.sizeOf9
  v9 := Try.zeroValue9
  t20 := Try.underlying20
  a20 := Try.isAgg20
  z20 := Try.sizeOf20
  v20 := Try.zeroValue20
  t37 := Try.underlying106
  a37 := Try.isAgg106
  z37 := Try.sizeOf106
  v37 := Try.zeroValue106
  t46 := Try.underlying78
  a46 := Try.isAgg78
  z46 := Try.sizeOf78
  v46 := Try.zeroValue78
  t51 := Try.underlying125
  a51 := Try.isAgg125
  z51 := Try.sizeOf125
  v51 := Try.zeroValue125
  t53 := Try.underlying128
  a53 := Try.isAgg128
  z53 := Try.sizeOf128
  v53 := Try.zeroValue128
  t70 := Try.underlying105
  a70 := Try.isAgg105
  z70 := Try.sizeOf105
  v70 := Try.zeroValue105
  t72 := Try.underlying108
  a72 := Try.isAgg108
  z72 := Try.sizeOf108
  v72 := Try.zeroValue108
  t75 := Try.underlying59
  a75 := Try.isAgg59
  z75 := Try.sizeOf59
  v75 := Try.zeroValue59
  t76 := Try.underlying109
  a76 := Try.isAgg109
  z76 := Try.sizeOf109
  v76 := Try.zeroValue109
  t109 := Try.underlying102
  a109 := Try.isAgg102
  z109 := Try.sizeOf102
  v109 := Try.zeroValue102
  t127 := Try.underlying131
  a127 := Try.isAgg131
  z127 := Try.sizeOf131
  v127 := Try.zeroValue131
  t146 := Try.underlying126
  a146 := Try.isAgg126
  z146 := Try.sizeOf126
  v146 := Try.zeroValue126
  t148 := Try.underlying129
  a148 := Try.isAgg129
  z148 := Try.sizeOf129
  v148 := Try.zeroValue129
  t164 := Try.underlying139
  a164 := Try.isAgg139
  z164 := Try.sizeOf139
  v164 := Try.zeroValue139 }
end Go.Proofs
namespace Go.Proofs
open Go.Shelf Go.RowKit
theorem Try.extraRepeat : Builder.Extra Try.prog Try.laysRepeat_ren where
  sizeBuilder := by kernel_rfl
  liesBuilder := by kernel_rfl
  t5 := Try.laysRepeat.t5
  a5 := Try.laysRepeat.a5
  z5 := Try.laysRepeat.z5
  v5 := Try.laysRepeat.v5
  infoByte := by kernel_rfl
  cellsByte := by kernel_rfl
  sizeByte := by kernel_rfl
  neB5 := by decide
theorem Try.strings_Repeat (s : ByteArray) (c : Nat) (w : World) (hc : c ≤ 9223372036854775807) (hlen : s.size * c ≤ 140737488355328) :
    Calls Try.prog 33 #[.string s, .int .i64 c] w fun e w' => e = .returned (.string ⟨(Lib.repeatL s.data.toList c).toArray⟩) ∧ Below w.heap.size w w' :=
  Any.strings_Repeat Try.laysRepeat Try.extraRepeat s c w hc hlen
end Go.Proofs
namespace Go.AM.Ytpdifkaeiecdpaa
open Go.AM Go.Proofs Go
theorem p33 : OverOk Try.prog 33 o33 := by
  intro vs os r os' hg
  unfold o33 at hg
  split at hg
  · rename_i n
    obtain ⟨hn, hg⟩ := Q.val_ask hg
    have hn := of_decide_eq_true hn
    cases hg
    refine ⟨⟨Try.f33, Try.func33, by kernel_rfl, by kernel_rfl⟩, fun c args hp => ?_⟩
    have hs := hp.size
    have hs2 : args.size = 2 := hs
    have l0 : 0 < args.size := by omega
    have l1 : 1 < args.size := by omega
    have h0 := hp.args 0 (.str [0]) args[0] rfl (Array.getElem?_eq_getElem (by omega))
    have h1 := hp.args 1 (.int .i64 n) args[1] rfl (Array.getElem?_eq_getElem (by omega))
    obtain ⟨s, e0, hsz⟩ : ∃ s : ByteArray, args[0] = .string s ∧ s.data.toList = [0] := by
      generalize args[0] = V at h0
      cases (show RepD c.w c.D (.str [0]) V from h0)
      exact ⟨_, rfl, by assumption⟩
    have e1 : args[1] = .int .i64 n := by
      generalize args[1] = V at h1
      cases (show RepD c.w c.D (.int .i64 n) V from h1)
      rfl
    have ea : args = #[.string s, .int .i64 ((n.toNat : Nat) : Int)] := by
      rw [← e0, show ((n.toNat : Nat) : Int) = n by omega, ← e1]
      refine Array.ext (by simp [hs]) fun i hi _ => ?_
      have : i = 0 ∨ i = 1 := by simp [hs] at hi; omega
      rcases this with rfl | rfl <;> rfl
    have hsize : s.size = 1 := by
      have : s.data.toList.length = 1 := by rw [hsz]; rfl
      simpa using this
    have hown : ∀ b, c.γ.own b = none := fun b => by
      cases ho : c.γ.own b with
      | none => rfl
      | some k => exact absurd rfl (hp.ok.own b k ho).2.1
    rw [ea]
    refine (Try.strings_Repeat s n.toNat c.w (by omega) (by rw [hsize]; omega)).mono fun e w' he => ?_
    obtain ⟨rfl, bel⟩ := he
    refine ⟨_, c.γ, c.D, rfl, fun _ _ _ => ⟨⟨fun k cs e => (nomatch e), fun k t xs e => (nomatch e), fun b k ho => by rw [hown] at ho; simp at ho, fun b k ho => by rw [hown] at ho; simp at ho, fun k e => absurd rfl e⟩, ?_, bel.os, bel.tape, bel.output, bel.size, fun b hb _ => bel.block b hb, fun b m hb => ?_, fun b k ho => by rw [hown] at ho; simp at ho, ⟨fun _ _ h => h, fun _ _ _ _ h => h⟩, fun b o hd => Nat.lt_of_lt_of_le (hp.dl b o hd) bel.size, fun k hk => by simp at hk, fun k hk => by simp at hk, fun k hk => by simp at hk⟩⟩
    · refine RepV.of (.str _ _ ?_)
      rw [hsz]
      have := Lib.repeatL_replicate 0 1 n.toNat
      simp only [List.replicate_one, Nat.mul_one] at this
      simp [this, pad]
    · obtain ⟨vs, E, q1, q2⟩ := hb
      exact ⟨vs, E, (bel.block b (Array.getElem?_eq_some_iff.1 q1).1).trans q1, q2⟩
  · cases hg
theorem twins : OverOk Try.prog 7 o7 := p7 p33
end Go.AM.Ytpdifkaeiecdpaa
