/-
  No cell of these rows narrows 'for every input' (looked for: loops, veiled, ifaces, maps, wideKeys, modest, calm, conditions, laid).
  DERIVED. THE GIVEN ROWS OF THIS SEAT. 4 by the template 'for every input the law returns true; each argument reads behind the call as it read before'; 0 by the template 'total and deterministic' (their statements: YtnhfjkckgicidaaGreatTotals.lean).
  GIVEN WITH THE SEED: the statements are not yours to turn. If you find one false, say at which input.
  Laid BY PROGRAM, IN A SANDBOX (cutbox-rows.mjs): the forced cells as the released guide's own fill.sh prints them over the translation 00668b305f6908c2… (all of the seat's roots in one cut). By AI agents, Wed Nov 11 2026. No macro, syntax, notation, axiom, sorry.
-/
import Derived.Test.YtnhfjkckgicidaaGreatChecked
import GoSem.Claim
import GoSem.ClaimJoined
import GoSem.ClaimMapViews
import Derived.JoinedTies
import Derived.KernelRfl
namespace Go.Proofs.YtnhfjkckgicidaaGreat
/- THE CELL 'sum', in the pinned program and in every row, IS THE sha256 OF THE DUMP (.gsa) THAT YtnhfjkckgicidaaGreatProg.lean LOADS. Nothing in Lean hashes anything: it is a label: what it is worth is what the hold of that sum in a sandbox is worth. -/
noncomputable def Tryz.pinned : Pinned := { name := "ytnhfjkckgicidaagreat", sum := "00668b305f6908c22e79db8856d6714e41fcb28533abcbd8b9bbe5fd054f8ece", checked := Tryz.checked }
namespace Rows
def none {H : Type} : Left H := { results := [], args := [] }

/-- 'counterfoillaw20.BookEncodes': WHATEVER THE INPUT: true; the input reads as it did. -/
def bookEncodesSpec : ChangeSpec := { name := "bookEncodes", fn := fun _ => fun
  | [d] => { results := [.lit (.bool true)], args := [d] }
  | _ => none }
def bookEncodesRow : OpenClaim := { program := "ytnhfjkckgicidaagreat", sum := "00668b305f6908c22e79db8856d6714e41fcb28533abcbd8b9bbe5fd054f8ece", func := "counterfoil/counterfoillaw20.BookEncodes", spec := "bookEncodes", unfollowed := true, recurses := true, apart := false }
def BookEncodesSaid : Prop := bookEncodesRow.holds Tryz.pinned (OpenSpec.ofChange bookEncodesSpec)

/-- ITS FALSE NEIGHBOUR: 'it returns false'. Refute it at one input. -/
def bookEncodesWrong : ChangeSpec := { name := "bookEncodes", fn := fun _ => fun
  | [d] => { results := [.lit (.bool false)], args := [d] }
  | _ => none }
def BookEncodesWrongFalsely : Prop := bookEncodesRow.holds Tryz.pinned (OpenSpec.ofChange bookEncodesWrong)

/-- 'counterfoillaw20.BookDecodes': WHATEVER THE INPUT: true; the input reads as it did. -/
def bookDecodesSpec : ChangeSpec := { name := "bookDecodes", fn := fun _ => fun
  | [d] => { results := [.lit (.bool true)], args := [d] }
  | _ => none }
def bookDecodesRow : OpenClaim := { program := "ytnhfjkckgicidaagreat", sum := "00668b305f6908c22e79db8856d6714e41fcb28533abcbd8b9bbe5fd054f8ece", func := "counterfoil/counterfoillaw20.BookDecodes", spec := "bookDecodes", unfollowed := true, recurses := true, apart := false }
def BookDecodesSaid : Prop := bookDecodesRow.holds Tryz.pinned (OpenSpec.ofChange bookDecodesSpec)

/-- ITS FALSE NEIGHBOUR: 'it returns false'. Refute it at one input. -/
def bookDecodesWrong : ChangeSpec := { name := "bookDecodes", fn := fun _ => fun
  | [d] => { results := [.lit (.bool false)], args := [d] }
  | _ => none }
def BookDecodesWrongFalsely : Prop := bookDecodesRow.holds Tryz.pinned (OpenSpec.ofChange bookDecodesWrong)

/-- 'counterfoillaw20.BookEach': WHATEVER THE INPUT: true; the input reads as it did. -/
def bookEachSpec : ChangeSpec := { name := "bookEach", fn := fun _ => fun
  | [d] => { results := [.lit (.bool true)], args := [d] }
  | _ => none }
def bookEachRow : OpenClaim := { program := "ytnhfjkckgicidaagreat", sum := "00668b305f6908c22e79db8856d6714e41fcb28533abcbd8b9bbe5fd054f8ece", func := "counterfoil/counterfoillaw20.BookEach", spec := "bookEach", unfollowed := true, recurses := true, apart := false }
def BookEachSaid : Prop := bookEachRow.holds Tryz.pinned (OpenSpec.ofChange bookEachSpec)

/-- ITS FALSE NEIGHBOUR: 'it returns false'. Refute it at one input. -/
def bookEachWrong : ChangeSpec := { name := "bookEach", fn := fun _ => fun
  | [d] => { results := [.lit (.bool false)], args := [d] }
  | _ => none }
def BookEachWrongFalsely : Prop := bookEachRow.holds Tryz.pinned (OpenSpec.ofChange bookEachWrong)

/-- 'counterfoillaw20.BookAll': WHATEVER THE INPUT: true; the input reads as it did. -/
def bookAllSpec : ChangeSpec := { name := "bookAll", fn := fun _ => fun
  | [d] => { results := [.lit (.bool true)], args := [d] }
  | _ => none }
def bookAllRow : OpenClaim := { program := "ytnhfjkckgicidaagreat", sum := "00668b305f6908c22e79db8856d6714e41fcb28533abcbd8b9bbe5fd054f8ece", func := "counterfoil/counterfoillaw20.BookAll", spec := "bookAll", unfollowed := true, recurses := true, apart := false }
def BookAllSaid : Prop := bookAllRow.holds Tryz.pinned (OpenSpec.ofChange bookAllSpec)

/-- ITS FALSE NEIGHBOUR: 'it returns false'. Refute it at one input. -/
def bookAllWrong : ChangeSpec := { name := "bookAll", fn := fun _ => fun
  | [d] => { results := [.lit (.bool false)], args := [d] }
  | _ => none }
def BookAllWrongFalsely : Prop := bookAllRow.holds Tryz.pinned (OpenSpec.ofChange bookAllWrong)

/- THE SECOND FORM. 'bulk': how many values and letters a reading holds, each counted each time it is reached (what is shared counts as often as it is met; a slice's spare places count too). A statement '..UptoSaid' is the law's where the arguments, and the package variables that the reading takes, are together of bulk at most 1048576: NARROWER than '..Said'. Prove '..Said' where nothing that the law and all that it calls make is longer than what came in: it says more and counts as full. Else prove '..UptoSaid'. A law counts once. -/
mutual
def uptoBulk {H : Type} : DataW H → Nat
  | .lit (.string bytes) => bytes.length + 1
  | .lit _ => 1
  | .nil => 1
  | .ptr d => uptoBulk d + 1
  | .slice elems spare => uptoBulkAll elems + uptoBulkAll spare + 1
  | .agg parts => uptoBulkAll parts + 1
  | .iface _ d => uptoBulk d + 1
  | .map entries => uptoBulkEntries entries + 1
  | .held _ => 1
def uptoBulkAll {H : Type} : List (DataW H) → Nat
  | [] => 0
  | d :: r => uptoBulk d + uptoBulkAll r
def uptoBulkEntries {H : Type} : List (Lit × DataW H) → Nat
  | [] => 0
  | x :: r => uptoBulkEntry x + uptoBulkEntries r
def uptoBulkEntry {H : Type} : Lit × DataW H → Nat
  | (.string bytes, d) => bytes.length + uptoBulk d + 1
  | (_, d) => uptoBulk d + 1
 end
def uptoSmall : (H : Type) → List (DataW H) → Bool := fun _ ds => decide (uptoBulkAll ds ≤ 1048576)
def OpenSpec.upto (s : _root_.Go.ChangeSpec) : _root_.Go.OpenSpec := { _root_.Go.OpenSpec.ofChange s with cond := some uptoSmall }

/-- 'counterfoillaw20.BookEncodes', WHERE WHAT IT READS IS OF BULK AT MOST 1048576: true; the input reads as it did. -/
def bookEncodesUptoRow : OpenClaim := { program := "ytnhfjkckgicidaagreat", sum := "00668b305f6908c22e79db8856d6714e41fcb28533abcbd8b9bbe5fd054f8ece", func := "counterfoil/counterfoillaw20.BookEncodes", spec := "bookEncodes", unfollowed := true, recurses := true, apart := false, narrowed := true }
def BookEncodesUptoSaid : Prop := bookEncodesUptoRow.holds Tryz.pinned (OpenSpec.upto bookEncodesSpec)

/-- 'counterfoillaw20.BookDecodes', WHERE WHAT IT READS IS OF BULK AT MOST 1048576: true; the input reads as it did. -/
def bookDecodesUptoRow : OpenClaim := { program := "ytnhfjkckgicidaagreat", sum := "00668b305f6908c22e79db8856d6714e41fcb28533abcbd8b9bbe5fd054f8ece", func := "counterfoil/counterfoillaw20.BookDecodes", spec := "bookDecodes", unfollowed := true, recurses := true, apart := false, narrowed := true }
def BookDecodesUptoSaid : Prop := bookDecodesUptoRow.holds Tryz.pinned (OpenSpec.upto bookDecodesSpec)

/-- 'counterfoillaw20.BookEach', WHERE WHAT IT READS IS OF BULK AT MOST 1048576: true; the input reads as it did. -/
def bookEachUptoRow : OpenClaim := { program := "ytnhfjkckgicidaagreat", sum := "00668b305f6908c22e79db8856d6714e41fcb28533abcbd8b9bbe5fd054f8ece", func := "counterfoil/counterfoillaw20.BookEach", spec := "bookEach", unfollowed := true, recurses := true, apart := false, narrowed := true }
def BookEachUptoSaid : Prop := bookEachUptoRow.holds Tryz.pinned (OpenSpec.upto bookEachSpec)

/-- 'counterfoillaw20.BookAll', WHERE WHAT IT READS IS OF BULK AT MOST 1048576: true; the input reads as it did. -/
def bookAllUptoRow : OpenClaim := { program := "ytnhfjkckgicidaagreat", sum := "00668b305f6908c22e79db8856d6714e41fcb28533abcbd8b9bbe5fd054f8ece", func := "counterfoil/counterfoillaw20.BookAll", spec := "bookAll", unfollowed := true, recurses := true, apart := false, narrowed := true }
def BookAllUptoSaid : Prop := bookAllUptoRow.holds Tryz.pinned (OpenSpec.upto bookAllSpec)

end Rows
end Go.Proofs.YtnhfjkckgicidaaGreat
