/- Lean's types for the elements of Go's slices. Written by gen3.py. -/
import Derived.Test.YtpdifkaeiecdpaaAmM7
namespace Go.AM.Ytpdifkaeiecdpaa
structure T30 where -- counterfoillaw05.Act
  kind : Int
  at_ : Int
  n : Int
  data : List UInt8
  keep : List (Bool)
  deriving DecidableEq, Inhabited
structure T77 where -- disk.put
  at_ : Int
  s : List UInt8
  deriving DecidableEq, Inhabited
def types : List (Nat × Type) := [(3, Int), (4, Bool), (9, List UInt8), (30, T30), (77, T77)]
abbrev R0 (t : Nat) : Type := typOf types t
def ent3 : Ent R0 3 := ⟨false, [.int .i64], fun x => (x, ()), fun x => x.1, fun _ => rfl⟩
def ent4 : Ent R0 4 := ⟨false, [.bool], fun x => (x, ()), fun x => x.1, fun _ => rfl⟩
def ent9 : Ent R0 9 := ⟨false, [.str], fun x => (x, ()), fun x => x.1, fun _ => rfl⟩
def ent30 : Ent R0 30 := ⟨true, [.int .i64, .int .i64, .int .i64, .str, .sl 4], fun (x : T30) => (x.kind, x.at_, x.n, x.data, x.keep, ()), fun x => (⟨x.1, x.2.1, x.2.2.1, x.2.2.2.1, x.2.2.2.2.1⟩ : T30), fun _ => rfl⟩
def ent77 : Ent R0 77 := ⟨true, [.int .i64, .str], fun (x : T77) => (x.at_, x.s, ()), fun x => (⟨x.1, x.2.1⟩ : T77), fun _ => rfl⟩
instance reg : Reg := ⟨R0, fun t => entOf t [⟨3, ent3⟩, ⟨4, ent4⟩, ⟨9, ent9⟩, ⟨30, ent30⟩, ⟨77, ent77⟩]⟩
end Go.AM.Ytpdifkaeiecdpaa
