/- How texts and numbers lie in maps. -/
import Derived.Test.YthbijemihaekiaaGreatDoorKitM
import Derived.Test.YthbijemihaekiaaGreatDoorProg
namespace Go.Proofs.YthbijemihaekiaaGreatDoor
open Go.ChangeShapes Go.WideShapes Go.ChangeAt Go.RowKit

def intVf (n : Int) : Value := .int .i64 n
def intOk (n : Int) : Prop := -9223372036854775808 ≤ n ∧ n ≤ 9223372036854775807
def strKf (s : ByteArray) : Value := .string s
def strOk (s : ByteArray) : Prop := s.size ≤ maxLen
theorem strKey : KeyFn Tryz.prog 9 strKf strOk := keyFn_string Tryz.underlying9
theorem intKey : KeyFn Tryz.prog 3 intVf intOk := keyFn_i64 Tryz.underlying3
end Go.Proofs.YthbijemihaekiaaGreatDoor
