/- How texts and numbers lie in maps. -/
import Derived.Test.YtaollcpoibgblaaDoorKitM
import Derived.Test.YtaollcpoibgblaaDoorProg
namespace Go.Proofs.YtaollcpoibgblaaDoor
open Go.ChangeShapes Go.WideShapes Go.ChangeAt Go.RowKit

def intVf (n : Int) : Value := .int .i64 n
def intOk (n : Int) : Prop := -9223372036854775808 ≤ n ∧ n ≤ 9223372036854775807
def strKf (s : ByteArray) : Value := .string s
def strOk (s : ByteArray) : Prop := s.size ≤ maxLen
theorem strKey : KeyFn Tryd.prog 9 strKf strOk := keyFn_string Tryd.underlying9
theorem intKey : KeyFn Tryd.prog 3 intVf intOk := keyFn_i64 Tryd.underlying3
end Go.Proofs.YtaollcpoibgblaaDoor
