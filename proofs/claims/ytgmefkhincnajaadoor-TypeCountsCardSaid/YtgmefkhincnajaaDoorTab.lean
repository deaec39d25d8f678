/- What the program's laid tables hold. -/
import Derived.Test.YtgmefkhincnajaaDoorProg
import Derived.Lib.LaidTab
import Derived.Lib.ItoaNum
import Derived.Lib.Space
import Derived.WalkKit
namespace Go.Abs
open Go Go.Proofs
/-- The tables that the library reads are as9 they were laid. -/
def TabW (w : World) : Prop := Lib.TabIs Tryd.prog w "internal/strconv.uint64pow10" .u64 Lib.pow10Tab ∧ Lib.TabIs Tryd.prog w "strings.asciiSpace" .u8 Lib.asciiSpaceTab
end Go.Abs
