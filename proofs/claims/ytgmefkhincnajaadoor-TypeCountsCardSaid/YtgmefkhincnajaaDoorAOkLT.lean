/- What is printed is what the program holds. -/
import Derived.Test.YtgmefkhincnajaaDoorACodeLT
import Derived.Test.YtgmefkhincnajaaDoorProg
import Derived.KernelRfl
namespace Go.Abs
open Go Go.Proofs
theorem ingotlaw13_Few_ok : compF Tryd.prog [] f_ingotlaw13_Few = some ingotlaw13_Few.erase := by kernel_rfl
theorem ingotlaw13_few_ok : compF Tryd.prog [] f_ingotlaw13_few = some ingotlaw13_few.erase := by kernel_rfl
end Go.Abs
