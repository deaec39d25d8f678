/- What is printed is what the program holds. -/
import Derived.Test.YtgmefkhincnajaaDoorACodeLD
import Derived.Test.YtgmefkhincnajaaDoorProg
import Derived.KernelRfl
namespace Go.Abs
open Go Go.Proofs
theorem ingotlaw13_known_ok : compF Tryd.prog [] f_ingotlaw13_known = some ingotlaw13_known.erase := by kernel_rfl
theorem ingotlaw13_same_ok : compF Tryd.prog [] f_ingotlaw13_same = some ingotlaw13_same.erase := by kernel_rfl
theorem ingotlaw13_chain_ok : compF Tryd.prog [] f_ingotlaw13_chain = some ingotlaw13_chain.erase := by kernel_rfl
theorem ingotlaw13_TypeTrees_ok : compF Tryd.prog [(18, 14), (8, 13)] f_ingotlaw13_TypeTrees = some ingotlaw13_TypeTrees.erase := by kernel_rfl
theorem ingotlaw13_TypeCloses_ok : compF Tryd.prog [] f_ingotlaw13_TypeCloses = some ingotlaw13_TypeCloses.erase := by kernel_rfl
theorem ingotlaw13_TypeTwo_ok : compF Tryd.prog [(8, 10), (8, 4)] f_ingotlaw13_TypeTwo = some ingotlaw13_TypeTwo.erase := by kernel_rfl
theorem ingotlaw13_TypeDepths_ok : compF Tryd.prog [] f_ingotlaw13_TypeDepths = some ingotlaw13_TypeDepths.erase := by kernel_rfl
theorem ingotlaw13_TypeCounts_ok : compF Tryd.prog [] f_ingotlaw13_TypeCounts = some ingotlaw13_TypeCounts.erase := by kernel_rfl
theorem ingotlaw13_TypeFields_ok : compF Tryd.prog [] f_ingotlaw13_TypeFields = some ingotlaw13_TypeFields.erase := by kernel_rfl
theorem ingotlaw13_TypeParents_ok : compF Tryd.prog [] f_ingotlaw13_TypeParents = some ingotlaw13_TypeParents.erase := by kernel_rfl
end Go.Abs
