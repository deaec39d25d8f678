/- What is printed is what the program holds. -/
import Derived.Test.YtgmefkhincnajaaDoorACodeT
import Derived.Test.YtgmefkhincnajaaDoorProg
import Derived.KernelRfl
namespace Go.Abs
open Go Go.Proofs
theorem ingotref13_Flatten_ok : compF Tryd.prog [] f_ingotref13_Flatten = some ingotref13_Flatten.erase := by kernel_rfl
theorem types_Flatten_ok : compF Tryd.prog [] f_types_Flatten = some types_Flatten.erase := by kernel_rfl
theorem ingotref13_Check_ok : compF Tryd.prog [] f_ingotref13_Check = some ingotref13_Check.erase := by kernel_rfl
theorem ingotref13_Close_ok : compF Tryd.prog [] f_ingotref13_Close = some ingotref13_Close.erase := by kernel_rfl
theorem ingotref13_flat_ok : compF Tryd.prog [] f_ingotref13_flat = some ingotref13_flat.erase := by kernel_rfl
theorem types_Check_ok : compF Tryd.prog [] f_types_Check = some types_Check.erase := by kernel_rfl
theorem slices_Clip_types_Node_types_Node_ok : compF Tryd.prog [] f_slices_Clip_types_Node_types_Node = some slices_Clip_types_Node_types_Node.erase := by kernel_rfl
theorem types_flatten_ok : compF Tryd.prog [(2, 6), (2, 5)] f_types_flatten = some types_flatten.erase := by kernel_rfl
theorem ingotref13_Leaf_ok : compF Tryd.prog [] f_ingotref13_Leaf = some ingotref13_Leaf.erase := by kernel_rfl
theorem ingotref13_check_ok : compF Tryd.prog [] f_ingotref13_check = some ingotref13_check.erase := by kernel_rfl
theorem ingotref13_all_ok : compF Tryd.prog [] f_ingotref13_all = some ingotref13_all.erase := by kernel_rfl
theorem types_walk_ok : compF Tryd.prog [] f_types_walk = some types_walk.erase := by kernel_rfl
theorem slices_Clip_string_string_ok : compF Tryd.prog [] f_slices_Clip_string_string = some slices_Clip_string_string.erase := by kernel_rfl
theorem slices_Clone_string_string_ok : compF Tryd.prog [] f_slices_Clone_string_string = some slices_Clone_string_string.erase := by kernel_rfl
theorem slices_Clip_int_int_ok : compF Tryd.prog [] f_slices_Clip_int_int = some slices_Clip_int_int.erase := by kernel_rfl
theorem types_Leaf_ok : compF Tryd.prog [] f_types_Leaf = some types_Leaf.erase := by kernel_rfl
theorem ingotref13_own_ok : compF Tryd.prog [] f_ingotref13_own = some ingotref13_own.erase := by kernel_rfl
theorem types_right_ok : compF Tryd.prog [] f_types_right = some types_right.erase := by kernel_rfl
end Go.Abs
