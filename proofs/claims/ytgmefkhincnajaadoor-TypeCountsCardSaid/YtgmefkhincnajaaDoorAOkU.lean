/- What is printed is what the program holds. -/
import Derived.Test.YtgmefkhincnajaaDoorACodeU
import Derived.Test.YtgmefkhincnajaaDoorProg
import Derived.KernelRfl
namespace Go.Abs
open Go Go.Proofs
theorem types_Count_ok : compF Tryd.prog [] f_types_Count = some types_Count.erase := by kernel_rfl
theorem ingotref13_Count_ok : compF Tryd.prog [] f_ingotref13_Count = some ingotref13_Count.erase := by kernel_rfl
theorem types_Build_ok : compF Tryd.prog [] f_types_Build = some types_Build.erase := by kernel_rfl
theorem types_build_ok : compF Tryd.prog [(5, 5), (5, 4)] f_types_build = some types_build.erase := by kernel_rfl
theorem types_Same_ok : compF Tryd.prog [] f_types_Same = some types_Same.erase := by kernel_rfl
theorem ingotref13_Same_ok : compF Tryd.prog [] f_ingotref13_Same = some ingotref13_Same.erase := by kernel_rfl
theorem types_Text_ok : compF Tryd.prog [(15, 4)] f_types_Text = some types_Text.erase := by kernel_rfl
theorem ingotref13_Text_ok : compF Tryd.prog [(4, 4)] f_ingotref13_Text = some ingotref13_Text.erase := by kernel_rfl
theorem types_Close_ok : compF Tryd.prog [] f_types_Close = some types_Close.erase := by kernel_rfl
theorem types_fill_ok : compF Tryd.prog [] f_types_fill = some types_fill.erase := by kernel_rfl
theorem types_Word_ok : compF Tryd.prog [] f_types_Word = some types_Word.erase := by kernel_rfl
theorem ingotref13_Word_ok : compF Tryd.prog [] f_ingotref13_Word = some ingotref13_Word.erase := by kernel_rfl
theorem types_words_ok : compF Tryd.prog [] f_types_words = some types_words.erase := by kernel_rfl
theorem ingotref13_decimal_ok : compF Tryd.prog [] f_ingotref13_decimal = some ingotref13_decimal.erase := by kernel_rfl
theorem slices_Equal_string_string_ok : compF Tryd.prog [] f_slices_Equal_string_string = some slices_Equal_string_string.erase := by kernel_rfl
theorem slices_EqualFunc_api_Type_api_Type_api_Type_api_Type_ok : compF Tryd.prog [] f_slices_EqualFunc_api_Type_api_Type_api_Type_api_Type = some slices_EqualFunc_api_Type_api_Type_api_Type_api_Type.erase := by kernel_rfl
theorem slices_Clip_api_Type_api_Type_ok : compF Tryd.prog [] f_slices_Clip_api_Type_api_Type = some slices_Clip_api_Type_api_Type.erase := by kernel_rfl
end Go.Abs
