/-
  DERIVED. GIVEN WITH THE SEED: THE PROGRAM's TIES (one call each: nine closed facts by the kernel) AND EACH ROW's TIE, after the 31st guide's Derived/Test/Toyas{Tie, Card}.lean. No idea stands in it: it is a product of the set-up. Laid BY PROGRAM, IN A SANDBOX (cutbox-door.mjs). By AI agents, Wed Nov 11 2026. No macro, syntax, notation, axiom, sorry.
-/
import Derived.Test.YtgmefkhincnajaaDoorRows
import Derived.LaidByTextLater
import Derived.SevenTiedAt
import Derived.LaidSub
import Derived.LaidOnce
namespace Go.Proofs.YtgmefkhincnajaaDoor
open Go
set_option maxRecDepth 100000
theorem seatTie1 : Tryd.prog.laidByTextLater [("math/bits.deBruijn32tab", Rows.laid_math_bits_deBruijn32tab), ("math/bits.deBruijn64tab", Rows.laid_math_bits_deBruijn64tab), ("internal/strconv.uint64pow10", Rows.laid_internal_strconv_uint64pow10), ("unicode.White_Space", Rows.laid_unicode_White_Space), ("strings.asciiSpace", Rows.laid_strings_asciiSpace)] [.data, .data, .data, .listed, .data] true :=
  Program.laidByTextLater_by_one 48 8 257 (by kernel_rfl) (by kernel_rfl) (by kernel_rfl) (by kernel_rfl) (by kernel_rfl) (by kernel_rfl) (fun _ _ => by kernel_rfl)
theorem noOwnUnsafe : Tryd.pinned.checked.prog.headLifts.contains "ownunsafe" = false := by kernel_rfl
theorem tie : Tryd.prog.laidByTextLater [("math/bits.deBruijn32tab", Rows.laid_math_bits_deBruijn32tab), ("math/bits.deBruijn64tab", Rows.laid_math_bits_deBruijn64tab), ("internal/strconv.uint64pow10", Rows.laid_internal_strconv_uint64pow10), ("unicode.White_Space", Rows.laid_unicode_White_Space), ("strings.asciiSpace", Rows.laid_strings_asciiSpace)] [.data, .data, .data, .listed, .data] true :=
  Program.laidByTextLater.sub seatTie1 ["math/bits.deBruijn32tab", "math/bits.deBruijn64tab", "internal/strconv.uint64pow10", "unicode.White_Space", "strings.asciiSpace"] (by kernel_rfl) (by kernel_rfl)
theorem typeTrees_row_tie : Rows.typeTreesRow.laidByTextAt .later Tryd.pinned [.data, .data, .data, .listed, .data] true :=
  OpenClaim.laidByTextAt_later rfl rfl tie noOwnUnsafe
theorem typeCloses_row_tie : Rows.typeClosesRow.laidByTextAt .later Tryd.pinned [.data, .data, .data, .listed, .data] true :=
  OpenClaim.laidByTextAt_later rfl rfl tie noOwnUnsafe
theorem typeTwo_row_tie : Rows.typeTwoRow.laidByTextAt .later Tryd.pinned [.data, .data, .data, .listed, .data] true :=
  OpenClaim.laidByTextAt_later rfl rfl tie noOwnUnsafe
theorem typeDepths_row_tie : Rows.typeDepthsRow.laidByTextAt .later Tryd.pinned [.data, .data, .data, .listed, .data] true :=
  OpenClaim.laidByTextAt_later rfl rfl tie noOwnUnsafe
theorem typeCounts_row_tie : Rows.typeCountsRow.laidByTextAt .later Tryd.pinned [.data, .data, .data, .listed, .data] true :=
  OpenClaim.laidByTextAt_later rfl rfl tie noOwnUnsafe
theorem typeFields_row_tie : Rows.typeFieldsRow.laidByTextAt .later Tryd.pinned [.data, .data, .data, .listed, .data] true :=
  OpenClaim.laidByTextAt_later rfl rfl tie noOwnUnsafe
theorem typeParents_row_tie : Rows.typeParentsRow.laidByTextAt .later Tryd.pinned [.data, .data, .data, .listed, .data] true :=
  OpenClaim.laidByTextAt_later rfl rfl tie noOwnUnsafe
theorem typeTreesUpto_row_tie : Rows.typeTreesUptoRow.laidByTextAt .later Tryd.pinned [.data, .data, .data, .listed, .data] true :=
  OpenClaim.laidByTextAt_later rfl rfl tie noOwnUnsafe
theorem typeClosesUpto_row_tie : Rows.typeClosesUptoRow.laidByTextAt .later Tryd.pinned [.data, .data, .data, .listed, .data] true :=
  OpenClaim.laidByTextAt_later rfl rfl tie noOwnUnsafe
theorem typeTwoUpto_row_tie : Rows.typeTwoUptoRow.laidByTextAt .later Tryd.pinned [.data, .data, .data, .listed, .data] true :=
  OpenClaim.laidByTextAt_later rfl rfl tie noOwnUnsafe
theorem typeDepthsUpto_row_tie : Rows.typeDepthsUptoRow.laidByTextAt .later Tryd.pinned [.data, .data, .data, .listed, .data] true :=
  OpenClaim.laidByTextAt_later rfl rfl tie noOwnUnsafe
theorem typeCountsUpto_row_tie : Rows.typeCountsUptoRow.laidByTextAt .later Tryd.pinned [.data, .data, .data, .listed, .data] true :=
  OpenClaim.laidByTextAt_later rfl rfl tie noOwnUnsafe
theorem typeFieldsUpto_row_tie : Rows.typeFieldsUptoRow.laidByTextAt .later Tryd.pinned [.data, .data, .data, .listed, .data] true :=
  OpenClaim.laidByTextAt_later rfl rfl tie noOwnUnsafe
theorem typeParentsUpto_row_tie : Rows.typeParentsUptoRow.laidByTextAt .later Tryd.pinned [.data, .data, .data, .listed, .data] true :=
  OpenClaim.laidByTextAt_later rfl rfl tie noOwnUnsafe
end Go.Proofs.YtgmefkhincnajaaDoor
