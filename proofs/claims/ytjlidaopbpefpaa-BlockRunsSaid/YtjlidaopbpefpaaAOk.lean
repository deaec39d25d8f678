/- What is printed is what the program holds. -/
import Derived.Test.YtjlidaopbpefpaaACode
import Derived.Test.YtjlidaopbpefpaaProg
import Derived.KernelRfl
namespace Go.Abs
open Go Go.Proofs
theorem lz4_Bound_ok : compF Try.prog [] f_lz4_Bound = some lz4_Bound.erase := by kernel_rfl
theorem ingotref4_Bound_ok : compF Try.prog [] f_ingotref4_Bound = some ingotref4_Bound.erase := by kernel_rfl
theorem ingotlaw4_BlockBounds_ok : compF Try.prog [] f_ingotlaw4_BlockBounds = some ingotlaw4_BlockBounds.erase := by kernel_rfl
theorem ingotlaw4_known_ok : compF Try.prog [(1, 0)] f_ingotlaw4_known = some ingotlaw4_known.erase := by kernel_rfl
theorem lz4_Unpack_ok : compF Try.prog [] f_lz4_Unpack = some lz4_Unpack.erase := by kernel_rfl
theorem lz4_reader_length_ok : compF Try.prog [] f_lz4_reader_length = some lz4_reader_length.erase := by kernel_rfl
theorem lz4_reader_sequence_ok : compF Try.prog [] f_lz4_reader_sequence = some lz4_reader_sequence.erase := by kernel_rfl
theorem slices_Clip_byte_byte_ok : compF Try.prog [] f_slices_Clip_byte_byte = some slices_Clip_byte_byte.erase := by kernel_rfl
theorem lz4_Pack_ok : compF Try.prog [] f_lz4_Pack = some lz4_Pack.erase := by kernel_rfl
theorem lz4_find_ok : compF Try.prog [] f_lz4_find = some lz4_find.erase := by kernel_rfl
theorem lz4_table_ok : compF Try.prog [] f_lz4_table = some lz4_table.erase := by kernel_rfl
theorem lz4_put_ok : compF Try.prog [] f_lz4_put = some lz4_put.erase := by kernel_rfl
theorem lz4_rest_ok : compF Try.prog [] f_lz4_rest = some lz4_rest.erase := by kernel_rfl
theorem lz4_hash_ok : compF Try.prog [] f_lz4_hash = some lz4_hash.erase := by kernel_rfl
theorem slices_Equal_byte_byte_ok : compF Try.prog [] f_slices_Equal_byte_byte = some slices_Equal_byte_byte.erase := by kernel_rfl
theorem ingotref4_Unpack_ok : compF Try.prog [] f_ingotref4_Unpack = some ingotref4_Unpack.erase := by kernel_rfl
theorem ingotref4_more_ok : compF Try.prog [] f_ingotref4_more = some ingotref4_more.erase := by kernel_rfl
theorem ingotlaw4_lay_ok : compF Try.prog [] f_ingotlaw4_lay = some ingotlaw4_lay.erase := by kernel_rfl
theorem ingotlaw4_BlockBytes_ok : compF Try.prog [] f_ingotlaw4_BlockBytes = some ingotlaw4_BlockBytes.erase := by kernel_rfl
theorem ingotlaw4_BlockParts_ok : compF Try.prog [] f_ingotlaw4_BlockParts = some ingotlaw4_BlockParts.erase := by kernel_rfl
theorem ingotlaw4_BlockRuns_ok : compF Try.prog [] f_ingotlaw4_BlockRuns = some ingotlaw4_BlockRuns.erase := by kernel_rfl
theorem ingotlaw4_BlockRoom_ok : compF Try.prog [] f_ingotlaw4_BlockRoom = some ingotlaw4_BlockRoom.erase := by kernel_rfl
theorem ingotlaw4_BlockCut_ok : compF Try.prog [] f_ingotlaw4_BlockCut = some ingotlaw4_BlockCut.erase := by kernel_rfl
theorem ingotlaw4_BlockCopies_ok : compF Try.prog [] f_ingotlaw4_BlockCopies = some ingotlaw4_BlockCopies.erase := by kernel_rfl
theorem ingotlaw4_BlockBack_ok : compF Try.prog [] f_ingotlaw4_BlockBack = some ingotlaw4_BlockBack.erase := by kernel_rfl
end Go.Abs
