/- What is printed is what the program holds. -/
import Derived.Test.YtjlidaopbpefpaaACode
import Derived.Test.YtjlidaopbpefpaaProg
import Derived.KernelRfl
namespace Go.Abs
open Go Go.Proofs
theorem ingotlaw4_BlockBytes_ok : compF Try.prog [] f_ingotlaw4_BlockBytes = some ingotlaw4_BlockBytes.erase := by kernel_rfl
theorem ingotlaw4_BlockParts_ok : compF Try.prog [] f_ingotlaw4_BlockParts = some ingotlaw4_BlockParts.erase := by kernel_rfl
theorem ingotlaw4_BlockRuns_ok : compF Try.prog [] f_ingotlaw4_BlockRuns = some ingotlaw4_BlockRuns.erase := by kernel_rfl
theorem ingotlaw4_BlockRoom_ok : compF Try.prog [] f_ingotlaw4_BlockRoom = some ingotlaw4_BlockRoom.erase := by kernel_rfl
theorem ingotlaw4_BlockCut_ok : compF Try.prog [] f_ingotlaw4_BlockCut = some ingotlaw4_BlockCut.erase := by kernel_rfl
theorem ingotlaw4_BlockCopies_ok : compF Try.prog [] f_ingotlaw4_BlockCopies = some ingotlaw4_BlockCopies.erase := by kernel_rfl
theorem ingotlaw4_BlockBack_ok : compF Try.prog [] f_ingotlaw4_BlockBack = some ingotlaw4_BlockBack.erase := by kernel_rfl
theorem ingotlaw4_BlockBounds_ok : compF Try.prog [] f_ingotlaw4_BlockBounds = some ingotlaw4_BlockBounds.erase := by kernel_rfl
theorem ingotlaw5_ChunkBytes_ok : compF Try.prog [] f_ingotlaw5_ChunkBytes = some ingotlaw5_ChunkBytes.erase := by kernel_rfl
theorem ingotlaw5_ChunkBack_ok : compF Try.prog [] f_ingotlaw5_ChunkBack = some ingotlaw5_ChunkBack.erase := by kernel_rfl
theorem ingotlaw5_ChunkParts_ok : compF Try.prog [] f_ingotlaw5_ChunkParts = some ingotlaw5_ChunkParts.erase := by kernel_rfl
theorem ingotlaw5_ChunkMixed_ok : compF Try.prog [] f_ingotlaw5_ChunkMixed = some ingotlaw5_ChunkMixed.erase := by kernel_rfl
theorem ingotlaw5_ChunkPlain_ok : compF Try.prog [] f_ingotlaw5_ChunkPlain = some ingotlaw5_ChunkPlain.erase := by kernel_rfl
theorem ingotlaw4_known_ok : compF Try.prog [(1, 0)] f_ingotlaw4_known = some ingotlaw4_known.erase := by kernel_rfl
theorem lz4_Unpack_ok : compF Try.prog [] f_lz4_Unpack = some lz4_Unpack.erase := by kernel_rfl
theorem ingotref4_Unpack_ok : compF Try.prog [] f_ingotref4_Unpack = some ingotref4_Unpack.erase := by kernel_rfl
theorem ingotlaw4_lay_ok : compF Try.prog [] f_ingotlaw4_lay = some ingotlaw4_lay.erase := by kernel_rfl
theorem lz4_Pack_ok : compF Try.prog [] f_lz4_Pack = some lz4_Pack.erase := by kernel_rfl
theorem lz4_Bound_ok : compF Try.prog [] f_lz4_Bound = some lz4_Bound.erase := by kernel_rfl
theorem ingotref4_Bound_ok : compF Try.prog [] f_ingotref4_Bound = some ingotref4_Bound.erase := by kernel_rfl
theorem ingotlaw5_known_ok : compF Try.prog [(1, 0)] f_ingotlaw5_known = some ingotlaw5_known.erase := by kernel_rfl
theorem chunk_Decode_ok : compF Try.prog [] f_chunk_Decode = some chunk_Decode.erase := by kernel_rfl
theorem ingotref5_Decode_ok : compF Try.prog [] f_ingotref5_Decode = some ingotref5_Decode.erase := by kernel_rfl
theorem chunk_Count_ok : compF Try.prog [] f_chunk_Count = some chunk_Count.erase := by kernel_rfl
theorem ingotref5_Count_ok : compF Try.prog [] f_ingotref5_Count = some ingotref5_Count.erase := by kernel_rfl
theorem chunk_Parse_ok : compF Try.prog [] f_chunk_Parse = some chunk_Parse.erase := by kernel_rfl
theorem ingotref5_Parse_ok : compF Try.prog [] f_ingotref5_Parse = some ingotref5_Parse.erase := by kernel_rfl
theorem ingotref5_Encode_ok : compF Try.prog [] f_ingotref5_Encode = some ingotref5_Encode.erase := by kernel_rfl
theorem chunk_Head_ok : compF Try.prog [] f_chunk_Head = some chunk_Head.erase := by kernel_rfl
theorem ingotref5_Head_ok : compF Try.prog [] f_ingotref5_Head = some ingotref5_Head.erase := by kernel_rfl
theorem ingotref4_Pack_ok : compF Try.prog [] f_ingotref4_Pack = some ingotref4_Pack.erase := by kernel_rfl
theorem lz4_reader_sequence_ok : compF Try.prog [] f_lz4_reader_sequence = some lz4_reader_sequence.erase := by kernel_rfl
theorem slices_Clip_byte_byte_ok : compF Try.prog [] f_slices_Clip_byte_byte = some slices_Clip_byte_byte.erase := by kernel_rfl
theorem ingotref4_more_ok : compF Try.prog [] f_ingotref4_more = some ingotref4_more.erase := by kernel_rfl
theorem lz4_find_ok : compF Try.prog [] f_lz4_find = some lz4_find.erase := by kernel_rfl
theorem lz4_table_ok : compF Try.prog [] f_lz4_table = some lz4_table.erase := by kernel_rfl
theorem lz4_put_ok : compF Try.prog [] f_lz4_put = some lz4_put.erase := by kernel_rfl
theorem chunk_known_ok : compF Try.prog [] f_chunk_known = some chunk_known.erase := by kernel_rfl
theorem slices_Clone_byte_byte_ok : compF Try.prog [] f_slices_Clone_byte_byte = some slices_Clone_byte_byte.erase := by kernel_rfl
theorem chunk_next_ok : compF Try.prog [] f_chunk_next = some chunk_next.erase := by kernel_rfl
theorem lz4_reader_length_ok : compF Try.prog [] f_lz4_reader_length = some lz4_reader_length.erase := by kernel_rfl
theorem lz4_hash_ok : compF Try.prog [] f_lz4_hash = some lz4_hash.erase := by kernel_rfl
theorem slices_Equal_byte_byte_ok : compF Try.prog [] f_slices_Equal_byte_byte = some slices_Equal_byte_byte.erase := by kernel_rfl
theorem lz4_rest_ok : compF Try.prog [] f_lz4_rest = some lz4_rest.erase := by kernel_rfl
theorem slices_Chunk_byte_byte_1_ok : compF Try.prog [] f_slices_Chunk_byte_byte_1 = some slices_Chunk_byte_byte_1.erase := by kernel_rfl
end Go.Abs
