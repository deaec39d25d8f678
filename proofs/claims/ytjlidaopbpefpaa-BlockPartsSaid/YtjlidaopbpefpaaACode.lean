/- The small code of functions, printed by program. -/
import Derived.Test.YtjlidaopbpefpaaAbsC
import Derived.Test.YtjlidaopbpefpaaAbsD
namespace Go.Abs
open Go
def f_gosem_cut_init : Nat := 2
def f_ingotlaw4_BlockBytes : Nat := 3
def f_ingotlaw4_BlockParts : Nat := 4
def f_ingotlaw4_BlockRuns : Nat := 5
def f_ingotlaw4_BlockRoom : Nat := 6
def f_ingotlaw4_BlockCut : Nat := 7
def f_ingotlaw4_BlockCopies : Nat := 8
def f_ingotlaw4_BlockBack : Nat := 9
def f_ingotlaw4_BlockBounds : Nat := 10
def f_ingotlaw5_ChunkBytes : Nat := 11
def f_ingotlaw5_ChunkBack : Nat := 12
def f_ingotlaw5_ChunkHeads : Nat := 13
def f_ingotlaw5_ChunkParts : Nat := 14
def f_ingotlaw5_ChunkMixed : Nat := 15
def f_ingotlaw5_ChunkPlain : Nat := 16
def f_ingotlaw4_known : Nat := 17
def f_lz4_Unpack : Nat := 18
def f_ingotref4_Unpack : Nat := 19
def f_ingotlaw4_lay : Nat := 20
def f_lz4_Pack : Nat := 21
def f_lz4_Bound : Nat := 22
def f_ingotref4_Bound : Nat := 23
def f_ingotlaw5_known : Nat := 24
def f_chunk_Decode : Nat := 25
def f_ingotref5_Decode : Nat := 26
def f_chunk_Count : Nat := 27
def f_ingotref5_Count : Nat := 28
def f_chunk_Parse : Nat := 29
def f_ingotref5_Parse : Nat := 30
def f_chunk_Encode : Nat := 31
def f_ingotref5_Encode : Nat := 32
def f_chunk_Head : Nat := 33
def f_ingotref5_Head : Nat := 34
def f_ingotref4_Pack : Nat := 35
def f_lz4_reader_sequence : Nat := 36
def f_slices_Clip_byte_byte : Nat := 37
def f_ingotref4_more : Nat := 38
def f_lz4_find : Nat := 39
def f_lz4_table : Nat := 40
def f_lz4_put : Nat := 41
def f_chunk_known : Nat := 42
def f_slices_Clone_byte_byte : Nat := 43
def f_chunk_next : Nat := 44
def f_slices_Chunk_byte_byte : Nat := 45
def f_lz4_reader_length : Nat := 46
def f_lz4_hash : Nat := 47
def f_slices_Equal_byte_byte : Nat := 48
def f_lz4_rest : Nat := 49
def f_slices_Chunk_byte_byte_1 : Nat := 50
def ingotlaw4_BlockBytes_r0 : List AOper := [
  ⟨some 4, .mov, [.c (.bool false)], none⟩]
def ingotlaw4_BlockBytes_r1 : List AOper := [
  ⟨some 9, (.call f_ingotlaw4_known), [], none⟩,
  ⟨some 10, .unot, [.t 9], none⟩]
def ingotlaw4_BlockBytes_r2 : List AOper := [
  ⟨some 4, .mov, [.c (.bool false)], none⟩]
def ingotlaw4_BlockBytes_r3 : List AOper := [
  ⟨some 11, .mov, [.t 0], none⟩,
  ⟨some 12, .lens, [.t 11], none⟩,
  ⟨some 13, (.bin .gtr), [.t 12, .c (.int .i64 400)], none⟩,
  ⟨some 14, .mov, [.t 13], none⟩,
  ⟨some 15, .mov, [.t 1], some (14, false)⟩,
  ⟨some 16, (.bin .gtr), [.t 15, .c (.int .i64 5000)], some (14, false)⟩,
  ⟨some 17, .mov, [.t 16], some (14, false)⟩,
  ⟨some 18, .mov, [.t 1], some (17, true)⟩,
  ⟨some 19, (.bin .leq), [.t 18, .c (.int .i64 1048576)], some (17, true)⟩,
  ⟨some 20, .pick, [.t 17, .t 19, .c (.bool false)], some (14, false)⟩,
  ⟨some 21, .pick, [.t 14, .c (.bool true), .t 20], none⟩]
def ingotlaw4_BlockBytes_r4 : List AOper := [
  ⟨some 4, .mov, [.c (.bool true)], none⟩]
def ingotlaw4_BlockBytes_r5 : List AOper := [
  ⟨some 23, .mov, [.t 0], none⟩,
  ⟨some 24, .mov, [.t 1], none⟩,
  ⟨some 25, (.call f_lz4_Unpack), [.t 23, .t 24], none⟩,
  ⟨some 22, .mov, [.t 25], none⟩,
  ⟨some 26, (.ext 0), [.t 22], none⟩,
  ⟨some 27, (.ext 1), [.t 22], none⟩,
  ⟨some 5, .mov, [.t 26], none⟩,
  ⟨some 6, .mov, [.t 27], none⟩]
def ingotlaw4_BlockBytes_r6 : List AOper := [
  ⟨some 29, .mov, [.t 0], none⟩,
  ⟨some 30, .mov, [.t 1], none⟩,
  ⟨some 31, (.call f_ingotref4_Unpack), [.t 29, .t 30], none⟩,
  ⟨some 28, .mov, [.t 31], none⟩,
  ⟨some 32, (.ext 0), [.t 28], none⟩,
  ⟨some 33, (.ext 1), [.t 28], none⟩,
  ⟨some 7, .mov, [.t 32], none⟩,
  ⟨some 8, .mov, [.t 33], none⟩]
def ingotlaw4_BlockBytes_r7 : List AOper := [
  ⟨some 34, .mov, [.t 5], none⟩,
  ⟨some 35, .b2s, [.t 34], none⟩,
  ⟨some 36, .mov, [.t 7], none⟩,
  ⟨some 37, .b2s, [.t 36], none⟩,
  ⟨some 38, (.bin .eql), [.t 35, .t 37], none⟩,
  ⟨some 39, .mov, [.t 38], none⟩,
  ⟨some 40, .mov, [.t 6], some (39, true)⟩,
  ⟨some 41, .mov, [.t 8], some (39, true)⟩,
  ⟨some 42, (.bin .eql), [.t 40, .t 41], some (39, true)⟩,
  ⟨some 43, .pick, [.t 39, .t 42, .c (.bool false)], none⟩,
  ⟨some 4, .mov, [.t 43], none⟩]
def ingotlaw4_BlockBytes : AFunc := ⟨44, (.seq (.region ingotlaw4_BlockBytes_r0 [0, 1, 15, 16, 17, 18, 19, 20, 40, 41, 42]) (.seq (.seq (.region ingotlaw4_BlockBytes_r1 [0, 1, 10, 15, 16, 17, 18, 19, 20, 40, 41, 42]) (.cond (.t 10) (.seq (.region ingotlaw4_BlockBytes_r2 [4]) .ret) .skip)) (.seq (.seq (.region ingotlaw4_BlockBytes_r3 [0, 1, 21, 40, 41, 42]) (.cond (.t 21) (.seq (.region ingotlaw4_BlockBytes_r4 [4]) .ret) .skip)) (.seq (.region ingotlaw4_BlockBytes_r5 [0, 1, 5, 6, 40, 41, 42]) (.seq (.region ingotlaw4_BlockBytes_r6 [5, 6, 7, 8, 40, 41, 42]) (.seq (.region ingotlaw4_BlockBytes_r7 [4]) .ret)))))), [.t 4]⟩
def ingotlaw4_BlockParts_r0 : List AOper := [
  ⟨some 4, .mov, [.c (.bool false)], none⟩]
def ingotlaw4_BlockParts_r1 : List AOper := [
  ⟨some 18, (.call f_ingotlaw4_known), [], none⟩,
  ⟨some 19, .unot, [.t 18], none⟩]
def ingotlaw4_BlockParts_r2 : List AOper := [
  ⟨some 4, .mov, [.c (.bool false)], none⟩]
def ingotlaw4_BlockParts_r3 : List AOper := [
  ⟨some 20, .mov, [.t 0], none⟩,
  ⟨some 21, .lens, [.t 20], none⟩,
  ⟨some 22, (.bin .gtr), [.t 21, .c (.int .i64 12)], none⟩,
  ⟨some 23, .mov, [.t 22], none⟩,
  ⟨some 24, .mov, [.t 1], some (23, false)⟩,
  ⟨some 25, .lens, [.t 24], some (23, false)⟩,
  ⟨some 26, (.bin .gtr), [.t 25, .c (.int .i64 400)], some (23, false)⟩,
  ⟨some 27, .pick, [.t 23, .c (.bool true), .t 26], none⟩]
def ingotlaw4_BlockParts_r4 : List AOper := [
  ⟨some 4, .mov, [.c (.bool true)], none⟩]
def ingotlaw4_BlockParts_r5 : List AOper := [
  ⟨some 5, .mov, [.c (.slc 0 [] true)], none⟩,
  ⟨some 6, .mov, [.c (.slc 0 [] true)], none⟩]
def ingotlaw4_BlockParts_r6 : List AOper := [
  ⟨some 7, .mov, [.c (.int .i64 0)], none⟩]
def ingotlaw4_BlockParts_r7 : List AOper := [
  ⟨some 28, .mov, [.t 7], none⟩,
  ⟨some 29, .mov, [.t 0], none⟩,
  ⟨some 30, .lens, [.t 29], none⟩,
  ⟨some 31, (.bin .lss), [.t 28, .t 30], none⟩]
def ingotlaw4_BlockParts_r8 : List AOper := [
  ⟨some 34, .mov, [.t 0], none⟩,
  ⟨some 35, .mov, [.t 7], none⟩,
  ⟨some 36, (.iad 3), [.t 34, .t 35], none⟩,
  ⟨some 37, (.load true 3), [.t 36], none⟩,
  ⟨some 8, (.alloc (.agg [(.slc 0 [] true), (.int .i64 0), (.int .i64 0)])), [], none⟩,
  ⟨none, (.store 3), [.t 8, .t 37], none⟩]
def ingotlaw4_BlockParts_r9 : List AOper := [
  ⟨some 38, (.fad 0), [.t 8], none⟩,
  ⟨some 39, (.load false 1), [.t 38], none⟩,
  ⟨some 40, .lens, [.t 39], none⟩,
  ⟨some 41, (.bin .gtr), [.t 40, .c (.int .i64 400)], none⟩,
  ⟨some 42, .mov, [.t 41], none⟩,
  ⟨some 43, (.fad 2), [.t 8], some (42, false)⟩,
  ⟨some 44, (.load false 1), [.t 43], some (42, false)⟩,
  ⟨some 45, (.bin .lss), [.t 44, .c (.int .i64 4)], some (42, false)⟩,
  ⟨some 46, .pick, [.t 42, .c (.bool true), .t 45], none⟩,
  ⟨some 47, .mov, [.t 46], none⟩,
  ⟨some 48, (.fad 2), [.t 8], some (47, false)⟩,
  ⟨some 49, (.load false 1), [.t 48], some (47, false)⟩,
  ⟨some 50, (.bin .gtr), [.t 49, .c (.int .i64 600)], some (47, false)⟩,
  ⟨some 51, .pick, [.t 47, .c (.bool true), .t 50], none⟩,
  ⟨some 52, .mov, [.t 51], none⟩,
  ⟨some 53, (.fad 1), [.t 8], some (52, false)⟩,
  ⟨some 54, (.load false 1), [.t 53], some (52, false)⟩,
  ⟨some 55, (.bin .lss), [.t 54, .c (.int .i64 1)], some (52, false)⟩,
  ⟨some 56, .pick, [.t 52, .c (.bool true), .t 55], none⟩,
  ⟨some 57, .mov, [.t 56], none⟩,
  ⟨some 58, (.fad 1), [.t 8], some (57, false)⟩,
  ⟨some 59, (.load false 1), [.t 58], some (57, false)⟩,
  ⟨some 60, (.bin .gtr), [.t 59, .c (.int .i64 65535)], some (57, false)⟩,
  ⟨some 61, .pick, [.t 57, .c (.bool true), .t 60], none⟩]
def ingotlaw4_BlockParts_r10 : List AOper := [
  ⟨some 4, .mov, [.c (.bool true)], none⟩]
def ingotlaw4_BlockParts_r11 : List AOper := [
  ⟨some 62, .mov, [.t 6], none⟩,
  ⟨some 63, (.fad 0), [.t 8], none⟩,
  ⟨some 64, (.load false 1), [.t 63], none⟩,
  ⟨some 65, (.app 1 1), [.t 62, .t 64], none⟩,
  ⟨some 6, .mov, [.t 65], none⟩]
def ingotlaw4_BlockParts_r12 : List AOper := [
  ⟨some 66, (.fad 1), [.t 8], none⟩,
  ⟨some 67, (.load false 1), [.t 66], none⟩,
  ⟨some 68, .mov, [.t 6], none⟩,
  ⟨some 69, .lens, [.t 68], none⟩,
  ⟨some 70, (.bin .gtr), [.t 67, .t 69], none⟩]
def ingotlaw4_BlockParts_r13 : List AOper := [
  ⟨some 4, .mov, [.c (.bool true)], none⟩]
def ingotlaw4_BlockParts_r14 : List AOper := [
  ⟨some 72, (.fad 0), [.t 8], none⟩,
  ⟨some 73, (.load false 1), [.t 72], none⟩,
  ⟨some 74, .lens, [.t 73], none⟩,
  ⟨some 75, (.call f_ingotlaw4_lay), [.t 74], none⟩,
  ⟨some 71, .mov, [.t 75], none⟩,
  ⟨some 76, (.ext 0), [.t 71], none⟩,
  ⟨some 77, (.ext 1), [.t 71], none⟩,
  ⟨some 9, .mov, [.t 76], none⟩,
  ⟨some 10, .mov, [.t 77], none⟩]
def ingotlaw4_BlockParts_r15 : List AOper := [
  ⟨some 79, (.fad 2), [.t 8], none⟩,
  ⟨some 80, (.load false 1), [.t 79], none⟩,
  ⟨some 81, (.bin .sub), [.t 80, .c (.int .i64 4)], none⟩,
  ⟨some 82, (.call f_ingotlaw4_lay), [.t 81], none⟩,
  ⟨some 78, .mov, [.t 82], none⟩,
  ⟨some 83, (.ext 0), [.t 78], none⟩,
  ⟨some 84, (.ext 1), [.t 78], none⟩,
  ⟨some 11, .mov, [.t 83], none⟩,
  ⟨some 12, .mov, [.t 84], none⟩]
def ingotlaw4_BlockParts_r16 : List AOper := [
  ⟨some 85, .mov, [.t 5], none⟩,
  ⟨some 86, .mov, [.t 9], none⟩,
  ⟨some 87, (.bin .shl), [.t 86, .c (.int .u64 4)], none⟩,
  ⟨some 88, .mov, [.t 11], none⟩,
  ⟨some 89, (.bin .or), [.t 87, .t 88], none⟩,
  ⟨some 90, (.conv .u8), [.t 89], none⟩,
  ⟨some 91, (.bsl 1), [.t 90], none⟩,
  ⟨some 92, (.app 1 1), [.t 85, .t 91], none⟩,
  ⟨some 93, .mov, [.t 10], none⟩,
  ⟨some 94, (.app 1 1), [.t 92, .t 93], none⟩,
  ⟨some 95, (.fad 0), [.t 8], none⟩,
  ⟨some 96, (.load false 1), [.t 95], none⟩,
  ⟨some 97, (.app 1 1), [.t 94, .t 96], none⟩,
  ⟨some 5, .mov, [.t 97], none⟩]
def ingotlaw4_BlockParts_r17 : List AOper := [
  ⟨some 98, .mov, [.t 5], none⟩,
  ⟨some 99, (.fad 1), [.t 8], none⟩,
  ⟨some 100, (.load false 1), [.t 99], none⟩,
  ⟨some 101, (.conv .u8), [.t 100], none⟩,
  ⟨some 102, (.fad 1), [.t 8], none⟩,
  ⟨some 103, (.load false 1), [.t 102], none⟩,
  ⟨some 104, (.bin .shr), [.t 103, .c (.int .u64 8)], none⟩,
  ⟨some 105, (.conv .u8), [.t 104], none⟩,
  ⟨some 106, (.bsl 1), [.t 101, .t 105], none⟩,
  ⟨some 107, (.app 1 1), [.t 98, .t 106], none⟩,
  ⟨some 108, .mov, [.t 12], none⟩,
  ⟨some 109, (.app 1 1), [.t 107, .t 108], none⟩,
  ⟨some 5, .mov, [.t 109], none⟩]
def ingotlaw4_BlockParts_r18 : List AOper := [
  ⟨some 13, .mov, [.c (.int .i64 0)], none⟩]
def ingotlaw4_BlockParts_r19 : List AOper := [
  ⟨some 110, .mov, [.t 13], none⟩,
  ⟨some 111, (.fad 2), [.t 8], none⟩,
  ⟨some 112, (.load false 1), [.t 111], none⟩,
  ⟨some 113, (.bin .lss), [.t 110, .t 112], none⟩]
def ingotlaw4_BlockParts_r20 : List AOper := [
  ⟨some 116, .mov, [.t 6], none⟩,
  ⟨some 117, .mov, [.t 6], none⟩,
  ⟨some 118, .mov, [.t 6], none⟩,
  ⟨some 119, .lens, [.t 118], none⟩,
  ⟨some 120, (.fad 1), [.t 8], none⟩,
  ⟨some 121, (.load false 1), [.t 120], none⟩,
  ⟨some 122, (.bin .sub), [.t 119, .t 121], none⟩,
  ⟨some 123, (.iad 1), [.t 117, .t 122], none⟩,
  ⟨some 124, (.load false 1), [.t 123], none⟩,
  ⟨some 125, (.bsl 1), [.t 124], none⟩,
  ⟨some 126, (.app 1 1), [.t 116, .t 125], none⟩,
  ⟨some 6, .mov, [.t 126], none⟩]
def ingotlaw4_BlockParts_r21 : List AOper := [
  ⟨some 114, .mov, [.t 13], none⟩,
  ⟨some 115, (.bin .add), [.t 114, .c (.int .i64 1)], none⟩,
  ⟨some 13, .mov, [.t 115], none⟩]
def ingotlaw4_BlockParts_l0 : ACode := (.seq (.seq (.region ingotlaw4_BlockParts_r19 [0, 1, 5, 6, 7, 8, 13, 43, 44, 45, 48, 49, 50, 53, 54, 55, 58, 59, 60, 113, 156, 157, 158, 159, 160]) (.cond (.t 113) .skip (.exit 2))) (.seq (.block 3 (.region ingotlaw4_BlockParts_r20 [0, 1, 5, 6, 7, 8, 13, 43, 44, 45, 48, 49, 50, 53, 54, 55, 58, 59, 60, 156, 157, 158, 159, 160])) (.region ingotlaw4_BlockParts_r21 [0, 1, 5, 6, 7, 8, 13, 43, 44, 45, 48, 49, 50, 53, 54, 55, 58, 59, 60, 156, 157, 158, 159, 160])))
def ingotlaw4_BlockParts_r22 : List AOper := [
  ⟨some 32, .mov, [.t 7], none⟩,
  ⟨some 33, (.bin .add), [.t 32, .c (.int .i64 1)], none⟩,
  ⟨some 7, .mov, [.t 33], none⟩]
def ingotlaw4_BlockParts_l1 : ACode := (.seq (.seq (.region ingotlaw4_BlockParts_r7 [0, 1, 5, 6, 7, 31, 43, 44, 45, 48, 49, 50, 53, 54, 55, 58, 59, 60, 156, 157, 158, 159, 160]) (.cond (.t 31) .skip (.exit 0))) (.seq (.block 1 (.seq (.region ingotlaw4_BlockParts_r8 [0, 1, 5, 6, 7, 8, 43, 44, 45, 48, 49, 50, 53, 54, 55, 58, 59, 60, 156, 157, 158, 159, 160]) (.seq (.seq (.region ingotlaw4_BlockParts_r9 [0, 1, 5, 6, 7, 8, 43, 44, 45, 48, 49, 50, 53, 54, 55, 58, 59, 60, 61, 156, 157, 158, 159, 160]) (.cond (.t 61) (.seq (.region ingotlaw4_BlockParts_r10 [4]) .ret) .skip)) (.seq (.region ingotlaw4_BlockParts_r11 [0, 1, 5, 6, 7, 8, 43, 44, 45, 48, 49, 50, 53, 54, 55, 58, 59, 60, 156, 157, 158, 159, 160]) (.seq (.seq (.region ingotlaw4_BlockParts_r12 [0, 1, 5, 6, 7, 8, 43, 44, 45, 48, 49, 50, 53, 54, 55, 58, 59, 60, 70, 156, 157, 158, 159, 160]) (.cond (.t 70) (.seq (.region ingotlaw4_BlockParts_r13 [4]) .ret) .skip)) (.seq (.region ingotlaw4_BlockParts_r14 [0, 1, 5, 6, 7, 8, 9, 10, 43, 44, 45, 48, 49, 50, 53, 54, 55, 58, 59, 60, 156, 157, 158, 159, 160]) (.seq (.region ingotlaw4_BlockParts_r15 [0, 1, 5, 6, 7, 8, 9, 10, 11, 12, 43, 44, 45, 48, 49, 50, 53, 54, 55, 58, 59, 60, 156, 157, 158, 159, 160]) (.seq (.region ingotlaw4_BlockParts_r16 [0, 1, 5, 6, 7, 8, 12, 43, 44, 45, 48, 49, 50, 53, 54, 55, 58, 59, 60, 156, 157, 158, 159, 160]) (.seq (.region ingotlaw4_BlockParts_r17 [0, 1, 5, 6, 7, 8, 43, 44, 45, 48, 49, 50, 53, 54, 55, 58, 59, 60, 156, 157, 158, 159, 160]) (.seq (.region ingotlaw4_BlockParts_r18 [0, 1, 5, 6, 7, 8, 13, 43, 44, 45, 48, 49, 50, 53, 54, 55, 58, 59, 60, 156, 157, 158, 159, 160]) (.block 2 (.loop ingotlaw4_BlockParts_l0)))))))))))) (.region ingotlaw4_BlockParts_r22 [0, 1, 5, 6, 7, 43, 44, 45, 48, 49, 50, 53, 54, 55, 58, 59, 60, 156, 157, 158, 159, 160])))
def ingotlaw4_BlockParts_r23 : List AOper := [
  ⟨some 128, .mov, [.t 1], none⟩,
  ⟨some 129, .lens, [.t 128], none⟩,
  ⟨some 130, (.call f_ingotlaw4_lay), [.t 129], none⟩,
  ⟨some 127, .mov, [.t 130], none⟩,
  ⟨some 131, (.ext 0), [.t 127], none⟩,
  ⟨some 132, (.ext 1), [.t 127], none⟩,
  ⟨some 14, .mov, [.t 131], none⟩,
  ⟨some 15, .mov, [.t 132], none⟩]
def ingotlaw4_BlockParts_r24 : List AOper := [
  ⟨some 133, .mov, [.t 5], none⟩,
  ⟨some 134, .mov, [.t 14], none⟩,
  ⟨some 135, (.bin .shl), [.t 134, .c (.int .u64 4)], none⟩,
  ⟨some 136, (.conv .u8), [.t 135], none⟩,
  ⟨some 137, (.bsl 1), [.t 136], none⟩,
  ⟨some 138, (.app 1 1), [.t 133, .t 137], none⟩,
  ⟨some 139, .mov, [.t 15], none⟩,
  ⟨some 140, (.app 1 1), [.t 138, .t 139], none⟩,
  ⟨some 141, .mov, [.t 1], none⟩,
  ⟨some 142, (.app 1 1), [.t 140, .t 141], none⟩,
  ⟨some 5, .mov, [.t 142], none⟩]
def ingotlaw4_BlockParts_r25 : List AOper := [
  ⟨some 143, .mov, [.t 6], none⟩,
  ⟨some 144, .mov, [.t 1], none⟩,
  ⟨some 145, (.app 1 1), [.t 143, .t 144], none⟩,
  ⟨some 6, .mov, [.t 145], none⟩]
def ingotlaw4_BlockParts_r26 : List AOper := [
  ⟨some 147, .mov, [.t 5], none⟩,
  ⟨some 148, .mov, [.t 6], none⟩,
  ⟨some 149, .lens, [.t 148], none⟩,
  ⟨some 150, (.call f_lz4_Unpack), [.t 147, .t 149], none⟩,
  ⟨some 146, .mov, [.t 150], none⟩,
  ⟨some 151, (.ext 0), [.t 146], none⟩,
  ⟨some 152, (.ext 1), [.t 146], none⟩,
  ⟨some 16, .mov, [.t 151], none⟩,
  ⟨some 17, .mov, [.t 152], none⟩]
def ingotlaw4_BlockParts_r27 : List AOper := [
  ⟨some 153, .mov, [.t 17], none⟩,
  ⟨some 154, (.bin .eql), [.t 153, .c (.int .i64 0)], none⟩,
  ⟨some 155, .mov, [.t 154], none⟩,
  ⟨some 156, .mov, [.t 16], some (155, true)⟩,
  ⟨some 157, .b2s, [.t 156], some (155, true)⟩,
  ⟨some 158, .mov, [.t 6], some (155, true)⟩,
  ⟨some 159, .b2s, [.t 158], some (155, true)⟩,
  ⟨some 160, (.bin .eql), [.t 157, .t 159], some (155, true)⟩,
  ⟨some 161, .pick, [.t 155, .t 160, .c (.bool false)], none⟩,
  ⟨some 4, .mov, [.t 161], none⟩]
def ingotlaw4_BlockParts : AFunc := ⟨162, (.seq (.region ingotlaw4_BlockParts_r0 [0, 1, 24, 25, 26, 43, 44, 45, 48, 49, 50, 53, 54, 55, 58, 59, 60, 156, 157, 158, 159, 160]) (.seq (.seq (.region ingotlaw4_BlockParts_r1 [0, 1, 19, 24, 25, 26, 43, 44, 45, 48, 49, 50, 53, 54, 55, 58, 59, 60, 156, 157, 158, 159, 160]) (.cond (.t 19) (.seq (.region ingotlaw4_BlockParts_r2 [4]) .ret) .skip)) (.seq (.seq (.region ingotlaw4_BlockParts_r3 [0, 1, 27, 43, 44, 45, 48, 49, 50, 53, 54, 55, 58, 59, 60, 156, 157, 158, 159, 160]) (.cond (.t 27) (.seq (.region ingotlaw4_BlockParts_r4 [4]) .ret) .skip)) (.seq (.region ingotlaw4_BlockParts_r5 [0, 1, 5, 6, 43, 44, 45, 48, 49, 50, 53, 54, 55, 58, 59, 60, 156, 157, 158, 159, 160]) (.seq (.seq (.region ingotlaw4_BlockParts_r6 [0, 1, 5, 6, 7, 43, 44, 45, 48, 49, 50, 53, 54, 55, 58, 59, 60, 156, 157, 158, 159, 160]) (.block 0 (.loop ingotlaw4_BlockParts_l1))) (.seq (.region ingotlaw4_BlockParts_r23 [1, 5, 6, 14, 15, 156, 157, 158, 159, 160]) (.seq (.region ingotlaw4_BlockParts_r24 [1, 5, 6, 156, 157, 158, 159, 160]) (.seq (.region ingotlaw4_BlockParts_r25 [5, 6, 156, 157, 158, 159, 160]) (.seq (.region ingotlaw4_BlockParts_r26 [6, 16, 17, 156, 157, 158, 159, 160]) (.seq (.region ingotlaw4_BlockParts_r27 [4]) .ret)))))))))), [.t 4]⟩
def ingotlaw4_BlockRuns_r0 : List AOper := [
  ⟨some 4, .mov, [.c (.bool false)], none⟩]
def ingotlaw4_BlockRuns_r1 : List AOper := [
  ⟨some 10, (.call f_ingotlaw4_known), [], none⟩,
  ⟨some 11, .unot, [.t 10], none⟩]
def ingotlaw4_BlockRuns_r2 : List AOper := [
  ⟨some 4, .mov, [.c (.bool false)], none⟩]
def ingotlaw4_BlockRuns_r3 : List AOper := [
  ⟨some 12, .mov, [.t 1], none⟩,
  ⟨some 13, (.bin .lss), [.t 12, .c (.int .i64 0)], none⟩,
  ⟨some 14, .mov, [.t 13], none⟩,
  ⟨some 15, .mov, [.t 1], some (14, false)⟩,
  ⟨some 16, (.bin .gtr), [.t 15, .c (.int .i64 20000)], some (14, false)⟩,
  ⟨some 17, .pick, [.t 14, .c (.bool true), .t 16], none⟩]
def ingotlaw4_BlockRuns_r4 : List AOper := [
  ⟨some 4, .mov, [.c (.bool true)], none⟩]
def ingotlaw4_BlockRuns_r5 : List AOper := [
  ⟨some 18, .mov, [.t 1], none⟩,
  ⟨some 19, (.mks 1 1 (.int .u8 0)), [.t 18, .t 18], none⟩,
  ⟨some 5, .mov, [.t 19], none⟩]
def ingotlaw4_BlockRuns_r6 : List AOper := [
  ⟨some 6, .mov, [.c (.int .i64 0)], none⟩]
def ingotlaw4_BlockRuns_r7 : List AOper := [
  ⟨some 20, .mov, [.t 6], none⟩,
  ⟨some 21, .mov, [.t 1], none⟩,
  ⟨some 22, (.bin .lss), [.t 20, .t 21], none⟩]
def ingotlaw4_BlockRuns_r8 : List AOper := [
  ⟨some 25, .mov, [.t 5], none⟩,
  ⟨some 26, .mov, [.t 6], none⟩,
  ⟨some 27, .mov, [.t 0], none⟩,
  ⟨some 28, (.iad 1), [.t 25, .t 26], none⟩,
  ⟨none, (.store 1), [.t 28, .t 27], none⟩]
def ingotlaw4_BlockRuns_r9 : List AOper := [
  ⟨some 23, .mov, [.t 6], none⟩,
  ⟨some 24, (.bin .add), [.t 23, .c (.int .i64 1)], none⟩,
  ⟨some 6, .mov, [.t 24], none⟩]
def ingotlaw4_BlockRuns_l0 : ACode := (.seq (.seq (.region ingotlaw4_BlockRuns_r7 [0, 1, 5, 6, 22, 40, 41, 42, 43, 44, 47, 48, 49, 50, 51, 52, 53, 54, 55, 56]) (.cond (.t 22) .skip (.exit 0))) (.seq (.block 1 (.region ingotlaw4_BlockRuns_r8 [0, 1, 5, 6, 40, 41, 42, 43, 44, 47, 48, 49, 50, 51, 52, 53, 54, 55, 56])) (.region ingotlaw4_BlockRuns_r9 [0, 1, 5, 6, 40, 41, 42, 43, 44, 47, 48, 49, 50, 51, 52, 53, 54, 55, 56])))
def ingotlaw4_BlockRuns_r10 : List AOper := [
  ⟨some 29, .mov, [.t 5], none⟩,
  ⟨some 30, (.call f_lz4_Pack), [.t 29], none⟩,
  ⟨some 7, .mov, [.t 30], none⟩]
def ingotlaw4_BlockRuns_r11 : List AOper := [
  ⟨some 32, .mov, [.t 7], none⟩,
  ⟨some 33, .mov, [.t 1], none⟩,
  ⟨some 34, (.call f_lz4_Unpack), [.t 32, .t 33], none⟩,
  ⟨some 31, .mov, [.t 34], none⟩,
  ⟨some 35, (.ext 0), [.t 31], none⟩,
  ⟨some 36, (.ext 1), [.t 31], none⟩,
  ⟨some 8, .mov, [.t 35], none⟩,
  ⟨some 9, .mov, [.t 36], none⟩]
def ingotlaw4_BlockRuns_r12 : List AOper := [
  ⟨some 37, .mov, [.t 9], none⟩,
  ⟨some 38, (.bin .eql), [.t 37, .c (.int .i64 0)], none⟩,
  ⟨some 39, .mov, [.t 38], none⟩,
  ⟨some 40, .mov, [.t 8], some (39, true)⟩,
  ⟨some 41, .b2s, [.t 40], some (39, true)⟩,
  ⟨some 42, .mov, [.t 5], some (39, true)⟩,
  ⟨some 43, .b2s, [.t 42], some (39, true)⟩,
  ⟨some 44, (.bin .eql), [.t 41, .t 43], some (39, true)⟩,
  ⟨some 45, .pick, [.t 39, .t 44, .c (.bool false)], none⟩,
  ⟨some 46, .mov, [.t 45], none⟩,
  ⟨some 47, .mov, [.t 1], some (46, true)⟩,
  ⟨some 48, (.bin .lss), [.t 47, .c (.int .i64 64)], some (46, true)⟩,
  ⟨some 49, .mov, [.t 48], some (46, true)⟩,
  ⟨some 50, .mov, [.t 7], some (49, false)⟩,
  ⟨some 51, .lens, [.t 50], some (49, false)⟩,
  ⟨some 52, .mov, [.t 1], some (49, false)⟩,
  ⟨some 53, (.bin .quo), [.t 52, .c (.int .i64 4)], some (49, false)⟩,
  ⟨some 54, (.bin .add), [.t 53, .c (.int .i64 16)], some (49, false)⟩,
  ⟨some 55, (.bin .leq), [.t 51, .t 54], some (49, false)⟩,
  ⟨some 56, .pick, [.t 49, .c (.bool true), .t 55], some (46, true)⟩,
  ⟨some 57, .pick, [.t 46, .t 56, .c (.bool false)], none⟩,
  ⟨some 4, .mov, [.t 57], none⟩]
def ingotlaw4_BlockRuns : AFunc := ⟨58, (.seq (.region ingotlaw4_BlockRuns_r0 [0, 1, 15, 16, 40, 41, 42, 43, 44, 47, 48, 49, 50, 51, 52, 53, 54, 55, 56]) (.seq (.seq (.region ingotlaw4_BlockRuns_r1 [0, 1, 11, 15, 16, 40, 41, 42, 43, 44, 47, 48, 49, 50, 51, 52, 53, 54, 55, 56]) (.cond (.t 11) (.seq (.region ingotlaw4_BlockRuns_r2 [4]) .ret) .skip)) (.seq (.seq (.region ingotlaw4_BlockRuns_r3 [0, 1, 17, 40, 41, 42, 43, 44, 47, 48, 49, 50, 51, 52, 53, 54, 55, 56]) (.cond (.t 17) (.seq (.region ingotlaw4_BlockRuns_r4 [4]) .ret) .skip)) (.seq (.region ingotlaw4_BlockRuns_r5 [0, 1, 5, 40, 41, 42, 43, 44, 47, 48, 49, 50, 51, 52, 53, 54, 55, 56]) (.seq (.seq (.region ingotlaw4_BlockRuns_r6 [0, 1, 5, 6, 40, 41, 42, 43, 44, 47, 48, 49, 50, 51, 52, 53, 54, 55, 56]) (.block 0 (.loop ingotlaw4_BlockRuns_l0))) (.seq (.region ingotlaw4_BlockRuns_r10 [1, 5, 7, 40, 41, 42, 43, 44, 47, 48, 49, 50, 51, 52, 53, 54, 55, 56]) (.seq (.region ingotlaw4_BlockRuns_r11 [1, 5, 7, 8, 9, 40, 41, 42, 43, 44, 47, 48, 49, 50, 51, 52, 53, 54, 55, 56]) (.seq (.region ingotlaw4_BlockRuns_r12 [4]) .ret)))))))), [.t 4]⟩
def ingotlaw4_BlockRoom_r0 : List AOper := [
  ⟨some 4, .mov, [.c (.bool false)], none⟩]
def ingotlaw4_BlockRoom_r1 : List AOper := [
  ⟨some 7, (.call f_ingotlaw4_known), [], none⟩,
  ⟨some 8, .unot, [.t 7], none⟩]
def ingotlaw4_BlockRoom_r2 : List AOper := [
  ⟨some 4, .mov, [.c (.bool false)], none⟩]
def ingotlaw4_BlockRoom_r3 : List AOper := [
  ⟨some 9, .mov, [.t 0], none⟩,
  ⟨some 10, .lens, [.t 9], none⟩,
  ⟨some 11, (.bin .gtr), [.t 10, .c (.int .i64 1000)], none⟩,
  ⟨some 12, .mov, [.t 11], none⟩,
  ⟨some 13, .mov, [.t 1], some (12, false)⟩,
  ⟨some 14, (.bin .lss), [.t 13, .c (.int .i64 0)], some (12, false)⟩,
  ⟨some 15, .pick, [.t 12, .c (.bool true), .t 14], none⟩,
  ⟨some 16, .mov, [.t 15], none⟩,
  ⟨some 17, .mov, [.t 1], some (16, false)⟩,
  ⟨some 18, (.bin .gtr), [.t 17, .c (.int .i64 3000)], some (16, false)⟩,
  ⟨some 19, .pick, [.t 16, .c (.bool true), .t 18], none⟩]
def ingotlaw4_BlockRoom_r4 : List AOper := [
  ⟨some 4, .mov, [.c (.bool true)], none⟩]
def ingotlaw4_BlockRoom_r5 : List AOper := [
  ⟨some 21, .mov, [.t 0], none⟩,
  ⟨some 22, (.call f_lz4_Pack), [.t 21], none⟩,
  ⟨some 23, .mov, [.t 1], none⟩,
  ⟨some 24, (.call f_lz4_Unpack), [.t 22, .t 23], none⟩,
  ⟨some 20, .mov, [.t 24], none⟩,
  ⟨some 25, (.ext 0), [.t 20], none⟩,
  ⟨some 26, (.ext 1), [.t 20], none⟩,
  ⟨some 5, .mov, [.t 25], none⟩,
  ⟨some 6, .mov, [.t 26], none⟩]
def ingotlaw4_BlockRoom_r6 : List AOper := [
  ⟨some 27, .mov, [.t 1], none⟩,
  ⟨some 28, .mov, [.t 0], none⟩,
  ⟨some 29, .lens, [.t 28], none⟩,
  ⟨some 30, (.bin .lss), [.t 27, .t 29], none⟩]
def ingotlaw4_BlockRoom_r7 : List AOper := [
  ⟨some 31, .mov, [.t 6], none⟩,
  ⟨some 32, (.bin .eql), [.t 31, .c (.int .i64 4)], none⟩,
  ⟨some 33, .mov, [.t 32], none⟩,
  ⟨some 34, .mov, [.t 5], some (33, true)⟩,
  ⟨some 35, .lens, [.t 34], some (33, true)⟩,
  ⟨some 36, (.bin .eql), [.t 35, .c (.int .i64 0)], some (33, true)⟩,
  ⟨some 37, .pick, [.t 33, .t 36, .c (.bool false)], none⟩,
  ⟨some 4, .mov, [.t 37], none⟩]
def ingotlaw4_BlockRoom_r8 : List AOper := [
  ⟨some 38, .mov, [.t 6], none⟩,
  ⟨some 39, (.bin .eql), [.t 38, .c (.int .i64 0)], none⟩,
  ⟨some 40, .mov, [.t 39], none⟩,
  ⟨some 41, .mov, [.t 5], some (40, true)⟩,
  ⟨some 42, .b2s, [.t 41], some (40, true)⟩,
  ⟨some 43, .mov, [.t 0], some (40, true)⟩,
  ⟨some 44, .b2s, [.t 43], some (40, true)⟩,
  ⟨some 45, (.bin .eql), [.t 42, .t 44], some (40, true)⟩,
  ⟨some 46, .pick, [.t 40, .t 45, .c (.bool false)], none⟩,
  ⟨some 4, .mov, [.t 46], none⟩]
def ingotlaw4_BlockRoom : AFunc := ⟨47, (.seq (.region ingotlaw4_BlockRoom_r0 [0, 1, 13, 14, 17, 18, 34, 35, 36, 41, 42, 43, 44, 45]) (.seq (.seq (.region ingotlaw4_BlockRoom_r1 [0, 1, 8, 13, 14, 17, 18, 34, 35, 36, 41, 42, 43, 44, 45]) (.cond (.t 8) (.seq (.region ingotlaw4_BlockRoom_r2 [4]) .ret) .skip)) (.seq (.seq (.region ingotlaw4_BlockRoom_r3 [0, 1, 19, 34, 35, 36, 41, 42, 43, 44, 45]) (.cond (.t 19) (.seq (.region ingotlaw4_BlockRoom_r4 [4]) .ret) .skip)) (.seq (.region ingotlaw4_BlockRoom_r5 [0, 1, 5, 6, 34, 35, 36, 41, 42, 43, 44, 45]) (.seq (.seq (.region ingotlaw4_BlockRoom_r6 [0, 5, 6, 30, 34, 35, 36, 41, 42, 43, 44, 45]) (.cond (.t 30) (.seq (.region ingotlaw4_BlockRoom_r7 [4]) .ret) .skip)) (.seq (.region ingotlaw4_BlockRoom_r8 [4]) .ret)))))), [.t 4]⟩
def ingotlaw4_BlockCut_r0 : List AOper := [
  ⟨some 4, .mov, [.c (.bool false)], none⟩]
def ingotlaw4_BlockCut_r1 : List AOper := [
  ⟨some 8, (.call f_ingotlaw4_known), [], none⟩,
  ⟨some 9, .unot, [.t 8], none⟩]
def ingotlaw4_BlockCut_r2 : List AOper := [
  ⟨some 4, .mov, [.c (.bool false)], none⟩]
def ingotlaw4_BlockCut_r3 : List AOper := [
  ⟨some 10, .mov, [.t 0], none⟩,
  ⟨some 11, .lens, [.t 10], none⟩,
  ⟨some 12, (.bin .gtr), [.t 11, .c (.int .i64 1000)], none⟩,
  ⟨some 13, .mov, [.t 12], none⟩,
  ⟨some 14, .mov, [.t 1], some (13, false)⟩,
  ⟨some 15, (.bin .lss), [.t 14, .c (.int .i64 0)], some (13, false)⟩,
  ⟨some 16, .pick, [.t 13, .c (.bool true), .t 15], none⟩]
def ingotlaw4_BlockCut_r4 : List AOper := [
  ⟨some 4, .mov, [.c (.bool true)], none⟩]
def ingotlaw4_BlockCut_r5 : List AOper := [
  ⟨some 17, .mov, [.t 0], none⟩,
  ⟨some 18, (.call f_lz4_Pack), [.t 17], none⟩,
  ⟨some 5, .mov, [.t 18], none⟩]
def ingotlaw4_BlockCut_r6 : List AOper := [
  ⟨some 19, .mov, [.t 5], none⟩,
  ⟨some 20, .lens, [.t 19], none⟩,
  ⟨some 21, (.bin .eql), [.t 20, .c (.int .i64 0)], none⟩]
def ingotlaw4_BlockCut_r7 : List AOper := [
  ⟨some 4, .mov, [.c (.bool false)], none⟩]
def ingotlaw4_BlockCut_r8 : List AOper := [
  ⟨some 23, .mov, [.t 5], none⟩,
  ⟨some 24, .mov, [.t 1], none⟩,
  ⟨some 25, .mov, [.t 5], none⟩,
  ⟨some 26, .lens, [.t 25], none⟩,
  ⟨some 27, (.bin .rem), [.t 24, .t 26], none⟩,
  ⟨some 28, (.slc 1 false true false), [.t 23, .t 27], none⟩,
  ⟨some 29, .mov, [.t 0], none⟩,
  ⟨some 30, .lens, [.t 29], none⟩,
  ⟨some 31, (.call f_lz4_Unpack), [.t 28, .t 30], none⟩,
  ⟨some 22, .mov, [.t 31], none⟩,
  ⟨some 32, (.ext 0), [.t 22], none⟩,
  ⟨some 33, (.ext 1), [.t 22], none⟩,
  ⟨some 6, .mov, [.t 32], none⟩,
  ⟨some 7, .mov, [.t 33], none⟩]
def ingotlaw4_BlockCut_r9 : List AOper := [
  ⟨some 34, .mov, [.t 7], none⟩,
  ⟨some 35, (.bin .neq), [.t 34, .c (.int .i64 0)], none⟩]
def ingotlaw4_BlockCut_r10 : List AOper := [
  ⟨some 36, .mov, [.t 7], none⟩,
  ⟨some 37, (.bin .eql), [.t 36, .c (.int .i64 3)], none⟩,
  ⟨some 38, .mov, [.t 37], none⟩,
  ⟨some 39, .mov, [.t 6], some (38, true)⟩,
  ⟨some 40, .lens, [.t 39], some (38, true)⟩,
  ⟨some 41, (.bin .eql), [.t 40, .c (.int .i64 0)], some (38, true)⟩,
  ⟨some 42, .pick, [.t 38, .t 41, .c (.bool false)], none⟩,
  ⟨some 4, .mov, [.t 42], none⟩]
def ingotlaw4_BlockCut_r11 : List AOper := [
  ⟨some 43, .mov, [.t 6], none⟩,
  ⟨some 44, .lens, [.t 43], none⟩,
  ⟨some 45, .mov, [.t 0], none⟩,
  ⟨some 46, .lens, [.t 45], none⟩,
  ⟨some 47, (.bin .leq), [.t 44, .t 46], none⟩,
  ⟨some 48, .mov, [.t 47], none⟩,
  ⟨some 49, .mov, [.t 6], some (48, true)⟩,
  ⟨some 50, .b2s, [.t 49], some (48, true)⟩,
  ⟨some 51, .mov, [.t 0], some (48, true)⟩,
  ⟨some 52, .mov, [.t 6], some (48, true)⟩,
  ⟨some 53, .lens, [.t 52], some (48, true)⟩,
  ⟨some 54, (.slc 1 false true false), [.t 51, .t 53], some (48, true)⟩,
  ⟨some 55, .b2s, [.t 54], some (48, true)⟩,
  ⟨some 56, (.bin .eql), [.t 50, .t 55], some (48, true)⟩,
  ⟨some 57, .pick, [.t 48, .t 56, .c (.bool false)], none⟩,
  ⟨some 4, .mov, [.t 57], none⟩]
def ingotlaw4_BlockCut : AFunc := ⟨58, (.seq (.region ingotlaw4_BlockCut_r0 [0, 1, 14, 15, 39, 40, 41, 49, 50, 51, 52, 53, 54, 55, 56]) (.seq (.seq (.region ingotlaw4_BlockCut_r1 [0, 1, 9, 14, 15, 39, 40, 41, 49, 50, 51, 52, 53, 54, 55, 56]) (.cond (.t 9) (.seq (.region ingotlaw4_BlockCut_r2 [4]) .ret) .skip)) (.seq (.seq (.region ingotlaw4_BlockCut_r3 [0, 1, 16, 39, 40, 41, 49, 50, 51, 52, 53, 54, 55, 56]) (.cond (.t 16) (.seq (.region ingotlaw4_BlockCut_r4 [4]) .ret) .skip)) (.seq (.region ingotlaw4_BlockCut_r5 [0, 1, 5, 39, 40, 41, 49, 50, 51, 52, 53, 54, 55, 56]) (.seq (.seq (.region ingotlaw4_BlockCut_r6 [0, 1, 5, 21, 39, 40, 41, 49, 50, 51, 52, 53, 54, 55, 56]) (.cond (.t 21) (.seq (.region ingotlaw4_BlockCut_r7 [4]) .ret) .skip)) (.seq (.region ingotlaw4_BlockCut_r8 [0, 6, 7, 39, 40, 41, 49, 50, 51, 52, 53, 54, 55, 56]) (.seq (.seq (.region ingotlaw4_BlockCut_r9 [0, 6, 7, 35, 39, 40, 41, 49, 50, 51, 52, 53, 54, 55, 56]) (.cond (.t 35) (.seq (.region ingotlaw4_BlockCut_r10 [4]) .ret) .skip)) (.seq (.region ingotlaw4_BlockCut_r11 [4]) .ret)))))))), [.t 4]⟩
def ingotlaw4_BlockCopies_r0 : List AOper := [
  ⟨some 4, .mov, [.c (.bool false)], none⟩]
def ingotlaw4_BlockCopies_r1 : List AOper := [
  ⟨some 11, (.call f_ingotlaw4_known), [], none⟩,
  ⟨some 12, .unot, [.t 11], none⟩]
def ingotlaw4_BlockCopies_r2 : List AOper := [
  ⟨some 4, .mov, [.c (.bool false)], none⟩]
def ingotlaw4_BlockCopies_r3 : List AOper := [
  ⟨some 13, .mov, [.t 1], none⟩,
  ⟨some 14, (.bin .lss), [.t 13, .c (.int .i64 4)], none⟩,
  ⟨some 15, .mov, [.t 14], none⟩,
  ⟨some 16, .mov, [.t 1], some (15, false)⟩,
  ⟨some 17, (.bin .gtr), [.t 16, .c (.int .i64 5000)], some (15, false)⟩,
  ⟨some 18, .pick, [.t 15, .c (.bool true), .t 17], none⟩]
def ingotlaw4_BlockCopies_r4 : List AOper := [
  ⟨some 4, .mov, [.c (.bool true)], none⟩]
def ingotlaw4_BlockCopies_r5 : List AOper := [
  ⟨some 20, .mov, [.t 1], none⟩,
  ⟨some 21, (.bin .sub), [.t 20, .c (.int .i64 4)], none⟩,
  ⟨some 22, (.call f_ingotlaw4_lay), [.t 21], none⟩,
  ⟨some 19, .mov, [.t 22], none⟩,
  ⟨some 23, (.ext 0), [.t 19], none⟩,
  ⟨some 24, (.ext 1), [.t 19], none⟩,
  ⟨some 5, .mov, [.t 23], none⟩,
  ⟨some 6, .mov, [.t 24], none⟩]
def ingotlaw4_BlockCopies_r6 : List AOper := [
  ⟨some 25, .mov, [.t 5], none⟩,
  ⟨some 26, (.bin .or), [.c (.int .i64 16), .t 25], none⟩,
  ⟨some 27, (.conv .u8), [.t 26], none⟩,
  ⟨some 28, .mov, [.t 0], none⟩,
  ⟨some 29, (.bsl 1), [.t 27, .t 28, .c (.int .u8 1), .c (.int .u8 0)], none⟩,
  ⟨some 30, .mov, [.t 6], none⟩,
  ⟨some 31, (.app 1 1), [.t 29, .t 30], none⟩,
  ⟨some 7, .mov, [.t 31], none⟩]
def ingotlaw4_BlockCopies_r7 : List AOper := [
  ⟨some 32, .mov, [.t 7], none⟩,
  ⟨some 33, (.bsl 1), [.c (.int .u8 0)], none⟩,
  ⟨some 34, (.app 1 1), [.t 32, .t 33], none⟩,
  ⟨some 7, .mov, [.t 34], none⟩]
def ingotlaw4_BlockCopies_r8 : List AOper := [
  ⟨some 36, .mov, [.t 7], none⟩,
  ⟨some 37, .mov, [.t 1], none⟩,
  ⟨some 38, (.bin .add), [.t 37, .c (.int .i64 1)], none⟩,
  ⟨some 39, (.call f_lz4_Unpack), [.t 36, .t 38], none⟩,
  ⟨some 35, .mov, [.t 39], none⟩,
  ⟨some 40, (.ext 0), [.t 35], none⟩,
  ⟨some 41, (.ext 1), [.t 35], none⟩,
  ⟨some 8, .mov, [.t 40], none⟩,
  ⟨some 9, .mov, [.t 41], none⟩]
def ingotlaw4_BlockCopies_r9 : List AOper := [
  ⟨some 42, .mov, [.t 9], none⟩,
  ⟨some 43, (.bin .neq), [.t 42, .c (.int .i64 0)], none⟩,
  ⟨some 44, .mov, [.t 43], none⟩,
  ⟨some 45, .mov, [.t 8], some (44, false)⟩,
  ⟨some 46, .lens, [.t 45], some (44, false)⟩,
  ⟨some 47, .mov, [.t 1], some (44, false)⟩,
  ⟨some 48, (.bin .add), [.t 47, .c (.int .i64 1)], some (44, false)⟩,
  ⟨some 49, (.bin .neq), [.t 46, .t 48], some (44, false)⟩,
  ⟨some 50, .pick, [.t 44, .c (.bool true), .t 49], none⟩]
def ingotlaw4_BlockCopies_r10 : List AOper := [
  ⟨some 4, .mov, [.c (.bool false)], none⟩]
def ingotlaw4_BlockCopies_r11 : List AOper := [
  ⟨some 10, .mov, [.c (.int .i64 0)], none⟩]
def ingotlaw4_BlockCopies_r12 : List AOper := [
  ⟨some 51, .mov, [.t 10], none⟩,
  ⟨some 52, .mov, [.t 8], none⟩,
  ⟨some 53, .lens, [.t 52], none⟩,
  ⟨some 54, (.bin .lss), [.t 51, .t 53], none⟩]
def ingotlaw4_BlockCopies_r13 : List AOper := [
  ⟨some 57, .mov, [.t 8], none⟩,
  ⟨some 58, .mov, [.t 10], none⟩,
  ⟨some 59, (.iad 1), [.t 57, .t 58], none⟩,
  ⟨some 60, (.load false 1), [.t 59], none⟩,
  ⟨some 61, .mov, [.t 0], none⟩,
  ⟨some 62, (.bin .neq), [.t 60, .t 61], none⟩]
def ingotlaw4_BlockCopies_r14 : List AOper := [
  ⟨some 4, .mov, [.c (.bool false)], none⟩]
def ingotlaw4_BlockCopies_r15 : List AOper := [
  ⟨some 55, .mov, [.t 10], none⟩,
  ⟨some 56, (.bin .add), [.t 55, .c (.int .i64 1)], none⟩,
  ⟨some 10, .mov, [.t 56], none⟩]
def ingotlaw4_BlockCopies_l0 : ACode := (.seq (.seq (.region ingotlaw4_BlockCopies_r12 [0, 8, 10, 54]) (.cond (.t 54) .skip (.exit 0))) (.seq (.block 1 (.seq (.region ingotlaw4_BlockCopies_r13 [0, 8, 10, 62]) (.cond (.t 62) (.seq (.region ingotlaw4_BlockCopies_r14 [4]) .ret) .skip))) (.region ingotlaw4_BlockCopies_r15 [0, 8, 10])))
def ingotlaw4_BlockCopies_r16 : List AOper := [
  ⟨some 4, .mov, [.c (.bool true)], none⟩]
def ingotlaw4_BlockCopies : AFunc := ⟨63, (.seq (.region ingotlaw4_BlockCopies_r0 [0, 1, 16, 17, 45, 46, 47, 48, 49]) (.seq (.seq (.region ingotlaw4_BlockCopies_r1 [0, 1, 12, 16, 17, 45, 46, 47, 48, 49]) (.cond (.t 12) (.seq (.region ingotlaw4_BlockCopies_r2 [4]) .ret) .skip)) (.seq (.seq (.region ingotlaw4_BlockCopies_r3 [0, 1, 18, 45, 46, 47, 48, 49]) (.cond (.t 18) (.seq (.region ingotlaw4_BlockCopies_r4 [4]) .ret) .skip)) (.seq (.region ingotlaw4_BlockCopies_r5 [0, 1, 5, 6, 45, 46, 47, 48, 49]) (.seq (.region ingotlaw4_BlockCopies_r6 [0, 1, 7, 45, 46, 47, 48, 49]) (.seq (.region ingotlaw4_BlockCopies_r7 [0, 1, 7, 45, 46, 47, 48, 49]) (.seq (.region ingotlaw4_BlockCopies_r8 [0, 1, 8, 9, 45, 46, 47, 48, 49]) (.seq (.seq (.region ingotlaw4_BlockCopies_r9 [0, 8, 50]) (.cond (.t 50) (.seq (.region ingotlaw4_BlockCopies_r10 [4]) .ret) .skip)) (.seq (.seq (.region ingotlaw4_BlockCopies_r11 [0, 8, 10]) (.block 0 (.loop ingotlaw4_BlockCopies_l0))) (.seq (.region ingotlaw4_BlockCopies_r16 [4]) .ret)))))))))), [.t 4]⟩
def ingotlaw4_BlockBack_r0 : List AOper := [
  ⟨some 2, .mov, [.c (.bool false)], none⟩]
def ingotlaw4_BlockBack_r1 : List AOper := [
  ⟨some 10, (.call f_ingotlaw4_known), [], none⟩,
  ⟨some 11, .unot, [.t 10], none⟩]
def ingotlaw4_BlockBack_r2 : List AOper := [
  ⟨some 2, .mov, [.c (.bool false)], none⟩]
def ingotlaw4_BlockBack_r3 : List AOper := [
  ⟨some 12, .mov, [.t 0], none⟩,
  ⟨some 13, .lens, [.t 12], none⟩,
  ⟨some 14, (.bin .gtr), [.t 13, .c (.int .i64 3000)], none⟩]
def ingotlaw4_BlockBack_r4 : List AOper := [
  ⟨some 2, .mov, [.c (.bool true)], none⟩]
def ingotlaw4_BlockBack_r5 : List AOper := [
  ⟨some 15, .mov, [.t 0], none⟩,
  ⟨some 16, (.call f_lz4_Pack), [.t 15], none⟩,
  ⟨some 3, .mov, [.t 16], none⟩]
def ingotlaw4_BlockBack_r6 : List AOper := [
  ⟨some 18, .mov, [.t 3], none⟩,
  ⟨some 19, .mov, [.t 0], none⟩,
  ⟨some 20, .lens, [.t 19], none⟩,
  ⟨some 21, (.call f_lz4_Unpack), [.t 18, .t 20], none⟩,
  ⟨some 17, .mov, [.t 21], none⟩,
  ⟨some 22, (.ext 0), [.t 17], none⟩,
  ⟨some 23, (.ext 1), [.t 17], none⟩,
  ⟨some 4, .mov, [.t 22], none⟩,
  ⟨some 5, .mov, [.t 23], none⟩]
def ingotlaw4_BlockBack_r7 : List AOper := [
  ⟨some 25, .mov, [.t 3], none⟩,
  ⟨some 26, .mov, [.t 0], none⟩,
  ⟨some 27, .lens, [.t 26], none⟩,
  ⟨some 28, (.call f_ingotref4_Unpack), [.t 25, .t 27], none⟩,
  ⟨some 24, .mov, [.t 28], none⟩,
  ⟨some 29, (.ext 0), [.t 24], none⟩,
  ⟨some 30, (.ext 1), [.t 24], none⟩,
  ⟨some 6, .mov, [.t 29], none⟩,
  ⟨some 7, .mov, [.t 30], none⟩]
def ingotlaw4_BlockBack_r8 : List AOper := [
  ⟨some 31, .mov, [.t 4], none⟩,
  ⟨some 32, .b2s, [.t 31], none⟩,
  ⟨some 33, .mov, [.t 0], none⟩,
  ⟨some 34, .b2s, [.t 33], none⟩,
  ⟨some 35, (.bin .neq), [.t 32, .t 34], none⟩,
  ⟨some 36, .mov, [.t 35], none⟩,
  ⟨some 37, .mov, [.t 5], some (36, false)⟩,
  ⟨some 38, (.bin .neq), [.t 37, .c (.int .i64 0)], some (36, false)⟩,
  ⟨some 39, .pick, [.t 36, .c (.bool true), .t 38], none⟩,
  ⟨some 40, .mov, [.t 39], none⟩,
  ⟨some 41, .mov, [.t 6], some (40, false)⟩,
  ⟨some 42, .b2s, [.t 41], some (40, false)⟩,
  ⟨some 43, .mov, [.t 0], some (40, false)⟩,
  ⟨some 44, .b2s, [.t 43], some (40, false)⟩,
  ⟨some 45, (.bin .neq), [.t 42, .t 44], some (40, false)⟩,
  ⟨some 46, .pick, [.t 40, .c (.bool true), .t 45], none⟩,
  ⟨some 47, .mov, [.t 46], none⟩,
  ⟨some 48, .mov, [.t 7], some (47, false)⟩,
  ⟨some 49, (.bin .neq), [.t 48, .c (.int .i64 0)], some (47, false)⟩,
  ⟨some 50, .pick, [.t 47, .c (.bool true), .t 49], none⟩,
  ⟨some 51, .mov, [.t 50], none⟩,
  ⟨some 52, .mov, [.t 3], some (51, false)⟩,
  ⟨some 53, .lens, [.t 52], some (51, false)⟩,
  ⟨some 54, .mov, [.t 0], some (51, false)⟩,
  ⟨some 55, .lens, [.t 54], some (51, false)⟩,
  ⟨some 56, (.call f_lz4_Bound), [.t 55], some (51, false)⟩,
  ⟨some 57, (.bin .gtr), [.t 53, .t 56], some (51, false)⟩,
  ⟨some 58, .pick, [.t 51, .c (.bool true), .t 57], none⟩,
  ⟨some 59, .mov, [.t 58], none⟩,
  ⟨some 60, .mov, [.t 0], some (59, false)⟩,
  ⟨some 61, .lens, [.t 60], some (59, false)⟩,
  ⟨some 62, (.call f_lz4_Bound), [.t 61], some (59, false)⟩,
  ⟨some 63, .mov, [.t 0], some (59, false)⟩,
  ⟨some 64, .lens, [.t 63], some (59, false)⟩,
  ⟨some 65, (.call f_ingotref4_Bound), [.t 64], some (59, false)⟩,
  ⟨some 66, (.bin .neq), [.t 62, .t 65], some (59, false)⟩,
  ⟨some 67, .pick, [.t 59, .c (.bool true), .t 66], none⟩]
def ingotlaw4_BlockBack_r9 : List AOper := [
  ⟨some 2, .mov, [.c (.bool false)], none⟩]
def ingotlaw4_BlockBack_r10 : List AOper := [
  ⟨some 68, .mov, [.t 0], none⟩,
  ⟨some 69, .lens, [.t 68], none⟩,
  ⟨some 70, (.bin .eql), [.t 69, .c (.int .i64 0)], none⟩]
def ingotlaw4_BlockBack_r11 : List AOper := [
  ⟨some 2, .mov, [.c (.bool true)], none⟩]
def ingotlaw4_BlockBack_r12 : List AOper := [
  ⟨some 72, .mov, [.t 3], none⟩,
  ⟨some 73, .mov, [.t 0], none⟩,
  ⟨some 74, .lens, [.t 73], none⟩,
  ⟨some 75, (.bin .sub), [.t 74, .c (.int .i64 1)], none⟩,
  ⟨some 76, (.call f_lz4_Unpack), [.t 72, .t 75], none⟩,
  ⟨some 71, .mov, [.t 76], none⟩,
  ⟨some 77, (.ext 0), [.t 71], none⟩,
  ⟨some 78, (.ext 1), [.t 71], none⟩,
  ⟨some 8, .mov, [.t 77], none⟩,
  ⟨some 9, .mov, [.t 78], none⟩]
def ingotlaw4_BlockBack_r13 : List AOper := [
  ⟨some 79, .mov, [.t 9], none⟩,
  ⟨some 80, (.bin .eql), [.t 79, .c (.int .i64 4)], none⟩,
  ⟨some 2, .mov, [.t 80], none⟩]
def ingotlaw4_BlockBack : AFunc := ⟨81, (.seq (.region ingotlaw4_BlockBack_r0 [0, 37, 38, 41, 42, 43, 44, 45, 48, 49, 52, 53, 54, 55, 56, 57, 60, 61, 62, 63, 64, 65, 66]) (.seq (.seq (.region ingotlaw4_BlockBack_r1 [0, 11, 37, 38, 41, 42, 43, 44, 45, 48, 49, 52, 53, 54, 55, 56, 57, 60, 61, 62, 63, 64, 65, 66]) (.cond (.t 11) (.seq (.region ingotlaw4_BlockBack_r2 [2]) .ret) .skip)) (.seq (.seq (.region ingotlaw4_BlockBack_r3 [0, 14, 37, 38, 41, 42, 43, 44, 45, 48, 49, 52, 53, 54, 55, 56, 57, 60, 61, 62, 63, 64, 65, 66]) (.cond (.t 14) (.seq (.region ingotlaw4_BlockBack_r4 [2]) .ret) .skip)) (.seq (.region ingotlaw4_BlockBack_r5 [0, 3, 37, 38, 41, 42, 43, 44, 45, 48, 49, 52, 53, 54, 55, 56, 57, 60, 61, 62, 63, 64, 65, 66]) (.seq (.region ingotlaw4_BlockBack_r6 [0, 3, 4, 5, 37, 38, 41, 42, 43, 44, 45, 48, 49, 52, 53, 54, 55, 56, 57, 60, 61, 62, 63, 64, 65, 66]) (.seq (.region ingotlaw4_BlockBack_r7 [0, 3, 4, 5, 6, 7, 37, 38, 41, 42, 43, 44, 45, 48, 49, 52, 53, 54, 55, 56, 57, 60, 61, 62, 63, 64, 65, 66]) (.seq (.seq (.region ingotlaw4_BlockBack_r8 [0, 3, 67]) (.cond (.t 67) (.seq (.region ingotlaw4_BlockBack_r9 [2]) .ret) .skip)) (.seq (.seq (.region ingotlaw4_BlockBack_r10 [0, 3, 70]) (.cond (.t 70) (.seq (.region ingotlaw4_BlockBack_r11 [2]) .ret) .skip)) (.seq (.region ingotlaw4_BlockBack_r12 [9]) (.seq (.region ingotlaw4_BlockBack_r13 [2]) .ret)))))))))), [.t 2]⟩
def ingotlaw4_BlockBounds_r0 : List AOper := [
  ⟨some 2, .mov, [.c (.bool false)], none⟩]
def ingotlaw4_BlockBounds_r1 : List AOper := [
  ⟨some 4, (.call f_ingotlaw4_known), [], none⟩,
  ⟨some 5, .unot, [.t 4], none⟩]
def ingotlaw4_BlockBounds_r2 : List AOper := [
  ⟨some 2, .mov, [.c (.bool false)], none⟩]
def ingotlaw4_BlockBounds_r3 : List AOper := [
  ⟨some 6, .mov, [.t 0], none⟩,
  ⟨some 7, (.bin .gtr), [.t 6, .c (.int .i64 1099511627776)], none⟩]
def ingotlaw4_BlockBounds_r4 : List AOper := [
  ⟨some 2, .mov, [.c (.bool true)], none⟩]
def ingotlaw4_BlockBounds_r5 : List AOper := [
  ⟨some 8, .mov, [.t 0], none⟩,
  ⟨some 9, (.call f_lz4_Bound), [.t 8], none⟩,
  ⟨some 3, .mov, [.t 9], none⟩]
def ingotlaw4_BlockBounds_r6 : List AOper := [
  ⟨some 10, .mov, [.t 3], none⟩,
  ⟨some 11, .mov, [.t 0], none⟩,
  ⟨some 12, (.call f_ingotref4_Bound), [.t 11], none⟩,
  ⟨some 13, (.bin .eql), [.t 10, .t 12], none⟩,
  ⟨some 14, .mov, [.t 13], none⟩,
  ⟨some 15, .mov, [.t 3], some (14, true)⟩,
  ⟨some 16, (.bin .geq), [.t 15, .c (.int .i64 16)], some (14, true)⟩,
  ⟨some 17, .pick, [.t 14, .t 16, .c (.bool false)], none⟩,
  ⟨some 18, .mov, [.t 17], none⟩,
  ⟨some 19, .mov, [.t 0], some (18, true)⟩,
  ⟨some 20, (.bin .lss), [.t 19, .c (.int .i64 0)], some (18, true)⟩,
  ⟨some 21, .mov, [.t 20], some (18, true)⟩,
  ⟨some 22, .mov, [.t 3], some (21, false)⟩,
  ⟨some 23, .mov, [.t 0], some (21, false)⟩,
  ⟨some 24, (.bin .add), [.t 23, .c (.int .i64 16)], some (21, false)⟩,
  ⟨some 25, (.bin .geq), [.t 22, .t 24], some (21, false)⟩,
  ⟨some 26, .mov, [.t 25], some (21, false)⟩,
  ⟨some 27, .mov, [.t 3], some (26, true)⟩,
  ⟨some 28, .mov, [.t 0], some (26, true)⟩,
  ⟨some 29, (.bin .sub), [.t 27, .t 28], some (26, true)⟩,
  ⟨some 30, .mov, [.t 0], some (26, true)⟩,
  ⟨some 31, (.bin .quo), [.t 30, .c (.int .i64 255)], some (26, true)⟩,
  ⟨some 32, (.bin .add), [.t 31, .c (.int .i64 16)], some (26, true)⟩,
  ⟨some 33, (.bin .leq), [.t 29, .t 32], some (26, true)⟩,
  ⟨some 34, .pick, [.t 26, .t 33, .c (.bool false)], some (21, false)⟩,
  ⟨some 35, .pick, [.t 21, .c (.bool true), .t 34], some (18, true)⟩,
  ⟨some 36, .pick, [.t 18, .t 35, .c (.bool false)], none⟩,
  ⟨some 2, .mov, [.t 36], none⟩]
def ingotlaw4_BlockBounds : AFunc := ⟨37, (.seq (.region ingotlaw4_BlockBounds_r0 [0, 15, 16, 19, 20, 21, 22, 23, 24, 25, 26, 27, 28, 29, 30, 31, 32, 33, 34, 35]) (.seq (.seq (.region ingotlaw4_BlockBounds_r1 [0, 5, 15, 16, 19, 20, 21, 22, 23, 24, 25, 26, 27, 28, 29, 30, 31, 32, 33, 34, 35]) (.cond (.t 5) (.seq (.region ingotlaw4_BlockBounds_r2 [2]) .ret) .skip)) (.seq (.seq (.region ingotlaw4_BlockBounds_r3 [0, 7, 15, 16, 19, 20, 21, 22, 23, 24, 25, 26, 27, 28, 29, 30, 31, 32, 33, 34, 35]) (.cond (.t 7) (.seq (.region ingotlaw4_BlockBounds_r4 [2]) .ret) .skip)) (.seq (.region ingotlaw4_BlockBounds_r5 [0, 3, 15, 16, 19, 20, 21, 22, 23, 24, 25, 26, 27, 28, 29, 30, 31, 32, 33, 34, 35]) (.seq (.region ingotlaw4_BlockBounds_r6 [2]) .ret))))), [.t 2]⟩
def ingotlaw5_ChunkBytes_r0 : List AOper := [
  ⟨some 10, .mov, [.c (.bool false)], none⟩]
def ingotlaw5_ChunkBytes_r1 : List AOper := [
  ⟨some 25, (.call f_ingotlaw5_known), [], none⟩,
  ⟨some 26, .unot, [.t 25], none⟩]
def ingotlaw5_ChunkBytes_r2 : List AOper := [
  ⟨some 10, .mov, [.c (.bool false)], none⟩]
def ingotlaw5_ChunkBytes_r3 : List AOper := [
  ⟨some 27, .mov, [.t 0], none⟩,
  ⟨some 28, .lens, [.t 27], none⟩,
  ⟨some 29, (.bin .gtr), [.t 28, .c (.int .i64 3000)], none⟩,
  ⟨some 30, .mov, [.t 29], none⟩,
  ⟨some 31, .mov, [.t 2], some (30, false)⟩,
  ⟨some 32, (.bin .gtr), [.t 31, .c (.int .i64 4000)], some (30, false)⟩,
  ⟨some 33, .mov, [.t 32], some (30, false)⟩,
  ⟨some 34, .mov, [.t 2], some (33, true)⟩,
  ⟨some 35, (.bin .leq), [.t 34, .c (.int .i64 65536)], some (33, true)⟩,
  ⟨some 36, .pick, [.t 33, .t 35, .c (.bool false)], some (30, false)⟩,
  ⟨some 37, .pick, [.t 30, .c (.bool true), .t 36], none⟩,
  ⟨some 38, .mov, [.t 37], none⟩,
  ⟨some 39, .mov, [.t 3], some (38, false)⟩,
  ⟨some 40, (.bin .gtr), [.t 39, .c (.int .i64 20000)], some (38, false)⟩,
  ⟨some 41, .mov, [.t 40], some (38, false)⟩,
  ⟨some 42, .mov, [.t 3], some (41, true)⟩,
  ⟨some 43, (.bin .leq), [.t 42, .c (.int .i64 262144)], some (41, true)⟩,
  ⟨some 44, .pick, [.t 41, .t 43, .c (.bool false)], some (38, false)⟩,
  ⟨some 45, .pick, [.t 38, .c (.bool true), .t 44], none⟩]
def ingotlaw5_ChunkBytes_r4 : List AOper := [
  ⟨some 10, .mov, [.c (.bool true)], none⟩]
def ingotlaw5_ChunkBytes_r5 : List AOper := [
  ⟨some 47, .mov, [.t 0], none⟩,
  ⟨some 48, .mov, [.t 1], none⟩,
  ⟨some 49, .mov, [.t 2], none⟩,
  ⟨some 50, .mov, [.t 3], none⟩,
  ⟨some 51, (.call f_chunk_Decode), [.t 47, .t 48, .t 49, .t 50], none⟩,
  ⟨some 46, .mov, [.t 51], none⟩,
  ⟨some 52, (.ext 0), [.t 46], none⟩,
  ⟨some 53, (.ext 1), [.t 46], none⟩,
  ⟨some 11, .mov, [.t 52], none⟩,
  ⟨some 12, .mov, [.t 53], none⟩]
def ingotlaw5_ChunkBytes_r6 : List AOper := [
  ⟨some 55, .mov, [.t 0], none⟩,
  ⟨some 56, .mov, [.t 1], none⟩,
  ⟨some 57, .mov, [.t 2], none⟩,
  ⟨some 58, .mov, [.t 3], none⟩,
  ⟨some 59, (.call f_ingotref5_Decode), [.t 55, .t 56, .t 57, .t 58], none⟩,
  ⟨some 54, .mov, [.t 59], none⟩,
  ⟨some 60, (.ext 0), [.t 54], none⟩,
  ⟨some 61, (.ext 1), [.t 54], none⟩,
  ⟨some 13, .mov, [.t 60], none⟩,
  ⟨some 14, .mov, [.t 61], none⟩]
def ingotlaw5_ChunkBytes_r7 : List AOper := [
  ⟨some 63, .mov, [.t 0], none⟩,
  ⟨some 64, .mov, [.t 1], none⟩,
  ⟨some 65, (.call f_chunk_Count), [.t 63, .t 64], none⟩,
  ⟨some 62, .mov, [.t 65], none⟩,
  ⟨some 66, (.ext 0), [.t 62], none⟩,
  ⟨some 67, (.ext 1), [.t 62], none⟩,
  ⟨some 15, .mov, [.t 66], none⟩,
  ⟨some 16, .mov, [.t 67], none⟩]
def ingotlaw5_ChunkBytes_r8 : List AOper := [
  ⟨some 69, .mov, [.t 0], none⟩,
  ⟨some 70, .mov, [.t 1], none⟩,
  ⟨some 71, (.call f_ingotref5_Count), [.t 69, .t 70], none⟩,
  ⟨some 68, .mov, [.t 71], none⟩,
  ⟨some 72, (.ext 0), [.t 68], none⟩,
  ⟨some 73, (.ext 1), [.t 68], none⟩,
  ⟨some 17, .mov, [.t 72], none⟩,
  ⟨some 18, .mov, [.t 73], none⟩]
def ingotlaw5_ChunkBytes_r9 : List AOper := [
  ⟨some 75, .mov, [.t 0], none⟩,
  ⟨some 76, .mov, [.t 4], none⟩,
  ⟨some 77, (.call f_chunk_Parse), [.t 75, .t 76], none⟩,
  ⟨some 74, .mov, [.t 77], none⟩,
  ⟨some 78, (.ext 0), [.t 74], none⟩,
  ⟨some 79, (.ext 1), [.t 74], none⟩,
  ⟨some 80, (.ext 2), [.t 74], none⟩,
  ⟨some 19, .mov, [.t 78], none⟩,
  ⟨some 20, .mov, [.t 79], none⟩,
  ⟨some 21, .mov, [.t 80], none⟩]
def ingotlaw5_ChunkBytes_r10 : List AOper := [
  ⟨some 82, .mov, [.t 0], none⟩,
  ⟨some 83, .mov, [.t 4], none⟩,
  ⟨some 84, (.call f_ingotref5_Parse), [.t 82, .t 83], none⟩,
  ⟨some 81, .mov, [.t 84], none⟩,
  ⟨some 85, (.ext 0), [.t 81], none⟩,
  ⟨some 86, (.ext 1), [.t 81], none⟩,
  ⟨some 87, (.ext 2), [.t 81], none⟩,
  ⟨some 22, .mov, [.t 85], none⟩,
  ⟨some 23, .mov, [.t 86], none⟩,
  ⟨some 24, .mov, [.t 87], none⟩]
def ingotlaw5_ChunkBytes_r11 : List AOper := [
  ⟨some 88, .mov, [.t 11], none⟩,
  ⟨some 89, .b2s, [.t 88], none⟩,
  ⟨some 90, .mov, [.t 13], none⟩,
  ⟨some 91, .b2s, [.t 90], none⟩,
  ⟨some 92, (.bin .eql), [.t 89, .t 91], none⟩,
  ⟨some 93, .mov, [.t 92], none⟩,
  ⟨some 94, .mov, [.t 12], some (93, true)⟩,
  ⟨some 95, .mov, [.t 14], some (93, true)⟩,
  ⟨some 96, (.bin .eql), [.t 94, .t 95], some (93, true)⟩,
  ⟨some 97, .pick, [.t 93, .t 96, .c (.bool false)], none⟩,
  ⟨some 98, .mov, [.t 97], none⟩,
  ⟨some 99, .mov, [.t 15], some (98, true)⟩,
  ⟨some 100, .mov, [.t 17], some (98, true)⟩,
  ⟨some 101, (.bin .eql), [.t 99, .t 100], some (98, true)⟩,
  ⟨some 102, .pick, [.t 98, .t 101, .c (.bool false)], none⟩,
  ⟨some 103, .mov, [.t 102], none⟩,
  ⟨some 104, .mov, [.t 16], some (103, true)⟩,
  ⟨some 105, .mov, [.t 18], some (103, true)⟩,
  ⟨some 106, (.bin .eql), [.t 104, .t 105], some (103, true)⟩,
  ⟨some 107, .pick, [.t 103, .t 106, .c (.bool false)], none⟩,
  ⟨some 108, .mov, [.t 107], none⟩,
  ⟨some 109, .mov, [.t 19], some (108, true)⟩,
  ⟨some 110, .mov, [.t 22], some (108, true)⟩,
  ⟨some 111, (.bin .eql), [.t 109, .t 110], some (108, true)⟩,
  ⟨some 112, .pick, [.t 108, .t 111, .c (.bool false)], none⟩,
  ⟨some 113, .mov, [.t 112], none⟩,
  ⟨some 114, .mov, [.t 20], some (113, true)⟩,
  ⟨some 115, .mov, [.t 23], some (113, true)⟩,
  ⟨some 116, (.binb .eql), [.t 114, .t 115], some (113, true)⟩,
  ⟨some 117, .pick, [.t 113, .t 116, .c (.bool false)], none⟩,
  ⟨some 118, .mov, [.t 117], none⟩,
  ⟨some 119, .mov, [.t 21], some (118, true)⟩,
  ⟨some 120, .mov, [.t 24], some (118, true)⟩,
  ⟨some 121, (.bin .eql), [.t 119, .t 120], some (118, true)⟩,
  ⟨some 122, .pick, [.t 118, .t 121, .c (.bool false)], none⟩,
  ⟨some 10, .mov, [.t 122], none⟩]
def ingotlaw5_ChunkBytes : AFunc := ⟨123, (.seq (.region ingotlaw5_ChunkBytes_r0 [0, 1, 2, 3, 4, 31, 32, 33, 34, 35, 36, 39, 40, 41, 42, 43, 44, 94, 95, 96, 99, 100, 101, 104, 105, 106, 109, 110, 111, 114, 115, 116, 119, 120, 121]) (.seq (.seq (.region ingotlaw5_ChunkBytes_r1 [0, 1, 2, 3, 4, 26, 31, 32, 33, 34, 35, 36, 39, 40, 41, 42, 43, 44, 94, 95, 96, 99, 100, 101, 104, 105, 106, 109, 110, 111, 114, 115, 116, 119, 120, 121]) (.cond (.t 26) (.seq (.region ingotlaw5_ChunkBytes_r2 [10]) .ret) .skip)) (.seq (.seq (.region ingotlaw5_ChunkBytes_r3 [0, 1, 2, 3, 4, 45, 94, 95, 96, 99, 100, 101, 104, 105, 106, 109, 110, 111, 114, 115, 116, 119, 120, 121]) (.cond (.t 45) (.seq (.region ingotlaw5_ChunkBytes_r4 [10]) .ret) .skip)) (.seq (.region ingotlaw5_ChunkBytes_r5 [0, 1, 2, 3, 4, 11, 12, 94, 95, 96, 99, 100, 101, 104, 105, 106, 109, 110, 111, 114, 115, 116, 119, 120, 121]) (.seq (.region ingotlaw5_ChunkBytes_r6 [0, 1, 4, 11, 12, 13, 14, 94, 95, 96, 99, 100, 101, 104, 105, 106, 109, 110, 111, 114, 115, 116, 119, 120, 121]) (.seq (.region ingotlaw5_ChunkBytes_r7 [0, 1, 4, 11, 12, 13, 14, 15, 16, 94, 95, 96, 99, 100, 101, 104, 105, 106, 109, 110, 111, 114, 115, 116, 119, 120, 121]) (.seq (.region ingotlaw5_ChunkBytes_r8 [0, 4, 11, 12, 13, 14, 15, 16, 17, 18, 94, 95, 96, 99, 100, 101, 104, 105, 106, 109, 110, 111, 114, 115, 116, 119, 120, 121]) (.seq (.region ingotlaw5_ChunkBytes_r9 [0, 4, 11, 12, 13, 14, 15, 16, 17, 18, 19, 20, 21, 94, 95, 96, 99, 100, 101, 104, 105, 106, 109, 110, 111, 114, 115, 116, 119, 120, 121]) (.seq (.region ingotlaw5_ChunkBytes_r10 [11, 12, 13, 14, 15, 16, 17, 18, 19, 20, 21, 22, 23, 24, 94, 95, 96, 99, 100, 101, 104, 105, 106, 109, 110, 111, 114, 115, 116, 119, 120, 121]) (.seq (.region ingotlaw5_ChunkBytes_r11 [10]) .ret)))))))))), [.t 10]⟩
def ingotlaw5_ChunkBack_r0 : List AOper := [
  ⟨some 6, .mov, [.c (.bool false)], none⟩]
def ingotlaw5_ChunkBack_r1 : List AOper := [
  ⟨some 18, (.call f_ingotlaw5_known), [], none⟩,
  ⟨some 19, .unot, [.t 18], none⟩]
def ingotlaw5_ChunkBack_r2 : List AOper := [
  ⟨some 6, .mov, [.c (.bool false)], none⟩]
def ingotlaw5_ChunkBack_r3 : List AOper := [
  ⟨some 20, .mov, [.t 0], none⟩,
  ⟨some 21, .lens, [.t 20], none⟩,
  ⟨some 22, (.bin .gtr), [.t 21, .c (.int .i64 3000)], none⟩]
def ingotlaw5_ChunkBack_r4 : List AOper := [
  ⟨some 6, .mov, [.c (.bool true)], none⟩]
def ingotlaw5_ChunkBack_r5 : List AOper := [
  ⟨some 24, .mov, [.t 0], none⟩,
  ⟨some 25, .mov, [.t 1], none⟩,
  ⟨some 26, .mov, [.t 2], none⟩,
  ⟨some 27, (.call f_chunk_Encode), [.t 24, .t 25, .t 26], none⟩,
  ⟨some 23, .mov, [.t 27], none⟩,
  ⟨some 28, (.ext 0), [.t 23], none⟩,
  ⟨some 29, (.ext 1), [.t 23], none⟩,
  ⟨some 7, .mov, [.t 28], none⟩,
  ⟨some 8, .mov, [.t 29], none⟩]
def ingotlaw5_ChunkBack_r6 : List AOper := [
  ⟨some 31, .mov, [.t 0], none⟩,
  ⟨some 32, .mov, [.t 1], none⟩,
  ⟨some 33, .mov, [.t 2], none⟩,
  ⟨some 34, (.call f_ingotref5_Encode), [.t 31, .t 32, .t 33], none⟩,
  ⟨some 30, .mov, [.t 34], none⟩,
  ⟨some 35, (.ext 0), [.t 30], none⟩,
  ⟨some 36, (.ext 1), [.t 30], none⟩,
  ⟨some 9, .mov, [.t 35], none⟩,
  ⟨some 10, .mov, [.t 36], none⟩]
def ingotlaw5_ChunkBack_r7 : List AOper := [
  ⟨some 37, .mov, [.t 8], none⟩,
  ⟨some 38, .mov, [.t 10], none⟩,
  ⟨some 39, (.bin .neq), [.t 37, .t 38], none⟩]
def ingotlaw5_ChunkBack_r8 : List AOper := [
  ⟨some 6, .mov, [.c (.bool false)], none⟩]
def ingotlaw5_ChunkBack_r9 : List AOper := [
  ⟨some 40, .mov, [.t 10], none⟩,
  ⟨some 41, (.bin .neq), [.t 40, .c (.int .i64 0)], none⟩]
def ingotlaw5_ChunkBack_r10 : List AOper := [
  ⟨some 42, .mov, [.t 7], none⟩,
  ⟨some 43, .lens, [.t 42], none⟩,
  ⟨some 44, (.bin .eql), [.t 43, .c (.int .i64 0)], none⟩,
  ⟨some 6, .mov, [.t 44], none⟩]
def ingotlaw5_ChunkBack_r11 : List AOper := [
  ⟨some 46, .mov, [.t 7], none⟩,
  ⟨some 47, .mov, [.t 1], none⟩,
  ⟨some 48, .mov, [.t 2], none⟩,
  ⟨some 49, .mov, [.t 0], none⟩,
  ⟨some 50, .lens, [.t 49], none⟩,
  ⟨some 51, (.call f_ingotref5_Decode), [.t 46, .t 47, .t 48, .t 50], none⟩,
  ⟨some 45, .mov, [.t 51], none⟩,
  ⟨some 52, (.ext 0), [.t 45], none⟩,
  ⟨some 53, (.ext 1), [.t 45], none⟩,
  ⟨some 11, .mov, [.t 52], none⟩,
  ⟨some 12, .mov, [.t 53], none⟩]
def ingotlaw5_ChunkBack_r12 : List AOper := [
  ⟨some 55, .mov, [.t 7], none⟩,
  ⟨some 56, .mov, [.t 1], none⟩,
  ⟨some 57, (.call f_ingotref5_Count), [.t 55, .t 56], none⟩,
  ⟨some 54, .mov, [.t 57], none⟩,
  ⟨some 58, (.ext 0), [.t 54], none⟩,
  ⟨some 59, (.ext 1), [.t 54], none⟩,
  ⟨some 13, .mov, [.t 58], none⟩,
  ⟨some 14, .mov, [.t 59], none⟩]
def ingotlaw5_ChunkBack_r13 : List AOper := [
  ⟨some 15, .mov, [.c (.int .i64 0)], none⟩]
def ingotlaw5_ChunkBack_r14 : List AOper := [
  ⟨some 60, .mov, [.t 1], none⟩,
  ⟨some 61, (.bin .eql), [.t 60, .c (.int .i64 4)], none⟩]
def ingotlaw5_ChunkBack_r15 : List AOper := [
  ⟨some 62, .mov, [.t 0], none⟩,
  ⟨some 63, .lens, [.t 62], none⟩,
  ⟨some 64, .mov, [.t 2], none⟩,
  ⟨some 65, (.bin .quo), [.t 63, .t 64], none⟩,
  ⟨some 15, .mov, [.t 65], none⟩]
def ingotlaw5_ChunkBack_r16 : List AOper := [
  ⟨some 66, .mov, [.t 0], none⟩,
  ⟨some 67, .lens, [.t 66], none⟩,
  ⟨some 68, .mov, [.t 2], none⟩,
  ⟨some 69, (.bin .rem), [.t 67, .t 68], none⟩,
  ⟨some 70, (.bin .gtr), [.t 69, .c (.int .i64 0)], none⟩]
def ingotlaw5_ChunkBack_r17 : List AOper := [
  ⟨some 71, .mov, [.t 15], none⟩,
  ⟨some 72, (.bin .add), [.t 71, .c (.int .i64 1)], none⟩,
  ⟨some 15, .mov, [.t 72], none⟩]
def ingotlaw5_ChunkBack_r18 : List AOper := [
  ⟨some 74, .mov, [.t 7], none⟩,
  ⟨some 75, .mov, [.t 1], none⟩,
  ⟨some 76, .mov, [.t 2], none⟩,
  ⟨some 77, .mov, [.t 0], none⟩,
  ⟨some 78, .lens, [.t 77], none⟩,
  ⟨some 79, (.call f_chunk_Decode), [.t 74, .t 75, .t 76, .t 78], none⟩,
  ⟨some 73, .mov, [.t 79], none⟩,
  ⟨some 80, (.ext 0), [.t 73], none⟩,
  ⟨some 81, (.ext 1), [.t 73], none⟩,
  ⟨some 16, .mov, [.t 80], none⟩,
  ⟨some 17, .mov, [.t 81], none⟩]
def ingotlaw5_ChunkBack_r19 : List AOper := [
  ⟨some 82, .mov, [.t 12], none⟩,
  ⟨some 83, (.bin .eql), [.t 82, .c (.int .i64 0)], none⟩,
  ⟨some 84, .mov, [.t 83], none⟩,
  ⟨some 85, .mov, [.t 14], some (84, true)⟩,
  ⟨some 86, (.bin .eql), [.t 85, .c (.int .i64 0)], some (84, true)⟩,
  ⟨some 87, .pick, [.t 84, .t 86, .c (.bool false)], none⟩,
  ⟨some 88, .mov, [.t 87], none⟩,
  ⟨some 89, .mov, [.t 17], some (88, true)⟩,
  ⟨some 90, (.bin .eql), [.t 89, .c (.int .i64 0)], some (88, true)⟩,
  ⟨some 91, .pick, [.t 88, .t 90, .c (.bool false)], none⟩,
  ⟨some 92, .mov, [.t 91], none⟩,
  ⟨some 93, .mov, [.t 11], some (92, true)⟩,
  ⟨some 94, .b2s, [.t 93], some (92, true)⟩,
  ⟨some 95, .mov, [.t 0], some (92, true)⟩,
  ⟨some 96, .b2s, [.t 95], some (92, true)⟩,
  ⟨some 97, (.bin .eql), [.t 94, .t 96], some (92, true)⟩,
  ⟨some 98, .pick, [.t 92, .t 97, .c (.bool false)], none⟩,
  ⟨some 99, .mov, [.t 98], none⟩,
  ⟨some 100, .mov, [.t 16], some (99, true)⟩,
  ⟨some 101, .b2s, [.t 100], some (99, true)⟩,
  ⟨some 102, .mov, [.t 0], some (99, true)⟩,
  ⟨some 103, .b2s, [.t 102], some (99, true)⟩,
  ⟨some 104, (.bin .eql), [.t 101, .t 103], some (99, true)⟩,
  ⟨some 105, .pick, [.t 99, .t 104, .c (.bool false)], none⟩,
  ⟨some 106, .mov, [.t 105], none⟩,
  ⟨some 107, .mov, [.t 13], some (106, true)⟩,
  ⟨some 108, .mov, [.t 15], some (106, true)⟩,
  ⟨some 109, (.bin .eql), [.t 107, .t 108], some (106, true)⟩,
  ⟨some 110, .pick, [.t 106, .t 109, .c (.bool false)], none⟩,
  ⟨some 111, .mov, [.t 110], none⟩,
  ⟨some 112, .mov, [.t 7], some (111, true)⟩,
  ⟨some 113, .lens, [.t 112], some (111, true)⟩,
  ⟨some 114, .mov, [.t 0], some (111, true)⟩,
  ⟨some 115, .lens, [.t 114], some (111, true)⟩,
  ⟨some 116, .mov, [.t 15], some (111, true)⟩,
  ⟨some 117, (.bin .mul), [.c (.int .i64 3), .t 116], some (111, true)⟩,
  ⟨some 118, (.bin .add), [.t 115, .t 117], some (111, true)⟩,
  ⟨some 119, (.bin .leq), [.t 113, .t 118], some (111, true)⟩,
  ⟨some 120, .pick, [.t 111, .t 119, .c (.bool false)], none⟩,
  ⟨some 6, .mov, [.t 120], none⟩]
def ingotlaw5_ChunkBack : AFunc := ⟨121, (.seq (.region ingotlaw5_ChunkBack_r0 [0, 1, 2, 85, 86, 89, 90, 93, 94, 95, 96, 97, 100, 101, 102, 103, 104, 107, 108, 109, 112, 113, 114, 115, 116, 117, 118, 119]) (.seq (.seq (.region ingotlaw5_ChunkBack_r1 [0, 1, 2, 19, 85, 86, 89, 90, 93, 94, 95, 96, 97, 100, 101, 102, 103, 104, 107, 108, 109, 112, 113, 114, 115, 116, 117, 118, 119]) (.cond (.t 19) (.seq (.region ingotlaw5_ChunkBack_r2 [6]) .ret) .skip)) (.seq (.seq (.region ingotlaw5_ChunkBack_r3 [0, 1, 2, 22, 85, 86, 89, 90, 93, 94, 95, 96, 97, 100, 101, 102, 103, 104, 107, 108, 109, 112, 113, 114, 115, 116, 117, 118, 119]) (.cond (.t 22) (.seq (.region ingotlaw5_ChunkBack_r4 [6]) .ret) .skip)) (.seq (.region ingotlaw5_ChunkBack_r5 [0, 1, 2, 7, 8, 85, 86, 89, 90, 93, 94, 95, 96, 97, 100, 101, 102, 103, 104, 107, 108, 109, 112, 113, 114, 115, 116, 117, 118, 119]) (.seq (.region ingotlaw5_ChunkBack_r6 [0, 1, 2, 7, 8, 10, 85, 86, 89, 90, 93, 94, 95, 96, 97, 100, 101, 102, 103, 104, 107, 108, 109, 112, 113, 114, 115, 116, 117, 118, 119]) (.seq (.seq (.region ingotlaw5_ChunkBack_r7 [0, 1, 2, 7, 10, 39, 85, 86, 89, 90, 93, 94, 95, 96, 97, 100, 101, 102, 103, 104, 107, 108, 109, 112, 113, 114, 115, 116, 117, 118, 119]) (.cond (.t 39) (.seq (.region ingotlaw5_ChunkBack_r8 [6]) .ret) .skip)) (.seq (.seq (.region ingotlaw5_ChunkBack_r9 [0, 1, 2, 7, 41, 85, 86, 89, 90, 93, 94, 95, 96, 97, 100, 101, 102, 103, 104, 107, 108, 109, 112, 113, 114, 115, 116, 117, 118, 119]) (.cond (.t 41) (.seq (.region ingotlaw5_ChunkBack_r10 [6]) .ret) .skip)) (.seq (.region ingotlaw5_ChunkBack_r11 [0, 1, 2, 7, 11, 12, 85, 86, 89, 90, 93, 94, 95, 96, 97, 100, 101, 102, 103, 104, 107, 108, 109, 112, 113, 114, 115, 116, 117, 118, 119]) (.seq (.region ingotlaw5_ChunkBack_r12 [0, 1, 2, 7, 11, 12, 13, 14, 85, 86, 89, 90, 93, 94, 95, 96, 97, 100, 101, 102, 103, 104, 107, 108, 109, 112, 113, 114, 115, 116, 117, 118, 119]) (.seq (.region ingotlaw5_ChunkBack_r13 [0, 1, 2, 7, 11, 12, 13, 14, 15, 85, 86, 89, 90, 93, 94, 95, 96, 97, 100, 101, 102, 103, 104, 107, 108, 109, 112, 113, 114, 115, 116, 117, 118, 119]) (.seq (.seq (.region ingotlaw5_ChunkBack_r14 [0, 1, 2, 7, 11, 12, 13, 14, 15, 61, 85, 86, 89, 90, 93, 94, 95, 96, 97, 100, 101, 102, 103, 104, 107, 108, 109, 112, 113, 114, 115, 116, 117, 118, 119]) (.cond (.t 61) (.seq (.region ingotlaw5_ChunkBack_r15 [0, 1, 2, 7, 11, 12, 13, 14, 15, 85, 86, 89, 90, 93, 94, 95, 96, 97, 100, 101, 102, 103, 104, 107, 108, 109, 112, 113, 114, 115, 116, 117, 118, 119]) (.seq (.region ingotlaw5_ChunkBack_r16 [0, 1, 2, 7, 11, 12, 13, 14, 15, 70, 85, 86, 89, 90, 93, 94, 95, 96, 97, 100, 101, 102, 103, 104, 107, 108, 109, 112, 113, 114, 115, 116, 117, 118, 119]) (.cond (.t 70) (.region ingotlaw5_ChunkBack_r17 [0, 1, 2, 7, 11, 12, 13, 14, 15, 85, 86, 89, 90, 93, 94, 95, 96, 97, 100, 101, 102, 103, 104, 107, 108, 109, 112, 113, 114, 115, 116, 117, 118, 119]) .skip))) .skip)) (.seq (.region ingotlaw5_ChunkBack_r18 [0, 7, 11, 12, 13, 14, 15, 16, 17, 85, 86, 89, 90, 93, 94, 95, 96, 97, 100, 101, 102, 103, 104, 107, 108, 109, 112, 113, 114, 115, 116, 117, 118, 119]) (.seq (.region ingotlaw5_ChunkBack_r19 [6]) .ret))))))))))))), [.t 6]⟩
def ingotlaw5_ChunkParts_r0 : List AOper := [
  ⟨some 6, .mov, [.c (.bool false)], none⟩]
def ingotlaw5_ChunkParts_r1 : List AOper := [
  ⟨some 13, (.call f_ingotlaw5_known), [], none⟩,
  ⟨some 14, .unot, [.t 13], none⟩]
def ingotlaw5_ChunkParts_r2 : List AOper := [
  ⟨some 6, .mov, [.c (.bool false)], none⟩]
def ingotlaw5_ChunkParts_r3 : List AOper := [
  ⟨some 15, .mov, [.t 0], none⟩,
  ⟨some 16, .lens, [.t 15], none⟩,
  ⟨some 17, (.bin .gtr), [.t 16, .c (.int .i64 3000)], none⟩,
  ⟨some 18, .mov, [.t 17], none⟩,
  ⟨some 19, .mov, [.t 1], some (18, false)⟩,
  ⟨some 20, .lens, [.t 19], some (18, false)⟩,
  ⟨some 21, (.bin .gtr), [.t 20, .c (.int .i64 3000)], some (18, false)⟩,
  ⟨some 22, .pick, [.t 18, .c (.bool true), .t 21], none⟩,
  ⟨some 23, .mov, [.t 22], none⟩,
  ⟨some 24, .mov, [.t 2], some (23, false)⟩,
  ⟨some 25, (.bin .lss), [.t 24, .c (.int .i64 1)], some (23, false)⟩,
  ⟨some 26, .pick, [.t 23, .c (.bool true), .t 25], none⟩,
  ⟨some 27, .mov, [.t 26], none⟩,
  ⟨some 28, .mov, [.t 2], some (27, false)⟩,
  ⟨some 29, (.bin .gtr), [.t 28, .c (.int .i64 1000)], some (27, false)⟩,
  ⟨some 30, .pick, [.t 27, .c (.bool true), .t 29], none⟩,
  ⟨some 31, .mov, [.t 30], none⟩,
  ⟨some 32, .mov, [.t 0], some (31, false)⟩,
  ⟨some 33, .lens, [.t 32], some (31, false)⟩,
  ⟨some 34, .mov, [.t 2], some (31, false)⟩,
  ⟨some 35, (.bin .rem), [.t 33, .t 34], some (31, false)⟩,
  ⟨some 36, (.bin .neq), [.t 35, .c (.int .i64 0)], some (31, false)⟩,
  ⟨some 37, .pick, [.t 31, .c (.bool true), .t 36], none⟩]
def ingotlaw5_ChunkParts_r4 : List AOper := [
  ⟨some 6, .mov, [.c (.bool true)], none⟩]
def ingotlaw5_ChunkParts_r5 : List AOper := [
  ⟨some 39, .mov, [.t 0], none⟩,
  ⟨some 40, .mov, [.t 2], none⟩,
  ⟨some 41, (.call f_chunk_Encode), [.t 39, .c (.int .i64 4), .t 40], none⟩,
  ⟨some 38, .mov, [.t 41], none⟩,
  ⟨some 42, (.ext 0), [.t 38], none⟩,
  ⟨some 43, (.ext 1), [.t 38], none⟩,
  ⟨some 7, .mov, [.t 42], none⟩,
  ⟨some 8, .mov, [.t 43], none⟩]
def ingotlaw5_ChunkParts_r6 : List AOper := [
  ⟨some 45, .mov, [.t 1], none⟩,
  ⟨some 46, .mov, [.t 2], none⟩,
  ⟨some 47, (.call f_chunk_Encode), [.t 45, .c (.int .i64 4), .t 46], none⟩,
  ⟨some 44, .mov, [.t 47], none⟩,
  ⟨some 48, (.ext 0), [.t 44], none⟩,
  ⟨some 49, (.ext 1), [.t 44], none⟩,
  ⟨some 9, .mov, [.t 48], none⟩,
  ⟨some 10, .mov, [.t 49], none⟩]
def ingotlaw5_ChunkParts_r7 : List AOper := [
  ⟨some 51, (.bsl 1), [], none⟩,
  ⟨some 52, .mov, [.t 0], none⟩,
  ⟨some 53, (.app 1 1), [.t 51, .t 52], none⟩,
  ⟨some 54, .mov, [.t 1], none⟩,
  ⟨some 55, (.app 1 1), [.t 53, .t 54], none⟩,
  ⟨some 56, .mov, [.t 2], none⟩,
  ⟨some 57, (.call f_chunk_Encode), [.t 55, .c (.int .i64 4), .t 56], none⟩,
  ⟨some 50, .mov, [.t 57], none⟩,
  ⟨some 58, (.ext 0), [.t 50], none⟩,
  ⟨some 59, (.ext 1), [.t 50], none⟩,
  ⟨some 11, .mov, [.t 58], none⟩,
  ⟨some 12, .mov, [.t 59], none⟩]
def ingotlaw5_ChunkParts_r8 : List AOper := [
  ⟨some 60, .mov, [.t 7], none⟩,
  ⟨some 61, .b2s, [.t 60], none⟩,
  ⟨some 62, .mov, [.t 9], none⟩,
  ⟨some 63, .b2s, [.t 62], none⟩,
  ⟨some 64, (.bin .add), [.t 61, .t 63], none⟩,
  ⟨some 65, .mov, [.t 11], none⟩,
  ⟨some 66, .b2s, [.t 65], none⟩,
  ⟨some 67, (.bin .eql), [.t 64, .t 66], none⟩,
  ⟨some 6, .mov, [.t 67], none⟩]
def ingotlaw5_ChunkParts : AFunc := ⟨68, (.seq (.region ingotlaw5_ChunkParts_r0 [0, 1, 2, 19, 20, 21, 24, 25, 28, 29, 32, 33, 34, 35, 36]) (.seq (.seq (.region ingotlaw5_ChunkParts_r1 [0, 1, 2, 14, 19, 20, 21, 24, 25, 28, 29, 32, 33, 34, 35, 36]) (.cond (.t 14) (.seq (.region ingotlaw5_ChunkParts_r2 [6]) .ret) .skip)) (.seq (.seq (.region ingotlaw5_ChunkParts_r3 [0, 1, 2, 37]) (.cond (.t 37) (.seq (.region ingotlaw5_ChunkParts_r4 [6]) .ret) .skip)) (.seq (.region ingotlaw5_ChunkParts_r5 [0, 1, 2, 7]) (.seq (.region ingotlaw5_ChunkParts_r6 [0, 1, 2, 7, 9]) (.seq (.region ingotlaw5_ChunkParts_r7 [7, 9, 11]) (.seq (.region ingotlaw5_ChunkParts_r8 [6]) .ret))))))), [.t 6]⟩
def ingotlaw5_ChunkMixed_r0 : List AOper := [
  ⟨some 6, .mov, [.c (.bool false)], none⟩]
def ingotlaw5_ChunkMixed_r1 : List AOper := [
  ⟨some 17, (.call f_ingotlaw5_known), [], none⟩,
  ⟨some 18, .unot, [.t 17], none⟩]
def ingotlaw5_ChunkMixed_r2 : List AOper := [
  ⟨some 6, .mov, [.c (.bool false)], none⟩]
def ingotlaw5_ChunkMixed_r3 : List AOper := [
  ⟨some 19, .mov, [.t 0], none⟩,
  ⟨some 20, .lens, [.t 19], none⟩,
  ⟨some 21, (.bin .gtr), [.t 20, .c (.int .i64 20)], none⟩,
  ⟨some 22, .mov, [.t 21], none⟩,
  ⟨some 23, .mov, [.t 1], some (22, false)⟩,
  ⟨some 24, .lens, [.t 23], some (22, false)⟩,
  ⟨some 25, .mov, [.t 0], some (22, false)⟩,
  ⟨some 26, .lens, [.t 25], some (22, false)⟩,
  ⟨some 27, (.bin .lss), [.t 24, .t 26], some (22, false)⟩,
  ⟨some 28, .pick, [.t 22, .c (.bool true), .t 27], none⟩,
  ⟨some 29, .mov, [.t 28], none⟩,
  ⟨some 30, .mov, [.t 2], some (29, false)⟩,
  ⟨some 31, (.bin .lss), [.t 30, .c (.int .i64 1)], some (29, false)⟩,
  ⟨some 32, .pick, [.t 29, .c (.bool true), .t 31], none⟩,
  ⟨some 33, .mov, [.t 32], none⟩,
  ⟨some 34, .mov, [.t 2], some (33, false)⟩,
  ⟨some 35, (.bin .gtr), [.t 34, .c (.int .i64 500)], some (33, false)⟩,
  ⟨some 36, .pick, [.t 33, .c (.bool true), .t 35], none⟩]
def ingotlaw5_ChunkMixed_r4 : List AOper := [
  ⟨some 6, .mov, [.c (.bool true)], none⟩]
def ingotlaw5_ChunkMixed_r5 : List AOper := [
  ⟨some 7, .mov, [.c (.slc 0 [] true)], none⟩,
  ⟨some 8, .mov, [.c (.slc 0 [] true)], none⟩]
def ingotlaw5_ChunkMixed_r6 : List AOper := [
  ⟨some 9, .mov, [.c (.int .i64 0)], none⟩]
def ingotlaw5_ChunkMixed_r7 : List AOper := [
  ⟨some 37, .mov, [.t 9], none⟩,
  ⟨some 38, .mov, [.t 0], none⟩,
  ⟨some 39, .lens, [.t 38], none⟩,
  ⟨some 40, (.bin .lss), [.t 37, .t 39], none⟩]
def ingotlaw5_ChunkMixed_r8 : List AOper := [
  ⟨some 43, .mov, [.t 0], none⟩,
  ⟨some 44, .mov, [.t 9], none⟩,
  ⟨some 45, (.iad 1), [.t 43, .t 44], none⟩,
  ⟨some 46, (.load false 1), [.t 45], none⟩,
  ⟨some 47, .lens, [.t 46], none⟩,
  ⟨some 48, .mov, [.t 2], none⟩,
  ⟨some 49, (.bin .gtr), [.t 47, .t 48], none⟩]
def ingotlaw5_ChunkMixed_r9 : List AOper := [
  ⟨some 6, .mov, [.c (.bool true)], none⟩]
def ingotlaw5_ChunkMixed_r10 : List AOper := [
  ⟨some 50, .mov, [.t 0], none⟩,
  ⟨some 51, .mov, [.t 9], none⟩,
  ⟨some 52, (.iad 1), [.t 50, .t 51], none⟩,
  ⟨some 53, (.load false 1), [.t 52], none⟩,
  ⟨some 10, .mov, [.t 53], none⟩]
def ingotlaw5_ChunkMixed_r11 : List AOper := [
  ⟨some 54, .mov, [.t 1], none⟩,
  ⟨some 55, .mov, [.t 9], none⟩,
  ⟨some 56, (.iad 1), [.t 54, .t 55], none⟩,
  ⟨some 57, (.load false 1), [.t 56], none⟩]
def ingotlaw5_ChunkMixed_r12 : List AOper := [
  ⟨some 58, .mov, [.t 0], none⟩,
  ⟨some 59, .mov, [.t 9], none⟩,
  ⟨some 60, (.iad 1), [.t 58, .t 59], none⟩,
  ⟨some 61, (.load false 1), [.t 60], none⟩,
  ⟨some 62, (.call f_ingotref4_Pack), [.t 61], none⟩,
  ⟨some 10, .mov, [.t 62], none⟩]
def ingotlaw5_ChunkMixed_r13 : List AOper := [
  ⟨some 63, .mov, [.t 7], none⟩,
  ⟨some 64, .mov, [.t 10], none⟩,
  ⟨some 65, .lens, [.t 64], none⟩,
  ⟨some 66, .mov, [.t 1], none⟩,
  ⟨some 67, .mov, [.t 9], none⟩,
  ⟨some 68, (.iad 1), [.t 66, .t 67], none⟩,
  ⟨some 69, (.load false 1), [.t 68], none⟩,
  ⟨some 70, .unot, [.t 69], none⟩,
  ⟨some 71, (.call f_chunk_Head), [.t 65, .t 70], none⟩,
  ⟨some 72, (.app 1 1), [.t 63, .t 71], none⟩,
  ⟨some 73, .mov, [.t 10], none⟩,
  ⟨some 74, (.app 1 1), [.t 72, .t 73], none⟩,
  ⟨some 7, .mov, [.t 74], none⟩]
def ingotlaw5_ChunkMixed_r14 : List AOper := [
  ⟨some 75, .mov, [.t 8], none⟩,
  ⟨some 76, .mov, [.t 0], none⟩,
  ⟨some 77, .mov, [.t 9], none⟩,
  ⟨some 78, (.iad 1), [.t 76, .t 77], none⟩,
  ⟨some 79, (.load false 1), [.t 78], none⟩,
  ⟨some 80, (.app 1 1), [.t 75, .t 79], none⟩,
  ⟨some 8, .mov, [.t 80], none⟩]
def ingotlaw5_ChunkMixed_r15 : List AOper := [
  ⟨some 41, .mov, [.t 9], none⟩,
  ⟨some 42, (.bin .add), [.t 41, .c (.int .i64 1)], none⟩,
  ⟨some 9, .mov, [.t 42], none⟩]
def ingotlaw5_ChunkMixed_l0 : ACode := (.seq (.seq (.region ingotlaw5_ChunkMixed_r7 [0, 1, 2, 7, 8, 9, 40, 99, 100, 101, 102, 103, 106, 107, 108, 109]) (.cond (.t 40) .skip (.exit 0))) (.seq (.block 1 (.seq (.seq (.region ingotlaw5_ChunkMixed_r8 [0, 1, 2, 7, 8, 9, 49, 99, 100, 101, 102, 103, 106, 107, 108, 109]) (.cond (.t 49) (.seq (.region ingotlaw5_ChunkMixed_r9 [6]) .ret) .skip)) (.seq (.region ingotlaw5_ChunkMixed_r10 [0, 1, 2, 7, 8, 9, 10, 99, 100, 101, 102, 103, 106, 107, 108, 109]) (.seq (.seq (.region ingotlaw5_ChunkMixed_r11 [0, 1, 2, 7, 8, 9, 10, 57, 99, 100, 101, 102, 103, 106, 107, 108, 109]) (.cond (.t 57) (.region ingotlaw5_ChunkMixed_r12 [0, 1, 2, 7, 8, 9, 10, 99, 100, 101, 102, 103, 106, 107, 108, 109]) .skip)) (.seq (.region ingotlaw5_ChunkMixed_r13 [0, 1, 2, 7, 8, 9, 99, 100, 101, 102, 103, 106, 107, 108, 109]) (.region ingotlaw5_ChunkMixed_r14 [0, 1, 2, 7, 8, 9, 99, 100, 101, 102, 103, 106, 107, 108, 109])))))) (.region ingotlaw5_ChunkMixed_r15 [0, 1, 2, 7, 8, 9, 99, 100, 101, 102, 103, 106, 107, 108, 109])))
def ingotlaw5_ChunkMixed_r16 : List AOper := [
  ⟨some 82, .mov, [.t 7], none⟩,
  ⟨some 83, .mov, [.t 2], none⟩,
  ⟨some 84, .mov, [.t 8], none⟩,
  ⟨some 85, .lens, [.t 84], none⟩,
  ⟨some 86, (.call f_chunk_Decode), [.t 82, .c (.int .i64 4), .t 83, .t 85], none⟩,
  ⟨some 81, .mov, [.t 86], none⟩,
  ⟨some 87, (.ext 0), [.t 81], none⟩,
  ⟨some 88, (.ext 1), [.t 81], none⟩,
  ⟨some 11, .mov, [.t 87], none⟩,
  ⟨some 12, .mov, [.t 88], none⟩]
def ingotlaw5_ChunkMixed_r17 : List AOper := [
  ⟨some 90, .mov, [.t 7], none⟩,
  ⟨some 91, (.call f_chunk_Count), [.t 90, .c (.int .i64 4)], none⟩,
  ⟨some 89, .mov, [.t 91], none⟩,
  ⟨some 92, (.ext 0), [.t 89], none⟩,
  ⟨some 93, (.ext 1), [.t 89], none⟩,
  ⟨some 13, .mov, [.t 92], none⟩,
  ⟨some 14, .mov, [.t 93], none⟩]
def ingotlaw5_ChunkMixed_r18 : List AOper := [
  ⟨some 94, .mov, [.t 12], none⟩,
  ⟨some 95, .mov, [.t 14], none⟩,
  ⟨some 96, (.bin .add), [.t 94, .t 95], none⟩,
  ⟨some 97, (.bin .neq), [.t 96, .c (.int .i64 0)], none⟩,
  ⟨some 98, .mov, [.t 97], none⟩,
  ⟨some 99, .mov, [.t 11], some (98, false)⟩,
  ⟨some 100, .b2s, [.t 99], some (98, false)⟩,
  ⟨some 101, .mov, [.t 8], some (98, false)⟩,
  ⟨some 102, .b2s, [.t 101], some (98, false)⟩,
  ⟨some 103, (.bin .neq), [.t 100, .t 102], some (98, false)⟩,
  ⟨some 104, .pick, [.t 98, .c (.bool true), .t 103], none⟩,
  ⟨some 105, .mov, [.t 104], none⟩,
  ⟨some 106, .mov, [.t 13], some (105, false)⟩,
  ⟨some 107, .mov, [.t 0], some (105, false)⟩,
  ⟨some 108, .lens, [.t 107], some (105, false)⟩,
  ⟨some 109, (.bin .neq), [.t 106, .t 108], some (105, false)⟩,
  ⟨some 110, .pick, [.t 105, .c (.bool true), .t 109], none⟩]
def ingotlaw5_ChunkMixed_r19 : List AOper := [
  ⟨some 6, .mov, [.c (.bool false)], none⟩]
def ingotlaw5_ChunkMixed_r20 : List AOper := [
  ⟨some 111, .mov, [.t 8], none⟩,
  ⟨some 112, .lens, [.t 111], none⟩,
  ⟨some 113, (.bin .eql), [.t 112, .c (.int .i64 0)], none⟩]
def ingotlaw5_ChunkMixed_r21 : List AOper := [
  ⟨some 6, .mov, [.c (.bool true)], none⟩]
def ingotlaw5_ChunkMixed_r22 : List AOper := [
  ⟨some 115, .mov, [.t 7], none⟩,
  ⟨some 116, .mov, [.t 2], none⟩,
  ⟨some 117, .mov, [.t 8], none⟩,
  ⟨some 118, .lens, [.t 117], none⟩,
  ⟨some 119, (.bin .sub), [.t 118, .c (.int .i64 1)], none⟩,
  ⟨some 120, (.call f_chunk_Decode), [.t 115, .c (.int .i64 4), .t 116, .t 119], none⟩,
  ⟨some 114, .mov, [.t 120], none⟩,
  ⟨some 121, (.ext 0), [.t 114], none⟩,
  ⟨some 122, (.ext 1), [.t 114], none⟩,
  ⟨some 15, .mov, [.t 121], none⟩,
  ⟨some 16, .mov, [.t 122], none⟩]
def ingotlaw5_ChunkMixed_r23 : List AOper := [
  ⟨some 123, .mov, [.t 16], none⟩,
  ⟨some 124, (.bin .eql), [.t 123, .c (.int .i64 4)], none⟩,
  ⟨some 6, .mov, [.t 124], none⟩]
def ingotlaw5_ChunkMixed : AFunc := ⟨125, (.seq (.region ingotlaw5_ChunkMixed_r0 [0, 1, 2, 23, 24, 25, 26, 27, 30, 31, 34, 35, 99, 100, 101, 102, 103, 106, 107, 108, 109]) (.seq (.seq (.region ingotlaw5_ChunkMixed_r1 [0, 1, 2, 18, 23, 24, 25, 26, 27, 30, 31, 34, 35, 99, 100, 101, 102, 103, 106, 107, 108, 109]) (.cond (.t 18) (.seq (.region ingotlaw5_ChunkMixed_r2 [6]) .ret) .skip)) (.seq (.seq (.region ingotlaw5_ChunkMixed_r3 [0, 1, 2, 36, 99, 100, 101, 102, 103, 106, 107, 108, 109]) (.cond (.t 36) (.seq (.region ingotlaw5_ChunkMixed_r4 [6]) .ret) .skip)) (.seq (.region ingotlaw5_ChunkMixed_r5 [0, 1, 2, 7, 8, 99, 100, 101, 102, 103, 106, 107, 108, 109]) (.seq (.seq (.region ingotlaw5_ChunkMixed_r6 [0, 1, 2, 7, 8, 9, 99, 100, 101, 102, 103, 106, 107, 108, 109]) (.block 0 (.loop ingotlaw5_ChunkMixed_l0))) (.seq (.region ingotlaw5_ChunkMixed_r16 [0, 2, 7, 8, 11, 12, 99, 100, 101, 102, 103, 106, 107, 108, 109]) (.seq (.region ingotlaw5_ChunkMixed_r17 [0, 2, 7, 8, 11, 12, 13, 14, 99, 100, 101, 102, 103, 106, 107, 108, 109]) (.seq (.seq (.region ingotlaw5_ChunkMixed_r18 [2, 7, 8, 110]) (.cond (.t 110) (.seq (.region ingotlaw5_ChunkMixed_r19 [6]) .ret) .skip)) (.seq (.seq (.region ingotlaw5_ChunkMixed_r20 [2, 7, 8, 113]) (.cond (.t 113) (.seq (.region ingotlaw5_ChunkMixed_r21 [6]) .ret) .skip)) (.seq (.region ingotlaw5_ChunkMixed_r22 [16]) (.seq (.region ingotlaw5_ChunkMixed_r23 [6]) .ret))))))))))), [.t 6]⟩
def ingotlaw5_ChunkPlain_r0 : List AOper := [
  ⟨some 6, .mov, [.c (.bool false)], none⟩]
def ingotlaw5_ChunkPlain_r1 : List AOper := [
  ⟨some 17, (.call f_ingotlaw5_known), [], none⟩,
  ⟨some 18, .unot, [.t 17], none⟩]
def ingotlaw5_ChunkPlain_r2 : List AOper := [
  ⟨some 6, .mov, [.c (.bool false)], none⟩]
def ingotlaw5_ChunkPlain_r3 : List AOper := [
  ⟨some 19, .mov, [.t 0], none⟩,
  ⟨some 20, .lens, [.t 19], none⟩,
  ⟨some 21, (.bin .gtr), [.t 20, .c (.int .i64 3000)], none⟩,
  ⟨some 22, .mov, [.t 21], none⟩,
  ⟨some 23, .mov, [.t 2], some (22, false)⟩,
  ⟨some 24, (.bin .lss), [.t 23, .c (.int .i64 1)], some (22, false)⟩,
  ⟨some 25, .pick, [.t 22, .c (.bool true), .t 24], none⟩,
  ⟨some 26, .mov, [.t 25], none⟩,
  ⟨some 27, .mov, [.t 2], some (26, false)⟩,
  ⟨some 28, (.bin .gtr), [.t 27, .c (.int .i64 65536)], some (26, false)⟩,
  ⟨some 29, .pick, [.t 26, .c (.bool true), .t 28], none⟩]
def ingotlaw5_ChunkPlain_r4 : List AOper := [
  ⟨some 6, .mov, [.c (.bool true)], none⟩]
def ingotlaw5_ChunkPlain_r5 : List AOper := [
  ⟨some 31, .mov, [.t 0], none⟩,
  ⟨some 32, .mov, [.t 2], none⟩,
  ⟨some 33, (.call f_chunk_Encode), [.t 31, .c (.int .i64 0), .t 32], none⟩,
  ⟨some 30, .mov, [.t 33], none⟩,
  ⟨some 34, (.ext 0), [.t 30], none⟩,
  ⟨some 35, (.ext 1), [.t 30], none⟩,
  ⟨some 7, .mov, [.t 34], none⟩,
  ⟨some 8, .mov, [.t 35], none⟩]
def ingotlaw5_ChunkPlain_r6 : List AOper := [
  ⟨some 37, .mov, [.t 0], none⟩,
  ⟨some 38, .mov, [.t 2], none⟩,
  ⟨some 39, .mov, [.t 0], none⟩,
  ⟨some 40, .lens, [.t 39], none⟩,
  ⟨some 41, (.call f_chunk_Decode), [.t 37, .c (.int .i64 0), .t 38, .t 40], none⟩,
  ⟨some 36, .mov, [.t 41], none⟩,
  ⟨some 42, (.ext 0), [.t 36], none⟩,
  ⟨some 43, (.ext 1), [.t 36], none⟩,
  ⟨some 9, .mov, [.t 42], none⟩,
  ⟨some 10, .mov, [.t 43], none⟩]
def ingotlaw5_ChunkPlain_r7 : List AOper := [
  ⟨some 45, .mov, [.t 0], none⟩,
  ⟨some 46, .mov, [.t 1], none⟩,
  ⟨some 47, .mov, [.t 2], none⟩,
  ⟨some 48, (.call f_chunk_Encode), [.t 45, .t 46, .t 47], none⟩,
  ⟨some 44, .mov, [.t 48], none⟩,
  ⟨some 49, (.ext 0), [.t 44], none⟩,
  ⟨some 50, (.ext 1), [.t 44], none⟩,
  ⟨some 11, .mov, [.t 49], none⟩,
  ⟨some 12, .mov, [.t 50], none⟩]
def ingotlaw5_ChunkPlain_r8 : List AOper := [
  ⟨some 52, .mov, [.t 0], none⟩,
  ⟨some 53, .mov, [.t 1], none⟩,
  ⟨some 54, .mov, [.t 2], none⟩,
  ⟨some 55, .mov, [.t 0], none⟩,
  ⟨some 56, .lens, [.t 55], none⟩,
  ⟨some 57, (.call f_chunk_Decode), [.t 52, .t 53, .t 54, .t 56], none⟩,
  ⟨some 51, .mov, [.t 57], none⟩,
  ⟨some 58, (.ext 0), [.t 51], none⟩,
  ⟨some 59, (.ext 1), [.t 51], none⟩,
  ⟨some 13, .mov, [.t 58], none⟩,
  ⟨some 14, .mov, [.t 59], none⟩]
def ingotlaw5_ChunkPlain_r9 : List AOper := [
  ⟨some 61, .mov, [.t 0], none⟩,
  ⟨some 62, .mov, [.t 1], none⟩,
  ⟨some 63, (.call f_chunk_Count), [.t 61, .t 62], none⟩,
  ⟨some 60, .mov, [.t 63], none⟩,
  ⟨some 64, (.ext 0), [.t 60], none⟩,
  ⟨some 65, (.ext 1), [.t 60], none⟩,
  ⟨some 15, .mov, [.t 64], none⟩,
  ⟨some 16, .mov, [.t 65], none⟩]
def ingotlaw5_ChunkPlain_r10 : List AOper := [
  ⟨some 66, .mov, [.t 8], none⟩,
  ⟨some 67, .mov, [.t 10], none⟩,
  ⟨some 68, (.bin .add), [.t 66, .t 67], none⟩,
  ⟨some 69, (.bin .neq), [.t 68, .c (.int .i64 0)], none⟩,
  ⟨some 70, .mov, [.t 69], none⟩,
  ⟨some 71, .mov, [.t 7], some (70, false)⟩,
  ⟨some 72, .b2s, [.t 71], some (70, false)⟩,
  ⟨some 73, .mov, [.t 0], some (70, false)⟩,
  ⟨some 74, .b2s, [.t 73], some (70, false)⟩,
  ⟨some 75, (.bin .neq), [.t 72, .t 74], some (70, false)⟩,
  ⟨some 76, .pick, [.t 70, .c (.bool true), .t 75], none⟩,
  ⟨some 77, .mov, [.t 76], none⟩,
  ⟨some 78, .mov, [.t 9], some (77, false)⟩,
  ⟨some 79, .b2s, [.t 78], some (77, false)⟩,
  ⟨some 80, .mov, [.t 0], some (77, false)⟩,
  ⟨some 81, .b2s, [.t 80], some (77, false)⟩,
  ⟨some 82, (.bin .neq), [.t 79, .t 81], some (77, false)⟩,
  ⟨some 83, .pick, [.t 77, .c (.bool true), .t 82], none⟩]
def ingotlaw5_ChunkPlain_r11 : List AOper := [
  ⟨some 6, .mov, [.c (.bool false)], none⟩]
def ingotlaw5_ChunkPlain_r12 : List AOper := [
  ⟨some 84, .mov, [.t 1], none⟩,
  ⟨some 85, (.bin .eql), [.t 84, .c (.int .i64 0)], none⟩]
def ingotlaw5_ChunkPlain_r13 : List AOper := [
  ⟨some 86, .mov, [.t 12], none⟩,
  ⟨some 87, .mov, [.t 14], none⟩,
  ⟨some 88, (.bin .add), [.t 86, .t 87], none⟩,
  ⟨some 89, .mov, [.t 16], none⟩,
  ⟨some 90, (.bin .add), [.t 88, .t 89], none⟩,
  ⟨some 91, .mov, [.t 15], none⟩,
  ⟨some 92, (.bin .add), [.t 90, .t 91], none⟩,
  ⟨some 93, (.bin .eql), [.t 92, .c (.int .i64 0)], none⟩,
  ⟨some 6, .mov, [.t 93], none⟩]
def ingotlaw5_ChunkPlain_r14 : List AOper := [
  ⟨some 94, .mov, [.t 1], none⟩,
  ⟨some 95, (.bin .eql), [.t 94, .c (.int .i64 4)], none⟩,
  ⟨some 96, .mov, [.t 95], none⟩,
  ⟨some 97, .mov, [.t 12], some (96, false)⟩,
  ⟨some 98, (.bin .eql), [.t 97, .c (.int .i64 7)], some (96, false)⟩,
  ⟨some 99, .mov, [.t 98], some (96, false)⟩,
  ⟨some 100, .mov, [.t 14], some (99, true)⟩,
  ⟨some 101, (.bin .eql), [.t 100, .c (.int .i64 7)], some (99, true)⟩,
  ⟨some 102, .pick, [.t 99, .t 101, .c (.bool false)], some (96, false)⟩,
  ⟨some 103, .mov, [.t 102], some (96, false)⟩,
  ⟨some 104, .mov, [.t 16], some (103, true)⟩,
  ⟨some 105, (.bin .eql), [.t 104, .c (.int .i64 7)], some (103, true)⟩,
  ⟨some 106, .pick, [.t 103, .t 105, .c (.bool false)], some (96, false)⟩,
  ⟨some 107, .mov, [.t 106], some (96, false)⟩,
  ⟨some 108, .mov, [.t 15], some (107, true)⟩,
  ⟨some 109, (.bin .eql), [.t 108, .c (.int .i64 0)], some (107, true)⟩,
  ⟨some 110, .pick, [.t 107, .t 109, .c (.bool false)], some (96, false)⟩,
  ⟨some 111, .pick, [.t 96, .c (.bool true), .t 110], none⟩,
  ⟨some 6, .mov, [.t 111], none⟩]
def ingotlaw5_ChunkPlain : AFunc := ⟨112, (.seq (.region ingotlaw5_ChunkPlain_r0 [0, 1, 2, 23, 24, 27, 28, 71, 72, 73, 74, 75, 78, 79, 80, 81, 82, 97, 98, 99, 100, 101, 102, 103, 104, 105, 106, 107, 108, 109, 110]) (.seq (.seq (.region ingotlaw5_ChunkPlain_r1 [0, 1, 2, 18, 23, 24, 27, 28, 71, 72, 73, 74, 75, 78, 79, 80, 81, 82, 97, 98, 99, 100, 101, 102, 103, 104, 105, 106, 107, 108, 109, 110]) (.cond (.t 18) (.seq (.region ingotlaw5_ChunkPlain_r2 [6]) .ret) .skip)) (.seq (.seq (.region ingotlaw5_ChunkPlain_r3 [0, 1, 2, 29, 71, 72, 73, 74, 75, 78, 79, 80, 81, 82, 97, 98, 99, 100, 101, 102, 103, 104, 105, 106, 107, 108, 109, 110]) (.cond (.t 29) (.seq (.region ingotlaw5_ChunkPlain_r4 [6]) .ret) .skip)) (.seq (.region ingotlaw5_ChunkPlain_r5 [0, 1, 2, 7, 8, 71, 72, 73, 74, 75, 78, 79, 80, 81, 82, 97, 98, 99, 100, 101, 102, 103, 104, 105, 106, 107, 108, 109, 110]) (.seq (.region ingotlaw5_ChunkPlain_r6 [0, 1, 2, 7, 8, 9, 10, 71, 72, 73, 74, 75, 78, 79, 80, 81, 82, 97, 98, 99, 100, 101, 102, 103, 104, 105, 106, 107, 108, 109, 110]) (.seq (.region ingotlaw5_ChunkPlain_r7 [0, 1, 2, 7, 8, 9, 10, 12, 71, 72, 73, 74, 75, 78, 79, 80, 81, 82, 97, 98, 99, 100, 101, 102, 103, 104, 105, 106, 107, 108, 109, 110]) (.seq (.region ingotlaw5_ChunkPlain_r8 [0, 1, 7, 8, 9, 10, 12, 14, 71, 72, 73, 74, 75, 78, 79, 80, 81, 82, 97, 98, 99, 100, 101, 102, 103, 104, 105, 106, 107, 108, 109, 110]) (.seq (.region ingotlaw5_ChunkPlain_r9 [0, 1, 7, 8, 9, 10, 12, 14, 15, 16, 71, 72, 73, 74, 75, 78, 79, 80, 81, 82, 97, 98, 99, 100, 101, 102, 103, 104, 105, 106, 107, 108, 109, 110]) (.seq (.seq (.region ingotlaw5_ChunkPlain_r10 [1, 12, 14, 15, 16, 83, 97, 98, 99, 100, 101, 102, 103, 104, 105, 106, 107, 108, 109, 110]) (.cond (.t 83) (.seq (.region ingotlaw5_ChunkPlain_r11 [6]) .ret) .skip)) (.seq (.seq (.region ingotlaw5_ChunkPlain_r12 [1, 12, 14, 15, 16, 85, 97, 98, 99, 100, 101, 102, 103, 104, 105, 106, 107, 108, 109, 110]) (.cond (.t 85) (.seq (.region ingotlaw5_ChunkPlain_r13 [6]) .ret) .skip)) (.seq (.region ingotlaw5_ChunkPlain_r14 [6]) .ret))))))))))), [.t 6]⟩
def ingotlaw4_known_r0 : List AOper := [
  ⟨some 0, .mov, [.c (.bool false)], none⟩]
def ingotlaw4_known_r1 : List AOper := [
  ⟨some 8, (.bslo 1), [.c (.int .u8 104), .c (.int .u8 101), .c (.int .u8 108), .c (.int .u8 108), .c (.int .u8 111), .c (.int .u8 32), .c (.int .u8 104), .c (.int .u8 101), .c (.int .u8 108), .c (.int .u8 108), .c (.int .u8 111), .c (.int .u8 32), .c (.int .u8 104), .c (.int .u8 101), .c (.int .u8 108), .c (.int .u8 108), .c (.int .u8 111), .c (.int .u8 32), .c (.int .u8 104), .c (.int .u8 101), .c (.int .u8 108), .c (.int .u8 108), .c (.int .u8 111), .c (.int .u8 32), .c (.int .u8 104), .c (.int .u8 101), .c (.int .u8 108), .c (.int .u8 108), .c (.int .u8 111)], none⟩,
  ⟨some 9, (.strish 1), [.t 8], none⟩,
  ⟨some 1, .mov, [.t 9], none⟩]
def ingotlaw4_known_r2 : List AOper := [
  ⟨some 11, .mov, [.t 1], none⟩,
  ⟨some 12, (.call f_lz4_Pack), [.t 11], none⟩,
  ⟨some 13, (.call f_lz4_Unpack), [.t 12, .c (.int .i64 100)], none⟩,
  ⟨some 10, .mov, [.t 13], none⟩,
  ⟨some 14, (.ext 0), [.t 10], none⟩,
  ⟨some 15, (.ext 1), [.t 10], none⟩,
  ⟨some 2, .mov, [.t 14], none⟩,
  ⟨some 3, .mov, [.t 15], none⟩]
def ingotlaw4_known_r3 : List AOper := [
  ⟨some 17, (.bsl 1), [.c (.int .u8 17), .c (.int .u8 97), .c (.int .u8 1), .c (.int .u8 0), .c (.int .u8 0)], none⟩,
  ⟨some 18, (.call f_lz4_Unpack), [.t 17, .c (.int .i64 10)], none⟩,
  ⟨some 16, .mov, [.t 18], none⟩,
  ⟨some 19, (.ext 0), [.t 16], none⟩,
  ⟨some 20, (.ext 1), [.t 16], none⟩,
  ⟨some 4, .mov, [.t 19], none⟩,
  ⟨some 5, .mov, [.t 20], none⟩]
def ingotlaw4_known_r4 : List AOper := [
  ⟨some 22, (.bsl 1), [.c (.int .u8 16)], none⟩,
  ⟨some 23, (.call f_lz4_Unpack), [.t 22, .c (.int .i64 10)], none⟩,
  ⟨some 21, .mov, [.t 23], none⟩,
  ⟨some 24, (.ext 0), [.t 21], none⟩,
  ⟨some 25, (.ext 1), [.t 21], none⟩,
  ⟨some 6, .mov, [.t 24], none⟩,
  ⟨some 7, .mov, [.t 25], none⟩]
def ingotlaw4_known_r5 : List AOper := [
  ⟨some 26, .mov, [.t 2], none⟩,
  ⟨some 27, .b2s, [.t 26], none⟩,
  ⟨some 28, .mov, [.t 1], none⟩,
  ⟨some 29, .b2s, [.t 28], none⟩,
  ⟨some 30, (.bin .eql), [.t 27, .t 29], none⟩,
  ⟨some 31, .mov, [.t 30], none⟩,
  ⟨some 32, .mov, [.t 3], some (31, true)⟩,
  ⟨some 33, (.bin .eql), [.t 32, .c (.int .i64 0)], some (31, true)⟩,
  ⟨some 34, .pick, [.t 31, .t 33, .c (.bool false)], none⟩,
  ⟨some 35, .mov, [.t 34], none⟩,
  ⟨some 36, .mov, [.t 4], some (35, true)⟩,
  ⟨some 37, .b2s, [.t 36], some (35, true)⟩,
  ⟨some 38, (.bin .eql), [.t 37, .c (.str [97, 97, 97, 97, 97, 97])], some (35, true)⟩,
  ⟨some 39, .pick, [.t 35, .t 38, .c (.bool false)], none⟩,
  ⟨some 40, .mov, [.t 39], none⟩,
  ⟨some 41, .mov, [.t 5], some (40, true)⟩,
  ⟨some 42, (.bin .eql), [.t 41, .c (.int .i64 0)], some (40, true)⟩,
  ⟨some 43, .pick, [.t 40, .t 42, .c (.bool false)], none⟩,
  ⟨some 44, .mov, [.t 43], none⟩,
  ⟨some 45, .mov, [.t 7], some (44, true)⟩,
  ⟨some 46, (.bin .eql), [.t 45, .c (.int .i64 3)], some (44, true)⟩,
  ⟨some 47, .pick, [.t 44, .t 46, .c (.bool false)], none⟩,
  ⟨some 0, .mov, [.t 47], none⟩]
def ingotlaw4_known : AFunc := ⟨48, (.seq (.region ingotlaw4_known_r0 [32, 33, 36, 37, 38, 41, 42, 45, 46]) (.seq (.region ingotlaw4_known_r1 [1, 32, 33, 36, 37, 38, 41, 42, 45, 46]) (.seq (.region ingotlaw4_known_r2 [1, 2, 3, 32, 33, 36, 37, 38, 41, 42, 45, 46]) (.seq (.region ingotlaw4_known_r3 [1, 2, 3, 4, 5, 32, 33, 36, 37, 38, 41, 42, 45, 46]) (.seq (.region ingotlaw4_known_r4 [1, 2, 3, 4, 5, 7, 32, 33, 36, 37, 38, 41, 42, 45, 46]) (.seq (.region ingotlaw4_known_r5 [0]) .ret)))))), [.t 0]⟩
def lz4_Unpack_r0 : List AOper := [
  ⟨some 4, .mov, [.c (.slc 0 [] true)], none⟩,
  ⟨some 5, .mov, [.c (.int .i64 0)], none⟩]
def lz4_Unpack_r1 : List AOper := [
  ⟨some 9, .mov, [.t 1], none⟩,
  ⟨some 10, (.bin .lss), [.t 9, .c (.int .i64 0)], none⟩,
  ⟨some 11, .mov, [.t 10], none⟩,
  ⟨some 12, .mov, [.t 1], some (11, false)⟩,
  ⟨some 13, (.bin .gtr), [.t 12, .c (.int .i64 1048576)], some (11, false)⟩,
  ⟨some 14, .pick, [.t 11, .c (.bool true), .t 13], none⟩]
def lz4_Unpack_r2 : List AOper := [
  ⟨some 4, .mov, [.c (.slc 0 [] true)], none⟩,
  ⟨some 5, .mov, [.c (.int .i64 1)], none⟩]
def lz4_Unpack_r3 : List AOper := [
  ⟨some 15, .mov, [.t 0], none⟩,
  ⟨some 16, (.bld [(.slc 0 [] true), (.int .i64 0), (.slc 0 [] true)] [(0, 1)]), [.t 15], none⟩,
  ⟨some 17, (.box 3), [.t 16], none⟩,
  ⟨some 6, .mov, [.t 17], none⟩]
def lz4_Unpack_r4 : List AOper := [
  ⟨some 19, .mov, [.t 6], none⟩,
  ⟨some 20, .mov, [.t 1], none⟩,
  ⟨some 21, (.call f_lz4_reader_sequence), [.t 19, .t 20], none⟩,
  ⟨some 18, .mov, [.t 21], none⟩,
  ⟨some 22, (.ext 0), [.t 18], none⟩,
  ⟨some 23, (.ext 1), [.t 18], none⟩,
  ⟨some 7, .mov, [.t 22], none⟩,
  ⟨some 8, .mov, [.t 23], none⟩]
def lz4_Unpack_r5 : List AOper := [
  ⟨some 25, .mov, [.t 8], none⟩,
  ⟨some 26, (.bin .neq), [.t 25, .c (.int .i64 0)], none⟩,
  ⟨some 24, .mov, [.t 26], none⟩]
def lz4_Unpack_r6 : List AOper := [
  ⟨some 27, .mov, [.t 8], none⟩,
  ⟨some 4, .mov, [.c (.slc 0 [] true)], none⟩,
  ⟨some 5, .mov, [.t 27], none⟩]
def lz4_Unpack_r7 : List AOper := [
  ⟨some 29, .mov, [.t 7], none⟩,
  ⟨some 28, .mov, [.t 29], none⟩]
def lz4_Unpack_r8 : List AOper := [
  ⟨some 30, .mov, [.t 6], none⟩,
  ⟨some 31, .nilc, [.t 30], none⟩,
  ⟨some 32, (.fad 2), [.t 31], none⟩,
  ⟨some 33, (.load false 1), [.t 32], none⟩,
  ⟨some 34, (.call f_slices_Clip_byte_byte), [.t 33], none⟩,
  ⟨some 4, .mov, [.t 34], none⟩,
  ⟨some 5, .mov, [.c (.int .i64 0)], none⟩]
def lz4_Unpack_l0 : ACode := (.block 1 (.seq (.region lz4_Unpack_r4 [1, 6, 7, 8]) (.block 2 (.seq (.region lz4_Unpack_r5 [1, 6, 7, 8, 24]) (.cond (.t 24) (.seq (.region lz4_Unpack_r6 [4, 5]) .ret) (.seq (.region lz4_Unpack_r7 [1, 6, 28]) (.cond (.t 28) (.seq (.region lz4_Unpack_r8 [4, 5]) .ret) .skip)))))))
def lz4_Unpack : AFunc := ⟨35, (.seq (.region lz4_Unpack_r0 [0, 1, 12, 13]) (.seq (.seq (.region lz4_Unpack_r1 [0, 1, 14]) (.cond (.t 14) (.seq (.region lz4_Unpack_r2 [4, 5]) .ret) .skip)) (.seq (.region lz4_Unpack_r3 [1, 6]) (.block 0 (.loop lz4_Unpack_l0))))), [.t 4, .t 5]⟩
def ingotref4_Unpack_r0 : List AOper := [
  ⟨some 4, .mov, [.c (.slc 0 [] true)], none⟩,
  ⟨some 5, .mov, [.c (.int .i64 0)], none⟩]
def ingotref4_Unpack_r1 : List AOper := [
  ⟨some 15, .mov, [.t 1], none⟩,
  ⟨some 16, (.bin .lss), [.t 15, .c (.int .i64 0)], none⟩,
  ⟨some 17, .mov, [.t 16], none⟩,
  ⟨some 18, .mov, [.t 1], some (17, false)⟩,
  ⟨some 19, (.bin .gtr), [.t 18, .c (.int .i64 1048576)], some (17, false)⟩,
  ⟨some 20, .pick, [.t 17, .c (.bool true), .t 19], none⟩]
def ingotref4_Unpack_r2 : List AOper := [
  ⟨some 4, .mov, [.c (.slc 0 [] true)], none⟩,
  ⟨some 5, .mov, [.c (.int .i64 1)], none⟩]
def ingotref4_Unpack_r3 : List AOper := [
  ⟨some 6, .mov, [.c (.slc 0 [] true)], none⟩]
def ingotref4_Unpack_r4 : List AOper := [
  ⟨some 7, .mov, [.c (.int .i64 0)], none⟩]
def ingotref4_Unpack_r5 : List AOper := [
  ⟨some 21, .mov, [.t 7], none⟩,
  ⟨some 22, .mov, [.t 0], none⟩,
  ⟨some 23, .lens, [.t 22], none⟩,
  ⟨some 24, (.bin .eql), [.t 21, .t 23], none⟩]
def ingotref4_Unpack_r6 : List AOper := [
  ⟨some 4, .mov, [.c (.slc 0 [] true)], none⟩,
  ⟨some 5, .mov, [.c (.int .i64 3)], none⟩]
def ingotref4_Unpack_r7 : List AOper := [
  ⟨some 25, .mov, [.t 0], none⟩,
  ⟨some 26, .mov, [.t 7], none⟩,
  ⟨some 27, (.iad 1), [.t 25, .t 26], none⟩,
  ⟨some 28, (.load false 1), [.t 27], none⟩,
  ⟨some 29, (.conv .i64), [.t 28], none⟩,
  ⟨some 8, .mov, [.t 29], none⟩]
def ingotref4_Unpack_r8 : List AOper := [
  ⟨some 31, .mov, [.t 0], none⟩,
  ⟨some 32, .mov, [.t 7], none⟩,
  ⟨some 33, (.bin .add), [.t 32, .c (.int .i64 1)], none⟩,
  ⟨some 34, .mov, [.t 8], none⟩,
  ⟨some 35, (.bin .shr), [.t 34, .c (.int .u64 4)], none⟩,
  ⟨some 36, (.call f_ingotref4_more), [.t 31, .t 33, .t 35], none⟩,
  ⟨some 30, .mov, [.t 36], none⟩,
  ⟨some 37, (.ext 0), [.t 30], none⟩,
  ⟨some 38, (.ext 1), [.t 30], none⟩,
  ⟨some 9, .mov, [.t 37], none⟩,
  ⟨some 10, .mov, [.t 38], none⟩]
def ingotref4_Unpack_r9 : List AOper := [
  ⟨some 39, .mov, [.t 10], none⟩,
  ⟨some 40, (.bin .lss), [.t 39, .c (.int .i64 0)], none⟩]
def ingotref4_Unpack_r10 : List AOper := [
  ⟨some 4, .mov, [.c (.slc 0 [] true)], none⟩,
  ⟨some 5, .mov, [.c (.int .i64 3)], none⟩]
def ingotref4_Unpack_r11 : List AOper := [
  ⟨some 41, .mov, [.t 10], none⟩,
  ⟨some 7, .mov, [.t 41], none⟩]
def ingotref4_Unpack_r12 : List AOper := [
  ⟨some 42, .mov, [.t 9], none⟩,
  ⟨some 43, .mov, [.t 1], none⟩,
  ⟨some 44, .mov, [.t 6], none⟩,
  ⟨some 45, .lens, [.t 44], none⟩,
  ⟨some 46, (.bin .sub), [.t 43, .t 45], none⟩,
  ⟨some 47, (.bin .gtr), [.t 42, .t 46], none⟩]
def ingotref4_Unpack_r13 : List AOper := [
  ⟨some 4, .mov, [.c (.slc 0 [] true)], none⟩,
  ⟨some 5, .mov, [.c (.int .i64 4)], none⟩]
def ingotref4_Unpack_r14 : List AOper := [
  ⟨some 48, .mov, [.t 9], none⟩,
  ⟨some 49, .mov, [.t 0], none⟩,
  ⟨some 50, .lens, [.t 49], none⟩,
  ⟨some 51, .mov, [.t 7], none⟩,
  ⟨some 52, (.bin .sub), [.t 50, .t 51], none⟩,
  ⟨some 53, (.bin .gtr), [.t 48, .t 52], none⟩]
def ingotref4_Unpack_r15 : List AOper := [
  ⟨some 4, .mov, [.c (.slc 0 [] true)], none⟩,
  ⟨some 5, .mov, [.c (.int .i64 3)], none⟩]
def ingotref4_Unpack_r16 : List AOper := [
  ⟨some 54, .mov, [.t 6], none⟩,
  ⟨some 55, .mov, [.t 0], none⟩,
  ⟨some 56, .mov, [.t 7], none⟩,
  ⟨some 57, .mov, [.t 7], none⟩,
  ⟨some 58, .mov, [.t 9], none⟩,
  ⟨some 59, (.bin .add), [.t 57, .t 58], none⟩,
  ⟨some 60, (.slc 1 true true false), [.t 55, .t 56, .t 59], none⟩,
  ⟨some 61, (.app 1 1), [.t 54, .t 60], none⟩,
  ⟨some 6, .mov, [.t 61], none⟩]
def ingotref4_Unpack_r17 : List AOper := [
  ⟨some 62, .mov, [.t 7], none⟩,
  ⟨some 63, .mov, [.t 9], none⟩,
  ⟨some 64, (.bin .add), [.t 62, .t 63], none⟩,
  ⟨some 7, .mov, [.t 64], none⟩]
def ingotref4_Unpack_r18 : List AOper := [
  ⟨some 65, .mov, [.t 7], none⟩,
  ⟨some 66, .mov, [.t 0], none⟩,
  ⟨some 67, .lens, [.t 66], none⟩,
  ⟨some 68, (.bin .eql), [.t 65, .t 67], none⟩]
def ingotref4_Unpack_r19 : List AOper := [
  ⟨some 69, .mov, [.t 6], none⟩,
  ⟨some 4, .mov, [.t 69], none⟩,
  ⟨some 5, .mov, [.c (.int .i64 0)], none⟩]
def ingotref4_Unpack_r20 : List AOper := [
  ⟨some 70, .mov, [.t 0], none⟩,
  ⟨some 71, .lens, [.t 70], none⟩,
  ⟨some 72, .mov, [.t 7], none⟩,
  ⟨some 73, (.bin .sub), [.t 71, .t 72], none⟩,
  ⟨some 74, (.bin .lss), [.t 73, .c (.int .i64 2)], none⟩]
def ingotref4_Unpack_r21 : List AOper := [
  ⟨some 4, .mov, [.c (.slc 0 [] true)], none⟩,
  ⟨some 5, .mov, [.c (.int .i64 3)], none⟩]
def ingotref4_Unpack_r22 : List AOper := [
  ⟨some 75, .mov, [.t 0], none⟩,
  ⟨some 76, .mov, [.t 7], none⟩,
  ⟨some 77, (.iad 1), [.t 75, .t 76], none⟩,
  ⟨some 78, (.load false 1), [.t 77], none⟩,
  ⟨some 79, (.conv .i64), [.t 78], none⟩,
  ⟨some 80, .mov, [.t 0], none⟩,
  ⟨some 81, .mov, [.t 7], none⟩,
  ⟨some 82, (.bin .add), [.t 81, .c (.int .i64 1)], none⟩,
  ⟨some 83, (.iad 1), [.t 80, .t 82], none⟩,
  ⟨some 84, (.load false 1), [.t 83], none⟩,
  ⟨some 85, (.conv .i64), [.t 84], none⟩,
  ⟨some 86, (.bin .shl), [.t 85, .c (.int .u64 8)], none⟩,
  ⟨some 87, (.bin .or), [.t 79, .t 86], none⟩,
  ⟨some 11, .mov, [.t 87], none⟩]
def ingotref4_Unpack_r23 : List AOper := [
  ⟨some 89, .mov, [.t 0], none⟩,
  ⟨some 90, .mov, [.t 7], none⟩,
  ⟨some 91, (.bin .add), [.t 90, .c (.int .i64 2)], none⟩,
  ⟨some 92, .mov, [.t 8], none⟩,
  ⟨some 93, (.bin .and), [.t 92, .c (.int .i64 15)], none⟩,
  ⟨some 94, (.call f_ingotref4_more), [.t 89, .t 91, .t 93], none⟩,
  ⟨some 88, .mov, [.t 94], none⟩,
  ⟨some 95, (.ext 0), [.t 88], none⟩,
  ⟨some 96, (.ext 1), [.t 88], none⟩,
  ⟨some 12, .mov, [.t 95], none⟩,
  ⟨some 13, .mov, [.t 96], none⟩]
def ingotref4_Unpack_r24 : List AOper := [
  ⟨some 97, .mov, [.t 13], none⟩,
  ⟨some 98, (.bin .lss), [.t 97, .c (.int .i64 0)], none⟩]
def ingotref4_Unpack_r25 : List AOper := [
  ⟨some 4, .mov, [.c (.slc 0 [] true)], none⟩,
  ⟨some 5, .mov, [.c (.int .i64 3)], none⟩]
def ingotref4_Unpack_r26 : List AOper := [
  ⟨some 99, .mov, [.t 13], none⟩,
  ⟨some 7, .mov, [.t 99], none⟩]
def ingotref4_Unpack_r27 : List AOper := [
  ⟨some 100, .mov, [.t 11], none⟩,
  ⟨some 101, (.bin .eql), [.t 100, .c (.int .i64 0)], none⟩,
  ⟨some 102, .mov, [.t 101], none⟩,
  ⟨some 103, .mov, [.t 11], some (102, false)⟩,
  ⟨some 104, .mov, [.t 6], some (102, false)⟩,
  ⟨some 105, .lens, [.t 104], some (102, false)⟩,
  ⟨some 106, (.bin .gtr), [.t 103, .t 105], some (102, false)⟩,
  ⟨some 107, .pick, [.t 102, .c (.bool true), .t 106], none⟩]
def ingotref4_Unpack_r28 : List AOper := [
  ⟨some 4, .mov, [.c (.slc 0 [] true)], none⟩,
  ⟨some 5, .mov, [.c (.int .i64 2)], none⟩]
def ingotref4_Unpack_r29 : List AOper := [
  ⟨some 108, .mov, [.t 12], none⟩,
  ⟨some 109, (.bin .add), [.t 108, .c (.int .i64 4)], none⟩,
  ⟨some 12, .mov, [.t 109], none⟩]
def ingotref4_Unpack_r30 : List AOper := [
  ⟨some 110, .mov, [.t 12], none⟩,
  ⟨some 111, .mov, [.t 1], none⟩,
  ⟨some 112, .mov, [.t 6], none⟩,
  ⟨some 113, .lens, [.t 112], none⟩,
  ⟨some 114, (.bin .sub), [.t 111, .t 113], none⟩,
  ⟨some 115, (.bin .gtr), [.t 110, .t 114], none⟩]
def ingotref4_Unpack_r31 : List AOper := [
  ⟨some 4, .mov, [.c (.slc 0 [] true)], none⟩,
  ⟨some 5, .mov, [.c (.int .i64 4)], none⟩]
def ingotref4_Unpack_r32 : List AOper := [
  ⟨some 14, .mov, [.c (.int .i64 0)], none⟩]
def ingotref4_Unpack_r33 : List AOper := [
  ⟨some 116, .mov, [.t 14], none⟩,
  ⟨some 117, .mov, [.t 12], none⟩,
  ⟨some 118, (.bin .lss), [.t 116, .t 117], none⟩]
def ingotref4_Unpack_r34 : List AOper := [
  ⟨some 121, .mov, [.t 6], none⟩,
  ⟨some 122, .mov, [.t 6], none⟩,
  ⟨some 123, .mov, [.t 6], none⟩,
  ⟨some 124, .lens, [.t 123], none⟩,
  ⟨some 125, .mov, [.t 11], none⟩,
  ⟨some 126, (.bin .sub), [.t 124, .t 125], none⟩,
  ⟨some 127, (.iad 1), [.t 122, .t 126], none⟩,
  ⟨some 128, (.load false 1), [.t 127], none⟩,
  ⟨some 129, (.bsl 1), [.t 128], none⟩,
  ⟨some 130, (.app 1 1), [.t 121, .t 129], none⟩,
  ⟨some 6, .mov, [.t 130], none⟩]
def ingotref4_Unpack_r35 : List AOper := [
  ⟨some 119, .mov, [.t 14], none⟩,
  ⟨some 120, (.bin .add), [.t 119, .c (.int .i64 1)], none⟩,
  ⟨some 14, .mov, [.t 120], none⟩]
def ingotref4_Unpack_l0 : ACode := (.seq (.seq (.region ingotref4_Unpack_r33 [0, 1, 6, 7, 11, 12, 14, 103, 104, 105, 106, 118]) (.cond (.t 118) .skip (.exit 2))) (.seq (.block 3 (.region ingotref4_Unpack_r34 [0, 1, 6, 7, 11, 12, 14, 103, 104, 105, 106])) (.region ingotref4_Unpack_r35 [0, 1, 6, 7, 11, 12, 14, 103, 104, 105, 106])))
def ingotref4_Unpack_l1 : ACode := (.block 1 (.seq (.seq (.region ingotref4_Unpack_r5 [0, 1, 6, 7, 24, 103, 104, 105, 106]) (.cond (.t 24) (.seq (.region ingotref4_Unpack_r6 [4, 5]) .ret) .skip)) (.seq (.region ingotref4_Unpack_r7 [0, 1, 6, 7, 8, 103, 104, 105, 106]) (.seq (.region ingotref4_Unpack_r8 [0, 1, 6, 8, 9, 10, 103, 104, 105, 106]) (.seq (.seq (.region ingotref4_Unpack_r9 [0, 1, 6, 8, 9, 10, 40, 103, 104, 105, 106]) (.cond (.t 40) (.seq (.region ingotref4_Unpack_r10 [4, 5]) .ret) .skip)) (.seq (.region ingotref4_Unpack_r11 [0, 1, 6, 7, 8, 9, 103, 104, 105, 106]) (.seq (.seq (.region ingotref4_Unpack_r12 [0, 1, 6, 7, 8, 9, 47, 103, 104, 105, 106]) (.cond (.t 47) (.seq (.region ingotref4_Unpack_r13 [4, 5]) .ret) .skip)) (.seq (.seq (.region ingotref4_Unpack_r14 [0, 1, 6, 7, 8, 9, 53, 103, 104, 105, 106]) (.cond (.t 53) (.seq (.region ingotref4_Unpack_r15 [4, 5]) .ret) .skip)) (.seq (.region ingotref4_Unpack_r16 [0, 1, 6, 7, 8, 9, 103, 104, 105, 106]) (.seq (.region ingotref4_Unpack_r17 [0, 1, 6, 7, 8, 103, 104, 105, 106]) (.seq (.seq (.region ingotref4_Unpack_r18 [0, 1, 6, 7, 8, 68, 103, 104, 105, 106]) (.cond (.t 68) (.seq (.region ingotref4_Unpack_r19 [4, 5]) .ret) .skip)) (.seq (.seq (.region ingotref4_Unpack_r20 [0, 1, 6, 7, 8, 74, 103, 104, 105, 106]) (.cond (.t 74) (.seq (.region ingotref4_Unpack_r21 [4, 5]) .ret) .skip)) (.seq (.region ingotref4_Unpack_r22 [0, 1, 6, 7, 8, 11, 103, 104, 105, 106]) (.seq (.region ingotref4_Unpack_r23 [0, 1, 6, 11, 12, 13, 103, 104, 105, 106]) (.seq (.seq (.region ingotref4_Unpack_r24 [0, 1, 6, 11, 12, 13, 98, 103, 104, 105, 106]) (.cond (.t 98) (.seq (.region ingotref4_Unpack_r25 [4, 5]) .ret) .skip)) (.seq (.region ingotref4_Unpack_r26 [0, 1, 6, 7, 11, 12, 103, 104, 105, 106]) (.seq (.seq (.region ingotref4_Unpack_r27 [0, 1, 6, 7, 11, 12, 103, 104, 105, 106, 107]) (.cond (.t 107) (.seq (.region ingotref4_Unpack_r28 [4, 5]) .ret) .skip)) (.seq (.region ingotref4_Unpack_r29 [0, 1, 6, 7, 11, 12, 103, 104, 105, 106]) (.seq (.seq (.region ingotref4_Unpack_r30 [0, 1, 6, 7, 11, 12, 103, 104, 105, 106, 115]) (.cond (.t 115) (.seq (.region ingotref4_Unpack_r31 [4, 5]) .ret) .skip)) (.seq (.region ingotref4_Unpack_r32 [0, 1, 6, 7, 11, 12, 14, 103, 104, 105, 106]) (.block 2 (.loop ingotref4_Unpack_l0))))))))))))))))))))))
def ingotref4_Unpack : AFunc := ⟨131, (.seq (.region ingotref4_Unpack_r0 [0, 1, 18, 19, 103, 104, 105, 106]) (.seq (.seq (.region ingotref4_Unpack_r1 [0, 1, 20, 103, 104, 105, 106]) (.cond (.t 20) (.seq (.region ingotref4_Unpack_r2 [4, 5]) .ret) .skip)) (.seq (.region ingotref4_Unpack_r3 [0, 1, 6, 103, 104, 105, 106]) (.seq (.region ingotref4_Unpack_r4 [0, 1, 6, 7, 103, 104, 105, 106]) (.block 0 (.loop ingotref4_Unpack_l1)))))), [.t 4, .t 5]⟩
def ingotlaw4_lay_r0 : List AOper := [
  ⟨some 2, .mov, [.c (.int .i64 0)], none⟩,
  ⟨some 3, .mov, [.c (.slc 0 [] true)], none⟩]
def ingotlaw4_lay_r1 : List AOper := [
  ⟨some 5, .mov, [.t 0], none⟩,
  ⟨some 6, (.bin .lss), [.t 5, .c (.int .i64 15)], none⟩]
def ingotlaw4_lay_r2 : List AOper := [
  ⟨some 7, .mov, [.t 0], none⟩,
  ⟨some 2, .mov, [.t 7], none⟩,
  ⟨some 3, .mov, [.c (.slc 0 [] true)], none⟩]
def ingotlaw4_lay_r3 : List AOper := [
  ⟨some 8, .mov, [.t 0], none⟩,
  ⟨some 9, (.bin .sub), [.t 8, .c (.int .i64 15)], none⟩,
  ⟨some 0, .mov, [.t 9], none⟩]
def ingotlaw4_lay_r4 : List AOper := [
  ⟨some 4, .mov, [.c (.slc 0 [] true)], none⟩]
def ingotlaw4_lay_r5 : List AOper := [
  ⟨some 10, .mov, [.t 0], none⟩,
  ⟨some 11, (.bin .geq), [.t 10, .c (.int .i64 255)], none⟩]
def ingotlaw4_lay_r6 : List AOper := [
  ⟨some 12, .mov, [.t 4], none⟩,
  ⟨some 13, (.bsl 1), [.c (.int .u8 255)], none⟩,
  ⟨some 14, (.app 1 1), [.t 12, .t 13], none⟩,
  ⟨some 4, .mov, [.t 14], none⟩]
def ingotlaw4_lay_r7 : List AOper := [
  ⟨some 15, .mov, [.t 0], none⟩,
  ⟨some 16, (.bin .sub), [.t 15, .c (.int .i64 255)], none⟩,
  ⟨some 0, .mov, [.t 16], none⟩]
def ingotlaw4_lay_l0 : ACode := (.seq (.seq (.region ingotlaw4_lay_r5 [0, 4, 11]) (.cond (.t 11) .skip (.exit 0))) (.block 1 (.seq (.region ingotlaw4_lay_r6 [0, 4]) (.region ingotlaw4_lay_r7 [0, 4]))))
def ingotlaw4_lay_r8 : List AOper := [
  ⟨some 17, .mov, [.t 4], none⟩,
  ⟨some 18, .mov, [.t 0], none⟩,
  ⟨some 19, (.conv .u8), [.t 18], none⟩,
  ⟨some 20, (.bsl 1), [.t 19], none⟩,
  ⟨some 21, (.app 1 1), [.t 17, .t 20], none⟩,
  ⟨some 2, .mov, [.c (.int .i64 15)], none⟩,
  ⟨some 3, .mov, [.t 21], none⟩]
def ingotlaw4_lay : AFunc := ⟨22, (.seq (.region ingotlaw4_lay_r0 [0]) (.seq (.seq (.region ingotlaw4_lay_r1 [0, 6]) (.cond (.t 6) (.seq (.region ingotlaw4_lay_r2 [2, 3]) .ret) .skip)) (.seq (.region ingotlaw4_lay_r3 [0]) (.seq (.region ingotlaw4_lay_r4 [0, 4]) (.seq (.block 0 (.loop ingotlaw4_lay_l0)) (.seq (.region ingotlaw4_lay_r8 [2, 3]) .ret)))))), [.t 2, .t 3]⟩
def lz4_Pack_r0 : List AOper := [
  ⟨some 2, .mov, [.c (.slc 0 [] true)], none⟩]
def lz4_Pack_r1 : List AOper := [
  ⟨some 5, .mov, [.t 0], none⟩,
  ⟨some 6, .lens, [.t 5], none⟩,
  ⟨some 7, (.bin .gtr), [.t 6, .c (.int .i64 1048576)], none⟩]
def lz4_Pack_r2 : List AOper := [
  ⟨some 2, .mov, [.c (.slc 0 [] true)], none⟩]
def lz4_Pack_r3 : List AOper := [
  ⟨some 8, (.call f_lz4_table), [], none⟩,
  ⟨some 9, .mov, [.t 0], none⟩,
  ⟨some 10, (.call f_lz4_find), [.t 8, .t 9], none⟩,
  ⟨some 3, .mov, [.t 10], none⟩]
def lz4_Pack_r4 : List AOper := [
  ⟨some 11, .mov, [.t 0], none⟩,
  ⟨some 12, (.call f_lz4_put), [.c (.slc 0 [] true), .t 11, .c (.int .i64 0), .c (.int .i64 0)], none⟩,
  ⟨some 4, .mov, [.t 12], none⟩]
def lz4_Pack_r5 : List AOper := [
  ⟨some 13, .mov, [.t 4], none⟩,
  ⟨some 14, .lens, [.t 13], none⟩,
  ⟨some 15, .mov, [.t 3], none⟩,
  ⟨some 16, .lens, [.t 15], none⟩,
  ⟨some 17, (.bin .lss), [.t 14, .t 16], none⟩]
def lz4_Pack_r6 : List AOper := [
  ⟨some 18, .mov, [.t 4], none⟩,
  ⟨some 3, .mov, [.t 18], none⟩]
def lz4_Pack_r7 : List AOper := [
  ⟨some 19, .mov, [.t 3], none⟩,
  ⟨some 20, (.call f_slices_Clip_byte_byte), [.t 19], none⟩,
  ⟨some 2, .mov, [.t 20], none⟩]
def lz4_Pack : AFunc := ⟨21, (.seq (.region lz4_Pack_r0 [0]) (.seq (.seq (.region lz4_Pack_r1 [0, 7]) (.cond (.t 7) (.seq (.region lz4_Pack_r2 [2]) .ret) .skip)) (.seq (.region lz4_Pack_r3 [0, 3]) (.seq (.seq (.region lz4_Pack_r4 [3, 4]) (.seq (.region lz4_Pack_r5 [3, 4, 17]) (.cond (.t 17) (.region lz4_Pack_r6 [3]) .skip))) (.seq (.region lz4_Pack_r7 [2]) .ret))))), [.t 2]⟩
def lz4_Bound_r0 : List AOper := [
  ⟨some 2, .mov, [.c (.int .i64 0)], none⟩]
def lz4_Bound_r1 : List AOper := [
  ⟨some 3, .mov, [.t 0], none⟩,
  ⟨some 4, .max, [.t 3, .c (.int .i64 0)], none⟩,
  ⟨some 0, .mov, [.t 4], none⟩]
def lz4_Bound_r2 : List AOper := [
  ⟨some 5, .mov, [.t 0], none⟩,
  ⟨some 6, .mov, [.t 0], none⟩,
  ⟨some 7, (.bin .quo), [.t 6, .c (.int .i64 255)], none⟩,
  ⟨some 8, (.bin .add), [.t 5, .t 7], none⟩,
  ⟨some 9, (.bin .add), [.t 8, .c (.int .i64 16)], none⟩,
  ⟨some 2, .mov, [.t 9], none⟩]
def lz4_Bound : AFunc := ⟨10, (.seq (.region lz4_Bound_r0 [0]) (.seq (.region lz4_Bound_r1 [0]) (.seq (.region lz4_Bound_r2 [2]) .ret))), [.t 2]⟩
def ingotref4_Bound_r0 : List AOper := [
  ⟨some 2, .mov, [.c (.int .i64 0)], none⟩]
def ingotref4_Bound_r1 : List AOper := [
  ⟨some 3, .mov, [.t 0], none⟩,
  ⟨some 4, (.bin .lss), [.t 3, .c (.int .i64 0)], none⟩]
def ingotref4_Bound_r2 : List AOper := [
  ⟨some 2, .mov, [.c (.int .i64 16)], none⟩]
def ingotref4_Bound_r3 : List AOper := [
  ⟨some 5, .mov, [.t 0], none⟩,
  ⟨some 6, .mov, [.t 0], none⟩,
  ⟨some 7, (.bin .quo), [.t 6, .c (.int .i64 255)], none⟩,
  ⟨some 8, (.bin .add), [.t 5, .t 7], none⟩,
  ⟨some 9, (.bin .add), [.t 8, .c (.int .i64 16)], none⟩,
  ⟨some 2, .mov, [.t 9], none⟩]
def ingotref4_Bound : AFunc := ⟨10, (.seq (.region ingotref4_Bound_r0 [0]) (.seq (.seq (.region ingotref4_Bound_r1 [0, 4]) (.cond (.t 4) (.seq (.region ingotref4_Bound_r2 [2]) .ret) .skip)) (.seq (.region ingotref4_Bound_r3 [2]) .ret))), [.t 2]⟩
def ingotlaw5_known_r0 : List AOper := [
  ⟨some 0, .mov, [.c (.bool false)], none⟩]
def ingotlaw5_known_r1 : List AOper := [
  ⟨some 13, (.bslo 1), [.c (.int .u8 97), .c (.int .u8 32), .c (.int .u8 115), .c (.int .u8 116), .c (.int .u8 114), .c (.int .u8 101), .c (.int .u8 97), .c (.int .u8 109), .c (.int .u8 32), .c (.int .u8 111), .c (.int .u8 102), .c (.int .u8 32), .c (.int .u8 98), .c (.int .u8 121), .c (.int .u8 116), .c (.int .u8 101), .c (.int .u8 115), .c (.int .u8 44), .c (.int .u8 32), .c (.int .u8 97), .c (.int .u8 32), .c (.int .u8 115), .c (.int .u8 116), .c (.int .u8 114), .c (.int .u8 101), .c (.int .u8 97), .c (.int .u8 109), .c (.int .u8 32), .c (.int .u8 111), .c (.int .u8 102), .c (.int .u8 32), .c (.int .u8 98), .c (.int .u8 121), .c (.int .u8 116), .c (.int .u8 101), .c (.int .u8 115)], none⟩,
  ⟨some 14, (.strish 1), [.t 13], none⟩,
  ⟨some 1, .mov, [.t 14], none⟩]
def ingotlaw5_known_r2 : List AOper := [
  ⟨some 16, .mov, [.t 1], none⟩,
  ⟨some 17, (.call f_chunk_Encode), [.t 16, .c (.int .i64 4), .c (.int .i64 10)], none⟩,
  ⟨some 15, .mov, [.t 17], none⟩,
  ⟨some 18, (.ext 0), [.t 15], none⟩,
  ⟨some 19, (.ext 1), [.t 15], none⟩,
  ⟨some 2, .mov, [.t 18], none⟩,
  ⟨some 3, .mov, [.t 19], none⟩]
def ingotlaw5_known_r3 : List AOper := [
  ⟨some 21, .mov, [.t 2], none⟩,
  ⟨some 22, (.call f_chunk_Decode), [.t 21, .c (.int .i64 4), .c (.int .i64 10), .c (.int .i64 100)], none⟩,
  ⟨some 20, .mov, [.t 22], none⟩,
  ⟨some 23, (.ext 0), [.t 20], none⟩,
  ⟨some 24, (.ext 1), [.t 20], none⟩,
  ⟨some 4, .mov, [.t 23], none⟩,
  ⟨some 5, .mov, [.t 24], none⟩]
def ingotlaw5_known_r4 : List AOper := [
  ⟨some 26, .mov, [.t 2], none⟩,
  ⟨some 27, (.call f_chunk_Count), [.t 26, .c (.int .i64 4)], none⟩,
  ⟨some 25, .mov, [.t 27], none⟩,
  ⟨some 28, (.ext 0), [.t 25], none⟩,
  ⟨some 29, (.ext 1), [.t 25], none⟩,
  ⟨some 6, .mov, [.t 28], none⟩,
  ⟨some 7, .mov, [.t 29], none⟩]
def ingotlaw5_known_r5 : List AOper := [
  ⟨some 31, (.call f_chunk_Head), [.c (.int .i64 5), .c (.bool true)], none⟩,
  ⟨some 32, (.call f_chunk_Parse), [.t 31, .c (.int .i64 0)], none⟩,
  ⟨some 30, .mov, [.t 32], none⟩,
  ⟨some 33, (.ext 0), [.t 30], none⟩,
  ⟨some 34, (.ext 1), [.t 30], none⟩,
  ⟨some 35, (.ext 2), [.t 30], none⟩,
  ⟨some 8, .mov, [.t 33], none⟩,
  ⟨some 9, .mov, [.t 34], none⟩,
  ⟨some 10, .mov, [.t 35], none⟩]
def ingotlaw5_known_r6 : List AOper := [
  ⟨some 37, .mov, [.t 1], none⟩,
  ⟨some 38, (.call f_chunk_Encode), [.t 37, .c (.int .i64 1), .c (.int .i64 10)], none⟩,
  ⟨some 36, .mov, [.t 38], none⟩,
  ⟨some 39, (.ext 0), [.t 36], none⟩,
  ⟨some 40, (.ext 1), [.t 36], none⟩,
  ⟨some 11, .mov, [.t 39], none⟩,
  ⟨some 12, .mov, [.t 40], none⟩]
def ingotlaw5_known_r7 : List AOper := [
  ⟨some 41, .mov, [.t 3], none⟩,
  ⟨some 42, .mov, [.t 5], none⟩,
  ⟨some 43, (.bin .add), [.t 41, .t 42], none⟩,
  ⟨some 44, .mov, [.t 7], none⟩,
  ⟨some 45, (.bin .add), [.t 43, .t 44], none⟩,
  ⟨some 46, .mov, [.t 10], none⟩,
  ⟨some 47, (.bin .add), [.t 45, .t 46], none⟩,
  ⟨some 48, (.bin .eql), [.t 47, .c (.int .i64 0)], none⟩,
  ⟨some 49, .mov, [.t 48], none⟩,
  ⟨some 50, .mov, [.t 4], some (49, true)⟩,
  ⟨some 51, .b2s, [.t 50], some (49, true)⟩,
  ⟨some 52, .mov, [.t 1], some (49, true)⟩,
  ⟨some 53, .b2s, [.t 52], some (49, true)⟩,
  ⟨some 54, (.bin .eql), [.t 51, .t 53], some (49, true)⟩,
  ⟨some 55, .pick, [.t 49, .t 54, .c (.bool false)], none⟩,
  ⟨some 56, .mov, [.t 55], none⟩,
  ⟨some 57, .mov, [.t 6], some (56, true)⟩,
  ⟨some 58, (.bin .eql), [.t 57, .c (.int .i64 4)], some (56, true)⟩,
  ⟨some 59, .pick, [.t 56, .t 58, .c (.bool false)], none⟩,
  ⟨some 60, .mov, [.t 59], none⟩,
  ⟨some 61, .mov, [.t 8], some (60, true)⟩,
  ⟨some 62, (.bin .eql), [.t 61, .c (.int .i64 5)], some (60, true)⟩,
  ⟨some 63, .pick, [.t 60, .t 62, .c (.bool false)], none⟩,
  ⟨some 64, .mov, [.t 63], none⟩,
  ⟨some 65, .mov, [.t 9], some (64, true)⟩,
  ⟨some 66, .pick, [.t 64, .t 65, .c (.bool false)], none⟩,
  ⟨some 67, .mov, [.t 66], none⟩,
  ⟨some 68, .mov, [.t 12], some (67, true)⟩,
  ⟨some 69, (.bin .eql), [.t 68, .c (.int .i64 7)], some (67, true)⟩,
  ⟨some 70, .pick, [.t 67, .t 69, .c (.bool false)], none⟩,
  ⟨some 0, .mov, [.t 70], none⟩]
def ingotlaw5_known : AFunc := ⟨71, (.seq (.region ingotlaw5_known_r0 [50, 51, 52, 53, 54, 57, 58, 61, 62, 65, 68, 69]) (.seq (.region ingotlaw5_known_r1 [1, 50, 51, 52, 53, 54, 57, 58, 61, 62, 65, 68, 69]) (.seq (.region ingotlaw5_known_r2 [1, 2, 3, 50, 51, 52, 53, 54, 57, 58, 61, 62, 65, 68, 69]) (.seq (.region ingotlaw5_known_r3 [1, 2, 3, 4, 5, 50, 51, 52, 53, 54, 57, 58, 61, 62, 65, 68, 69]) (.seq (.region ingotlaw5_known_r4 [1, 3, 4, 5, 6, 7, 50, 51, 52, 53, 54, 57, 58, 61, 62, 65, 68, 69]) (.seq (.region ingotlaw5_known_r5 [1, 3, 4, 5, 6, 7, 8, 9, 10, 50, 51, 52, 53, 54, 57, 58, 61, 62, 65, 68, 69]) (.seq (.region ingotlaw5_known_r6 [1, 3, 4, 5, 6, 7, 8, 9, 10, 12, 50, 51, 52, 53, 54, 57, 58, 61, 62, 65, 68, 69]) (.seq (.region ingotlaw5_known_r7 [0]) .ret)))))))), [.t 0]⟩
def chunk_Decode_r0 : List AOper := [
  ⟨some 8, .mov, [.c (.slc 0 [] true)], none⟩,
  ⟨some 9, .mov, [.c (.int .i64 0)], none⟩]
def chunk_Decode_r1 : List AOper := [
  ⟨some 16, .mov, [.t 1], none⟩,
  ⟨some 17, (.call f_chunk_known), [.t 16], none⟩,
  ⟨some 18, .unot, [.t 17], none⟩,
  ⟨some 15, .mov, [.t 18], none⟩]
def chunk_Decode_r2 : List AOper := [
  ⟨some 8, .mov, [.c (.slc 0 [] true)], none⟩,
  ⟨some 9, .mov, [.c (.int .i64 7)], none⟩]
def chunk_Decode_r3 : List AOper := [
  ⟨some 20, .mov, [.t 2], none⟩,
  ⟨some 21, (.bin .lss), [.t 20, .c (.int .i64 1)], none⟩,
  ⟨some 22, .mov, [.t 21], none⟩,
  ⟨some 23, .mov, [.t 2], some (22, false)⟩,
  ⟨some 24, (.bin .gtr), [.t 23, .c (.int .i64 65536)], some (22, false)⟩,
  ⟨some 25, .pick, [.t 22, .c (.bool true), .t 24], none⟩,
  ⟨some 26, .mov, [.t 25], none⟩,
  ⟨some 27, .mov, [.t 3], some (26, false)⟩,
  ⟨some 28, (.bin .lss), [.t 27, .c (.int .i64 0)], some (26, false)⟩,
  ⟨some 29, .pick, [.t 26, .c (.bool true), .t 28], none⟩,
  ⟨some 30, .mov, [.t 29], none⟩,
  ⟨some 31, .mov, [.t 3], some (30, false)⟩,
  ⟨some 32, (.bin .gtr), [.t 31, .c (.int .i64 262144)], some (30, false)⟩,
  ⟨some 33, .pick, [.t 30, .c (.bool true), .t 32], none⟩,
  ⟨some 19, .mov, [.t 33], none⟩]
def chunk_Decode_r4 : List AOper := [
  ⟨some 8, .mov, [.c (.slc 0 [] true)], none⟩,
  ⟨some 9, .mov, [.c (.int .i64 1)], none⟩]
def chunk_Decode_r5 : List AOper := [
  ⟨some 35, .mov, [.t 1], none⟩,
  ⟨some 36, (.bin .eql), [.t 35, .c (.int .i64 0)], none⟩,
  ⟨some 37, .mov, [.t 36], none⟩,
  ⟨some 38, .mov, [.t 0], some (37, true)⟩,
  ⟨some 39, .lens, [.t 38], some (37, true)⟩,
  ⟨some 40, .mov, [.t 3], some (37, true)⟩,
  ⟨some 41, (.bin .gtr), [.t 39, .t 40], some (37, true)⟩,
  ⟨some 42, .pick, [.t 37, .t 41, .c (.bool false)], none⟩,
  ⟨some 34, .mov, [.t 42], none⟩]
def chunk_Decode_r6 : List AOper := [
  ⟨some 8, .mov, [.c (.slc 0 [] true)], none⟩,
  ⟨some 9, .mov, [.c (.int .i64 4)], none⟩]
def chunk_Decode_r7 : List AOper := [
  ⟨some 44, .mov, [.t 1], none⟩,
  ⟨some 45, (.bin .eql), [.t 44, .c (.int .i64 0)], none⟩,
  ⟨some 43, .mov, [.t 45], none⟩]
def chunk_Decode_r8 : List AOper := [
  ⟨some 46, .mov, [.t 0], none⟩,
  ⟨some 47, (.call f_slices_Clone_byte_byte), [.t 46], none⟩,
  ⟨some 48, (.call f_slices_Clip_byte_byte), [.t 47], none⟩,
  ⟨some 8, .mov, [.t 48], none⟩,
  ⟨some 9, .mov, [.c (.int .i64 0)], none⟩]
def chunk_Decode_r9 : List AOper := [
  ⟨some 10, .mov, [.c (.slc 0 [] true)], none⟩]
def chunk_Decode_r10 : List AOper := [
  ⟨some 11, .mov, [.c (.int .i64 0)], none⟩]
def chunk_Decode_r11 : List AOper := [
  ⟨some 49, .mov, [.t 11], none⟩,
  ⟨some 50, .mov, [.t 0], none⟩,
  ⟨some 51, .lens, [.t 50], none⟩,
  ⟨some 52, (.bin .lss), [.t 49, .t 51], none⟩]
def chunk_Decode_r12 : List AOper := [
  ⟨some 54, .mov, [.t 0], none⟩,
  ⟨some 55, .mov, [.t 11], none⟩,
  ⟨some 56, (.call f_chunk_next), [.t 54, .t 55], none⟩,
  ⟨some 53, .mov, [.t 56], none⟩,
  ⟨some 57, (.ext 0), [.t 53], none⟩,
  ⟨some 58, (.ext 1), [.t 53], none⟩,
  ⟨some 59, (.ext 2), [.t 53], none⟩,
  ⟨some 12, .mov, [.t 57], none⟩,
  ⟨some 13, .mov, [.t 58], none⟩,
  ⟨some 14, .mov, [.t 59], none⟩]
def chunk_Decode_r13 : List AOper := [
  ⟨some 60, .mov, [.t 14], none⟩,
  ⟨some 61, (.bin .neq), [.t 60, .c (.int .i64 0)], none⟩]
def chunk_Decode_r14 : List AOper := [
  ⟨some 62, .mov, [.t 14], none⟩,
  ⟨some 8, .mov, [.c (.slc 0 [] true)], none⟩,
  ⟨some 9, .mov, [.t 62], none⟩]
def chunk_Decode_r15 : List AOper := [
  ⟨some 63, .mov, [.t 11], none⟩,
  ⟨some 64, .mov, [.t 12], none⟩,
  ⟨some 65, .lens, [.t 64], none⟩,
  ⟨some 66, (.bin .add), [.c (.int .i64 3), .t 65], none⟩,
  ⟨some 67, (.bin .add), [.t 63, .t 66], none⟩,
  ⟨some 11, .mov, [.t 67], none⟩]
def chunk_Decode_r16 : List AOper := [
  ⟨some 68, .mov, [.t 13], none⟩,
  ⟨some 69, .mov, [.t 68], none⟩,
  ⟨some 70, .mov, [.t 12], some (69, true)⟩,
  ⟨some 71, .lens, [.t 70], some (69, true)⟩,
  ⟨some 72, .mov, [.t 2], some (69, true)⟩,
  ⟨some 73, (.bin .gtr), [.t 71, .t 72], some (69, true)⟩,
  ⟨some 74, .pick, [.t 69, .t 73, .c (.bool false)], none⟩]
def chunk_Decode_r17 : List AOper := [
  ⟨some 8, .mov, [.c (.slc 0 [] true)], none⟩,
  ⟨some 9, .mov, [.c (.int .i64 4)], none⟩]
def chunk_Decode_r18 : List AOper := [
  ⟨some 75, .mov, [.t 13], none⟩,
  ⟨some 76, .unot, [.t 75], none⟩]
def chunk_Decode_r19 : List AOper := [
  ⟨some 78, .mov, [.t 12], none⟩,
  ⟨some 79, .mov, [.t 2], none⟩,
  ⟨some 80, (.call f_lz4_Unpack), [.t 78, .t 79], none⟩,
  ⟨some 77, .mov, [.t 80], none⟩,
  ⟨some 81, (.ext 0), [.t 77], none⟩,
  ⟨some 82, (.ext 1), [.t 77], none⟩,
  ⟨some 12, .mov, [.t 81], none⟩,
  ⟨some 14, .mov, [.t 82], none⟩]
def chunk_Decode_r20 : List AOper := [
  ⟨some 83, .mov, [.t 14], none⟩,
  ⟨some 84, (.bin .neq), [.t 83, .c (.int .i64 0)], none⟩]
def chunk_Decode_r21 : List AOper := [
  ⟨some 85, .mov, [.t 14], none⟩,
  ⟨some 8, .mov, [.c (.slc 0 [] true)], none⟩,
  ⟨some 9, .mov, [.t 85], none⟩]
def chunk_Decode_r22 : List AOper := [
  ⟨some 86, .mov, [.t 12], none⟩,
  ⟨some 87, .lens, [.t 86], none⟩,
  ⟨some 88, .mov, [.t 3], none⟩,
  ⟨some 89, .mov, [.t 10], none⟩,
  ⟨some 90, .lens, [.t 89], none⟩,
  ⟨some 91, (.bin .sub), [.t 88, .t 90], none⟩,
  ⟨some 92, (.bin .gtr), [.t 87, .t 91], none⟩]
def chunk_Decode_r23 : List AOper := [
  ⟨some 8, .mov, [.c (.slc 0 [] true)], none⟩,
  ⟨some 9, .mov, [.c (.int .i64 4)], none⟩]
def chunk_Decode_r24 : List AOper := [
  ⟨some 93, .mov, [.t 10], none⟩,
  ⟨some 94, .mov, [.t 12], none⟩,
  ⟨some 95, (.app 1 1), [.t 93, .t 94], none⟩,
  ⟨some 10, .mov, [.t 95], none⟩]
def chunk_Decode_l0 : ACode := (.seq (.seq (.region chunk_Decode_r11 [0, 2, 3, 10, 11, 52, 70, 71, 72, 73]) (.cond (.t 52) .skip (.exit 1))) (.block 2 (.seq (.region chunk_Decode_r12 [0, 2, 3, 10, 11, 12, 13, 14, 70, 71, 72, 73]) (.seq (.seq (.region chunk_Decode_r13 [0, 2, 3, 10, 11, 12, 13, 14, 61, 70, 71, 72, 73]) (.cond (.t 61) (.seq (.region chunk_Decode_r14 [8, 9]) .ret) .skip)) (.seq (.region chunk_Decode_r15 [0, 2, 3, 10, 11, 12, 13, 70, 71, 72, 73]) (.seq (.seq (.region chunk_Decode_r16 [0, 2, 3, 10, 11, 12, 13, 70, 71, 72, 73, 74]) (.cond (.t 74) (.seq (.region chunk_Decode_r17 [8, 9]) .ret) .skip)) (.seq (.seq (.region chunk_Decode_r18 [0, 2, 3, 10, 11, 12, 70, 71, 72, 73, 76]) (.cond (.t 76) (.seq (.region chunk_Decode_r19 [0, 2, 3, 10, 11, 12, 14, 70, 71, 72, 73]) (.seq (.region chunk_Decode_r20 [0, 2, 3, 10, 11, 12, 14, 70, 71, 72, 73, 84]) (.cond (.t 84) (.seq (.region chunk_Decode_r21 [8, 9]) .ret) .skip))) .skip)) (.seq (.seq (.region chunk_Decode_r22 [0, 2, 3, 10, 11, 12, 70, 71, 72, 73, 92]) (.cond (.t 92) (.seq (.region chunk_Decode_r23 [8, 9]) .ret) .skip)) (.region chunk_Decode_r24 [0, 2, 3, 10, 11, 70, 71, 72, 73])))))))))
def chunk_Decode_r25 : List AOper := [
  ⟨some 96, .mov, [.t 10], none⟩,
  ⟨some 97, (.call f_slices_Clip_byte_byte), [.t 96], none⟩,
  ⟨some 8, .mov, [.t 97], none⟩,
  ⟨some 9, .mov, [.c (.int .i64 0)], none⟩]
def chunk_Decode : AFunc := ⟨98, (.seq (.region chunk_Decode_r0 [0, 1, 2, 3, 23, 24, 27, 28, 31, 32, 38, 39, 40, 41, 70, 71, 72, 73]) (.seq (.block 0 (.seq (.region chunk_Decode_r1 [0, 1, 2, 3, 15, 23, 24, 27, 28, 31, 32, 38, 39, 40, 41, 70, 71, 72, 73]) (.cond (.t 15) (.seq (.region chunk_Decode_r2 [8, 9]) .ret) (.seq (.region chunk_Decode_r3 [0, 1, 2, 3, 19, 38, 39, 40, 41, 70, 71, 72, 73]) (.cond (.t 19) (.seq (.region chunk_Decode_r4 [8, 9]) .ret) (.seq (.region chunk_Decode_r5 [0, 1, 2, 3, 34, 70, 71, 72, 73]) (.cond (.t 34) (.seq (.region chunk_Decode_r6 [8, 9]) .ret) (.seq (.region chunk_Decode_r7 [0, 2, 3, 43, 70, 71, 72, 73]) (.cond (.t 43) (.seq (.region chunk_Decode_r8 [8, 9]) .ret) .skip))))))))) (.seq (.region chunk_Decode_r9 [0, 2, 3, 10, 70, 71, 72, 73]) (.seq (.seq (.region chunk_Decode_r10 [0, 2, 3, 10, 11, 70, 71, 72, 73]) (.block 1 (.loop chunk_Decode_l0))) (.seq (.region chunk_Decode_r25 [8, 9]) .ret))))), [.t 8, .t 9]⟩
def ingotref5_Decode_r0 : List AOper := [
  ⟨some 8, .mov, [.c (.slc 0 [] true)], none⟩,
  ⟨some 9, .mov, [.c (.int .i64 0)], none⟩]
def ingotref5_Decode_r1 : List AOper := [
  ⟨some 18, .mov, [.t 1], none⟩,
  ⟨some 19, (.bin .neq), [.t 18, .c (.int .i64 0)], none⟩,
  ⟨some 20, .mov, [.t 19], none⟩,
  ⟨some 21, .mov, [.t 1], some (20, true)⟩,
  ⟨some 22, (.bin .neq), [.t 21, .c (.int .i64 4)], some (20, true)⟩,
  ⟨some 23, .pick, [.t 20, .t 22, .c (.bool false)], none⟩]
def ingotref5_Decode_r2 : List AOper := [
  ⟨some 8, .mov, [.c (.slc 0 [] true)], none⟩,
  ⟨some 9, .mov, [.c (.int .i64 7)], none⟩]
def ingotref5_Decode_r3 : List AOper := [
  ⟨some 24, .mov, [.t 2], none⟩,
  ⟨some 25, (.bin .lss), [.t 24, .c (.int .i64 1)], none⟩,
  ⟨some 26, .mov, [.t 25], none⟩,
  ⟨some 27, .mov, [.t 2], some (26, false)⟩,
  ⟨some 28, (.bin .gtr), [.t 27, .c (.int .i64 65536)], some (26, false)⟩,
  ⟨some 29, .pick, [.t 26, .c (.bool true), .t 28], none⟩,
  ⟨some 30, .mov, [.t 29], none⟩,
  ⟨some 31, .mov, [.t 3], some (30, false)⟩,
  ⟨some 32, (.bin .lss), [.t 31, .c (.int .i64 0)], some (30, false)⟩,
  ⟨some 33, .pick, [.t 30, .c (.bool true), .t 32], none⟩,
  ⟨some 34, .mov, [.t 33], none⟩,
  ⟨some 35, .mov, [.t 3], some (34, false)⟩,
  ⟨some 36, (.bin .gtr), [.t 35, .c (.int .i64 262144)], some (34, false)⟩,
  ⟨some 37, .pick, [.t 34, .c (.bool true), .t 36], none⟩]
def ingotref5_Decode_r4 : List AOper := [
  ⟨some 8, .mov, [.c (.slc 0 [] true)], none⟩,
  ⟨some 9, .mov, [.c (.int .i64 1)], none⟩]
def ingotref5_Decode_r5 : List AOper := [
  ⟨some 38, .mov, [.t 1], none⟩,
  ⟨some 39, (.bin .eql), [.t 38, .c (.int .i64 0)], none⟩]
def ingotref5_Decode_r6 : List AOper := [
  ⟨some 40, .mov, [.t 0], none⟩,
  ⟨some 41, .lens, [.t 40], none⟩,
  ⟨some 42, .mov, [.t 3], none⟩,
  ⟨some 43, (.bin .gtr), [.t 41, .t 42], none⟩]
def ingotref5_Decode_r7 : List AOper := [
  ⟨some 8, .mov, [.c (.slc 0 [] true)], none⟩,
  ⟨some 9, .mov, [.c (.int .i64 4)], none⟩]
def ingotref5_Decode_r8 : List AOper := [
  ⟨some 44, (.bsl 1), [], none⟩,
  ⟨some 45, .mov, [.t 0], none⟩,
  ⟨some 46, (.app 1 1), [.t 44, .t 45], none⟩,
  ⟨some 8, .mov, [.t 46], none⟩,
  ⟨some 9, .mov, [.c (.int .i64 0)], none⟩]
def ingotref5_Decode_r9 : List AOper := [
  ⟨some 10, .mov, [.c (.slc 0 [] true)], none⟩]
def ingotref5_Decode_r10 : List AOper := [
  ⟨some 11, .mov, [.c (.int .i64 0)], none⟩]
def ingotref5_Decode_r11 : List AOper := [
  ⟨some 47, .mov, [.t 11], none⟩,
  ⟨some 48, .mov, [.t 0], none⟩,
  ⟨some 49, .lens, [.t 48], none⟩,
  ⟨some 50, (.bin .lss), [.t 47, .t 49], none⟩]
def ingotref5_Decode_r12 : List AOper := [
  ⟨some 52, .mov, [.t 0], none⟩,
  ⟨some 53, .mov, [.t 11], none⟩,
  ⟨some 54, (.call f_ingotref5_Parse), [.t 52, .t 53], none⟩,
  ⟨some 51, .mov, [.t 54], none⟩,
  ⟨some 55, (.ext 0), [.t 51], none⟩,
  ⟨some 56, (.ext 1), [.t 51], none⟩,
  ⟨some 57, (.ext 2), [.t 51], none⟩,
  ⟨some 12, .mov, [.t 55], none⟩,
  ⟨some 13, .mov, [.t 56], none⟩,
  ⟨some 14, .mov, [.t 57], none⟩]
def ingotref5_Decode_r13 : List AOper := [
  ⟨some 58, .mov, [.t 14], none⟩,
  ⟨some 59, (.bin .neq), [.t 58, .c (.int .i64 0)], none⟩]
def ingotref5_Decode_r14 : List AOper := [
  ⟨some 60, .mov, [.t 14], none⟩,
  ⟨some 8, .mov, [.c (.slc 0 [] true)], none⟩,
  ⟨some 9, .mov, [.t 60], none⟩]
def ingotref5_Decode_r15 : List AOper := [
  ⟨some 61, .mov, [.t 11], none⟩,
  ⟨some 62, (.bin .add), [.t 61, .c (.int .i64 3)], none⟩,
  ⟨some 11, .mov, [.t 62], none⟩]
def ingotref5_Decode_r16 : List AOper := [
  ⟨some 63, .mov, [.t 12], none⟩,
  ⟨some 64, .mov, [.t 0], none⟩,
  ⟨some 65, .lens, [.t 64], none⟩,
  ⟨some 66, .mov, [.t 11], none⟩,
  ⟨some 67, (.bin .sub), [.t 65, .t 66], none⟩,
  ⟨some 68, (.bin .gtr), [.t 63, .t 67], none⟩]
def ingotref5_Decode_r17 : List AOper := [
  ⟨some 8, .mov, [.c (.slc 0 [] true)], none⟩,
  ⟨some 9, .mov, [.c (.int .i64 3)], none⟩]
def ingotref5_Decode_r18 : List AOper := [
  ⟨some 69, .mov, [.t 0], none⟩,
  ⟨some 70, .mov, [.t 11], none⟩,
  ⟨some 71, .mov, [.t 11], none⟩,
  ⟨some 72, .mov, [.t 12], none⟩,
  ⟨some 73, (.bin .add), [.t 71, .t 72], none⟩,
  ⟨some 74, (.slc 1 true true false), [.t 69, .t 70, .t 73], none⟩,
  ⟨some 15, .mov, [.t 74], none⟩]
def ingotref5_Decode_r19 : List AOper := [
  ⟨some 75, .mov, [.t 13], none⟩,
  ⟨some 76, .mov, [.t 75], none⟩,
  ⟨some 77, .mov, [.t 12], some (76, true)⟩,
  ⟨some 78, .mov, [.t 2], some (76, true)⟩,
  ⟨some 79, (.bin .gtr), [.t 77, .t 78], some (76, true)⟩,
  ⟨some 80, .pick, [.t 76, .t 79, .c (.bool false)], none⟩]
def ingotref5_Decode_r20 : List AOper := [
  ⟨some 8, .mov, [.c (.slc 0 [] true)], none⟩,
  ⟨some 9, .mov, [.c (.int .i64 4)], none⟩]
def ingotref5_Decode_r21 : List AOper := [
  ⟨some 81, .mov, [.t 13], none⟩,
  ⟨some 82, .unot, [.t 81], none⟩]
def ingotref5_Decode_r22 : List AOper := [
  ⟨some 84, .mov, [.t 15], none⟩,
  ⟨some 85, .mov, [.t 2], none⟩,
  ⟨some 86, (.call f_ingotref4_Unpack), [.t 84, .t 85], none⟩,
  ⟨some 83, .mov, [.t 86], none⟩,
  ⟨some 87, (.ext 0), [.t 83], none⟩,
  ⟨some 88, (.ext 1), [.t 83], none⟩,
  ⟨some 16, .mov, [.t 87], none⟩,
  ⟨some 17, .mov, [.t 88], none⟩]
def ingotref5_Decode_r23 : List AOper := [
  ⟨some 89, .mov, [.t 17], none⟩,
  ⟨some 90, (.bin .neq), [.t 89, .c (.int .i64 0)], none⟩]
def ingotref5_Decode_r24 : List AOper := [
  ⟨some 91, .mov, [.t 17], none⟩,
  ⟨some 8, .mov, [.c (.slc 0 [] true)], none⟩,
  ⟨some 9, .mov, [.t 91], none⟩]
def ingotref5_Decode_r25 : List AOper := [
  ⟨some 92, .mov, [.t 16], none⟩,
  ⟨some 15, .mov, [.t 92], none⟩]
def ingotref5_Decode_r26 : List AOper := [
  ⟨some 93, .mov, [.t 15], none⟩,
  ⟨some 94, .lens, [.t 93], none⟩,
  ⟨some 95, .mov, [.t 3], none⟩,
  ⟨some 96, .mov, [.t 10], none⟩,
  ⟨some 97, .lens, [.t 96], none⟩,
  ⟨some 98, (.bin .sub), [.t 95, .t 97], none⟩,
  ⟨some 99, (.bin .gtr), [.t 94, .t 98], none⟩]
def ingotref5_Decode_r27 : List AOper := [
  ⟨some 8, .mov, [.c (.slc 0 [] true)], none⟩,
  ⟨some 9, .mov, [.c (.int .i64 4)], none⟩]
def ingotref5_Decode_r28 : List AOper := [
  ⟨some 100, .mov, [.t 10], none⟩,
  ⟨some 101, .mov, [.t 15], none⟩,
  ⟨some 102, (.app 1 1), [.t 100, .t 101], none⟩,
  ⟨some 10, .mov, [.t 102], none⟩]
def ingotref5_Decode_r29 : List AOper := [
  ⟨some 103, .mov, [.t 11], none⟩,
  ⟨some 104, .mov, [.t 12], none⟩,
  ⟨some 105, (.bin .add), [.t 103, .t 104], none⟩,
  ⟨some 11, .mov, [.t 105], none⟩]
def ingotref5_Decode_l0 : ACode := (.seq (.seq (.region ingotref5_Decode_r11 [0, 2, 3, 10, 11, 50, 77, 78, 79]) (.cond (.t 50) .skip (.exit 0))) (.block 1 (.seq (.region ingotref5_Decode_r12 [0, 2, 3, 10, 11, 12, 13, 14, 77, 78, 79]) (.seq (.seq (.region ingotref5_Decode_r13 [0, 2, 3, 10, 11, 12, 13, 14, 59, 77, 78, 79]) (.cond (.t 59) (.seq (.region ingotref5_Decode_r14 [8, 9]) .ret) .skip)) (.seq (.region ingotref5_Decode_r15 [0, 2, 3, 10, 11, 12, 13, 77, 78, 79]) (.seq (.seq (.region ingotref5_Decode_r16 [0, 2, 3, 10, 11, 12, 13, 68, 77, 78, 79]) (.cond (.t 68) (.seq (.region ingotref5_Decode_r17 [8, 9]) .ret) .skip)) (.seq (.region ingotref5_Decode_r18 [0, 2, 3, 10, 11, 12, 13, 15, 77, 78, 79]) (.seq (.seq (.region ingotref5_Decode_r19 [0, 2, 3, 10, 11, 12, 13, 15, 77, 78, 79, 80]) (.cond (.t 80) (.seq (.region ingotref5_Decode_r20 [8, 9]) .ret) .skip)) (.seq (.seq (.region ingotref5_Decode_r21 [0, 2, 3, 10, 11, 12, 15, 77, 78, 79, 82]) (.cond (.t 82) (.seq (.region ingotref5_Decode_r22 [0, 2, 3, 10, 11, 12, 16, 17, 77, 78, 79]) (.seq (.seq (.region ingotref5_Decode_r23 [0, 2, 3, 10, 11, 12, 16, 17, 77, 78, 79, 90]) (.cond (.t 90) (.seq (.region ingotref5_Decode_r24 [8, 9]) .ret) .skip)) (.region ingotref5_Decode_r25 [0, 2, 3, 10, 11, 12, 15, 77, 78, 79]))) .skip)) (.seq (.seq (.region ingotref5_Decode_r26 [0, 2, 3, 10, 11, 12, 15, 77, 78, 79, 99]) (.cond (.t 99) (.seq (.region ingotref5_Decode_r27 [8, 9]) .ret) .skip)) (.seq (.region ingotref5_Decode_r28 [0, 2, 3, 10, 11, 12, 77, 78, 79]) (.region ingotref5_Decode_r29 [0, 2, 3, 10, 11, 77, 78, 79]))))))))))))
def ingotref5_Decode_r30 : List AOper := [
  ⟨some 106, .mov, [.t 10], none⟩,
  ⟨some 8, .mov, [.t 106], none⟩,
  ⟨some 9, .mov, [.c (.int .i64 0)], none⟩]
def ingotref5_Decode : AFunc := ⟨107, (.seq (.region ingotref5_Decode_r0 [0, 1, 2, 3, 21, 22, 27, 28, 31, 32, 35, 36, 77, 78, 79]) (.seq (.seq (.region ingotref5_Decode_r1 [0, 1, 2, 3, 23, 27, 28, 31, 32, 35, 36, 77, 78, 79]) (.cond (.t 23) (.seq (.region ingotref5_Decode_r2 [8, 9]) .ret) .skip)) (.seq (.seq (.region ingotref5_Decode_r3 [0, 1, 2, 3, 37, 77, 78, 79]) (.cond (.t 37) (.seq (.region ingotref5_Decode_r4 [8, 9]) .ret) .skip)) (.seq (.seq (.region ingotref5_Decode_r5 [0, 2, 3, 39, 77, 78, 79]) (.cond (.t 39) (.seq (.seq (.region ingotref5_Decode_r6 [0, 43]) (.cond (.t 43) (.seq (.region ingotref5_Decode_r7 [8, 9]) .ret) .skip)) (.seq (.region ingotref5_Decode_r8 [8, 9]) .ret)) .skip)) (.seq (.region ingotref5_Decode_r9 [0, 2, 3, 10, 77, 78, 79]) (.seq (.region ingotref5_Decode_r10 [0, 2, 3, 10, 11, 77, 78, 79]) (.seq (.block 0 (.loop ingotref5_Decode_l0)) (.seq (.region ingotref5_Decode_r30 [8, 9]) .ret)))))))), [.t 8, .t 9]⟩
def chunk_Count_r0 : List AOper := [
  ⟨some 4, .mov, [.c (.int .i64 0)], none⟩,
  ⟨some 5, .mov, [.c (.int .i64 0)], none⟩]
def chunk_Count_r1 : List AOper := [
  ⟨some 11, .mov, [.t 1], none⟩,
  ⟨some 12, (.call f_chunk_known), [.t 11], none⟩,
  ⟨some 13, .unot, [.t 12], none⟩]
def chunk_Count_r2 : List AOper := [
  ⟨some 4, .mov, [.c (.int .i64 0)], none⟩,
  ⟨some 5, .mov, [.c (.int .i64 7)], none⟩]
def chunk_Count_r3 : List AOper := [
  ⟨some 14, .mov, [.t 1], none⟩,
  ⟨some 15, (.bin .eql), [.t 14, .c (.int .i64 0)], none⟩]
def chunk_Count_r4 : List AOper := [
  ⟨some 4, .mov, [.c (.int .i64 0)], none⟩,
  ⟨some 5, .mov, [.c (.int .i64 0)], none⟩]
def chunk_Count_r5 : List AOper := [
  ⟨some 6, .mov, [.c (.int .i64 0)], none⟩]
def chunk_Count_r6 : List AOper := [
  ⟨some 7, .mov, [.c (.int .i64 0)], none⟩]
def chunk_Count_r7 : List AOper := [
  ⟨some 16, .mov, [.t 7], none⟩,
  ⟨some 17, .mov, [.t 0], none⟩,
  ⟨some 18, .lens, [.t 17], none⟩,
  ⟨some 19, (.bin .lss), [.t 16, .t 18], none⟩]
def chunk_Count_r8 : List AOper := [
  ⟨some 23, .mov, [.t 0], none⟩,
  ⟨some 24, .mov, [.t 7], none⟩,
  ⟨some 25, (.call f_chunk_next), [.t 23, .t 24], none⟩,
  ⟨some 22, .mov, [.t 25], none⟩,
  ⟨some 26, (.ext 0), [.t 22], none⟩,
  ⟨some 27, (.ext 1), [.t 22], none⟩,
  ⟨some 28, (.ext 2), [.t 22], none⟩,
  ⟨some 8, .mov, [.t 26], none⟩,
  ⟨some 9, .mov, [.t 27], none⟩,
  ⟨some 10, .mov, [.t 28], none⟩]
def chunk_Count_r9 : List AOper := [
  ⟨some 29, .mov, [.t 10], none⟩,
  ⟨some 30, (.bin .neq), [.t 29, .c (.int .i64 0)], none⟩]
def chunk_Count_r10 : List AOper := [
  ⟨some 31, .mov, [.t 10], none⟩,
  ⟨some 4, .mov, [.c (.int .i64 0)], none⟩,
  ⟨some 5, .mov, [.t 31], none⟩]
def chunk_Count_r11 : List AOper := [
  ⟨some 32, .mov, [.t 7], none⟩,
  ⟨some 33, .mov, [.t 8], none⟩,
  ⟨some 34, .lens, [.t 33], none⟩,
  ⟨some 35, (.bin .add), [.c (.int .i64 3), .t 34], none⟩,
  ⟨some 36, (.bin .add), [.t 32, .t 35], none⟩,
  ⟨some 7, .mov, [.t 36], none⟩]
def chunk_Count_r12 : List AOper := [
  ⟨some 20, .mov, [.t 6], none⟩,
  ⟨some 21, (.bin .add), [.t 20, .c (.int .i64 1)], none⟩,
  ⟨some 6, .mov, [.t 21], none⟩]
def chunk_Count_l0 : ACode := (.seq (.seq (.region chunk_Count_r7 [0, 6, 7, 19]) (.cond (.t 19) .skip (.exit 0))) (.seq (.block 1 (.seq (.region chunk_Count_r8 [0, 6, 7, 8, 10]) (.seq (.seq (.region chunk_Count_r9 [0, 6, 7, 8, 10, 30]) (.cond (.t 30) (.seq (.region chunk_Count_r10 [4, 5]) .ret) .skip)) (.region chunk_Count_r11 [0, 6, 7])))) (.region chunk_Count_r12 [0, 6, 7])))
def chunk_Count_r13 : List AOper := [
  ⟨some 37, .mov, [.t 6], none⟩,
  ⟨some 4, .mov, [.t 37], none⟩,
  ⟨some 5, .mov, [.c (.int .i64 0)], none⟩]
def chunk_Count : AFunc := ⟨38, (.seq (.region chunk_Count_r0 [0, 1]) (.seq (.seq (.region chunk_Count_r1 [0, 1, 13]) (.cond (.t 13) (.seq (.region chunk_Count_r2 [4, 5]) .ret) .skip)) (.seq (.seq (.region chunk_Count_r3 [0, 15]) (.cond (.t 15) (.seq (.region chunk_Count_r4 [4, 5]) .ret) .skip)) (.seq (.region chunk_Count_r5 [0, 6]) (.seq (.seq (.region chunk_Count_r6 [0, 6, 7]) (.block 0 (.loop chunk_Count_l0))) (.seq (.region chunk_Count_r13 [4, 5]) .ret)))))), [.t 4, .t 5]⟩
def ingotref5_Count_r0 : List AOper := [
  ⟨some 4, .mov, [.c (.int .i64 0)], none⟩,
  ⟨some 5, .mov, [.c (.int .i64 0)], none⟩]
def ingotref5_Count_r1 : List AOper := [
  ⟨some 11, .mov, [.t 1], none⟩,
  ⟨some 12, (.bin .neq), [.t 11, .c (.int .i64 0)], none⟩,
  ⟨some 13, .mov, [.t 12], none⟩,
  ⟨some 14, .mov, [.t 1], some (13, true)⟩,
  ⟨some 15, (.bin .neq), [.t 14, .c (.int .i64 4)], some (13, true)⟩,
  ⟨some 16, .pick, [.t 13, .t 15, .c (.bool false)], none⟩]
def ingotref5_Count_r2 : List AOper := [
  ⟨some 4, .mov, [.c (.int .i64 0)], none⟩,
  ⟨some 5, .mov, [.c (.int .i64 7)], none⟩]
def ingotref5_Count_r3 : List AOper := [
  ⟨some 6, .mov, [.c (.int .i64 0)], none⟩]
def ingotref5_Count_r4 : List AOper := [
  ⟨some 7, .mov, [.c (.int .i64 0)], none⟩]
def ingotref5_Count_r5 : List AOper := [
  ⟨some 17, .mov, [.t 1], none⟩,
  ⟨some 18, (.bin .eql), [.t 17, .c (.int .i64 4)], none⟩,
  ⟨some 19, .mov, [.t 18], none⟩,
  ⟨some 20, .mov, [.t 7], some (19, true)⟩,
  ⟨some 21, .mov, [.t 0], some (19, true)⟩,
  ⟨some 22, .lens, [.t 21], some (19, true)⟩,
  ⟨some 23, (.bin .lss), [.t 20, .t 22], some (19, true)⟩,
  ⟨some 24, .pick, [.t 19, .t 23, .c (.bool false)], none⟩]
def ingotref5_Count_r6 : List AOper := [
  ⟨some 26, .mov, [.t 0], none⟩,
  ⟨some 27, .mov, [.t 7], none⟩,
  ⟨some 28, (.call f_ingotref5_Parse), [.t 26, .t 27], none⟩,
  ⟨some 25, .mov, [.t 28], none⟩,
  ⟨some 29, (.ext 0), [.t 25], none⟩,
  ⟨some 30, (.ext 1), [.t 25], none⟩,
  ⟨some 31, (.ext 2), [.t 25], none⟩,
  ⟨some 8, .mov, [.t 29], none⟩,
  ⟨some 9, .mov, [.t 30], none⟩,
  ⟨some 10, .mov, [.t 31], none⟩]
def ingotref5_Count_r7 : List AOper := [
  ⟨some 32, .mov, [.t 10], none⟩,
  ⟨some 33, (.bin .neq), [.t 32, .c (.int .i64 0)], none⟩]
def ingotref5_Count_r8 : List AOper := [
  ⟨some 34, .mov, [.t 10], none⟩,
  ⟨some 4, .mov, [.c (.int .i64 0)], none⟩,
  ⟨some 5, .mov, [.t 34], none⟩]
def ingotref5_Count_r9 : List AOper := [
  ⟨some 35, .mov, [.t 7], none⟩,
  ⟨some 36, (.bin .add), [.t 35, .c (.int .i64 3)], none⟩,
  ⟨some 7, .mov, [.t 36], none⟩]
def ingotref5_Count_r10 : List AOper := [
  ⟨some 37, .mov, [.t 8], none⟩,
  ⟨some 38, .mov, [.t 0], none⟩,
  ⟨some 39, .lens, [.t 38], none⟩,
  ⟨some 40, .mov, [.t 7], none⟩,
  ⟨some 41, (.bin .sub), [.t 39, .t 40], none⟩,
  ⟨some 42, (.bin .gtr), [.t 37, .t 41], none⟩]
def ingotref5_Count_r11 : List AOper := [
  ⟨some 4, .mov, [.c (.int .i64 0)], none⟩,
  ⟨some 5, .mov, [.c (.int .i64 3)], none⟩]
def ingotref5_Count_r12 : List AOper := [
  ⟨some 43, .mov, [.t 7], none⟩,
  ⟨some 44, .mov, [.t 8], none⟩,
  ⟨some 45, (.bin .add), [.t 43, .t 44], none⟩,
  ⟨some 7, .mov, [.t 45], none⟩]
def ingotref5_Count_r13 : List AOper := [
  ⟨some 46, .mov, [.t 6], none⟩,
  ⟨some 47, (.bin .add), [.t 46, .c (.int .i64 1)], none⟩,
  ⟨some 6, .mov, [.t 47], none⟩]
def ingotref5_Count_l0 : ACode := (.seq (.seq (.region ingotref5_Count_r5 [0, 1, 6, 7, 20, 21, 22, 23, 24]) (.cond (.t 24) .skip (.exit 0))) (.block 1 (.seq (.region ingotref5_Count_r6 [0, 1, 6, 7, 8, 10, 20, 21, 22, 23]) (.seq (.seq (.region ingotref5_Count_r7 [0, 1, 6, 7, 8, 10, 20, 21, 22, 23, 33]) (.cond (.t 33) (.seq (.region ingotref5_Count_r8 [4, 5]) .ret) .skip)) (.seq (.region ingotref5_Count_r9 [0, 1, 6, 7, 8, 20, 21, 22, 23]) (.seq (.seq (.region ingotref5_Count_r10 [0, 1, 6, 7, 8, 20, 21, 22, 23, 42]) (.cond (.t 42) (.seq (.region ingotref5_Count_r11 [4, 5]) .ret) .skip)) (.seq (.region ingotref5_Count_r12 [0, 1, 6, 7, 20, 21, 22, 23]) (.region ingotref5_Count_r13 [0, 1, 6, 7, 20, 21, 22, 23]))))))))
def ingotref5_Count_r14 : List AOper := [
  ⟨some 48, .mov, [.t 6], none⟩,
  ⟨some 4, .mov, [.t 48], none⟩,
  ⟨some 5, .mov, [.c (.int .i64 0)], none⟩]
def ingotref5_Count : AFunc := ⟨49, (.seq (.region ingotref5_Count_r0 [0, 1, 14, 15, 20, 21, 22, 23]) (.seq (.seq (.region ingotref5_Count_r1 [0, 1, 16, 20, 21, 22, 23]) (.cond (.t 16) (.seq (.region ingotref5_Count_r2 [4, 5]) .ret) .skip)) (.seq (.region ingotref5_Count_r3 [0, 1, 6, 20, 21, 22, 23]) (.seq (.region ingotref5_Count_r4 [0, 1, 6, 7, 20, 21, 22, 23]) (.seq (.block 0 (.loop ingotref5_Count_l0)) (.seq (.region ingotref5_Count_r14 [4, 5]) .ret)))))), [.t 4, .t 5]⟩
def chunk_Parse_r0 : List AOper := [
  ⟨some 4, .mov, [.c (.int .i64 0)], none⟩,
  ⟨some 5, .mov, [.c (.bool false)], none⟩,
  ⟨some 6, .mov, [.c (.int .i64 0)], none⟩]
def chunk_Parse_r1 : List AOper := [
  ⟨some 9, .mov, [.t 1], none⟩,
  ⟨some 10, (.bin .lss), [.t 9, .c (.int .i64 0)], none⟩,
  ⟨some 11, .mov, [.t 10], none⟩,
  ⟨some 12, .mov, [.t 1], some (11, false)⟩,
  ⟨some 13, .mov, [.t 0], some (11, false)⟩,
  ⟨some 14, .lens, [.t 13], some (11, false)⟩,
  ⟨some 15, (.bin .gtr), [.t 12, .t 14], some (11, false)⟩,
  ⟨some 16, .pick, [.t 11, .c (.bool true), .t 15], none⟩,
  ⟨some 8, .mov, [.t 16], none⟩]
def chunk_Parse_r2 : List AOper := [
  ⟨some 4, .mov, [.c (.int .i64 0)], none⟩,
  ⟨some 5, .mov, [.c (.bool false)], none⟩,
  ⟨some 6, .mov, [.c (.int .i64 1)], none⟩]
def chunk_Parse_r3 : List AOper := [
  ⟨some 18, .mov, [.t 0], none⟩,
  ⟨some 19, .lens, [.t 18], none⟩,
  ⟨some 20, .mov, [.t 1], none⟩,
  ⟨some 21, (.bin .sub), [.t 19, .t 20], none⟩,
  ⟨some 22, (.bin .lss), [.t 21, .c (.int .i64 3)], none⟩,
  ⟨some 17, .mov, [.t 22], none⟩]
def chunk_Parse_r4 : List AOper := [
  ⟨some 4, .mov, [.c (.int .i64 0)], none⟩,
  ⟨some 5, .mov, [.c (.bool false)], none⟩,
  ⟨some 6, .mov, [.c (.int .i64 3)], none⟩]
def chunk_Parse_r5 : List AOper := [
  ⟨some 23, .mov, [.t 0], none⟩,
  ⟨some 24, .mov, [.t 1], none⟩,
  ⟨some 25, (.iad 1), [.t 23, .t 24], none⟩,
  ⟨some 26, (.load false 1), [.t 25], none⟩,
  ⟨some 27, (.conv .i64), [.t 26], none⟩,
  ⟨some 28, .mov, [.t 0], none⟩,
  ⟨some 29, .mov, [.t 1], none⟩,
  ⟨some 30, (.bin .add), [.t 29, .c (.int .i64 1)], none⟩,
  ⟨some 31, (.iad 1), [.t 28, .t 30], none⟩,
  ⟨some 32, (.load false 1), [.t 31], none⟩,
  ⟨some 33, (.conv .i64), [.t 32], none⟩,
  ⟨some 34, (.bin .shl), [.t 33, .c (.int .u64 8)], none⟩,
  ⟨some 35, (.bin .or), [.t 27, .t 34], none⟩,
  ⟨some 36, .mov, [.t 0], none⟩,
  ⟨some 37, .mov, [.t 1], none⟩,
  ⟨some 38, (.bin .add), [.t 37, .c (.int .i64 2)], none⟩,
  ⟨some 39, (.iad 1), [.t 36, .t 38], none⟩,
  ⟨some 40, (.load false 1), [.t 39], none⟩,
  ⟨some 41, (.conv .i64), [.t 40], none⟩,
  ⟨some 42, (.bin .shl), [.t 41, .c (.int .u64 16)], none⟩,
  ⟨some 43, (.bin .or), [.t 35, .t 42], none⟩,
  ⟨some 7, .mov, [.t 43], none⟩]
def chunk_Parse_r6 : List AOper := [
  ⟨some 44, .mov, [.t 7], none⟩,
  ⟨some 45, (.bin .shr), [.t 44, .c (.int .u64 1)], none⟩,
  ⟨some 46, .mov, [.t 7], none⟩,
  ⟨some 47, (.bin .and), [.t 46, .c (.int .i64 1)], none⟩,
  ⟨some 48, (.bin .eql), [.t 47, .c (.int .i64 1)], none⟩,
  ⟨some 4, .mov, [.t 45], none⟩,
  ⟨some 5, .mov, [.t 48], none⟩,
  ⟨some 6, .mov, [.c (.int .i64 0)], none⟩]
def chunk_Parse : AFunc := ⟨49, (.seq (.region chunk_Parse_r0 [0, 1, 12, 13, 14, 15]) (.seq (.block 0 (.seq (.region chunk_Parse_r1 [0, 1, 8]) (.cond (.t 8) (.seq (.region chunk_Parse_r2 [4, 5, 6]) .ret) (.seq (.region chunk_Parse_r3 [0, 1, 17]) (.cond (.t 17) (.seq (.region chunk_Parse_r4 [4, 5, 6]) .ret) .skip))))) (.seq (.region chunk_Parse_r5 [7]) (.seq (.region chunk_Parse_r6 [4, 5, 6]) .ret)))), [.t 4, .t 5, .t 6]⟩
def ingotref5_Parse_r0 : List AOper := [
  ⟨some 4, .mov, [.c (.int .i64 0)], none⟩,
  ⟨some 5, .mov, [.c (.bool false)], none⟩,
  ⟨some 6, .mov, [.c (.int .i64 0)], none⟩]
def ingotref5_Parse_r1 : List AOper := [
  ⟨some 8, .mov, [.t 1], none⟩,
  ⟨some 9, (.bin .lss), [.t 8, .c (.int .i64 0)], none⟩,
  ⟨some 10, .mov, [.t 9], none⟩,
  ⟨some 11, .mov, [.t 1], some (10, false)⟩,
  ⟨some 12, .mov, [.t 0], some (10, false)⟩,
  ⟨some 13, .lens, [.t 12], some (10, false)⟩,
  ⟨some 14, (.bin .gtr), [.t 11, .t 13], some (10, false)⟩,
  ⟨some 15, .pick, [.t 10, .c (.bool true), .t 14], none⟩]
def ingotref5_Parse_r2 : List AOper := [
  ⟨some 4, .mov, [.c (.int .i64 0)], none⟩,
  ⟨some 5, .mov, [.c (.bool false)], none⟩,
  ⟨some 6, .mov, [.c (.int .i64 1)], none⟩]
def ingotref5_Parse_r3 : List AOper := [
  ⟨some 16, .mov, [.t 0], none⟩,
  ⟨some 17, .lens, [.t 16], none⟩,
  ⟨some 18, .mov, [.t 1], none⟩,
  ⟨some 19, (.bin .sub), [.t 17, .t 18], none⟩,
  ⟨some 20, (.bin .lss), [.t 19, .c (.int .i64 3)], none⟩]
def ingotref5_Parse_r4 : List AOper := [
  ⟨some 4, .mov, [.c (.int .i64 0)], none⟩,
  ⟨some 5, .mov, [.c (.bool false)], none⟩,
  ⟨some 6, .mov, [.c (.int .i64 3)], none⟩]
def ingotref5_Parse_r5 : List AOper := [
  ⟨some 21, .mov, [.t 0], none⟩,
  ⟨some 22, .mov, [.t 1], none⟩,
  ⟨some 23, (.iad 1), [.t 21, .t 22], none⟩,
  ⟨some 24, (.load false 1), [.t 23], none⟩,
  ⟨some 25, (.conv .i64), [.t 24], none⟩,
  ⟨some 26, .mov, [.t 0], none⟩,
  ⟨some 27, .mov, [.t 1], none⟩,
  ⟨some 28, (.bin .add), [.t 27, .c (.int .i64 1)], none⟩,
  ⟨some 29, (.iad 1), [.t 26, .t 28], none⟩,
  ⟨some 30, (.load false 1), [.t 29], none⟩,
  ⟨some 31, (.conv .i64), [.t 30], none⟩,
  ⟨some 32, (.bin .shl), [.t 31, .c (.int .u64 8)], none⟩,
  ⟨some 33, (.bin .or), [.t 25, .t 32], none⟩,
  ⟨some 34, .mov, [.t 0], none⟩,
  ⟨some 35, .mov, [.t 1], none⟩,
  ⟨some 36, (.bin .add), [.t 35, .c (.int .i64 2)], none⟩,
  ⟨some 37, (.iad 1), [.t 34, .t 36], none⟩,
  ⟨some 38, (.load false 1), [.t 37], none⟩,
  ⟨some 39, (.conv .i64), [.t 38], none⟩,
  ⟨some 40, (.bin .shl), [.t 39, .c (.int .u64 16)], none⟩,
  ⟨some 41, (.bin .or), [.t 33, .t 40], none⟩,
  ⟨some 7, .mov, [.t 41], none⟩]
def ingotref5_Parse_r6 : List AOper := [
  ⟨some 42, .mov, [.t 7], none⟩,
  ⟨some 43, (.bin .shr), [.t 42, .c (.int .u64 1)], none⟩,
  ⟨some 44, .mov, [.t 7], none⟩,
  ⟨some 45, (.bin .and), [.t 44, .c (.int .i64 1)], none⟩,
  ⟨some 46, (.bin .eql), [.t 45, .c (.int .i64 1)], none⟩,
  ⟨some 4, .mov, [.t 43], none⟩,
  ⟨some 5, .mov, [.t 46], none⟩,
  ⟨some 6, .mov, [.c (.int .i64 0)], none⟩]
def ingotref5_Parse : AFunc := ⟨47, (.seq (.region ingotref5_Parse_r0 [0, 1, 11, 12, 13, 14]) (.seq (.seq (.region ingotref5_Parse_r1 [0, 1, 15]) (.cond (.t 15) (.seq (.region ingotref5_Parse_r2 [4, 5, 6]) .ret) .skip)) (.seq (.seq (.region ingotref5_Parse_r3 [0, 1, 20]) (.cond (.t 20) (.seq (.region ingotref5_Parse_r4 [4, 5, 6]) .ret) .skip)) (.seq (.region ingotref5_Parse_r5 [7]) (.seq (.region ingotref5_Parse_r6 [4, 5, 6]) .ret))))), [.t 4, .t 5, .t 6]⟩
def ingotref5_Encode_r0 : List AOper := [
  ⟨some 6, .mov, [.c (.slc 0 [] true)], none⟩,
  ⟨some 7, .mov, [.c (.int .i64 0)], none⟩]
def ingotref5_Encode_r1 : List AOper := [
  ⟨some 11, .mov, [.t 1], none⟩,
  ⟨some 12, (.bin .neq), [.t 11, .c (.int .i64 0)], none⟩,
  ⟨some 13, .mov, [.t 12], none⟩,
  ⟨some 14, .mov, [.t 1], some (13, true)⟩,
  ⟨some 15, (.bin .neq), [.t 14, .c (.int .i64 4)], some (13, true)⟩,
  ⟨some 16, .pick, [.t 13, .t 15, .c (.bool false)], none⟩]
def ingotref5_Encode_r2 : List AOper := [
  ⟨some 6, .mov, [.c (.slc 0 [] true)], none⟩,
  ⟨some 7, .mov, [.c (.int .i64 7)], none⟩]
def ingotref5_Encode_r3 : List AOper := [
  ⟨some 17, .mov, [.t 2], none⟩,
  ⟨some 18, (.bin .lss), [.t 17, .c (.int .i64 1)], none⟩,
  ⟨some 19, .mov, [.t 18], none⟩,
  ⟨some 20, .mov, [.t 2], some (19, false)⟩,
  ⟨some 21, (.bin .gtr), [.t 20, .c (.int .i64 65536)], some (19, false)⟩,
  ⟨some 22, .pick, [.t 19, .c (.bool true), .t 21], none⟩]
def ingotref5_Encode_r4 : List AOper := [
  ⟨some 6, .mov, [.c (.slc 0 [] true)], none⟩,
  ⟨some 7, .mov, [.c (.int .i64 1)], none⟩]
def ingotref5_Encode_r5 : List AOper := [
  ⟨some 23, .mov, [.t 1], none⟩,
  ⟨some 24, (.bin .eql), [.t 23, .c (.int .i64 0)], none⟩]
def ingotref5_Encode_r6 : List AOper := [
  ⟨some 25, (.bsl 1), [], none⟩,
  ⟨some 26, .mov, [.t 0], none⟩,
  ⟨some 27, (.app 1 1), [.t 25, .t 26], none⟩,
  ⟨some 6, .mov, [.t 27], none⟩,
  ⟨some 7, .mov, [.c (.int .i64 0)], none⟩]
def ingotref5_Encode_r7 : List AOper := [
  ⟨some 8, .mov, [.c (.slc 0 [] true)], none⟩]
def ingotref5_Encode_r8 : List AOper := [
  ⟨some 9, .mov, [.c (.int .i64 0)], none⟩]
def ingotref5_Encode_r9 : List AOper := [
  ⟨some 28, .mov, [.t 9], none⟩,
  ⟨some 29, .mov, [.t 0], none⟩,
  ⟨some 30, .lens, [.t 29], none⟩,
  ⟨some 31, (.bin .lss), [.t 28, .t 30], none⟩]
def ingotref5_Encode_r10 : List AOper := [
  ⟨some 35, .mov, [.t 9], none⟩,
  ⟨some 36, .mov, [.t 2], none⟩,
  ⟨some 37, (.bin .add), [.t 35, .t 36], none⟩,
  ⟨some 10, .mov, [.t 37], none⟩]
def ingotref5_Encode_r11 : List AOper := [
  ⟨some 38, .mov, [.t 10], none⟩,
  ⟨some 39, .mov, [.t 0], none⟩,
  ⟨some 40, .lens, [.t 39], none⟩,
  ⟨some 41, (.bin .gtr), [.t 38, .t 40], none⟩]
def ingotref5_Encode_r12 : List AOper := [
  ⟨some 42, .mov, [.t 0], none⟩,
  ⟨some 43, .lens, [.t 42], none⟩,
  ⟨some 10, .mov, [.t 43], none⟩]
def ingotref5_Encode_r13 : List AOper := [
  ⟨some 44, .mov, [.t 8], none⟩,
  ⟨some 45, .mov, [.t 10], none⟩,
  ⟨some 46, .mov, [.t 9], none⟩,
  ⟨some 47, (.bin .sub), [.t 45, .t 46], none⟩,
  ⟨some 48, (.call f_ingotref5_Head), [.t 47, .c (.bool true)], none⟩,
  ⟨some 49, (.app 1 1), [.t 44, .t 48], none⟩,
  ⟨some 50, .mov, [.t 0], none⟩,
  ⟨some 51, .mov, [.t 9], none⟩,
  ⟨some 52, .mov, [.t 10], none⟩,
  ⟨some 53, (.slc 1 true true false), [.t 50, .t 51, .t 52], none⟩,
  ⟨some 54, (.app 1 1), [.t 49, .t 53], none⟩,
  ⟨some 8, .mov, [.t 54], none⟩]
def ingotref5_Encode_r14 : List AOper := [
  ⟨some 32, .mov, [.t 9], none⟩,
  ⟨some 33, .mov, [.t 2], none⟩,
  ⟨some 34, (.bin .add), [.t 32, .t 33], none⟩,
  ⟨some 9, .mov, [.t 34], none⟩]
def ingotref5_Encode_l0 : ACode := (.seq (.seq (.region ingotref5_Encode_r9 [0, 2, 8, 9, 31]) (.cond (.t 31) .skip (.exit 0))) (.seq (.block 1 (.seq (.region ingotref5_Encode_r10 [0, 2, 8, 9, 10]) (.seq (.seq (.region ingotref5_Encode_r11 [0, 2, 8, 9, 10, 41]) (.cond (.t 41) (.region ingotref5_Encode_r12 [0, 2, 8, 9, 10]) .skip)) (.region ingotref5_Encode_r13 [0, 2, 8, 9])))) (.region ingotref5_Encode_r14 [0, 2, 8, 9])))
def ingotref5_Encode_r15 : List AOper := [
  ⟨some 55, .mov, [.t 8], none⟩,
  ⟨some 6, .mov, [.t 55], none⟩,
  ⟨some 7, .mov, [.c (.int .i64 0)], none⟩]
def ingotref5_Encode : AFunc := ⟨56, (.seq (.region ingotref5_Encode_r0 [0, 1, 2, 14, 15, 20, 21]) (.seq (.seq (.region ingotref5_Encode_r1 [0, 1, 2, 16, 20, 21]) (.cond (.t 16) (.seq (.region ingotref5_Encode_r2 [6, 7]) .ret) .skip)) (.seq (.seq (.region ingotref5_Encode_r3 [0, 1, 2, 22]) (.cond (.t 22) (.seq (.region ingotref5_Encode_r4 [6, 7]) .ret) .skip)) (.seq (.seq (.region ingotref5_Encode_r5 [0, 2, 24]) (.cond (.t 24) (.seq (.region ingotref5_Encode_r6 [6, 7]) .ret) .skip)) (.seq (.region ingotref5_Encode_r7 [0, 2, 8]) (.seq (.seq (.region ingotref5_Encode_r8 [0, 2, 8, 9]) (.block 0 (.loop ingotref5_Encode_l0))) (.seq (.region ingotref5_Encode_r15 [6, 7]) .ret))))))), [.t 6, .t 7]⟩
def chunk_Head_r0 : List AOper := [
  ⟨some 4, .mov, [.c (.slc 0 [] true)], none⟩]
def chunk_Head_r1 : List AOper := [
  ⟨some 6, .mov, [.t 0], none⟩,
  ⟨some 7, (.bin .shl), [.t 6, .c (.int .u64 1)], none⟩,
  ⟨some 5, .mov, [.t 7], none⟩]
def chunk_Head_r2 : List AOper := [
  ⟨some 8, .mov, [.t 1], none⟩]
def chunk_Head_r3 : List AOper := [
  ⟨some 9, .mov, [.t 5], none⟩,
  ⟨some 10, (.bin .or), [.t 9, .c (.int .i64 1)], none⟩,
  ⟨some 5, .mov, [.t 10], none⟩]
def chunk_Head_r4 : List AOper := [
  ⟨some 11, .mov, [.t 5], none⟩,
  ⟨some 12, (.conv .u8), [.t 11], none⟩,
  ⟨some 13, .mov, [.t 5], none⟩,
  ⟨some 14, (.bin .shr), [.t 13, .c (.int .u64 8)], none⟩,
  ⟨some 15, (.conv .u8), [.t 14], none⟩,
  ⟨some 16, .mov, [.t 5], none⟩,
  ⟨some 17, (.bin .shr), [.t 16, .c (.int .u64 16)], none⟩,
  ⟨some 18, (.conv .u8), [.t 17], none⟩,
  ⟨some 19, (.bsl 1), [.t 12, .t 15, .t 18], none⟩,
  ⟨some 4, .mov, [.t 19], none⟩]
def chunk_Head : AFunc := ⟨20, (.seq (.region chunk_Head_r0 [0, 1]) (.seq (.region chunk_Head_r1 [1, 5]) (.seq (.seq (.region chunk_Head_r2 [5, 8]) (.cond (.t 8) (.region chunk_Head_r3 [5]) .skip)) (.seq (.region chunk_Head_r4 [4]) .ret)))), [.t 4]⟩
def ingotref5_Head_r0 : List AOper := [
  ⟨some 4, .mov, [.c (.slc 0 [] true)], none⟩]
def ingotref5_Head_r1 : List AOper := [
  ⟨some 6, .mov, [.t 0], none⟩,
  ⟨some 7, (.bin .and), [.t 6, .c (.int .i64 8388607)], none⟩,
  ⟨some 8, (.bin .shl), [.t 7, .c (.int .u64 1)], none⟩,
  ⟨some 5, .mov, [.t 8], none⟩]
def ingotref5_Head_r2 : List AOper := [
  ⟨some 9, .mov, [.t 1], none⟩]
def ingotref5_Head_r3 : List AOper := [
  ⟨some 10, .mov, [.t 5], none⟩,
  ⟨some 11, (.bin .or), [.t 10, .c (.int .i64 1)], none⟩,
  ⟨some 5, .mov, [.t 11], none⟩]
def ingotref5_Head_r4 : List AOper := [
  ⟨some 12, .mov, [.t 5], none⟩,
  ⟨some 13, (.conv .u8), [.t 12], none⟩,
  ⟨some 14, .mov, [.t 5], none⟩,
  ⟨some 15, (.bin .shr), [.t 14, .c (.int .u64 8)], none⟩,
  ⟨some 16, (.conv .u8), [.t 15], none⟩,
  ⟨some 17, .mov, [.t 5], none⟩,
  ⟨some 18, (.bin .shr), [.t 17, .c (.int .u64 16)], none⟩,
  ⟨some 19, (.conv .u8), [.t 18], none⟩,
  ⟨some 20, (.bsl 1), [.t 13, .t 16, .t 19], none⟩,
  ⟨some 4, .mov, [.t 20], none⟩]
def ingotref5_Head : AFunc := ⟨21, (.seq (.region ingotref5_Head_r0 [0, 1]) (.seq (.region ingotref5_Head_r1 [1, 5]) (.seq (.seq (.region ingotref5_Head_r2 [5, 9]) (.cond (.t 9) (.region ingotref5_Head_r3 [5]) .skip)) (.seq (.region ingotref5_Head_r4 [4]) .ret)))), [.t 4]⟩
def ingotref4_Pack_r0 : List AOper := [
  ⟨some 2, .mov, [.c (.slc 0 [] true)], none⟩]
def ingotref4_Pack_r1 : List AOper := [
  ⟨some 5, .mov, [.t 0], none⟩,
  ⟨some 6, .lens, [.t 5], none⟩,
  ⟨some 3, .mov, [.t 6], none⟩]
def ingotref4_Pack_r2 : List AOper := [
  ⟨some 7, .mov, [.t 3], none⟩,
  ⟨some 8, (.bin .lss), [.t 7, .c (.int .i64 15)], none⟩]
def ingotref4_Pack_r3 : List AOper := [
  ⟨some 9, .mov, [.t 3], none⟩,
  ⟨some 10, (.bin .shl), [.t 9, .c (.int .u64 4)], none⟩,
  ⟨some 11, (.conv .u8), [.t 10], none⟩,
  ⟨some 12, (.bsl 1), [.t 11], none⟩,
  ⟨some 13, .mov, [.t 0], none⟩,
  ⟨some 14, (.app 1 1), [.t 12, .t 13], none⟩,
  ⟨some 2, .mov, [.t 14], none⟩]
def ingotref4_Pack_r4 : List AOper := [
  ⟨some 15, (.bsl 1), [.c (.int .u8 240)], none⟩,
  ⟨some 4, .mov, [.t 15], none⟩]
def ingotref4_Pack_r5 : List AOper := [
  ⟨some 16, .mov, [.t 3], none⟩,
  ⟨some 17, (.bin .sub), [.t 16, .c (.int .i64 15)], none⟩,
  ⟨some 3, .mov, [.t 17], none⟩]
def ingotref4_Pack_r6 : List AOper := [
  ⟨some 18, .mov, [.t 3], none⟩,
  ⟨some 19, (.bin .geq), [.t 18, .c (.int .i64 255)], none⟩]
def ingotref4_Pack_r7 : List AOper := [
  ⟨some 20, .mov, [.t 4], none⟩,
  ⟨some 21, (.bsl 1), [.c (.int .u8 255)], none⟩,
  ⟨some 22, (.app 1 1), [.t 20, .t 21], none⟩,
  ⟨some 4, .mov, [.t 22], none⟩]
def ingotref4_Pack_r8 : List AOper := [
  ⟨some 23, .mov, [.t 3], none⟩,
  ⟨some 24, (.bin .sub), [.t 23, .c (.int .i64 255)], none⟩,
  ⟨some 3, .mov, [.t 24], none⟩]
def ingotref4_Pack_l0 : ACode := (.seq (.seq (.region ingotref4_Pack_r6 [0, 3, 4, 19]) (.cond (.t 19) .skip (.exit 0))) (.block 1 (.seq (.region ingotref4_Pack_r7 [0, 3, 4]) (.region ingotref4_Pack_r8 [0, 3, 4]))))
def ingotref4_Pack_r9 : List AOper := [
  ⟨some 25, .mov, [.t 4], none⟩,
  ⟨some 26, .mov, [.t 3], none⟩,
  ⟨some 27, (.conv .u8), [.t 26], none⟩,
  ⟨some 28, (.bsl 1), [.t 27], none⟩,
  ⟨some 29, (.app 1 1), [.t 25, .t 28], none⟩,
  ⟨some 30, .mov, [.t 0], none⟩,
  ⟨some 31, (.app 1 1), [.t 29, .t 30], none⟩,
  ⟨some 2, .mov, [.t 31], none⟩]
def ingotref4_Pack : AFunc := ⟨32, (.seq (.region ingotref4_Pack_r0 [0]) (.seq (.region ingotref4_Pack_r1 [0, 3]) (.seq (.seq (.region ingotref4_Pack_r2 [0, 3, 8]) (.cond (.t 8) (.seq (.region ingotref4_Pack_r3 [2]) .ret) .skip)) (.seq (.region ingotref4_Pack_r4 [0, 3, 4]) (.seq (.region ingotref4_Pack_r5 [0, 3, 4]) (.seq (.block 0 (.loop ingotref4_Pack_l0)) (.seq (.region ingotref4_Pack_r9 [2]) .ret))))))), [.t 2]⟩
def lz4_reader_sequence_r0 : List AOper := [
  ⟨some 4, .mov, [.c (.bool false)], none⟩,
  ⟨some 5, .mov, [.c (.int .i64 0)], none⟩]
def lz4_reader_sequence_r1 : List AOper := [
  ⟨some 10, .mov, [.t 0], none⟩,
  ⟨some 11, .nilc, [.t 10], none⟩,
  ⟨some 12, (.fad 1), [.t 11], none⟩,
  ⟨some 13, (.load false 1), [.t 12], none⟩,
  ⟨some 14, .mov, [.t 0], none⟩,
  ⟨some 15, .nilc, [.t 14], none⟩,
  ⟨some 16, (.fad 0), [.t 15], none⟩,
  ⟨some 17, (.load false 1), [.t 16], none⟩,
  ⟨some 18, .lens, [.t 17], none⟩,
  ⟨some 19, (.bin .geq), [.t 13, .t 18], none⟩]
def lz4_reader_sequence_r2 : List AOper := [
  ⟨some 4, .mov, [.c (.bool false)], none⟩,
  ⟨some 5, .mov, [.c (.int .i64 3)], none⟩]
def lz4_reader_sequence_r3 : List AOper := [
  ⟨some 20, .mov, [.t 0], none⟩,
  ⟨some 21, .nilc, [.t 20], none⟩,
  ⟨some 22, (.fad 0), [.t 21], none⟩,
  ⟨some 23, (.load false 1), [.t 22], none⟩,
  ⟨some 24, .mov, [.t 0], none⟩,
  ⟨some 25, .nilc, [.t 24], none⟩,
  ⟨some 26, (.fad 1), [.t 25], none⟩,
  ⟨some 27, (.load false 1), [.t 26], none⟩,
  ⟨some 28, (.iad 1), [.t 23, .t 27], none⟩,
  ⟨some 29, (.load false 1), [.t 28], none⟩,
  ⟨some 30, (.conv .i64), [.t 29], none⟩,
  ⟨some 6, .mov, [.t 30], none⟩]
def lz4_reader_sequence_r4 : List AOper := [
  ⟨some 31, .mov, [.t 0], none⟩,
  ⟨some 32, .nilc, [.t 31], none⟩,
  ⟨some 33, (.fad 1), [.t 32], none⟩,
  ⟨some 34, (.load false 1), [.t 33], none⟩,
  ⟨some 35, (.bin .add), [.t 34, .c (.int .i64 1)], none⟩,
  ⟨some 36, .nilc, [.t 31], none⟩,
  ⟨some 37, (.fad 1), [.t 36], none⟩,
  ⟨none, (.store 1), [.t 37, .t 35], none⟩]
def lz4_reader_sequence_r5 : List AOper := [
  ⟨some 39, .mov, [.t 0], none⟩,
  ⟨some 40, .mov, [.t 6], none⟩,
  ⟨some 41, (.bin .shr), [.t 40, .c (.int .u64 4)], none⟩,
  ⟨some 42, (.call f_lz4_reader_length), [.t 39, .t 41], none⟩,
  ⟨some 38, .mov, [.t 42], none⟩,
  ⟨some 43, (.ext 0), [.t 38], none⟩,
  ⟨some 44, (.ext 1), [.t 38], none⟩,
  ⟨some 7, .mov, [.t 43], none⟩,
  ⟨some 8, .mov, [.t 44], none⟩]
def lz4_reader_sequence_r6 : List AOper := [
  ⟨some 46, .mov, [.t 8], none⟩,
  ⟨some 47, .unot, [.t 46], none⟩,
  ⟨some 45, .mov, [.t 47], none⟩]
def lz4_reader_sequence_r7 : List AOper := [
  ⟨some 4, .mov, [.c (.bool false)], none⟩,
  ⟨some 5, .mov, [.c (.int .i64 3)], none⟩]
def lz4_reader_sequence_r8 : List AOper := [
  ⟨some 49, .mov, [.t 7], none⟩,
  ⟨some 50, .mov, [.t 1], none⟩,
  ⟨some 51, .mov, [.t 0], none⟩,
  ⟨some 52, .nilc, [.t 51], none⟩,
  ⟨some 53, (.fad 2), [.t 52], none⟩,
  ⟨some 54, (.load false 1), [.t 53], none⟩,
  ⟨some 55, .lens, [.t 54], none⟩,
  ⟨some 56, (.bin .sub), [.t 50, .t 55], none⟩,
  ⟨some 57, (.bin .gtr), [.t 49, .t 56], none⟩,
  ⟨some 48, .mov, [.t 57], none⟩]
def lz4_reader_sequence_r9 : List AOper := [
  ⟨some 4, .mov, [.c (.bool false)], none⟩,
  ⟨some 5, .mov, [.c (.int .i64 4)], none⟩]
def lz4_reader_sequence_r10 : List AOper := [
  ⟨some 59, .mov, [.t 7], none⟩,
  ⟨some 60, .mov, [.t 0], none⟩,
  ⟨some 61, .nilc, [.t 60], none⟩,
  ⟨some 62, (.fad 0), [.t 61], none⟩,
  ⟨some 63, (.load false 1), [.t 62], none⟩,
  ⟨some 64, .lens, [.t 63], none⟩,
  ⟨some 65, .mov, [.t 0], none⟩,
  ⟨some 66, .nilc, [.t 65], none⟩,
  ⟨some 67, (.fad 1), [.t 66], none⟩,
  ⟨some 68, (.load false 1), [.t 67], none⟩,
  ⟨some 69, (.bin .sub), [.t 64, .t 68], none⟩,
  ⟨some 70, (.bin .gtr), [.t 59, .t 69], none⟩,
  ⟨some 58, .mov, [.t 70], none⟩]
def lz4_reader_sequence_r11 : List AOper := [
  ⟨some 4, .mov, [.c (.bool false)], none⟩,
  ⟨some 5, .mov, [.c (.int .i64 3)], none⟩]
def lz4_reader_sequence_r12 : List AOper := [
  ⟨some 71, .mov, [.t 0], none⟩,
  ⟨some 72, .mov, [.t 0], none⟩,
  ⟨some 73, .nilc, [.t 72], none⟩,
  ⟨some 74, (.fad 2), [.t 73], none⟩,
  ⟨some 75, (.load false 1), [.t 74], none⟩,
  ⟨some 76, .mov, [.t 0], none⟩,
  ⟨some 77, .nilc, [.t 76], none⟩,
  ⟨some 78, (.fad 0), [.t 77], none⟩,
  ⟨some 79, (.load false 1), [.t 78], none⟩,
  ⟨some 80, .mov, [.t 0], none⟩,
  ⟨some 81, .nilc, [.t 80], none⟩,
  ⟨some 82, (.fad 1), [.t 81], none⟩,
  ⟨some 83, (.load false 1), [.t 82], none⟩,
  ⟨some 84, .mov, [.t 0], none⟩,
  ⟨some 85, .nilc, [.t 84], none⟩,
  ⟨some 86, (.fad 1), [.t 85], none⟩,
  ⟨some 87, (.load false 1), [.t 86], none⟩,
  ⟨some 88, .mov, [.t 7], none⟩,
  ⟨some 89, (.bin .add), [.t 87, .t 88], none⟩,
  ⟨some 90, (.slc 1 true true false), [.t 79, .t 83, .t 89], none⟩,
  ⟨some 91, (.app 1 1), [.t 75, .t 90], none⟩,
  ⟨some 92, .nilc, [.t 71], none⟩,
  ⟨some 93, (.fad 2), [.t 92], none⟩,
  ⟨none, (.store 1), [.t 93, .t 91], none⟩]
def lz4_reader_sequence_r13 : List AOper := [
  ⟨some 94, .mov, [.t 0], none⟩,
  ⟨some 95, .nilc, [.t 94], none⟩,
  ⟨some 96, (.fad 1), [.t 95], none⟩,
  ⟨some 97, (.load false 1), [.t 96], none⟩,
  ⟨some 98, .mov, [.t 7], none⟩,
  ⟨some 99, (.bin .add), [.t 97, .t 98], none⟩,
  ⟨some 100, .nilc, [.t 94], none⟩,
  ⟨some 101, (.fad 1), [.t 100], none⟩,
  ⟨none, (.store 1), [.t 101, .t 99], none⟩]
def lz4_reader_sequence_r14 : List AOper := [
  ⟨some 102, .mov, [.t 0], none⟩,
  ⟨some 103, .nilc, [.t 102], none⟩,
  ⟨some 104, (.fad 1), [.t 103], none⟩,
  ⟨some 105, (.load false 1), [.t 104], none⟩,
  ⟨some 106, .mov, [.t 0], none⟩,
  ⟨some 107, .nilc, [.t 106], none⟩,
  ⟨some 108, (.fad 0), [.t 107], none⟩,
  ⟨some 109, (.load false 1), [.t 108], none⟩,
  ⟨some 110, .lens, [.t 109], none⟩,
  ⟨some 111, (.bin .eql), [.t 105, .t 110], none⟩]
def lz4_reader_sequence_r15 : List AOper := [
  ⟨some 4, .mov, [.c (.bool true)], none⟩,
  ⟨some 5, .mov, [.c (.int .i64 0)], none⟩]
def lz4_reader_sequence_r16 : List AOper := [
  ⟨some 112, .mov, [.t 0], none⟩,
  ⟨some 113, .nilc, [.t 112], none⟩,
  ⟨some 114, (.fad 0), [.t 113], none⟩,
  ⟨some 115, (.load false 1), [.t 114], none⟩,
  ⟨some 116, .lens, [.t 115], none⟩,
  ⟨some 117, .mov, [.t 0], none⟩,
  ⟨some 118, .nilc, [.t 117], none⟩,
  ⟨some 119, (.fad 1), [.t 118], none⟩,
  ⟨some 120, (.load false 1), [.t 119], none⟩,
  ⟨some 121, (.bin .sub), [.t 116, .t 120], none⟩,
  ⟨some 122, (.bin .lss), [.t 121, .c (.int .i64 2)], none⟩]
def lz4_reader_sequence_r17 : List AOper := [
  ⟨some 4, .mov, [.c (.bool false)], none⟩,
  ⟨some 5, .mov, [.c (.int .i64 3)], none⟩]
def lz4_reader_sequence_r18 : List AOper := [
  ⟨some 123, .mov, [.t 0], none⟩,
  ⟨some 124, .nilc, [.t 123], none⟩,
  ⟨some 125, (.fad 0), [.t 124], none⟩,
  ⟨some 126, (.load false 1), [.t 125], none⟩,
  ⟨some 127, .mov, [.t 0], none⟩,
  ⟨some 128, .nilc, [.t 127], none⟩,
  ⟨some 129, (.fad 1), [.t 128], none⟩,
  ⟨some 130, (.load false 1), [.t 129], none⟩,
  ⟨some 131, (.iad 1), [.t 126, .t 130], none⟩,
  ⟨some 132, (.load false 1), [.t 131], none⟩,
  ⟨some 133, (.conv .i64), [.t 132], none⟩,
  ⟨some 134, .mov, [.t 0], none⟩,
  ⟨some 135, .nilc, [.t 134], none⟩,
  ⟨some 136, (.fad 0), [.t 135], none⟩,
  ⟨some 137, (.load false 1), [.t 136], none⟩,
  ⟨some 138, .mov, [.t 0], none⟩,
  ⟨some 139, .nilc, [.t 138], none⟩,
  ⟨some 140, (.fad 1), [.t 139], none⟩,
  ⟨some 141, (.load false 1), [.t 140], none⟩,
  ⟨some 142, (.bin .add), [.t 141, .c (.int .i64 1)], none⟩,
  ⟨some 143, (.iad 1), [.t 137, .t 142], none⟩,
  ⟨some 144, (.load false 1), [.t 143], none⟩,
  ⟨some 145, (.conv .i64), [.t 144], none⟩,
  ⟨some 146, (.bin .shl), [.t 145, .c (.int .u64 8)], none⟩,
  ⟨some 147, (.bin .or), [.t 133, .t 146], none⟩,
  ⟨some 9, .mov, [.t 147], none⟩]
def lz4_reader_sequence_r19 : List AOper := [
  ⟨some 148, .mov, [.t 0], none⟩,
  ⟨some 149, .nilc, [.t 148], none⟩,
  ⟨some 150, (.fad 1), [.t 149], none⟩,
  ⟨some 151, (.load false 1), [.t 150], none⟩,
  ⟨some 152, (.bin .add), [.t 151, .c (.int .i64 2)], none⟩,
  ⟨some 153, .nilc, [.t 148], none⟩,
  ⟨some 154, (.fad 1), [.t 153], none⟩,
  ⟨none, (.store 1), [.t 154, .t 152], none⟩]
def lz4_reader_sequence_r20 : List AOper := [
  ⟨some 156, .mov, [.t 0], none⟩,
  ⟨some 157, .mov, [.t 6], none⟩,
  ⟨some 158, (.bin .and), [.t 157, .c (.int .i64 15)], none⟩,
  ⟨some 159, (.call f_lz4_reader_length), [.t 156, .t 158], none⟩,
  ⟨some 155, .mov, [.t 159], none⟩,
  ⟨some 160, (.ext 0), [.t 155], none⟩,
  ⟨some 161, (.ext 1), [.t 155], none⟩,
  ⟨some 7, .mov, [.t 160], none⟩,
  ⟨some 8, .mov, [.t 161], none⟩]
def lz4_reader_sequence_r21 : List AOper := [
  ⟨some 163, .mov, [.t 8], none⟩,
  ⟨some 164, .unot, [.t 163], none⟩,
  ⟨some 162, .mov, [.t 164], none⟩]
def lz4_reader_sequence_r22 : List AOper := [
  ⟨some 4, .mov, [.c (.bool false)], none⟩,
  ⟨some 5, .mov, [.c (.int .i64 3)], none⟩]
def lz4_reader_sequence_r23 : List AOper := [
  ⟨some 166, .mov, [.t 9], none⟩,
  ⟨some 167, (.bin .eql), [.t 166, .c (.int .i64 0)], none⟩,
  ⟨some 168, .mov, [.t 167], none⟩,
  ⟨some 169, .mov, [.t 9], some (168, false)⟩,
  ⟨some 170, .mov, [.t 0], some (168, false)⟩,
  ⟨some 171, .nilc, [.t 170], some (168, false)⟩,
  ⟨some 172, (.fad 2), [.t 171], some (168, false)⟩,
  ⟨some 173, (.load false 1), [.t 172], some (168, false)⟩,
  ⟨some 174, .lens, [.t 173], some (168, false)⟩,
  ⟨some 175, (.bin .gtr), [.t 169, .t 174], some (168, false)⟩,
  ⟨some 176, .pick, [.t 168, .c (.bool true), .t 175], none⟩,
  ⟨some 165, .mov, [.t 176], none⟩]
def lz4_reader_sequence_r24 : List AOper := [
  ⟨some 4, .mov, [.c (.bool false)], none⟩,
  ⟨some 5, .mov, [.c (.int .i64 2)], none⟩]
def lz4_reader_sequence_r25 : List AOper := [
  ⟨some 178, .mov, [.t 7], none⟩,
  ⟨some 179, (.bin .add), [.t 178, .c (.int .i64 4)], none⟩,
  ⟨some 180, .mov, [.t 1], none⟩,
  ⟨some 181, .mov, [.t 0], none⟩,
  ⟨some 182, .nilc, [.t 181], none⟩,
  ⟨some 183, (.fad 2), [.t 182], none⟩,
  ⟨some 184, (.load false 1), [.t 183], none⟩,
  ⟨some 185, .lens, [.t 184], none⟩,
  ⟨some 186, (.bin .sub), [.t 180, .t 185], none⟩,
  ⟨some 187, (.bin .gtr), [.t 179, .t 186], none⟩,
  ⟨some 177, .mov, [.t 187], none⟩]
def lz4_reader_sequence_r26 : List AOper := [
  ⟨some 4, .mov, [.c (.bool false)], none⟩,
  ⟨some 5, .mov, [.c (.int .i64 4)], none⟩]
def lz4_reader_sequence_r27 : List AOper := [
  ⟨some 188, .mov, [.t 7], none⟩,
  ⟨some 189, (.bin .add), [.t 188, .c (.int .i64 4)], none⟩,
  ⟨some 190, .mov, [.c (.int .i64 0)], none⟩]
def lz4_reader_sequence_r28 : List AOper := [
  ⟨some 191, (.bin .lss), [.t 190, .t 189], none⟩]
def lz4_reader_sequence_r29 : List AOper := [
  ⟨some 192, .mov, [.t 0], none⟩,
  ⟨some 193, .mov, [.t 0], none⟩,
  ⟨some 194, .nilc, [.t 193], none⟩,
  ⟨some 195, (.fad 2), [.t 194], none⟩,
  ⟨some 196, (.load false 1), [.t 195], none⟩,
  ⟨some 197, .mov, [.t 0], none⟩,
  ⟨some 198, .nilc, [.t 197], none⟩,
  ⟨some 199, (.fad 2), [.t 198], none⟩,
  ⟨some 200, (.load false 1), [.t 199], none⟩,
  ⟨some 201, .mov, [.t 0], none⟩,
  ⟨some 202, .nilc, [.t 201], none⟩,
  ⟨some 203, (.fad 2), [.t 202], none⟩,
  ⟨some 204, (.load false 1), [.t 203], none⟩,
  ⟨some 205, .lens, [.t 204], none⟩,
  ⟨some 206, .mov, [.t 9], none⟩,
  ⟨some 207, (.bin .sub), [.t 205, .t 206], none⟩,
  ⟨some 208, (.iad 1), [.t 200, .t 207], none⟩,
  ⟨some 209, (.load false 1), [.t 208], none⟩,
  ⟨some 210, (.bsl 1), [.t 209], none⟩,
  ⟨some 211, (.app 1 1), [.t 196, .t 210], none⟩,
  ⟨some 212, .nilc, [.t 192], none⟩,
  ⟨some 213, (.fad 2), [.t 212], none⟩,
  ⟨none, (.store 1), [.t 213, .t 211], none⟩]
def lz4_reader_sequence_r30 : List AOper := [
  ⟨some 214, (.bin .add), [.t 190, .c (.int .i64 1)], none⟩,
  ⟨some 190, .mov, [.t 214], none⟩]
def lz4_reader_sequence_l0 : ACode := (.seq (.region lz4_reader_sequence_r28 [0, 9, 189, 190, 191]) (.seq (.cond (.t 191) .skip (.exit 2)) (.seq (.block 3 (.region lz4_reader_sequence_r29 [0, 9, 189, 190])) (.region lz4_reader_sequence_r30 [0, 9, 189, 190]))))
def lz4_reader_sequence_r31 : List AOper := [
  ⟨some 4, .mov, [.c (.bool false)], none⟩,
  ⟨some 5, .mov, [.c (.int .i64 0)], none⟩]
def lz4_reader_sequence : AFunc := ⟨215, (.seq (.region lz4_reader_sequence_r0 [0, 1, 169, 170, 171, 172, 173, 174, 175]) (.seq (.seq (.region lz4_reader_sequence_r1 [0, 1, 19, 169, 170, 171, 172, 173, 174, 175]) (.cond (.t 19) (.seq (.region lz4_reader_sequence_r2 [4, 5]) .ret) .skip)) (.seq (.region lz4_reader_sequence_r3 [0, 1, 6, 169, 170, 171, 172, 173, 174, 175]) (.seq (.region lz4_reader_sequence_r4 [0, 1, 6, 169, 170, 171, 172, 173, 174, 175]) (.seq (.region lz4_reader_sequence_r5 [0, 1, 6, 7, 8, 169, 170, 171, 172, 173, 174, 175]) (.seq (.block 0 (.seq (.region lz4_reader_sequence_r6 [0, 1, 6, 7, 45, 169, 170, 171, 172, 173, 174, 175]) (.cond (.t 45) (.seq (.region lz4_reader_sequence_r7 [4, 5]) .ret) (.seq (.region lz4_reader_sequence_r8 [0, 1, 6, 7, 48, 169, 170, 171, 172, 173, 174, 175]) (.cond (.t 48) (.seq (.region lz4_reader_sequence_r9 [4, 5]) .ret) (.seq (.region lz4_reader_sequence_r10 [0, 1, 6, 7, 58, 169, 170, 171, 172, 173, 174, 175]) (.cond (.t 58) (.seq (.region lz4_reader_sequence_r11 [4, 5]) .ret) .skip))))))) (.seq (.region lz4_reader_sequence_r12 [0, 1, 6, 7, 169, 170, 171, 172, 173, 174, 175]) (.seq (.seq (.region lz4_reader_sequence_r13 [0, 1, 6, 169, 170, 171, 172, 173, 174, 175]) (.seq (.region lz4_reader_sequence_r14 [0, 1, 6, 111, 169, 170, 171, 172, 173, 174, 175]) (.cond (.t 111) (.seq (.region lz4_reader_sequence_r15 [4, 5]) .ret) .skip))) (.seq (.seq (.region lz4_reader_sequence_r16 [0, 1, 6, 122, 169, 170, 171, 172, 173, 174, 175]) (.cond (.t 122) (.seq (.region lz4_reader_sequence_r17 [4, 5]) .ret) .skip)) (.seq (.region lz4_reader_sequence_r18 [0, 1, 6, 9, 169, 170, 171, 172, 173, 174, 175]) (.seq (.region lz4_reader_sequence_r19 [0, 1, 6, 9, 169, 170, 171, 172, 173, 174, 175]) (.seq (.region lz4_reader_sequence_r20 [0, 1, 7, 8, 9, 169, 170, 171, 172, 173, 174, 175]) (.seq (.block 1 (.seq (.region lz4_reader_sequence_r21 [0, 1, 7, 9, 162, 169, 170, 171, 172, 173, 174, 175]) (.cond (.t 162) (.seq (.region lz4_reader_sequence_r22 [4, 5]) .ret) (.seq (.region lz4_reader_sequence_r23 [0, 1, 7, 9, 165]) (.cond (.t 165) (.seq (.region lz4_reader_sequence_r24 [4, 5]) .ret) (.seq (.region lz4_reader_sequence_r25 [0, 7, 9, 177]) (.cond (.t 177) (.seq (.region lz4_reader_sequence_r26 [4, 5]) .ret) .skip))))))) (.seq (.seq (.region lz4_reader_sequence_r27 [0, 9, 189, 190]) (.block 2 (.loop lz4_reader_sequence_l0))) (.seq (.region lz4_reader_sequence_r31 [4, 5]) .ret))))))))))))))), [.t 4, .t 5]⟩
def slices_Clip_byte_byte_r0 : List AOper := [
  ⟨some 2, .mov, [.c (.slc 0 [] true)], none⟩]
def slices_Clip_byte_byte_r1 : List AOper := [
  ⟨some 3, .mov, [.t 0], none⟩,
  ⟨some 4, .mov, [.t 0], none⟩,
  ⟨some 5, .lens, [.t 4], none⟩,
  ⟨some 6, .mov, [.t 0], none⟩,
  ⟨some 7, .lens, [.t 6], none⟩,
  ⟨some 8, (.clip 1), [.t 3, .t 5, .t 7], none⟩,
  ⟨some 2, .mov, [.t 8], none⟩]
def slices_Clip_byte_byte : AFunc := ⟨9, (.seq (.region slices_Clip_byte_byte_r0 [0]) (.seq (.region slices_Clip_byte_byte_r1 [2]) .ret)), [.t 2]⟩
def ingotref4_more_r0 : List AOper := [
  ⟨some 6, .mov, [.c (.int .i64 0)], none⟩,
  ⟨some 7, .mov, [.c (.int .i64 0)], none⟩]
def ingotref4_more_r1 : List AOper := [
  ⟨some 8, .mov, [.t 2], none⟩,
  ⟨some 9, (.bin .lss), [.t 8, .c (.int .i64 15)], none⟩]
def ingotref4_more_r2 : List AOper := [
  ⟨some 10, .mov, [.t 2], none⟩,
  ⟨some 11, .mov, [.t 1], none⟩,
  ⟨some 6, .mov, [.t 10], none⟩,
  ⟨some 7, .mov, [.t 11], none⟩]
def ingotref4_more_r3 : List AOper := [
  ⟨some 12, .mov, [.t 1], none⟩,
  ⟨some 13, .mov, [.t 0], none⟩,
  ⟨some 14, .lens, [.t 13], none⟩,
  ⟨some 15, (.bin .eql), [.t 12, .t 14], none⟩]
def ingotref4_more_r4 : List AOper := [
  ⟨some 6, .mov, [.c (.int .i64 0)], none⟩,
  ⟨some 7, .mov, [.c (.int .i64 (-1))], none⟩]
def ingotref4_more_r5 : List AOper := [
  ⟨some 16, .mov, [.t 2], none⟩,
  ⟨some 17, .mov, [.t 0], none⟩,
  ⟨some 18, .mov, [.t 1], none⟩,
  ⟨some 19, (.iad 1), [.t 17, .t 18], none⟩,
  ⟨some 20, (.load false 1), [.t 19], none⟩,
  ⟨some 21, (.conv .i64), [.t 20], none⟩,
  ⟨some 22, (.bin .add), [.t 16, .t 21], none⟩,
  ⟨some 2, .mov, [.t 22], none⟩]
def ingotref4_more_r6 : List AOper := [
  ⟨some 23, .mov, [.t 1], none⟩,
  ⟨some 24, (.bin .add), [.t 23, .c (.int .i64 1)], none⟩,
  ⟨some 1, .mov, [.t 24], none⟩]
def ingotref4_more_r7 : List AOper := [
  ⟨some 25, .mov, [.t 0], none⟩,
  ⟨some 26, .mov, [.t 1], none⟩,
  ⟨some 27, (.bin .sub), [.t 26, .c (.int .i64 1)], none⟩,
  ⟨some 28, (.iad 1), [.t 25, .t 27], none⟩,
  ⟨some 29, (.load false 1), [.t 28], none⟩,
  ⟨some 30, (.bin .neq), [.t 29, .c (.int .u8 255)], none⟩]
def ingotref4_more_r8 : List AOper := [
  ⟨some 31, .mov, [.t 2], none⟩,
  ⟨some 32, .mov, [.t 1], none⟩,
  ⟨some 6, .mov, [.t 31], none⟩,
  ⟨some 7, .mov, [.t 32], none⟩]
def ingotref4_more_l0 : ACode := (.block 1 (.seq (.seq (.region ingotref4_more_r3 [0, 1, 2, 15]) (.cond (.t 15) (.seq (.region ingotref4_more_r4 [6, 7]) .ret) .skip)) (.seq (.region ingotref4_more_r5 [0, 1, 2]) (.seq (.region ingotref4_more_r6 [0, 1, 2]) (.seq (.region ingotref4_more_r7 [0, 1, 2, 30]) (.cond (.t 30) (.seq (.region ingotref4_more_r8 [6, 7]) .ret) .skip))))))
def ingotref4_more : AFunc := ⟨33, (.seq (.region ingotref4_more_r0 [0, 1, 2]) (.seq (.seq (.region ingotref4_more_r1 [0, 1, 2, 9]) (.cond (.t 9) (.seq (.region ingotref4_more_r2 [6, 7]) .ret) .skip)) (.block 0 (.loop ingotref4_more_l0)))), [.t 6, .t 7]⟩
def lz4_find_r0 : List AOper := [
  ⟨some 4, .mov, [.c (.slc 0 [] true)], none⟩]
def lz4_find_r1 : List AOper := [
  ⟨some 5, .mov, [.c (.slc 0 [] true)], none⟩]
def lz4_find_r2 : List AOper := [
  ⟨some 6, .mov, [.c (.int .i64 0)], none⟩]
def lz4_find_r3 : List AOper := [
  ⟨some 7, .mov, [.c (.int .i64 0)], none⟩]
def lz4_find_r4 : List AOper := [
  ⟨some 11, .mov, [.t 7], none⟩,
  ⟨some 12, (.bin .add), [.t 11, .c (.int .i64 4)], none⟩,
  ⟨some 13, .mov, [.t 1], none⟩,
  ⟨some 14, .lens, [.t 13], none⟩,
  ⟨some 15, (.bin .leq), [.t 12, .t 14], none⟩]
def lz4_find_r5 : List AOper := [
  ⟨some 16, .mov, [.t 1], none⟩,
  ⟨some 17, .mov, [.t 7], none⟩,
  ⟨some 18, (.slc 1 true false false), [.t 16, .t 17], none⟩,
  ⟨some 19, (.call f_lz4_hash), [.t 18], none⟩,
  ⟨some 8, .mov, [.t 19], none⟩]
def lz4_find_r6 : List AOper := [
  ⟨some 20, .mov, [.t 0], none⟩,
  ⟨some 21, .mov, [.t 8], none⟩,
  ⟨some 22, (.iad 1), [.t 20, .t 21], none⟩,
  ⟨some 23, (.load false 1), [.t 22], none⟩,
  ⟨some 9, .mov, [.t 23], none⟩]
def lz4_find_r7 : List AOper := [
  ⟨some 24, .mov, [.t 0], none⟩,
  ⟨some 25, .mov, [.t 8], none⟩,
  ⟨some 26, .mov, [.t 7], none⟩,
  ⟨some 27, (.iad 1), [.t 24, .t 25], none⟩,
  ⟨none, (.store 1), [.t 27, .t 26], none⟩]
def lz4_find_r8 : List AOper := [
  ⟨some 28, .mov, [.t 9], none⟩,
  ⟨some 29, (.bin .lss), [.t 28, .c (.int .i64 0)], none⟩,
  ⟨some 30, .mov, [.t 29], none⟩,
  ⟨some 31, .mov, [.t 7], some (30, false)⟩,
  ⟨some 32, .mov, [.t 9], some (30, false)⟩,
  ⟨some 33, (.bin .sub), [.t 31, .t 32], some (30, false)⟩,
  ⟨some 34, (.bin .gtr), [.t 33, .c (.int .i64 65535)], some (30, false)⟩,
  ⟨some 35, .pick, [.t 30, .c (.bool true), .t 34], none⟩,
  ⟨some 36, .mov, [.t 35], none⟩,
  ⟨some 37, .mov, [.t 1], some (36, false)⟩,
  ⟨some 38, .mov, [.t 9], some (36, false)⟩,
  ⟨some 39, .mov, [.t 9], some (36, false)⟩,
  ⟨some 40, (.bin .add), [.t 39, .c (.int .i64 4)], some (36, false)⟩,
  ⟨some 41, (.slc 1 true true false), [.t 37, .t 38, .t 40], some (36, false)⟩,
  ⟨some 42, .mov, [.t 1], some (36, false)⟩,
  ⟨some 43, .mov, [.t 7], some (36, false)⟩,
  ⟨some 44, .mov, [.t 7], some (36, false)⟩,
  ⟨some 45, (.bin .add), [.t 44, .c (.int .i64 4)], some (36, false)⟩,
  ⟨some 46, (.slc 1 true true false), [.t 42, .t 43, .t 45], some (36, false)⟩,
  ⟨some 47, (.call f_slices_Equal_byte_byte), [.t 41, .t 46], some (36, false)⟩,
  ⟨some 48, .unot, [.t 47], some (36, false)⟩,
  ⟨some 49, .pick, [.t 36, .c (.bool true), .t 48], none⟩]
def lz4_find_r9 : List AOper := [
  ⟨some 50, .mov, [.t 7], none⟩,
  ⟨some 51, (.bin .add), [.t 50, .c (.int .i64 1)], none⟩,
  ⟨some 7, .mov, [.t 51], none⟩]
def lz4_find_r10 : List AOper := [
  ⟨some 10, .mov, [.c (.int .i64 4)], none⟩]
def lz4_find_r11 : List AOper := [
  ⟨some 52, .mov, [.t 7], none⟩,
  ⟨some 53, .mov, [.t 10], none⟩,
  ⟨some 54, (.bin .add), [.t 52, .t 53], none⟩,
  ⟨some 55, .mov, [.t 1], none⟩,
  ⟨some 56, .lens, [.t 55], none⟩,
  ⟨some 57, (.bin .lss), [.t 54, .t 56], none⟩,
  ⟨some 58, .mov, [.t 57], none⟩,
  ⟨some 59, .mov, [.t 1], some (58, true)⟩,
  ⟨some 60, .mov, [.t 9], some (58, true)⟩,
  ⟨some 61, .mov, [.t 10], some (58, true)⟩,
  ⟨some 62, (.bin .add), [.t 60, .t 61], some (58, true)⟩,
  ⟨some 63, (.iad 1), [.t 59, .t 62], some (58, true)⟩,
  ⟨some 64, (.load false 1), [.t 63], some (58, true)⟩,
  ⟨some 65, .mov, [.t 1], some (58, true)⟩,
  ⟨some 66, .mov, [.t 7], some (58, true)⟩,
  ⟨some 67, .mov, [.t 10], some (58, true)⟩,
  ⟨some 68, (.bin .add), [.t 66, .t 67], some (58, true)⟩,
  ⟨some 69, (.iad 1), [.t 65, .t 68], some (58, true)⟩,
  ⟨some 70, (.load false 1), [.t 69], some (58, true)⟩,
  ⟨some 71, (.bin .eql), [.t 64, .t 70], some (58, true)⟩,
  ⟨some 72, .pick, [.t 58, .t 71, .c (.bool false)], none⟩]
def lz4_find_r12 : List AOper := [
  ⟨some 73, .mov, [.t 10], none⟩,
  ⟨some 74, (.bin .add), [.t 73, .c (.int .i64 1)], none⟩,
  ⟨some 10, .mov, [.t 74], none⟩]
def lz4_find_l0 : ACode := (.seq (.seq (.region lz4_find_r11 [0, 1, 5, 6, 7, 9, 10, 31, 32, 33, 34, 37, 38, 39, 40, 41, 42, 43, 44, 45, 46, 47, 48, 59, 60, 61, 62, 63, 64, 65, 66, 67, 68, 69, 70, 71, 72]) (.cond (.t 72) .skip (.exit 2))) (.block 3 (.region lz4_find_r12 [0, 1, 5, 6, 7, 9, 10, 31, 32, 33, 34, 37, 38, 39, 40, 41, 42, 43, 44, 45, 46, 47, 48, 59, 60, 61, 62, 63, 64, 65, 66, 67, 68, 69, 70, 71])))
def lz4_find_r13 : List AOper := [
  ⟨some 75, .mov, [.t 5], none⟩,
  ⟨some 76, .mov, [.t 1], none⟩,
  ⟨some 77, .mov, [.t 6], none⟩,
  ⟨some 78, .mov, [.t 7], none⟩,
  ⟨some 79, (.slc 1 true true false), [.t 76, .t 77, .t 78], none⟩,
  ⟨some 80, .mov, [.t 7], none⟩,
  ⟨some 81, .mov, [.t 9], none⟩,
  ⟨some 82, (.bin .sub), [.t 80, .t 81], none⟩,
  ⟨some 83, .mov, [.t 10], none⟩,
  ⟨some 84, (.call f_lz4_put), [.t 75, .t 79, .t 82, .t 83], none⟩,
  ⟨some 5, .mov, [.t 84], none⟩]
def lz4_find_r14 : List AOper := [
  ⟨some 85, .mov, [.t 7], none⟩,
  ⟨some 86, .mov, [.t 10], none⟩,
  ⟨some 87, (.bin .add), [.t 85, .t 86], none⟩,
  ⟨some 7, .mov, [.t 87], none⟩]
def lz4_find_r15 : List AOper := [
  ⟨some 88, .mov, [.t 7], none⟩,
  ⟨some 6, .mov, [.t 88], none⟩]
def lz4_find_l1 : ACode := (.seq (.seq (.region lz4_find_r4 [0, 1, 5, 6, 7, 15, 31, 32, 33, 34, 37, 38, 39, 40, 41, 42, 43, 44, 45, 46, 47, 48, 59, 60, 61, 62, 63, 64, 65, 66, 67, 68, 69, 70, 71]) (.cond (.t 15) .skip (.exit 0))) (.block 1 (.seq (.region lz4_find_r5 [0, 1, 5, 6, 7, 8, 31, 32, 33, 34, 37, 38, 39, 40, 41, 42, 43, 44, 45, 46, 47, 48, 59, 60, 61, 62, 63, 64, 65, 66, 67, 68, 69, 70, 71]) (.seq (.region lz4_find_r6 [0, 1, 5, 6, 7, 8, 9, 31, 32, 33, 34, 37, 38, 39, 40, 41, 42, 43, 44, 45, 46, 47, 48, 59, 60, 61, 62, 63, 64, 65, 66, 67, 68, 69, 70, 71]) (.seq (.region lz4_find_r7 [0, 1, 5, 6, 7, 9, 31, 32, 33, 34, 37, 38, 39, 40, 41, 42, 43, 44, 45, 46, 47, 48, 59, 60, 61, 62, 63, 64, 65, 66, 67, 68, 69, 70, 71]) (.seq (.seq (.region lz4_find_r8 [0, 1, 5, 6, 7, 9, 31, 32, 33, 34, 37, 38, 39, 40, 41, 42, 43, 44, 45, 46, 47, 48, 49, 59, 60, 61, 62, 63, 64, 65, 66, 67, 68, 69, 70, 71]) (.cond (.t 49) (.seq (.region lz4_find_r9 [0, 1, 5, 6, 7, 31, 32, 33, 34, 37, 38, 39, 40, 41, 42, 43, 44, 45, 46, 47, 48, 59, 60, 61, 62, 63, 64, 65, 66, 67, 68, 69, 70, 71]) (.exit 1)) .skip)) (.seq (.region lz4_find_r10 [0, 1, 5, 6, 7, 9, 10, 31, 32, 33, 34, 37, 38, 39, 40, 41, 42, 43, 44, 45, 46, 47, 48, 59, 60, 61, 62, 63, 64, 65, 66, 67, 68, 69, 70, 71]) (.seq (.block 2 (.loop lz4_find_l0)) (.seq (.region lz4_find_r13 [0, 1, 5, 7, 10, 31, 32, 33, 34, 37, 38, 39, 40, 41, 42, 43, 44, 45, 46, 47, 48, 59, 60, 61, 62, 63, 64, 65, 66, 67, 68, 69, 70, 71]) (.seq (.region lz4_find_r14 [0, 1, 5, 7, 31, 32, 33, 34, 37, 38, 39, 40, 41, 42, 43, 44, 45, 46, 47, 48, 59, 60, 61, 62, 63, 64, 65, 66, 67, 68, 69, 70, 71]) (.region lz4_find_r15 [0, 1, 5, 6, 7, 31, 32, 33, 34, 37, 38, 39, 40, 41, 42, 43, 44, 45, 46, 47, 48, 59, 60, 61, 62, 63, 64, 65, 66, 67, 68, 69, 70, 71])))))))))))
def lz4_find_r16 : List AOper := [
  ⟨some 89, .mov, [.t 5], none⟩,
  ⟨some 90, .mov, [.t 1], none⟩,
  ⟨some 91, .mov, [.t 6], none⟩,
  ⟨some 92, (.slc 1 true false false), [.t 90, .t 91], none⟩,
  ⟨some 93, (.call f_lz4_put), [.t 89, .t 92, .c (.int .i64 0), .c (.int .i64 0)], none⟩,
  ⟨some 4, .mov, [.t 93], none⟩]
def lz4_find : AFunc := ⟨94, (.seq (.region lz4_find_r0 [0, 1, 31, 32, 33, 34, 37, 38, 39, 40, 41, 42, 43, 44, 45, 46, 47, 48, 59, 60, 61, 62, 63, 64, 65, 66, 67, 68, 69, 70, 71]) (.seq (.region lz4_find_r1 [0, 1, 5, 31, 32, 33, 34, 37, 38, 39, 40, 41, 42, 43, 44, 45, 46, 47, 48, 59, 60, 61, 62, 63, 64, 65, 66, 67, 68, 69, 70, 71]) (.seq (.region lz4_find_r2 [0, 1, 5, 6, 31, 32, 33, 34, 37, 38, 39, 40, 41, 42, 43, 44, 45, 46, 47, 48, 59, 60, 61, 62, 63, 64, 65, 66, 67, 68, 69, 70, 71]) (.seq (.seq (.region lz4_find_r3 [0, 1, 5, 6, 7, 31, 32, 33, 34, 37, 38, 39, 40, 41, 42, 43, 44, 45, 46, 47, 48, 59, 60, 61, 62, 63, 64, 65, 66, 67, 68, 69, 70, 71]) (.block 0 (.loop lz4_find_l1))) (.seq (.region lz4_find_r16 [4]) .ret))))), [.t 4]⟩
def lz4_table_r0 : List AOper := [
  ⟨some 0, .mov, [.c (.slc 0 [] true)], none⟩]
def lz4_table_r1 : List AOper := [
  ⟨some 3, (.mks 1 8 (.int .i64 0)), [.c (.int .i64 4096), .c (.int .i64 4096)], none⟩,
  ⟨some 1, .mov, [.t 3], none⟩]
def lz4_table_r2 : List AOper := [
  ⟨some 4, .mov, [.t 1], none⟩,
  ⟨some 5, .lens, [.t 4], none⟩,
  ⟨some 6, .mov, [.c (.int .i64 0)], none⟩]
def lz4_table_r3 : List AOper := [
  ⟨some 7, (.bin .lss), [.t 6, .t 5], none⟩]
def lz4_table_r4 : List AOper := [
  ⟨some 8, .mov, [.t 6], none⟩,
  ⟨some 2, .mov, [.t 8], none⟩]
def lz4_table_r5 : List AOper := [
  ⟨some 9, .mov, [.t 1], none⟩,
  ⟨some 10, .mov, [.t 2], none⟩,
  ⟨some 11, (.iad 1), [.t 9, .t 10], none⟩,
  ⟨none, (.store 1), [.t 11, .c (.int .i64 (-1))], none⟩]
def lz4_table_r6 : List AOper := [
  ⟨some 12, (.bin .add), [.t 6, .c (.int .i64 1)], none⟩,
  ⟨some 6, .mov, [.t 12], none⟩]
def lz4_table_l0 : ACode := (.seq (.region lz4_table_r3 [1, 5, 6, 7]) (.seq (.cond (.t 7) .skip (.exit 0)) (.seq (.block 1 (.seq (.region lz4_table_r4 [1, 2, 5, 6]) (.region lz4_table_r5 [1, 5, 6]))) (.region lz4_table_r6 [1, 5, 6]))))
def lz4_table_r7 : List AOper := [
  ⟨some 13, .mov, [.t 1], none⟩,
  ⟨some 0, .mov, [.t 13], none⟩]
def lz4_table : AFunc := ⟨14, (.seq (.region lz4_table_r0 []) (.seq (.region lz4_table_r1 [1]) (.seq (.seq (.region lz4_table_r2 [1, 5, 6]) (.block 0 (.loop lz4_table_l0))) (.seq (.region lz4_table_r7 [0]) .ret)))), [.t 0]⟩
def lz4_put_r0 : List AOper := [
  ⟨some 8, .mov, [.c (.slc 0 [] true)], none⟩]
def lz4_put_r1 : List AOper := [
  ⟨some 9, .mov, [.c (.int .i64 0)], none⟩]
def lz4_put_r2 : List AOper := [
  ⟨some 10, .mov, [.t 3], none⟩,
  ⟨some 11, (.bin .gtr), [.t 10, .c (.int .i64 0)], none⟩]
def lz4_put_r3 : List AOper := [
  ⟨some 12, .mov, [.t 3], none⟩,
  ⟨some 13, (.bin .sub), [.t 12, .c (.int .i64 4)], none⟩,
  ⟨some 14, .min, [.t 13, .c (.int .i64 15)], none⟩,
  ⟨some 9, .mov, [.t 14], none⟩]
def lz4_put_r4 : List AOper := [
  ⟨some 15, .mov, [.t 0], none⟩,
  ⟨some 16, .mov, [.t 1], none⟩,
  ⟨some 17, .lens, [.t 16], none⟩,
  ⟨some 18, .min, [.t 17, .c (.int .i64 15)], none⟩,
  ⟨some 19, (.bin .shl), [.t 18, .c (.int .u64 4)], none⟩,
  ⟨some 20, .mov, [.t 9], none⟩,
  ⟨some 21, (.bin .or), [.t 19, .t 20], none⟩,
  ⟨some 22, (.conv .u8), [.t 21], none⟩,
  ⟨some 23, (.bsl 1), [.t 22], none⟩,
  ⟨some 24, (.app 1 1), [.t 15, .t 23], none⟩,
  ⟨some 0, .mov, [.t 24], none⟩]
def lz4_put_r5 : List AOper := [
  ⟨some 25, .mov, [.t 0], none⟩,
  ⟨some 26, .mov, [.t 1], none⟩,
  ⟨some 27, .lens, [.t 26], none⟩,
  ⟨some 28, (.call f_lz4_rest), [.t 25, .t 27], none⟩,
  ⟨some 0, .mov, [.t 28], none⟩]
def lz4_put_r6 : List AOper := [
  ⟨some 29, .mov, [.t 0], none⟩,
  ⟨some 30, .mov, [.t 1], none⟩,
  ⟨some 31, (.app 1 1), [.t 29, .t 30], none⟩,
  ⟨some 0, .mov, [.t 31], none⟩]
def lz4_put_r7 : List AOper := [
  ⟨some 32, .mov, [.t 3], none⟩,
  ⟨some 33, (.bin .eql), [.t 32, .c (.int .i64 0)], none⟩]
def lz4_put_r8 : List AOper := [
  ⟨some 34, .mov, [.t 0], none⟩,
  ⟨some 8, .mov, [.t 34], none⟩]
def lz4_put_r9 : List AOper := [
  ⟨some 35, .mov, [.t 0], none⟩,
  ⟨some 36, .mov, [.t 2], none⟩,
  ⟨some 37, (.conv .u8), [.t 36], none⟩,
  ⟨some 38, .mov, [.t 2], none⟩,
  ⟨some 39, (.bin .shr), [.t 38, .c (.int .u64 8)], none⟩,
  ⟨some 40, (.conv .u8), [.t 39], none⟩,
  ⟨some 41, (.bsl 1), [.t 37, .t 40], none⟩,
  ⟨some 42, (.app 1 1), [.t 35, .t 41], none⟩,
  ⟨some 43, .mov, [.t 3], none⟩,
  ⟨some 44, (.bin .sub), [.t 43, .c (.int .i64 4)], none⟩,
  ⟨some 45, (.call f_lz4_rest), [.t 42, .t 44], none⟩,
  ⟨some 8, .mov, [.t 45], none⟩]
def lz4_put : AFunc := ⟨46, (.seq (.region lz4_put_r0 [0, 1, 2, 3]) (.seq (.region lz4_put_r1 [0, 1, 2, 3, 9]) (.seq (.seq (.region lz4_put_r2 [0, 1, 2, 3, 9, 11]) (.cond (.t 11) (.region lz4_put_r3 [0, 1, 2, 3, 9]) .skip)) (.seq (.region lz4_put_r4 [0, 1, 2, 3]) (.seq (.region lz4_put_r5 [0, 1, 2, 3]) (.seq (.region lz4_put_r6 [0, 2, 3]) (.seq (.seq (.region lz4_put_r7 [0, 2, 3, 33]) (.cond (.t 33) (.seq (.region lz4_put_r8 [8]) .ret) .skip)) (.seq (.region lz4_put_r9 [8]) .ret)))))))), [.t 8]⟩
def chunk_known_r0 : List AOper := [
  ⟨some 2, .mov, [.c (.bool false)], none⟩]
def chunk_known_r1 : List AOper := [
  ⟨some 3, .mov, [.t 0], none⟩]
def chunk_known_r2 : List AOper := [
  ⟨some 5, (.bin .eql), [.t 3, .c (.int .i64 0)], none⟩,
  ⟨some 4, .mov, [.t 5], none⟩]
def chunk_known_r3 : List AOper := [
  ⟨some 7, (.bin .eql), [.t 3, .c (.int .i64 4)], none⟩,
  ⟨some 6, .mov, [.t 7], none⟩]
def chunk_known_r4 : List AOper := [
  ⟨some 2, .mov, [.c (.bool true)], none⟩]
def chunk_known_r5 : List AOper := [
  ⟨some 2, .mov, [.c (.bool false)], none⟩]
def chunk_known : AFunc := ⟨8, (.seq (.region chunk_known_r0 [0]) (.seq (.seq (.region chunk_known_r1 [3]) (.block 0 (.seq (.block 2 (.block 1 (.seq (.seq (.seq (.region chunk_known_r2 [3, 4]) (.cond (.t 4) (.exit 1) .skip)) (.seq (.region chunk_known_r3 [6]) (.cond (.t 6) (.exit 2) .skip))) (.exit 0)))) (.seq (.seq (.region chunk_known_r4 [2]) .ret) (.exit 0))))) (.seq (.region chunk_known_r5 [2]) .ret))), [.t 2]⟩
def slices_Clone_byte_byte_r0 : List AOper := [
  ⟨some 2, .mov, [.c (.slc 0 [] true)], none⟩]
def slices_Clone_byte_byte_r1 : List AOper := [
  ⟨some 3, .mov, [.t 0], none⟩,
  ⟨some 4, (.isnil false), [.t 3, .c (.slc 0 [] true)], none⟩]
def slices_Clone_byte_byte_r2 : List AOper := [
  ⟨some 2, .mov, [.c (.slc 0 [] true)], none⟩]
def slices_Clone_byte_byte_r3 : List AOper := [
  ⟨some 5, (.bsl 1), [], none⟩,
  ⟨some 6, .mov, [.t 0], none⟩,
  ⟨some 7, (.app 1 1), [.t 5, .t 6], none⟩,
  ⟨some 2, .mov, [.t 7], none⟩]
def slices_Clone_byte_byte : AFunc := ⟨8, (.seq (.region slices_Clone_byte_byte_r0 [0]) (.seq (.seq (.region slices_Clone_byte_byte_r1 [0, 4]) (.cond (.t 4) (.seq (.region slices_Clone_byte_byte_r2 [2]) .ret) .skip)) (.seq (.region slices_Clone_byte_byte_r3 [2]) .ret))), [.t 2]⟩
def chunk_next_r0 : List AOper := [
  ⟨some 4, .mov, [.c (.slc 0 [] true)], none⟩,
  ⟨some 5, .mov, [.c (.bool false)], none⟩,
  ⟨some 6, .mov, [.c (.int .i64 0)], none⟩]
def chunk_next_r1 : List AOper := [
  ⟨some 11, .mov, [.t 0], none⟩,
  ⟨some 12, .mov, [.t 1], none⟩,
  ⟨some 13, (.call f_chunk_Parse), [.t 11, .t 12], none⟩,
  ⟨some 10, .mov, [.t 13], none⟩,
  ⟨some 14, (.ext 0), [.t 10], none⟩,
  ⟨some 15, (.ext 1), [.t 10], none⟩,
  ⟨some 16, (.ext 2), [.t 10], none⟩,
  ⟨some 7, .mov, [.t 14], none⟩,
  ⟨some 8, .mov, [.t 15], none⟩,
  ⟨some 9, .mov, [.t 16], none⟩]
def chunk_next_r2 : List AOper := [
  ⟨some 17, .mov, [.t 9], none⟩,
  ⟨some 18, (.bin .neq), [.t 17, .c (.int .i64 0)], none⟩]
def chunk_next_r3 : List AOper := [
  ⟨some 19, .mov, [.t 9], none⟩,
  ⟨some 4, .mov, [.c (.slc 0 [] true)], none⟩,
  ⟨some 5, .mov, [.c (.bool false)], none⟩,
  ⟨some 6, .mov, [.t 19], none⟩]
def chunk_next_r4 : List AOper := [
  ⟨some 20, .mov, [.t 7], none⟩,
  ⟨some 21, .mov, [.t 0], none⟩,
  ⟨some 22, .lens, [.t 21], none⟩,
  ⟨some 23, .mov, [.t 1], none⟩,
  ⟨some 24, (.bin .sub), [.t 22, .t 23], none⟩,
  ⟨some 25, (.bin .sub), [.t 24, .c (.int .i64 3)], none⟩,
  ⟨some 26, (.bin .gtr), [.t 20, .t 25], none⟩]
def chunk_next_r5 : List AOper := [
  ⟨some 4, .mov, [.c (.slc 0 [] true)], none⟩,
  ⟨some 5, .mov, [.c (.bool false)], none⟩,
  ⟨some 6, .mov, [.c (.int .i64 3)], none⟩]
def chunk_next_r6 : List AOper := [
  ⟨some 27, .mov, [.t 0], none⟩,
  ⟨some 28, .mov, [.t 1], none⟩,
  ⟨some 29, (.bin .add), [.t 28, .c (.int .i64 3)], none⟩,
  ⟨some 30, .mov, [.t 1], none⟩,
  ⟨some 31, (.bin .add), [.t 30, .c (.int .i64 3)], none⟩,
  ⟨some 32, .mov, [.t 7], none⟩,
  ⟨some 33, (.bin .add), [.t 31, .t 32], none⟩,
  ⟨some 34, (.slc 1 true true false), [.t 27, .t 29, .t 33], none⟩,
  ⟨some 35, .mov, [.t 8], none⟩,
  ⟨some 4, .mov, [.t 34], none⟩,
  ⟨some 5, .mov, [.t 35], none⟩,
  ⟨some 6, .mov, [.c (.int .i64 0)], none⟩]
def chunk_next : AFunc := ⟨36, (.seq (.region chunk_next_r0 [0, 1]) (.seq (.region chunk_next_r1 [0, 1, 7, 8, 9]) (.seq (.seq (.region chunk_next_r2 [0, 1, 7, 8, 9, 18]) (.cond (.t 18) (.seq (.region chunk_next_r3 [4, 5, 6]) .ret) .skip)) (.seq (.seq (.region chunk_next_r4 [0, 1, 7, 8, 26]) (.cond (.t 26) (.seq (.region chunk_next_r5 [4, 5, 6]) .ret) .skip)) (.seq (.region chunk_next_r6 [4, 5, 6]) .ret))))), [.t 4, .t 5, .t 6]⟩
def lz4_reader_length_r0 : List AOper := [
  ⟨some 4, .mov, [.c (.int .i64 0)], none⟩,
  ⟨some 5, .mov, [.c (.bool false)], none⟩]
def lz4_reader_length_r1 : List AOper := [
  ⟨some 7, .mov, [.t 1], none⟩,
  ⟨some 8, (.bin .lss), [.t 7, .c (.int .i64 15)], none⟩]
def lz4_reader_length_r2 : List AOper := [
  ⟨some 9, .mov, [.t 1], none⟩,
  ⟨some 4, .mov, [.t 9], none⟩,
  ⟨some 5, .mov, [.c (.bool true)], none⟩]
def lz4_reader_length_r3 : List AOper := [
  ⟨some 10, .mov, [.t 0], none⟩,
  ⟨some 11, .nilc, [.t 10], none⟩,
  ⟨some 12, (.fad 1), [.t 11], none⟩,
  ⟨some 13, (.load false 1), [.t 12], none⟩,
  ⟨some 14, .mov, [.t 0], none⟩,
  ⟨some 15, .nilc, [.t 14], none⟩,
  ⟨some 16, (.fad 0), [.t 15], none⟩,
  ⟨some 17, (.load false 1), [.t 16], none⟩,
  ⟨some 18, .lens, [.t 17], none⟩,
  ⟨some 19, (.bin .lss), [.t 13, .t 18], none⟩]
def lz4_reader_length_r4 : List AOper := [
  ⟨some 20, .mov, [.t 0], none⟩,
  ⟨some 21, .nilc, [.t 20], none⟩,
  ⟨some 22, (.fad 0), [.t 21], none⟩,
  ⟨some 23, (.load false 1), [.t 22], none⟩,
  ⟨some 24, .mov, [.t 0], none⟩,
  ⟨some 25, .nilc, [.t 24], none⟩,
  ⟨some 26, (.fad 1), [.t 25], none⟩,
  ⟨some 27, (.load false 1), [.t 26], none⟩,
  ⟨some 28, (.iad 1), [.t 23, .t 27], none⟩,
  ⟨some 29, (.load false 1), [.t 28], none⟩,
  ⟨some 30, (.conv .i64), [.t 29], none⟩,
  ⟨some 6, .mov, [.t 30], none⟩]
def lz4_reader_length_r5 : List AOper := [
  ⟨some 31, .mov, [.t 0], none⟩,
  ⟨some 32, .nilc, [.t 31], none⟩,
  ⟨some 33, (.fad 1), [.t 32], none⟩,
  ⟨some 34, (.load false 1), [.t 33], none⟩,
  ⟨some 35, (.bin .add), [.t 34, .c (.int .i64 1)], none⟩,
  ⟨some 36, .nilc, [.t 31], none⟩,
  ⟨some 37, (.fad 1), [.t 36], none⟩,
  ⟨none, (.store 1), [.t 37, .t 35], none⟩]
def lz4_reader_length_r6 : List AOper := [
  ⟨some 38, .mov, [.t 1], none⟩,
  ⟨some 39, .mov, [.t 6], none⟩,
  ⟨some 40, (.bin .add), [.t 38, .t 39], none⟩,
  ⟨some 41, .min, [.t 40, .c (.int .i64 2097152)], none⟩,
  ⟨some 1, .mov, [.t 41], none⟩]
def lz4_reader_length_r7 : List AOper := [
  ⟨some 42, .mov, [.t 6], none⟩,
  ⟨some 43, (.bin .lss), [.t 42, .c (.int .i64 255)], none⟩]
def lz4_reader_length_r8 : List AOper := [
  ⟨some 44, .mov, [.t 1], none⟩,
  ⟨some 4, .mov, [.t 44], none⟩,
  ⟨some 5, .mov, [.c (.bool true)], none⟩]
def lz4_reader_length_l0 : ACode := (.seq (.seq (.region lz4_reader_length_r3 [0, 1, 19]) (.cond (.t 19) .skip (.exit 0))) (.block 1 (.seq (.region lz4_reader_length_r4 [0, 1, 6]) (.seq (.region lz4_reader_length_r5 [0, 1, 6]) (.seq (.region lz4_reader_length_r6 [0, 1, 6]) (.seq (.region lz4_reader_length_r7 [0, 1, 43]) (.cond (.t 43) (.seq (.region lz4_reader_length_r8 [4, 5]) .ret) .skip)))))))
def lz4_reader_length_r9 : List AOper := [
  ⟨some 4, .mov, [.c (.int .i64 0)], none⟩,
  ⟨some 5, .mov, [.c (.bool false)], none⟩]
def lz4_reader_length : AFunc := ⟨45, (.seq (.region lz4_reader_length_r0 [0, 1]) (.seq (.seq (.region lz4_reader_length_r1 [0, 1, 8]) (.cond (.t 8) (.seq (.region lz4_reader_length_r2 [4, 5]) .ret) .skip)) (.seq (.block 0 (.loop lz4_reader_length_l0)) (.seq (.region lz4_reader_length_r9 [4, 5]) .ret)))), [.t 4, .t 5]⟩
def lz4_hash_r0 : List AOper := [
  ⟨some 2, .mov, [.c (.int .i64 0)], none⟩]
def lz4_hash_r1 : List AOper := [
  ⟨some 4, .mov, [.t 0], none⟩,
  ⟨some 5, (.iad 1), [.t 4, .c (.int .i64 0)], none⟩,
  ⟨some 6, (.load false 1), [.t 5], none⟩,
  ⟨some 7, (.conv .u32), [.t 6], none⟩,
  ⟨some 8, .mov, [.t 0], none⟩,
  ⟨some 9, (.iad 1), [.t 8, .c (.int .i64 1)], none⟩,
  ⟨some 10, (.load false 1), [.t 9], none⟩,
  ⟨some 11, (.conv .u32), [.t 10], none⟩,
  ⟨some 12, (.bin .shl), [.t 11, .c (.int .u64 8)], none⟩,
  ⟨some 13, (.bin .or), [.t 7, .t 12], none⟩,
  ⟨some 14, .mov, [.t 0], none⟩,
  ⟨some 15, (.iad 1), [.t 14, .c (.int .i64 2)], none⟩,
  ⟨some 16, (.load false 1), [.t 15], none⟩,
  ⟨some 17, (.conv .u32), [.t 16], none⟩,
  ⟨some 18, (.bin .shl), [.t 17, .c (.int .u64 16)], none⟩,
  ⟨some 19, (.bin .or), [.t 13, .t 18], none⟩,
  ⟨some 20, .mov, [.t 0], none⟩,
  ⟨some 21, (.iad 1), [.t 20, .c (.int .i64 3)], none⟩,
  ⟨some 22, (.load false 1), [.t 21], none⟩,
  ⟨some 23, (.conv .u32), [.t 22], none⟩,
  ⟨some 24, (.bin .shl), [.t 23, .c (.int .u64 24)], none⟩,
  ⟨some 25, (.bin .or), [.t 19, .t 24], none⟩,
  ⟨some 3, .mov, [.t 25], none⟩]
def lz4_hash_r2 : List AOper := [
  ⟨some 26, .mov, [.t 3], none⟩,
  ⟨some 27, (.bin .mul), [.t 26, .c (.int .u32 2654435761)], none⟩,
  ⟨some 28, (.bin .shr), [.t 27, .c (.int .u64 20)], none⟩,
  ⟨some 29, (.conv .i64), [.t 28], none⟩,
  ⟨some 2, .mov, [.t 29], none⟩]
def lz4_hash : AFunc := ⟨30, (.seq (.region lz4_hash_r0 [0]) (.seq (.region lz4_hash_r1 [3]) (.seq (.region lz4_hash_r2 [2]) .ret))), [.t 2]⟩
def slices_Equal_byte_byte_r0 : List AOper := [
  ⟨some 4, .mov, [.c (.bool false)], none⟩]
def slices_Equal_byte_byte_r1 : List AOper := [
  ⟨some 6, .mov, [.t 0], none⟩,
  ⟨some 7, .lens, [.t 6], none⟩,
  ⟨some 8, .mov, [.t 1], none⟩,
  ⟨some 9, .lens, [.t 8], none⟩,
  ⟨some 10, (.bin .neq), [.t 7, .t 9], none⟩]
def slices_Equal_byte_byte_r2 : List AOper := [
  ⟨some 4, .mov, [.c (.bool false)], none⟩]
def slices_Equal_byte_byte_r3 : List AOper := [
  ⟨some 11, .mov, [.t 0], none⟩,
  ⟨some 12, .lens, [.t 11], none⟩,
  ⟨some 13, .mov, [.c (.int .i64 0)], none⟩]
def slices_Equal_byte_byte_r4 : List AOper := [
  ⟨some 14, (.bin .lss), [.t 13, .t 12], none⟩]
def slices_Equal_byte_byte_r5 : List AOper := [
  ⟨some 15, .mov, [.t 13], none⟩,
  ⟨some 5, .mov, [.t 15], none⟩]
def slices_Equal_byte_byte_r6 : List AOper := [
  ⟨some 16, .mov, [.t 0], none⟩,
  ⟨some 17, .mov, [.t 5], none⟩,
  ⟨some 18, (.iad 1), [.t 16, .t 17], none⟩,
  ⟨some 19, (.load false 1), [.t 18], none⟩,
  ⟨some 20, .mov, [.t 1], none⟩,
  ⟨some 21, .mov, [.t 5], none⟩,
  ⟨some 22, (.iad 1), [.t 20, .t 21], none⟩,
  ⟨some 23, (.load false 1), [.t 22], none⟩,
  ⟨some 24, (.bin .neq), [.t 19, .t 23], none⟩]
def slices_Equal_byte_byte_r7 : List AOper := [
  ⟨some 4, .mov, [.c (.bool false)], none⟩]
def slices_Equal_byte_byte_r8 : List AOper := [
  ⟨some 25, (.bin .add), [.t 13, .c (.int .i64 1)], none⟩,
  ⟨some 13, .mov, [.t 25], none⟩]
def slices_Equal_byte_byte_l0 : ACode := (.seq (.region slices_Equal_byte_byte_r4 [0, 1, 12, 13, 14]) (.seq (.cond (.t 14) .skip (.exit 0)) (.seq (.block 1 (.seq (.region slices_Equal_byte_byte_r5 [0, 1, 5, 12, 13]) (.seq (.region slices_Equal_byte_byte_r6 [0, 1, 12, 13, 24]) (.cond (.t 24) (.seq (.region slices_Equal_byte_byte_r7 [4]) .ret) .skip)))) (.region slices_Equal_byte_byte_r8 [0, 1, 12, 13]))))
def slices_Equal_byte_byte_r9 : List AOper := [
  ⟨some 4, .mov, [.c (.bool true)], none⟩]
def slices_Equal_byte_byte : AFunc := ⟨26, (.seq (.region slices_Equal_byte_byte_r0 [0, 1]) (.seq (.seq (.region slices_Equal_byte_byte_r1 [0, 1, 10]) (.cond (.t 10) (.seq (.region slices_Equal_byte_byte_r2 [4]) .ret) .skip)) (.seq (.seq (.region slices_Equal_byte_byte_r3 [0, 1, 12, 13]) (.block 0 (.loop slices_Equal_byte_byte_l0))) (.seq (.region slices_Equal_byte_byte_r9 [4]) .ret)))), [.t 4]⟩
def lz4_rest_r0 : List AOper := [
  ⟨some 4, .mov, [.c (.slc 0 [] true)], none⟩]
def lz4_rest_r1 : List AOper := [
  ⟨some 5, .mov, [.t 1], none⟩,
  ⟨some 6, (.bin .lss), [.t 5, .c (.int .i64 15)], none⟩]
def lz4_rest_r2 : List AOper := [
  ⟨some 7, .mov, [.t 0], none⟩,
  ⟨some 4, .mov, [.t 7], none⟩]
def lz4_rest_r3 : List AOper := [
  ⟨some 8, .mov, [.t 1], none⟩,
  ⟨some 9, (.bin .sub), [.t 8, .c (.int .i64 15)], none⟩,
  ⟨some 1, .mov, [.t 9], none⟩]
def lz4_rest_r4 : List AOper := [
  ⟨some 10, .mov, [.t 1], none⟩,
  ⟨some 11, (.bin .geq), [.t 10, .c (.int .i64 255)], none⟩]
def lz4_rest_r5 : List AOper := [
  ⟨some 14, .mov, [.t 0], none⟩,
  ⟨some 15, (.bsl 1), [.c (.int .u8 255)], none⟩,
  ⟨some 16, (.app 1 1), [.t 14, .t 15], none⟩,
  ⟨some 0, .mov, [.t 16], none⟩]
def lz4_rest_r6 : List AOper := [
  ⟨some 12, .mov, [.t 1], none⟩,
  ⟨some 13, (.bin .sub), [.t 12, .c (.int .i64 255)], none⟩,
  ⟨some 1, .mov, [.t 13], none⟩]
def lz4_rest_l0 : ACode := (.seq (.seq (.region lz4_rest_r4 [0, 1, 11]) (.cond (.t 11) .skip (.exit 0))) (.seq (.block 1 (.region lz4_rest_r5 [0, 1])) (.region lz4_rest_r6 [0, 1])))
def lz4_rest_r7 : List AOper := [
  ⟨some 17, .mov, [.t 0], none⟩,
  ⟨some 18, .mov, [.t 1], none⟩,
  ⟨some 19, (.conv .u8), [.t 18], none⟩,
  ⟨some 20, (.bsl 1), [.t 19], none⟩,
  ⟨some 21, (.app 1 1), [.t 17, .t 20], none⟩,
  ⟨some 4, .mov, [.t 21], none⟩]
def lz4_rest : AFunc := ⟨22, (.seq (.region lz4_rest_r0 [0, 1]) (.seq (.seq (.region lz4_rest_r1 [0, 1, 6]) (.cond (.t 6) (.seq (.region lz4_rest_r2 [4]) .ret) .skip)) (.seq (.seq (.region lz4_rest_r3 [0, 1]) (.block 0 (.loop lz4_rest_l0))) (.seq (.region lz4_rest_r7 [4]) .ret)))), [.t 4]⟩
def slices_Chunk_byte_byte_1_r0 : List AOper := [
  ⟨some 4, .mov, [.c (.int .i64 0)], none⟩]
def slices_Chunk_byte_byte_1_r1 : List AOper := [
  ⟨some 6, .mov, [.t 4], none⟩,
  ⟨some 7, (.load false 1), [.t 1], none⟩,
  ⟨some 8, .lens, [.t 7], none⟩,
  ⟨some 9, (.bin .lss), [.t 6, .t 8], none⟩]
def slices_Chunk_byte_byte_1_r2 : List AOper := [
  ⟨some 13, (.load false 1), [.t 2], none⟩,
  ⟨some 14, (.load false 1), [.t 1], none⟩,
  ⟨some 15, .mov, [.t 4], none⟩,
  ⟨some 16, (.slc 1 true false false), [.t 14, .t 15], none⟩,
  ⟨some 17, .lens, [.t 16], none⟩,
  ⟨some 18, .min, [.t 13, .t 17], none⟩,
  ⟨some 5, .mov, [.t 18], none⟩]
def slices_Chunk_byte_byte_1_r3 : List AOper := [
  ⟨some 19, .mov, [.t 0], none⟩,
  ⟨some 20, (.load false 1), [.t 1], none⟩,
  ⟨some 21, .mov, [.t 4], none⟩,
  ⟨some 22, .mov, [.t 4], none⟩,
  ⟨some 23, .mov, [.t 5], none⟩,
  ⟨some 24, (.bin .add), [.t 22, .t 23], none⟩,
  ⟨some 25, .mov, [.t 4], none⟩,
  ⟨some 26, .mov, [.t 5], none⟩,
  ⟨some 27, (.bin .add), [.t 25, .t 26], none⟩,
  ⟨some 28, (.slc 1 true true true), [.t 20, .t 21, .t 24, .t 27], none⟩,
  ⟨some 29, .callv, [.t 19, .t 28], none⟩,
  ⟨some 30, .unot, [.t 29], none⟩]
def slices_Chunk_byte_byte_1_r4 : List AOper := [
  ⟨some 10, .mov, [.t 4], none⟩,
  ⟨some 11, (.load false 1), [.t 2], none⟩,
  ⟨some 12, (.bin .add), [.t 10, .t 11], none⟩,
  ⟨some 4, .mov, [.t 12], none⟩]
def slices_Chunk_byte_byte_1_l0 : ACode := (.seq (.seq (.region slices_Chunk_byte_byte_1_r1 [0, 1, 2, 4, 9]) (.cond (.t 9) .skip (.exit 0))) (.seq (.block 1 (.seq (.region slices_Chunk_byte_byte_1_r2 [0, 1, 2, 4, 5]) (.seq (.region slices_Chunk_byte_byte_1_r3 [0, 1, 2, 4, 30]) (.cond (.t 30) .ret .skip)))) (.region slices_Chunk_byte_byte_1_r4 [0, 1, 2, 4])))
def slices_Chunk_byte_byte_1 : AFunc := ⟨31, (.seq (.region slices_Chunk_byte_byte_1_r0 [0, 1, 2, 4]) (.block 0 (.loop slices_Chunk_byte_byte_1_l0))), []⟩
end Go.Abs
