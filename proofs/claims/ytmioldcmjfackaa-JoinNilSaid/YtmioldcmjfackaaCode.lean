/-
  The code that the statements of this seat reach, in the form of that machine, and that it is the program's. By an AI agent. No person has read it.
-/
import Derived.Test.YtmioldcmjfackaaProg
import Derived.Test.YtmioldcmjfackaaAm8
import Derived.KernelRfl
set_option linter.unusedSimpArgs false
set_option linter.unusedVariables false

/-
  The code of this seat in the form of the abstract machine, and that it is the program's. Printed by a program (wip/am/gen.py, code.py). By an AI agent.
-/
namespace Go.Proofs.Ytmioldcmjfackaa
open Go Go.Am
namespace F
def cuneiformlaw15_JoinNil : FuncId := 4
def join_New : FuncId := 6
def join_Joiner_Take : FuncId := 8
def join_Joiner_Done : FuncId := 9
def cuneiformlaw15_known : FuncId := 10
def join_Joiner_Waiting : FuncId := 11
def cuneiformlaw14_Outs : FuncId := 12
def join_Joiner_Drop : FuncId := 13
def join_Joiner_Window : FuncId := 14
def join_Joiner_Table : FuncId := 15
def join_Joiner_Held : FuncId := 16
def join_Joiner_Copy : FuncId := 17
def table_New : FuncId := 24
def window_New : FuncId := 25
def head_Check : FuncId := 26
def window_Window_Look : FuncId := 27
def table_Table_Put : FuncId := 28
def window_Window_Mark : FuncId := 29
def table_Table_Drop : FuncId := 30
def join_Joiner_Waiting_1 : FuncId := 31
def table_Table_All : FuncId := 32
def slot_Slot_Missing : FuncId := 33
def cuneiformref01_Same : FuncId := 34
def window_Window_Copy : FuncId := 35
def table_Table_Copy : FuncId := 36
def table_Table_Held : FuncId := 37
def serial_Add : FuncId := 46
def head_wrong : FuncId := 47
def serial_After : FuncId := 48
def window_state_bit : FuncId := 49
def table_Table_fresh : FuncId := 50
def slot_Slot_Put : FuncId := 51
def slot_Slot_Bytes : FuncId := 52
def serial_Way : FuncId := 53
def slices_Index_uint32_uint32 : FuncId := 54
def slices_Delete_uint32_uint32 : FuncId := 55
def table_Table_All_1 : FuncId := 56
def table_Table_each : FuncId := 57
def slot_Slot_Copy : FuncId := 58
def slot_Slot_Missing_1 : FuncId := 59
def table_Table_Seqs : FuncId := 60
def slot_Slot_Size : FuncId := 61
def head_wrong_1 : FuncId := 82
def serial_Diff : FuncId := 83
def serial_Oldest : FuncId := 84
def slot_New : FuncId := 85
def head_Mates : FuncId := 86
def slot_Slot_Full : FuncId := 87
def table_Table_each_1 : FuncId := 88
def maps_Clone_map_int_byte_int_byte : FuncId := 89
def slices_Clone_uint32_uint32 : FuncId := 90
def serial_taken : FuncId := 98
def serial_Oldest_1 : FuncId := 99
def slices_Values_uint32_uint32 : FuncId := 102
def slices_Values_uint32_uint32_1 : FuncId := 103
end F
namespace T
def int : TypeId := 3
def uint8 : TypeId := 5
def uint32 : TypeId := 22
def p_join_Joiner : TypeId := 26
def api_Errno : TypeId := 27
def sl_uint32 : TypeId := 30
def head_Head : TypeId := 32
def frame_Frame : TypeId := 35
def table_Out : TypeId := 39
def cuneiformref14_Out : TypeId := 49
def p_table_Table : TypeId := 53
def join_Joiner : TypeId := 89
def func_uint32_int_bool : TypeId := 91
def p_slot_Slot : TypeId := 95
def table_Table : TypeId := 115
def window_state : TypeId := 118
def window_Window : TypeId := 120
def func_uint32_uint32_bool : TypeId := 124
def func_uint32_p_slot_Slot_bool : TypeId := 133
def slot_Slot : TypeId := 140
end T
def cuneiformlaw15_JoinNil.a0 : ACode := .skip
def cuneiformlaw15_JoinNil.b0 : ACode := .block 1 (.region [⟨(some 21), .load none (.tmp 6), none⟩,
    ⟨(some 22), .bin .add (.tmp 21) (.const (.int .i64 1)), none⟩,
    ⟨none, .store 1 (.tmp 6) (.tmp 22), none⟩] [])
def cuneiformlaw15_JoinNil.body : ACode := .seq (.region [⟨(some 1), .box T.frame_Frame (.tmp 0), none⟩,
    ⟨(some 2), .mov (.const (.bool false)), none⟩] [1, 2])
  (.seq (.region [⟨(some 3), .mov (.const .nilp), none⟩] [1, 2, 3])
  (.seq (.region [⟨(some 9), .mov (.tmp 3), none⟩,
    ⟨(some 10), .load (some 6) (.tmp 1), none⟩,
    ⟨(some 11), .call (.const (.fn F.join_Joiner_Take [] [])) [(.tmp 9), (.tmp 10)], none⟩,
    ⟨(some 8), .mov (.tmp 11), none⟩,
    ⟨(some 12), .extract (.tmp 8) 0, none⟩,
    ⟨(some 13), .extract (.tmp 8) 1, none⟩,
    ⟨(some 4), .alloc T.table_Out [.nils, (.bool false), (.bool false), (.int .u32 0)], none⟩,
    ⟨none, .store 4 (.tmp 4) (.tmp 12), none⟩,
    ⟨(some 5), .mov (.tmp 13), none⟩] [1, 2, 3, 4, 5])
  (.seq (.region [⟨(some 6), .alloc T.int [(.int .i64 0)], none⟩,
    ⟨none, .store 1 (.tmp 6) (.const (.int .i64 0)), none⟩] [1, 2, 3, 4, 5, 6])
  (.seq (.region [⟨(some 14), .mov (.tmp 3), none⟩,
    ⟨(some 15), .call (.const (.fn F.join_Joiner_Waiting [] [])) [(.tmp 14)], none⟩,
    ⟨(some 7), .mov (.tmp 15), none⟩] [1, 2, 3, 4, 5, 6, 7])
  (.seq (.seq (.region [⟨(some 16), .mov (.tmp 7), none⟩,
    ⟨(some 17), .eq false .func (.tmp 16) (.const .nilf), none⟩] [1, 2, 3, 4, 5, 6, 7, 17])
  (.cond (.tmp 17) (.seq (.region [⟨(some 2), .mov (.const (.bool false)), none⟩] [2])
  (.ret)) (.skip)))
  (.seq (.seq (.region [⟨(some 18), .mov (.tmp 7), none⟩] [1, 2, 3, 4, 5, 6, 18])
  (.block 0 (.range (.tmp 18) [19, 20] cuneiformlaw15_JoinNil.a0 cuneiformlaw15_JoinNil.b0)))
  (.seq (.region [⟨(some 23), .call (.const (.fn F.cuneiformlaw15_known [] [])) [], none⟩,
    ⟨(some 24), .mov (.tmp 23), none⟩,
    ⟨(some 25), .load (some 4) (.tmp 4), some (24, true)⟩,
    ⟨(some 26), .build [.nils, (.bool false), (.bool false), (.int .u32 0)] [], some (24, true)⟩,
    ⟨(some 27), .call (.const (.fn F.cuneiformlaw14_Outs [] [])) [(.tmp 25), (.tmp 26)], some (24, true)⟩,
    ⟨(some 28), .pick (.tmp 24) (.tmp 27) (.const (.bool false)), none⟩,
    ⟨(some 29), .mov (.tmp 28), none⟩,
    ⟨(some 30), .mov (.tmp 5), some (29, true)⟩,
    ⟨(some 31), .bin .eql (.tmp 30) (.const (.int .i64 1)), some (29, true)⟩,
    ⟨(some 32), .pick (.tmp 29) (.tmp 31) (.const (.bool false)), none⟩,
    ⟨(some 33), .mov (.tmp 32), none⟩,
    ⟨(some 34), .mov (.tmp 3), some (33, true)⟩,
    ⟨(some 35), .field 0 (.tmp 1), some (33, true)⟩,
    ⟨(some 36), .field 2 (.tmp 35), some (33, true)⟩,
    ⟨(some 37), .load none (.tmp 36), some (33, true)⟩,
    ⟨(some 38), .call (.const (.fn F.join_Joiner_Done [] [])) [(.tmp 34), (.tmp 37)], some (33, true)⟩,
    ⟨(some 39), .bin .eql (.tmp 38) (.const (.int .i64 1)), some (33, true)⟩,
    ⟨(some 40), .pick (.tmp 33) (.tmp 39) (.const (.bool false)), none⟩,
    ⟨(some 41), .mov (.tmp 40), none⟩,
    ⟨(some 42), .mov (.tmp 3), some (41, true)⟩,
    ⟨(some 43), .field 0 (.tmp 1), some (41, true)⟩,
    ⟨(some 44), .field 2 (.tmp 43), some (41, true)⟩,
    ⟨(some 45), .load none (.tmp 44), some (41, true)⟩,
    ⟨(some 46), .call (.const (.fn F.join_Joiner_Drop [] [])) [(.tmp 42), (.tmp 45)], some (41, true)⟩,
    ⟨(some 47), .un .not (.tmp 46), some (41, true)⟩,
    ⟨(some 48), .pick (.tmp 41) (.tmp 47) (.const (.bool false)), none⟩,
    ⟨(some 49), .mov (.tmp 48), none⟩,
    ⟨(some 50), .mov (.tmp 3), some (49, true)⟩,
    ⟨(some 51), .call (.const (.fn F.join_Joiner_Window [] [])) [(.tmp 50)], some (49, true)⟩,
    ⟨(some 52), .eq false .ptr (.tmp 51) (.const .nilp), some (49, true)⟩,
    ⟨(some 53), .pick (.tmp 49) (.tmp 52) (.const (.bool false)), none⟩,
    ⟨(some 54), .mov (.tmp 53), none⟩,
    ⟨(some 55), .mov (.tmp 3), some (54, true)⟩,
    ⟨(some 56), .call (.const (.fn F.join_Joiner_Table [] [])) [(.tmp 55)], some (54, true)⟩,
    ⟨(some 57), .eq false .ptr (.tmp 56) (.const .nilp), some (54, true)⟩,
    ⟨(some 58), .pick (.tmp 54) (.tmp 57) (.const (.bool false)), none⟩,
    ⟨(some 59), .mov (.tmp 58), none⟩,
    ⟨(some 60), .mov (.tmp 3), some (59, true)⟩,
    ⟨(some 61), .call (.const (.fn F.join_Joiner_Held [] [])) [(.tmp 60)], some (59, true)⟩,
    ⟨(some 62), .bin .eql (.tmp 61) (.const (.int .i64 0)), some (59, true)⟩,
    ⟨(some 63), .pick (.tmp 59) (.tmp 62) (.const (.bool false)), none⟩,
    ⟨(some 64), .mov (.tmp 63), none⟩,
    ⟨(some 65), .load none (.tmp 6), some (64, true)⟩,
    ⟨(some 66), .bin .eql (.tmp 65) (.const (.int .i64 0)), some (64, true)⟩,
    ⟨(some 67), .pick (.tmp 64) (.tmp 66) (.const (.bool false)), none⟩,
    ⟨(some 68), .mov (.tmp 67), none⟩,
    ⟨(some 69), .mov (.tmp 3), some (68, true)⟩,
    ⟨(some 70), .call (.const (.fn F.join_Joiner_Copy [] [])) [(.tmp 69)], some (68, true)⟩,
    ⟨(some 71), .eq false .ptr (.tmp 70) (.const .nilp), some (68, true)⟩,
    ⟨(some 72), .pick (.tmp 68) (.tmp 71) (.const (.bool false)), none⟩,
    ⟨(some 2), .mov (.tmp 72), none⟩] [2])
  (.ret))))))))
def cuneiformlaw15_JoinNil : AFun := ⟨73, 1, [.tmp 2], cuneiformlaw15_JoinNil.body⟩
def join_New.body : ACode := .seq (.region [⟨(some 4), .mov (.const .nilp), none⟩,
    ⟨(some 5), .mov (.const (.int .i64 0)), none⟩] [0, 1])
  (.seq (.region [⟨(some 9), .mov (.tmp 1), none⟩,
    ⟨(some 10), .call (.const (.fn F.table_New [] [])) [(.tmp 9)], none⟩,
    ⟨(some 8), .mov (.tmp 10), none⟩,
    ⟨(some 11), .extract (.tmp 8) 0, none⟩,
    ⟨(some 12), .extract (.tmp 8) 1, none⟩,
    ⟨(some 6), .mov (.tmp 11), none⟩,
    ⟨(some 7), .mov (.tmp 12), none⟩] [0, 6, 7])
  (.seq (.seq (.region [⟨(some 13), .mov (.tmp 7), none⟩,
    ⟨(some 14), .bin .neq (.tmp 13) (.const (.int .i64 0)), none⟩] [0, 6, 7, 14])
  (.cond (.tmp 14) (.seq (.region [⟨(some 15), .mov (.tmp 7), none⟩,
    ⟨(some 4), .mov (.const .nilp), none⟩,
    ⟨(some 5), .mov (.tmp 15), none⟩] [4, 5])
  (.ret)) (.skip)))
  (.seq (.region [⟨(some 16), .mov (.tmp 0), none⟩,
    ⟨(some 17), .call (.const (.fn F.window_New [] [])) [(.tmp 16)], none⟩,
    ⟨(some 18), .build [.nilp] [(0, 1, (.tmp 17))], none⟩,
    ⟨(some 19), .mov (.tmp 6), none⟩,
    ⟨(some 20), .build [.nilp] [(0, 1, (.tmp 19))], none⟩,
    ⟨(some 21), .build [.nilp, .nilp] [(0, 1, (.tmp 18)), (1, 1, (.tmp 20))], none⟩,
    ⟨(some 22), .box T.join_Joiner (.tmp 21), none⟩,
    ⟨(some 4), .mov (.tmp 22), none⟩,
    ⟨(some 5), .mov (.const (.int .i64 0)), none⟩] [4, 5])
  (.ret))))
def join_New : AFun := ⟨23, 2, [.tmp 4, .tmp 5], join_New.body⟩
def join_Joiner_Take.d0 : List AOper := [⟨(some 18), .mov (.tmp 0), none⟩,
    ⟨(some 19), .nilc (.tmp 18), none⟩,
    ⟨(some 20), .field 0 (.tmp 19), none⟩,
    ⟨(some 21), .field 0 (.tmp 20), none⟩,
    ⟨(some 22), .load none (.tmp 21), none⟩,
    ⟨(some 23), .field 0 (.tmp 3), none⟩,
    ⟨(some 24), .field 2 (.tmp 23), none⟩,
    ⟨(some 25), .load none (.tmp 24), none⟩,
    ⟨(some 26), .call (.const (.fn F.window_Window_Look [] [])) [(.tmp 22), (.tmp 25)], none⟩,
    ⟨(some 7), .mov (.tmp 26), none⟩]
def join_Joiner_Take.d0b : List (List Nat) := [[], [0], [0, 1], [0, 1, 2], [0, 1, 2, 3], [], [5], [5, 6], [0, 1, 2, 3, 4, 5, 6, 7], [0, 1, 2, 3, 4, 5, 6, 7, 8]]
def join_Joiner_Take.d1 : List AOper := [⟨(some 31), .mov (.tmp 0), none⟩,
    ⟨(some 32), .nilc (.tmp 31), none⟩,
    ⟨(some 33), .field 1 (.tmp 32), none⟩,
    ⟨(some 34), .field 0 (.tmp 33), none⟩,
    ⟨(some 35), .load none (.tmp 34), none⟩,
    ⟨(some 36), .load (some 6) (.tmp 3), none⟩,
    ⟨(some 37), .call (.const (.fn F.table_Table_Put [] [])) [(.tmp 35), (.tmp 36)], none⟩,
    ⟨(some 38), .extract (.tmp 37) 0, none⟩,
    ⟨(some 39), .extract (.tmp 37) 1, none⟩,
    ⟨none, .store 4 (.tmp 4) (.tmp 38), none⟩,
    ⟨(some 5), .mov (.tmp 39), none⟩]
def join_Joiner_Take.d1b : List (List Nat) := [[], [0], [0, 1], [0, 1, 2], [0, 1, 2, 3], [], [0, 1, 2, 3, 4, 5], [0, 1, 2, 3, 4, 5, 6], [0, 1, 2, 3, 4, 5, 6], [0, 1, 2, 3, 4, 5, 6, 7, 8], [0, 1, 2, 3, 4, 5, 6, 7, 8, 9]]
def join_Joiner_Take.body : ACode := .seq (.region [⟨(some 3), .box T.frame_Frame (.tmp 1), none⟩,
    ⟨(some 4), .alloc T.table_Out [.nils, (.bool false), (.bool false), (.int .u32 0)], none⟩,
    ⟨(some 5), .mov (.const (.int .i64 0)), none⟩] [0, 3, 4])
  (.seq (.seq (.region [⟨(some 8), .mov (.tmp 0), none⟩,
    ⟨(some 9), .eq false .ptr (.tmp 8) (.const .nilp), none⟩] [0, 3, 4, 9])
  (.cond (.tmp 9) (.seq (.region [⟨(some 10), .build [.nils, (.bool false), (.bool false), (.int .u32 0)] [], none⟩,
    ⟨none, .store 4 (.tmp 4) (.tmp 10), none⟩,
    ⟨(some 5), .mov (.const (.int .i64 1)), none⟩] [4, 5])
  (.ret)) (.skip)))
  (.seq (.seq (.region [⟨(some 11), .field 0 (.tmp 3), none⟩,
    ⟨(some 12), .load (some 5) (.tmp 11), none⟩,
    ⟨(some 13), .call (.const (.fn F.head_Check [] [])) [(.tmp 12)], none⟩,
    ⟨(some 6), .mov (.tmp 13), none⟩] [0, 3, 4, 6])
  (.seq (.region [⟨(some 14), .mov (.tmp 6), none⟩,
    ⟨(some 15), .bin .neq (.tmp 14) (.const (.int .i64 0)), none⟩] [0, 3, 4, 6, 15])
  (.cond (.tmp 15) (.seq (.region [⟨(some 16), .build [.nils, (.bool false), (.bool false), (.int .u32 0)] [], none⟩,
    ⟨(some 17), .mov (.tmp 6), none⟩,
    ⟨none, .store 4 (.tmp 4) (.tmp 16), none⟩,
    ⟨(some 5), .mov (.tmp 17), none⟩] [4, 5])
  (.ret)) (.skip))))
  (.seq (.seq (.draw join_Joiner_Take.d0 join_Joiner_Take.d0b [[0, 1, 2, 3, 4, 5, 6, 7, 8, 9]] [] [0, 3, 4, 7])
  (.seq (.region [⟨(some 27), .mov (.tmp 7), none⟩,
    ⟨(some 28), .bin .neq (.tmp 27) (.const (.int .i64 0)), none⟩] [0, 3, 4, 7, 28])
  (.cond (.tmp 28) (.seq (.region [⟨(some 29), .build [.nils, (.bool false), (.bool false), (.int .u32 0)] [], none⟩,
    ⟨(some 30), .mov (.tmp 7), none⟩,
    ⟨none, .store 4 (.tmp 4) (.tmp 29), none⟩,
    ⟨(some 5), .mov (.tmp 30), none⟩] [4, 5])
  (.ret)) (.skip))))
  (.seq (.draw join_Joiner_Take.d1 join_Joiner_Take.d1b [[0, 1, 2, 3, 4, 5, 6, 7, 8, 9, 10]] [] [4, 5])
  (.ret)))))
def join_Joiner_Take : AFun := ⟨40, 2, [.cell 4 (some 4), .tmp 5], join_Joiner_Take.body⟩
def join_Joiner_Done.body : ACode := .seq (.region [⟨(some 4), .mov (.const (.int .i64 0)), none⟩] [0, 1])
  (.seq (.seq (.region [⟨(some 6), .mov (.tmp 0), none⟩,
    ⟨(some 7), .eq false .ptr (.tmp 6) (.const .nilp), none⟩] [0, 1, 7])
  (.cond (.tmp 7) (.seq (.region [⟨(some 4), .mov (.const (.int .i64 1)), none⟩] [4])
  (.ret)) (.skip)))
  (.seq (.region [⟨(some 8), .mov (.tmp 0), none⟩,
    ⟨(some 9), .nilc (.tmp 8), none⟩,
    ⟨(some 10), .field 0 (.tmp 9), none⟩,
    ⟨(some 11), .field 0 (.tmp 10), none⟩,
    ⟨(some 12), .load none (.tmp 11), none⟩,
    ⟨(some 13), .mov (.tmp 1), none⟩,
    ⟨(some 14), .call (.const (.fn F.window_Window_Mark [] [])) [(.tmp 12), (.tmp 13)], none⟩,
    ⟨(some 5), .mov (.tmp 14), none⟩] [0, 1, 5])
  (.seq (.seq (.region [⟨(some 15), .mov (.tmp 5), none⟩,
    ⟨(some 16), .bin .eql (.tmp 15) (.const (.int .i64 0)), none⟩] [0, 1, 5, 16])
  (.cond (.tmp 16) (.region [⟨(some 17), .mov (.tmp 0), none⟩,
    ⟨(some 18), .nilc (.tmp 17), none⟩,
    ⟨(some 19), .field 1 (.tmp 18), none⟩,
    ⟨(some 20), .field 0 (.tmp 19), none⟩,
    ⟨(some 21), .load none (.tmp 20), none⟩,
    ⟨(some 22), .mov (.tmp 1), none⟩,
    ⟨(some 23), .call (.const (.fn F.table_Table_Drop [] [])) [(.tmp 21), (.tmp 22)], none⟩] [5]) (.skip)))
  (.seq (.region [⟨(some 24), .mov (.tmp 5), none⟩,
    ⟨(some 4), .mov (.tmp 24), none⟩] [4])
  (.ret)))))
def join_Joiner_Done : AFun := ⟨25, 2, [.tmp 4], join_Joiner_Done.body⟩
def cuneiformlaw15_known.body : ACode := .seq (.region [⟨(some 0), .mov (.const (.bool false)), none⟩] [])
  (.seq (.region [⟨(some 10), .call (.const (.fn F.join_New [] [])) [(.const (.int .u32 5)), (.const (.int .i64 2))], none⟩,
    ⟨(some 9), .mov (.tmp 10), none⟩,
    ⟨(some 11), .extract (.tmp 9) 0, none⟩,
    ⟨(some 12), .extract (.tmp 9) 1, none⟩,
    ⟨(some 1), .mov (.tmp 11), none⟩,
    ⟨(some 2), .mov (.tmp 12), none⟩] [1, 2])
  (.seq (.region [⟨(some 13), .build [(.int .i64 0), (.int .i64 0), (.int .u32 0), (.int .i64 0), (.int .i64 0)] [(0, 1, (.const (.int .i64 1))), (1, 1, (.const (.int .i64 1))), (2, 1, (.const (.int .u32 5))), (4, 1, (.const (.int .i64 1)))], none⟩,
    ⟨(some 14), .lit T.uint8 1 1 [(.int .u8 0)] [(0, 1, (.const (.int .u8 1)))], none⟩,
    ⟨(some 15), .build [(.int .i64 0), (.int .i64 0), (.int .u32 0), (.int .i64 0), (.int .i64 0), .nils] [(0, 5, (.tmp 13)), (5, 1, (.tmp 14))], none⟩,
    ⟨(some 3), .alloc T.frame_Frame [(.int .i64 0), (.int .i64 0), (.int .u32 0), (.int .i64 0), (.int .i64 0), .nils], none⟩,
    ⟨none, .store 6 (.tmp 3) (.tmp 15), none⟩] [1, 2, 3])
  (.seq (.seq (.region [⟨(some 16), .mov (.tmp 2), none⟩,
    ⟨(some 17), .bin .neq (.tmp 16) (.const (.int .i64 0)), none⟩,
    ⟨(some 18), .mov (.tmp 17), none⟩,
    ⟨(some 19), .mov (.tmp 1), some (18, false)⟩,
    ⟨(some 20), .eq false .ptr (.tmp 19) (.const .nilp), some (18, false)⟩,
    ⟨(some 21), .pick (.tmp 18) (.const (.bool true)) (.tmp 20), none⟩] [1, 3, 21])
  (.cond (.tmp 21) (.seq (.region [⟨(some 0), .mov (.const (.bool false)), none⟩] [0])
  (.ret)) (.skip)))
  (.seq (.region [⟨(some 23), .mov (.tmp 1), none⟩,
    ⟨(some 24), .load (some 6) (.tmp 3), none⟩,
    ⟨(some 25), .call (.const (.fn F.join_Joiner_Take [] [])) [(.tmp 23), (.tmp 24)], none⟩,
    ⟨(some 22), .mov (.tmp 25), none⟩,
    ⟨(some 26), .extract (.tmp 22) 0, none⟩,
    ⟨(some 27), .extract (.tmp 22) 1, none⟩,
    ⟨(some 4), .alloc T.table_Out [.nils, (.bool false), (.bool false), (.int .u32 0)], none⟩,
    ⟨none, .store 4 (.tmp 4) (.tmp 26), none⟩,
    ⟨(some 5), .mov (.tmp 27), none⟩] [1, 3, 4, 5])
  (.seq (.region [⟨(some 28), .mov (.tmp 1), none⟩,
    ⟨(some 29), .call (.const (.fn F.join_Joiner_Done [] [])) [(.tmp 28), (.const (.int .u32 5))], none⟩,
    ⟨(some 6), .mov (.tmp 29), none⟩] [1, 3, 4, 5, 6])
  (.seq (.region [⟨(some 31), .mov (.tmp 1), none⟩,
    ⟨(some 32), .load (some 6) (.tmp 3), none⟩,
    ⟨(some 33), .call (.const (.fn F.join_Joiner_Take [] [])) [(.tmp 31), (.tmp 32)], none⟩,
    ⟨(some 30), .mov (.tmp 33), none⟩,
    ⟨(some 34), .extract (.tmp 30) 0, none⟩,
    ⟨(some 35), .extract (.tmp 30) 1, none⟩,
    ⟨(some 7), .alloc T.table_Out [.nils, (.bool false), (.bool false), (.int .u32 0)], none⟩,
    ⟨none, .store 4 (.tmp 7) (.tmp 34), none⟩,
    ⟨(some 8), .mov (.tmp 35), none⟩] [4, 5, 6, 8])
  (.seq (.region [⟨(some 36), .field 1 (.tmp 4), none⟩,
    ⟨(some 37), .load none (.tmp 36), none⟩,
    ⟨(some 38), .mov (.tmp 37), none⟩,
    ⟨(some 39), .mov (.tmp 5), some (38, true)⟩,
    ⟨(some 40), .bin .eql (.tmp 39) (.const (.int .i64 0)), some (38, true)⟩,
    ⟨(some 41), .pick (.tmp 38) (.tmp 40) (.const (.bool false)), none⟩,
    ⟨(some 42), .mov (.tmp 41), none⟩,
    ⟨(some 43), .mov (.tmp 6), some (42, true)⟩,
    ⟨(some 44), .bin .eql (.tmp 43) (.const (.int .i64 0)), some (42, true)⟩,
    ⟨(some 45), .pick (.tmp 42) (.tmp 44) (.const (.bool false)), none⟩,
    ⟨(some 46), .mov (.tmp 45), none⟩,
    ⟨(some 47), .mov (.tmp 8), some (46, true)⟩,
    ⟨(some 48), .bin .eql (.tmp 47) (.const (.int .i64 14)), some (46, true)⟩,
    ⟨(some 49), .pick (.tmp 46) (.tmp 48) (.const (.bool false)), none⟩,
    ⟨(some 0), .mov (.tmp 49), none⟩] [0])
  (.ret))))))))
def cuneiformlaw15_known : AFun := ⟨50, 0, [.tmp 0], cuneiformlaw15_known.body⟩
def join_Joiner_Waiting.body : ACode := .seq (.region [⟨(some 1), .box T.p_join_Joiner (.tmp 0), none⟩,
    ⟨(some 2), .mov (.const .nilf), none⟩] [1])
  (.seq (.region [⟨(some 3), .mkfn F.join_Joiner_Waiting_1 [] [(.tmp 1)], none⟩,
    ⟨(some 2), .mov (.tmp 3), none⟩] [2])
  (.ret))
def join_Joiner_Waiting : AFun := ⟨4, 1, [.tmp 2], join_Joiner_Waiting.body⟩
def cuneiformlaw14_Outs.body : ACode := .seq (.region [⟨(some 2), .box T.table_Out (.tmp 0), none⟩,
    ⟨(some 3), .box T.cuneiformref14_Out (.tmp 1), none⟩,
    ⟨(some 4), .mov (.const (.bool false)), none⟩] [2, 3])
  (.seq (.region [⟨(some 5), .field 0 (.tmp 2), none⟩,
    ⟨(some 6), .load none (.tmp 5), none⟩,
    ⟨(some 7), .field 0 (.tmp 3), none⟩,
    ⟨(some 8), .load none (.tmp 7), none⟩,
    ⟨(some 9), .call (.const (.fn F.cuneiformref01_Same [] [])) [(.tmp 6), (.tmp 8)], none⟩,
    ⟨(some 10), .mov (.tmp 9), none⟩,
    ⟨(some 11), .field 1 (.tmp 2), some (10, true)⟩,
    ⟨(some 12), .load none (.tmp 11), some (10, true)⟩,
    ⟨(some 13), .field 1 (.tmp 3), some (10, true)⟩,
    ⟨(some 14), .load none (.tmp 13), some (10, true)⟩,
    ⟨(some 15), .eq false .bool (.tmp 12) (.tmp 14), some (10, true)⟩,
    ⟨(some 16), .pick (.tmp 10) (.tmp 15) (.const (.bool false)), none⟩,
    ⟨(some 17), .mov (.tmp 16), none⟩,
    ⟨(some 18), .field 2 (.tmp 2), some (17, true)⟩,
    ⟨(some 19), .load none (.tmp 18), some (17, true)⟩,
    ⟨(some 20), .field 2 (.tmp 3), some (17, true)⟩,
    ⟨(some 21), .load none (.tmp 20), some (17, true)⟩,
    ⟨(some 22), .eq false .bool (.tmp 19) (.tmp 21), some (17, true)⟩,
    ⟨(some 23), .pick (.tmp 17) (.tmp 22) (.const (.bool false)), none⟩,
    ⟨(some 24), .mov (.tmp 23), none⟩,
    ⟨(some 25), .field 3 (.tmp 2), some (24, true)⟩,
    ⟨(some 26), .load none (.tmp 25), some (24, true)⟩,
    ⟨(some 27), .field 3 (.tmp 3), some (24, true)⟩,
    ⟨(some 28), .load none (.tmp 27), some (24, true)⟩,
    ⟨(some 29), .bin .eql (.tmp 26) (.tmp 28), some (24, true)⟩,
    ⟨(some 30), .pick (.tmp 24) (.tmp 29) (.const (.bool false)), none⟩,
    ⟨(some 4), .mov (.tmp 30), none⟩] [4])
  (.ret))
def cuneiformlaw14_Outs : AFun := ⟨31, 2, [.tmp 4], cuneiformlaw14_Outs.body⟩
def join_Joiner_Drop.body : ACode := .seq (.region [⟨(some 4), .mov (.const (.bool false)), none⟩] [0, 1])
  (.seq (.region [⟨(some 5), .mov (.tmp 0), none⟩,
    ⟨(some 6), .eq true .ptr (.tmp 5) (.const .nilp), none⟩,
    ⟨(some 7), .mov (.tmp 6), none⟩,
    ⟨(some 8), .mov (.tmp 0), some (7, true)⟩,
    ⟨(some 9), .nilc (.tmp 8), some (7, true)⟩,
    ⟨(some 10), .field 1 (.tmp 9), some (7, true)⟩,
    ⟨(some 11), .field 0 (.tmp 10), some (7, true)⟩,
    ⟨(some 12), .load none (.tmp 11), some (7, true)⟩,
    ⟨(some 13), .mov (.tmp 1), some (7, true)⟩,
    ⟨(some 14), .call (.const (.fn F.table_Table_Drop [] [])) [(.tmp 12), (.tmp 13)], some (7, true)⟩,
    ⟨(some 15), .pick (.tmp 7) (.tmp 14) (.const (.bool false)), none⟩,
    ⟨(some 4), .mov (.tmp 15), none⟩] [4])
  (.ret))
def join_Joiner_Drop : AFun := ⟨16, 2, [.tmp 4], join_Joiner_Drop.body⟩
def join_Joiner_Window.body : ACode := .seq (.region [⟨(some 2), .mov (.const .nilp), none⟩] [0])
  (.seq (.seq (.region [⟨(some 3), .mov (.tmp 0), none⟩,
    ⟨(some 4), .eq false .ptr (.tmp 3) (.const .nilp), none⟩] [0, 4])
  (.cond (.tmp 4) (.seq (.region [⟨(some 2), .mov (.const .nilp), none⟩] [2])
  (.ret)) (.skip)))
  (.seq (.region [⟨(some 5), .mov (.tmp 0), none⟩,
    ⟨(some 6), .nilc (.tmp 5), none⟩,
    ⟨(some 7), .field 0 (.tmp 6), none⟩,
    ⟨(some 8), .field 0 (.tmp 7), none⟩,
    ⟨(some 9), .load none (.tmp 8), none⟩,
    ⟨(some 10), .call (.const (.fn F.window_Window_Copy [] [])) [(.tmp 9)], none⟩,
    ⟨(some 2), .mov (.tmp 10), none⟩] [2])
  (.ret)))
def join_Joiner_Window : AFun := ⟨11, 1, [.tmp 2], join_Joiner_Window.body⟩
def join_Joiner_Table.body : ACode := .seq (.region [⟨(some 2), .mov (.const .nilp), none⟩] [0])
  (.seq (.seq (.region [⟨(some 3), .mov (.tmp 0), none⟩,
    ⟨(some 4), .eq false .ptr (.tmp 3) (.const .nilp), none⟩] [0, 4])
  (.cond (.tmp 4) (.seq (.region [⟨(some 2), .mov (.const .nilp), none⟩] [2])
  (.ret)) (.skip)))
  (.seq (.region [⟨(some 5), .mov (.tmp 0), none⟩,
    ⟨(some 6), .nilc (.tmp 5), none⟩,
    ⟨(some 7), .field 1 (.tmp 6), none⟩,
    ⟨(some 8), .field 0 (.tmp 7), none⟩,
    ⟨(some 9), .load none (.tmp 8), none⟩,
    ⟨(some 10), .call (.const (.fn F.table_Table_Copy [] [])) [(.tmp 9)], none⟩,
    ⟨(some 2), .mov (.tmp 10), none⟩] [2])
  (.ret)))
def join_Joiner_Table : AFun := ⟨11, 1, [.tmp 2], join_Joiner_Table.body⟩
def join_Joiner_Held.body : ACode := .seq (.region [⟨(some 2), .mov (.const (.int .i64 0)), none⟩] [0])
  (.seq (.seq (.region [⟨(some 3), .mov (.tmp 0), none⟩,
    ⟨(some 4), .eq false .ptr (.tmp 3) (.const .nilp), none⟩] [0, 4])
  (.cond (.tmp 4) (.seq (.region [⟨(some 2), .mov (.const (.int .i64 0)), none⟩] [2])
  (.ret)) (.skip)))
  (.seq (.region [⟨(some 5), .mov (.tmp 0), none⟩,
    ⟨(some 6), .nilc (.tmp 5), none⟩,
    ⟨(some 7), .field 1 (.tmp 6), none⟩,
    ⟨(some 8), .field 0 (.tmp 7), none⟩,
    ⟨(some 9), .load none (.tmp 8), none⟩,
    ⟨(some 10), .call (.const (.fn F.table_Table_Held [] [])) [(.tmp 9)], none⟩,
    ⟨(some 2), .mov (.tmp 10), none⟩] [2])
  (.ret)))
def join_Joiner_Held : AFun := ⟨11, 1, [.tmp 2], join_Joiner_Held.body⟩
def join_Joiner_Copy.d0 : List AOper := [⟨(some 5), .mov (.tmp 0), none⟩,
    ⟨(some 6), .nilc (.tmp 5), none⟩,
    ⟨(some 7), .field 0 (.tmp 6), none⟩,
    ⟨(some 8), .field 0 (.tmp 7), none⟩,
    ⟨(some 9), .load none (.tmp 8), none⟩,
    ⟨(some 10), .call (.const (.fn F.window_Window_Copy [] [])) [(.tmp 9)], none⟩,
    ⟨(some 11), .build [.nilp] [(0, 1, (.tmp 10))], none⟩,
    ⟨(some 12), .mov (.tmp 0), none⟩,
    ⟨(some 13), .nilc (.tmp 12), none⟩,
    ⟨(some 14), .field 1 (.tmp 13), none⟩,
    ⟨(some 15), .field 0 (.tmp 14), none⟩,
    ⟨(some 16), .load none (.tmp 15), none⟩,
    ⟨(some 17), .call (.const (.fn F.table_Table_Copy [] [])) [(.tmp 16)], none⟩,
    ⟨(some 18), .build [.nilp] [(0, 1, (.tmp 17))], none⟩,
    ⟨(some 19), .build [.nilp, .nilp] [(0, 1, (.tmp 11)), (1, 1, (.tmp 18))], none⟩,
    ⟨(some 20), .box T.join_Joiner (.tmp 19), none⟩,
    ⟨(some 2), .mov (.tmp 20), none⟩]
def join_Joiner_Copy.d0b : List (List Nat) := [[], [0], [0, 1], [0, 1, 2], [0, 1, 2, 3], [0, 1, 2, 3, 4], [0, 1, 2, 3, 4, 5], [], [7], [7, 8], [7, 8, 9], [7, 8, 9, 10], [0, 1, 2, 3, 4, 5, 7, 8, 9, 10, 11], [0, 1, 2, 3, 4, 5, 7, 8, 9, 10, 11, 12], [0, 1, 2, 3, 4, 5, 6, 7, 8, 9, 10, 11, 12, 13], [0, 1, 2, 3, 4, 5, 6, 7, 8, 9, 10, 11, 12, 13, 14], [0, 1, 2, 3, 4, 5, 6, 7, 8, 9, 10, 11, 12, 13, 14, 15]]
def join_Joiner_Copy.body : ACode := .seq (.region [⟨(some 2), .mov (.const .nilp), none⟩] [0])
  (.seq (.seq (.region [⟨(some 3), .mov (.tmp 0), none⟩,
    ⟨(some 4), .eq false .ptr (.tmp 3) (.const .nilp), none⟩] [0, 4])
  (.cond (.tmp 4) (.seq (.region [⟨(some 2), .mov (.const .nilp), none⟩] [2])
  (.ret)) (.skip)))
  (.seq (.draw join_Joiner_Copy.d0 join_Joiner_Copy.d0b [[0, 1, 2, 3, 4, 7, 8, 9, 10, 11, 5, 6, 12, 13, 14, 15, 16]] [(5, 11)] [2])
  (.ret)))
def join_Joiner_Copy : AFun := ⟨21, 1, [.tmp 2], join_Joiner_Copy.body⟩
def table_New.body : ACode := .seq (.region [⟨(some 2), .mov (.const .nilp), none⟩,
    ⟨(some 3), .mov (.const (.int .i64 0)), none⟩] [0])
  (.seq (.seq (.region [⟨(some 4), .mov (.tmp 0), none⟩,
    ⟨(some 5), .bin .lss (.tmp 4) (.const (.int .i64 1)), none⟩,
    ⟨(some 6), .mov (.tmp 5), none⟩,
    ⟨(some 7), .mov (.tmp 0), some (6, false)⟩,
    ⟨(some 8), .bin .gtr (.tmp 7) (.const (.int .i64 16)), some (6, false)⟩,
    ⟨(some 9), .pick (.tmp 6) (.const (.bool true)) (.tmp 8), none⟩] [0, 9])
  (.cond (.tmp 9) (.seq (.region [⟨(some 2), .mov (.const .nilp), none⟩,
    ⟨(some 3), .mov (.const (.int .i64 5)), none⟩] [2, 3])
  (.ret)) (.skip)))
  (.seq (.region [⟨(some 10), .mov (.tmp 0), none⟩,
    ⟨(some 11), .mkmap, none⟩,
    ⟨(some 12), .build [(.int .i64 0), .nils, .nilm] [(0, 1, (.tmp 10)), (1, 1, (.const .nils)), (2, 1, (.tmp 11))], none⟩,
    ⟨(some 13), .box T.table_Table (.tmp 12), none⟩,
    ⟨(some 2), .mov (.tmp 13), none⟩,
    ⟨(some 3), .mov (.const (.int .i64 0)), none⟩] [2, 3])
  (.ret)))
def table_New : AFun := ⟨14, 1, [.tmp 2, .tmp 3], table_New.body⟩
def window_New.body : ACode := .seq (.region [⟨(some 2), .mov (.const .nilp), none⟩] [0])
  (.seq (.region [⟨(some 3), .mov (.tmp 0), none⟩,
    ⟨(some 4), .call (.const (.fn F.serial_Add [] [])) [(.tmp 3), (.const (.int .i64 (-1)))], none⟩,
    ⟨(some 5), .build [(.int .u32 0), (.int .u64 0)] [(0, 1, (.tmp 4)), (1, 1, (.const (.int .u64 18446744073709551615)))], none⟩,
    ⟨(some 6), .build [(.int .u32 0), (.int .u64 0)] [(0, 2, (.tmp 5))], none⟩,
    ⟨(some 7), .box T.window_Window (.tmp 6), none⟩,
    ⟨(some 2), .mov (.tmp 7), none⟩] [2])
  (.ret))
def window_New : AFun := ⟨8, 1, [.tmp 2], window_New.body⟩
def head_Check.a0 : ACode := .seq (.region [⟨(some 4), .mov (.tmp 8), none⟩] [3, 4, 9])
  (.region [⟨(some 5), .mov (.tmp 9), none⟩] [3, 4, 5])
def head_Check.b0 : ACode := .block 1 (.seq (.region [⟨(some 10), .mov (.tmp 5), none⟩] [3, 4, 10])
  (.cond (.tmp 10) (.seq (.region [⟨(some 11), .mov (.tmp 4), none⟩,
    ⟨none, .store 1 (.tmp 3) (.tmp 11), none⟩] [])
  (.exit 0)) (.skip)))
def head_Check.body : ACode := .seq (.region [⟨(some 1), .box T.head_Head (.tmp 0), none⟩,
    ⟨(some 2), .mov (.const (.int .i64 0)), none⟩] [1, 2])
  (.scope (.seq (.region [⟨(some 3), .alloc T.api_Errno [(.int .i64 0)], none⟩,
    ⟨none, .store 1 (.tmp 3) (.const (.int .i64 0)), none⟩] [1, 2, 3])
  (.seq (.skip)
  (.seq (.seq (.region [⟨(some 6), .load (some 5) (.tmp 1), none⟩,
    ⟨(some 7), .call (.const (.fn F.head_wrong [] [])) [(.tmp 6)], none⟩] [2, 3, 7])
  (.block 0 (.range (.tmp 7) [8, 9] head_Check.a0 head_Check.b0)))
  (.seq (.region [⟨(some 12), .load none (.tmp 3), none⟩,
    ⟨(some 2), .mov (.tmp 12), none⟩] [2])
  (.ret))))))
def head_Check : AFun := ⟨13, 1, [.tmp 2], head_Check.body⟩
def window_Window_Look.d0 : List AOper := [⟨(some 25), .mov (.tmp 0), none⟩,
    ⟨(some 26), .nilc (.tmp 25), none⟩,
    ⟨(some 27), .field 0 (.tmp 26), none⟩,
    ⟨(some 28), .field 1 (.tmp 27), none⟩,
    ⟨(some 29), .load none (.tmp 28), none⟩,
    ⟨(some 30), .mov (.tmp 0), none⟩,
    ⟨(some 31), .nilc (.tmp 30), none⟩,
    ⟨(some 32), .field 0 (.tmp 31), none⟩,
    ⟨(some 33), .load (some 2) (.tmp 32), none⟩,
    ⟨(some 34), .mov (.tmp 1), none⟩,
    ⟨(some 35), .call (.const (.fn F.window_state_bit [] [])) [(.tmp 33), (.tmp 34)], none⟩,
    ⟨(some 36), .bin .and (.tmp 29) (.tmp 35), none⟩,
    ⟨(some 37), .bin .neq (.tmp 36) (.const (.int .u64 0)), none⟩,
    ⟨(some 24), .mov (.tmp 37), none⟩]
def window_Window_Look.d0b : List (List Nat) := [[], [0], [0, 1], [0, 1, 2], [0, 1, 2, 3], [], [5], [5, 6], [5, 6, 7], [], [5, 6, 7, 8, 9], [0, 1, 2, 3, 4, 5, 6, 7, 8, 9, 10], [0, 1, 2, 3, 4, 5, 6, 7, 8, 9, 10, 11], [0, 1, 2, 3, 4, 5, 6, 7, 8, 9, 10, 11, 12]]
def window_Window_Look.body : ACode := .seq (.region [⟨(some 4), .mov (.const (.int .i64 0)), none⟩] [0, 1])
  (.seq (.block 0 (.seq (.region [⟨(some 6), .mov (.tmp 0), none⟩,
    ⟨(some 7), .eq false .ptr (.tmp 6) (.const .nilp), none⟩,
    ⟨(some 5), .mov (.tmp 7), none⟩] [0, 1, 5])
  (.cond (.tmp 5) (.seq (.region [⟨(some 4), .mov (.const (.int .i64 1)), none⟩] [4])
  (.ret)) (.seq (.region [⟨(some 9), .mov (.tmp 1), none⟩,
    ⟨(some 10), .mov (.tmp 0), none⟩,
    ⟨(some 11), .nilc (.tmp 10), none⟩,
    ⟨(some 12), .field 0 (.tmp 11), none⟩,
    ⟨(some 13), .field 0 (.tmp 12), none⟩,
    ⟨(some 14), .load none (.tmp 13), none⟩,
    ⟨(some 15), .call (.const (.fn F.serial_After [] [])) [(.tmp 9), (.tmp 14)], none⟩,
    ⟨(some 8), .mov (.tmp 15), none⟩] [0, 1, 8])
  (.cond (.tmp 8) (.seq (.region [⟨(some 4), .mov (.const (.int .i64 0)), none⟩] [4])
  (.ret)) (.seq (.region [⟨(some 17), .mov (.tmp 0), none⟩,
    ⟨(some 18), .nilc (.tmp 17), none⟩,
    ⟨(some 19), .field 0 (.tmp 18), none⟩,
    ⟨(some 20), .load (some 2) (.tmp 19), none⟩,
    ⟨(some 21), .mov (.tmp 1), none⟩,
    ⟨(some 22), .call (.const (.fn F.window_state_bit [] [])) [(.tmp 20), (.tmp 21)], none⟩,
    ⟨(some 23), .bin .eql (.tmp 22) (.const (.int .u64 0)), none⟩,
    ⟨(some 16), .mov (.tmp 23), none⟩] [0, 1, 16])
  (.cond (.tmp 16) (.seq (.region [⟨(some 4), .mov (.const (.int .i64 15)), none⟩] [4])
  (.ret)) (.seq (.draw window_Window_Look.d0 window_Window_Look.d0b [[0, 1, 2, 3, 4, 5, 6, 7, 8, 9, 10, 11, 12, 13]] [(10, 4)] [24])
  (.cond (.tmp 24) (.seq (.region [⟨(some 4), .mov (.const (.int .i64 14)), none⟩] [4])
  (.ret)) (.skip))))))))))
  (.seq (.region [⟨(some 4), .mov (.const (.int .i64 0)), none⟩] [4])
  (.ret)))
def window_Window_Look : AFun := ⟨38, 2, [.tmp 4], window_Window_Look.body⟩
def table_Table_Put.d0 : List AOper := [⟨(some 53), .mov (.tmp 0), none⟩,
    ⟨(some 54), .nilc (.tmp 53), none⟩,
    ⟨(some 55), .field 2 (.tmp 54), none⟩,
    ⟨(some 56), .load none (.tmp 55), none⟩,
    ⟨(some 57), .mov (.tmp 8), none⟩,
    ⟨(some 58), .lookup .int .nilp false (.tmp 56) (.tmp 57), none⟩,
    ⟨(some 59), .load (some 6) (.tmp 3), none⟩,
    ⟨(some 60), .call (.const (.fn F.slot_Slot_Put [] [])) [(.tmp 58), (.tmp 59)], none⟩,
    ⟨(some 9), .mov (.tmp 60), none⟩]
def table_Table_Put.d0b : List (List Nat) := [[], [0], [0, 1], [0, 1, 2], [], [0, 1, 2, 3, 4], [], [0, 1, 2, 3, 4, 5, 6], [0, 1, 2, 3, 4, 5, 6, 7]]
def table_Table_Put.body : ACode := .seq (.region [⟨(some 3), .box T.frame_Frame (.tmp 1), none⟩,
    ⟨(some 4), .alloc T.table_Out [.nils, (.bool false), (.bool false), (.int .u32 0)], none⟩,
    ⟨(some 5), .mov (.const (.int .i64 0)), none⟩] [0, 3, 4])
  (.seq (.seq (.region [⟨(some 10), .mov (.tmp 0), none⟩,
    ⟨(some 11), .eq false .ptr (.tmp 10) (.const .nilp), none⟩] [0, 3, 4, 11])
  (.cond (.tmp 11) (.seq (.region [⟨(some 12), .build [.nils, (.bool false), (.bool false), (.int .u32 0)] [], none⟩,
    ⟨none, .store 4 (.tmp 4) (.tmp 12), none⟩,
    ⟨(some 5), .mov (.const (.int .i64 1)), none⟩] [4, 5])
  (.ret)) (.skip)))
  (.seq (.region [⟨(some 13), .field 0 (.tmp 3), none⟩,
    ⟨(some 14), .load (some 5) (.tmp 13), none⟩,
    ⟨(some 15), .call (.const (.fn F.head_Check [] [])) [(.tmp 14)], none⟩,
    ⟨(some 6), .mov (.tmp 15), none⟩] [0, 3, 4, 6])
  (.seq (.block 0 (.seq (.region [⟨(some 17), .mov (.tmp 6), none⟩,
    ⟨(some 18), .bin .neq (.tmp 17) (.const (.int .i64 0)), none⟩,
    ⟨(some 16), .mov (.tmp 18), none⟩] [0, 3, 4, 6, 16])
  (.cond (.tmp 16) (.seq (.region [⟨(some 19), .build [.nils, (.bool false), (.bool false), (.int .u32 0)] [], none⟩,
    ⟨(some 20), .mov (.tmp 6), none⟩,
    ⟨none, .store 4 (.tmp 4) (.tmp 19), none⟩,
    ⟨(some 5), .mov (.tmp 20), none⟩] [4, 5])
  (.ret)) (.seq (.region [⟨(some 22), .field 5 (.tmp 3), none⟩,
    ⟨(some 23), .load none (.tmp 22), none⟩,
    ⟨(some 24), .len .slice (.tmp 23), none⟩,
    ⟨(some 25), .bin .eql (.tmp 24) (.const (.int .i64 0)), none⟩,
    ⟨(some 21), .mov (.tmp 25), none⟩] [0, 3, 4, 21])
  (.cond (.tmp 21) (.seq (.region [⟨(some 26), .build [.nils, (.bool false), (.bool false), (.int .u32 0)] [], none⟩,
    ⟨none, .store 4 (.tmp 4) (.tmp 26), none⟩,
    ⟨(some 5), .mov (.const (.int .i64 13)), none⟩] [4, 5])
  (.ret)) (.skip))))))
  (.seq (.region [⟨(some 7), .alloc T.table_Out [.nils, (.bool false), (.bool false), (.int .u32 0)], none⟩] [0, 3, 4, 7])
  (.seq (.region [⟨(some 27), .field 0 (.tmp 3), none⟩,
    ⟨(some 28), .field 2 (.tmp 27), none⟩,
    ⟨(some 29), .load none (.tmp 28), none⟩,
    ⟨(some 8), .mov (.tmp 29), none⟩] [0, 3, 4, 7, 8])
  (.seq (.seq (.region [⟨(some 30), .mov (.tmp 0), none⟩,
    ⟨(some 31), .nilc (.tmp 30), none⟩,
    ⟨(some 32), .field 2 (.tmp 31), none⟩,
    ⟨(some 33), .load none (.tmp 32), none⟩,
    ⟨(some 34), .mov (.tmp 8), none⟩,
    ⟨(some 35), .lookup .int .nilp false (.tmp 33) (.tmp 34), none⟩,
    ⟨(some 36), .eq false .ptr (.tmp 35) (.const .nilp), none⟩] [0, 3, 4, 7, 8, 36])
  (.cond (.tmp 36) (.seq (.seq (.region [⟨(some 37), .field 5 (.tmp 3), none⟩,
    ⟨(some 38), .load none (.tmp 37), none⟩,
    ⟨(some 39), .len .slice (.tmp 38), none⟩,
    ⟨(some 40), .bin .gtr (.tmp 39) (.const (.int .i64 192)), none⟩] [0, 3, 4, 7, 8, 40])
  (.cond (.tmp 40) (.seq (.region [⟨(some 41), .build [.nils, (.bool false), (.bool false), (.int .u32 0)] [], none⟩,
    ⟨none, .store 4 (.tmp 4) (.tmp 41), none⟩,
    ⟨(some 5), .mov (.const (.int .i64 6)), none⟩] [4, 5])
  (.ret)) (.skip)))
  (.seq (.region [⟨(some 43), .mov (.tmp 0), none⟩,
    ⟨(some 44), .field 0 (.tmp 3), none⟩,
    ⟨(some 45), .load (some 5) (.tmp 44), none⟩,
    ⟨(some 46), .call (.const (.fn F.table_Table_fresh [] [])) [(.tmp 43), (.tmp 45)], none⟩,
    ⟨(some 42), .mov (.tmp 46), none⟩,
    ⟨(some 47), .extract (.tmp 42) 0, none⟩,
    ⟨(some 48), .extract (.tmp 42) 1, none⟩,
    ⟨none, .store 4 (.tmp 7) (.tmp 47), none⟩,
    ⟨(some 6), .mov (.tmp 48), none⟩] [0, 3, 4, 6, 7, 8])
  (.seq (.region [⟨(some 49), .mov (.tmp 6), none⟩,
    ⟨(some 50), .bin .neq (.tmp 49) (.const (.int .i64 0)), none⟩] [0, 3, 4, 6, 7, 8, 50])
  (.cond (.tmp 50) (.seq (.region [⟨(some 51), .build [.nils, (.bool false), (.bool false), (.int .u32 0)] [], none⟩,
    ⟨(some 52), .mov (.tmp 6), none⟩,
    ⟨none, .store 4 (.tmp 4) (.tmp 51), none⟩,
    ⟨(some 5), .mov (.tmp 52), none⟩] [4, 5])
  (.ret)) (.skip))))) (.skip)))
  (.seq (.seq (.draw table_Table_Put.d0 table_Table_Put.d0b [[0, 1, 2, 3, 4, 5, 6, 7, 8]] [] [0, 4, 7, 8, 9])
  (.seq (.region [⟨(some 61), .mov (.tmp 9), none⟩,
    ⟨(some 62), .bin .neq (.tmp 61) (.const (.int .i64 0)), none⟩] [0, 4, 7, 8, 9, 62])
  (.cond (.tmp 62) (.seq (.region [⟨(some 63), .build [.nils, (.bool false), (.bool false), (.int .u32 0)] [], none⟩,
    ⟨(some 64), .mov (.tmp 9), none⟩,
    ⟨none, .store 4 (.tmp 4) (.tmp 63), none⟩,
    ⟨(some 5), .mov (.tmp 64), none⟩] [4, 5])
  (.ret)) (.skip))))
  (.seq (.seq (.region [⟨(some 66), .mov (.tmp 0), none⟩,
    ⟨(some 67), .nilc (.tmp 66), none⟩,
    ⟨(some 68), .field 2 (.tmp 67), none⟩,
    ⟨(some 69), .load none (.tmp 68), none⟩,
    ⟨(some 70), .mov (.tmp 8), none⟩,
    ⟨(some 71), .lookup .int .nilp false (.tmp 69) (.tmp 70), none⟩,
    ⟨(some 72), .call (.const (.fn F.slot_Slot_Bytes [] [])) [(.tmp 71)], none⟩,
    ⟨(some 65), .mov (.tmp 72), none⟩,
    ⟨(some 73), .extract (.tmp 65) 0, none⟩,
    ⟨(some 74), .extract (.tmp 65) 1, none⟩,
    ⟨(some 75), .field 0 (.tmp 7), none⟩,
    ⟨none, .store 1 (.tmp 75) (.tmp 73), none⟩,
    ⟨(some 76), .field 1 (.tmp 7), none⟩,
    ⟨none, .store 1 (.tmp 76) (.tmp 74), none⟩] [0, 4, 7, 8])
  (.seq (.region [⟨(some 77), .field 1 (.tmp 7), none⟩,
    ⟨(some 78), .load none (.tmp 77), none⟩] [0, 4, 7, 8, 78])
  (.cond (.tmp 78) (.region [⟨(some 79), .mov (.tmp 0), none⟩,
    ⟨(some 80), .mov (.tmp 8), none⟩,
    ⟨(some 81), .call (.const (.fn F.table_Table_Drop [] [])) [(.tmp 79), (.tmp 80)], none⟩] [4, 7]) (.skip))))
  (.seq (.region [⟨(some 82), .load (some 4) (.tmp 7), none⟩,
    ⟨none, .store 4 (.tmp 4) (.tmp 82), none⟩,
    ⟨(some 5), .mov (.const (.int .i64 0)), none⟩] [4, 5])
  (.ret))))))))))
def table_Table_Put : AFun := ⟨83, 2, [.cell 4 (some 4), .tmp 5], table_Table_Put.body⟩
def window_Window_Mark.d0 : List AOper := [⟨(some 21), .mov (.tmp 1), none⟩,
    ⟨(some 22), .field 1 (.tmp 6), none⟩,
    ⟨(some 23), .load none (.tmp 22), none⟩,
    ⟨(some 24), .field 0 (.tmp 6), none⟩,
    ⟨(some 25), .load none (.tmp 24), none⟩,
    ⟨(some 26), .mov (.tmp 1), none⟩,
    ⟨(some 27), .call (.const (.fn F.serial_Way [] [])) [(.tmp 25), (.tmp 26)], none⟩,
    ⟨(some 28), .bin .shl (.tmp 23) (.tmp 27), none⟩,
    ⟨(some 29), .build [(.int .u32 0), (.int .u64 0)] [(0, 1, (.tmp 21)), (1, 1, (.tmp 28))], none⟩,
    ⟨none, .store 2 (.tmp 6) (.tmp 29), none⟩]
def window_Window_Mark.d0b : List (List Nat) := [[], [], [1], [], [3], [], [3, 4, 5], [1, 2, 3, 4, 5, 6], [0, 1, 2, 3, 4, 5, 6, 7], [0, 1, 2, 3, 4, 5, 6, 7, 8]]
def window_Window_Mark.d1 : List AOper := [⟨(some 30), .field 1 (.tmp 6), none⟩,
    ⟨(some 31), .load none (.tmp 30), none⟩,
    ⟨(some 32), .load (some 2) (.tmp 6), none⟩,
    ⟨(some 33), .mov (.tmp 1), none⟩,
    ⟨(some 34), .call (.const (.fn F.window_state_bit [] [])) [(.tmp 32), (.tmp 33)], none⟩,
    ⟨(some 35), .bin .or (.tmp 31) (.tmp 34), none⟩,
    ⟨(some 36), .field 1 (.tmp 6), none⟩,
    ⟨none, .store 1 (.tmp 36) (.tmp 35), none⟩]
def window_Window_Mark.d1b : List (List Nat) := [[], [0], [], [], [2, 3], [0, 1, 2, 3, 4], [0, 1, 2, 3, 4, 5], [0, 1, 2, 3, 4, 5, 6]]
def window_Window_Mark.d2 : List AOper := [⟨(some 37), .load (some 2) (.tmp 6), none⟩,
    ⟨(some 38), .mov (.tmp 0), none⟩,
    ⟨(some 39), .nilc (.tmp 38), none⟩,
    ⟨(some 40), .field 0 (.tmp 39), none⟩,
    ⟨(some 41), .load (some 2) (.tmp 40), none⟩,
    ⟨(some 42), .eq true (.cells [.int, .int]) (.tmp 37) (.tmp 41), none⟩]
def window_Window_Mark.d2b : List (List Nat) := [[], [], [1], [1, 2], [1, 2, 3], [0, 1, 2, 3, 4]]
def window_Window_Mark.body : ACode := .seq (.region [⟨(some 4), .mov (.const (.int .i64 0)), none⟩] [0, 1])
  (.seq (.seq (.region [⟨(some 7), .mov (.tmp 0), none⟩,
    ⟨(some 8), .mov (.tmp 1), none⟩,
    ⟨(some 9), .call (.const (.fn F.window_Window_Look [] [])) [(.tmp 7), (.tmp 8)], none⟩,
    ⟨(some 5), .mov (.tmp 9), none⟩] [0, 1, 5])
  (.seq (.region [⟨(some 10), .mov (.tmp 5), none⟩,
    ⟨(some 11), .bin .neq (.tmp 10) (.const (.int .i64 0)), none⟩] [0, 1, 5, 11])
  (.cond (.tmp 11) (.seq (.region [⟨(some 12), .mov (.tmp 5), none⟩,
    ⟨(some 4), .mov (.tmp 12), none⟩] [4])
  (.ret)) (.skip))))
  (.seq (.region [⟨(some 13), .mov (.tmp 0), none⟩,
    ⟨(some 14), .nilc (.tmp 13), none⟩,
    ⟨(some 15), .field 0 (.tmp 14), none⟩,
    ⟨(some 16), .load (some 2) (.tmp 15), none⟩,
    ⟨(some 6), .alloc T.window_state [(.int .u32 0), (.int .u64 0)], none⟩,
    ⟨none, .store 2 (.tmp 6) (.tmp 16), none⟩] [0, 1, 6])
  (.seq (.seq (.region [⟨(some 17), .mov (.tmp 1), none⟩,
    ⟨(some 18), .field 0 (.tmp 6), none⟩,
    ⟨(some 19), .load none (.tmp 18), none⟩,
    ⟨(some 20), .call (.const (.fn F.serial_After [] [])) [(.tmp 17), (.tmp 19)], none⟩] [0, 1, 6, 20])
  (.cond (.tmp 20) (.draw window_Window_Mark.d0 window_Window_Mark.d0b [[0, 1, 2, 3, 4, 5, 6, 7, 8, 9]] [(6, 2)] [0, 1, 6]) (.skip)))
  (.seq (.draw window_Window_Mark.d1 window_Window_Mark.d1b [[0, 1, 2, 3, 4, 5, 6, 7]] [(4, 1)] [0, 6])
  (.seq (.seq (.draw window_Window_Mark.d2 window_Window_Mark.d2b [[0, 1, 2, 3, 4, 5]] [] [0, 6, 42])
  (.cond (.tmp 42) (.region [⟨(some 43), .mov (.tmp 0), none⟩,
    ⟨(some 44), .load (some 2) (.tmp 6), none⟩,
    ⟨(some 45), .nilc (.tmp 43), none⟩,
    ⟨(some 46), .field 0 (.tmp 45), none⟩,
    ⟨none, .store 2 (.tmp 46) (.tmp 44), none⟩] []) (.skip)))
  (.seq (.region [⟨(some 4), .mov (.const (.int .i64 0)), none⟩] [4])
  (.ret)))))))
def window_Window_Mark : AFun := ⟨47, 2, [.tmp 4], window_Window_Mark.body⟩
def table_Table_Drop.body : ACode := .seq (.region [⟨(some 4), .mov (.const (.bool false)), none⟩] [0, 1])
  (.seq (.seq (.region [⟨(some 6), .mov (.tmp 0), none⟩,
    ⟨(some 7), .eq false .ptr (.tmp 6) (.const .nilp), none⟩,
    ⟨(some 8), .mov (.tmp 7), none⟩,
    ⟨(some 9), .mov (.tmp 0), some (8, false)⟩,
    ⟨(some 10), .nilc (.tmp 9), some (8, false)⟩,
    ⟨(some 11), .field 2 (.tmp 10), some (8, false)⟩,
    ⟨(some 12), .load none (.tmp 11), some (8, false)⟩,
    ⟨(some 13), .mov (.tmp 1), some (8, false)⟩,
    ⟨(some 14), .lookup .int .nilp false (.tmp 12) (.tmp 13), some (8, false)⟩,
    ⟨(some 15), .eq false .ptr (.tmp 14) (.const .nilp), some (8, false)⟩,
    ⟨(some 16), .pick (.tmp 8) (.const (.bool true)) (.tmp 15), none⟩] [0, 1, 16])
  (.cond (.tmp 16) (.seq (.region [⟨(some 4), .mov (.const (.bool false)), none⟩] [4])
  (.ret)) (.skip)))
  (.seq (.region [⟨(some 17), .mov (.tmp 0), none⟩,
    ⟨(some 18), .nilc (.tmp 17), none⟩,
    ⟨(some 19), .field 2 (.tmp 18), none⟩,
    ⟨(some 20), .load none (.tmp 19), none⟩,
    ⟨(some 21), .mov (.tmp 1), none⟩,
    ⟨none, .mapdel .int (.tmp 20) (.tmp 21), none⟩] [0, 1])
  (.seq (.region [⟨(some 22), .mov (.tmp 0), none⟩,
    ⟨(some 23), .nilc (.tmp 22), none⟩,
    ⟨(some 24), .field 1 (.tmp 23), none⟩,
    ⟨(some 25), .load none (.tmp 24), none⟩,
    ⟨(some 26), .mov (.tmp 1), none⟩,
    ⟨(some 27), .call (.const (.fn F.slices_Index_uint32_uint32 [] [])) [(.tmp 25), (.tmp 26)], none⟩,
    ⟨(some 5), .mov (.tmp 27), none⟩] [0, 5])
  (.seq (.region [⟨(some 28), .mov (.tmp 0), none⟩,
    ⟨(some 29), .mov (.tmp 0), none⟩,
    ⟨(some 30), .nilc (.tmp 29), none⟩,
    ⟨(some 31), .field 1 (.tmp 30), none⟩,
    ⟨(some 32), .load none (.tmp 31), none⟩,
    ⟨(some 33), .mov (.tmp 5), none⟩,
    ⟨(some 34), .mov (.tmp 5), none⟩,
    ⟨(some 35), .bin .add (.tmp 34) (.const (.int .i64 1)), none⟩,
    ⟨(some 36), .call (.const (.fn F.slices_Delete_uint32_uint32 [] [])) [(.tmp 32), (.tmp 33), (.tmp 35)], none⟩,
    ⟨(some 37), .nilc (.tmp 28), none⟩,
    ⟨(some 38), .field 1 (.tmp 37), none⟩,
    ⟨none, .store 1 (.tmp 38) (.tmp 36), none⟩] [])
  (.seq (.region [⟨(some 4), .mov (.const (.bool true)), none⟩] [4])
  (.ret))))))
def table_Table_Drop : AFun := ⟨39, 2, [.tmp 4], table_Table_Drop.body⟩
def join_Joiner_Waiting_1.a0 : ACode := .skip
def join_Joiner_Waiting_1.b0 : ACode := .block 3 (.region [⟨(some 19), .load none (.tmp 5), none⟩,
    ⟨(some 20), .bin .add (.tmp 19) (.const (.int .i64 1)), none⟩,
    ⟨none, .store 1 (.tmp 5) (.tmp 20), none⟩] [])
def join_Joiner_Waiting_1.a1 : ACode := .seq (.region [⟨(some 3), .mov (.tmp 14), none⟩] [2, 3, 15])
  (.region [⟨(some 4), .mov (.tmp 15), none⟩] [2, 3, 4])
def join_Joiner_Waiting_1.b1 : ACode := .block 1 (.seq (.region [⟨(some 5), .alloc T.int [(.int .i64 0)], none⟩,
    ⟨none, .store 1 (.tmp 5) (.const (.int .i64 0)), none⟩] [2, 3, 4, 5])
  (.seq (.seq (.region [⟨(some 16), .mov (.tmp 4), none⟩,
    ⟨(some 17), .call (.const (.fn F.slot_Slot_Missing [] [])) [(.tmp 16)], none⟩] [2, 3, 5, 17])
  (.block 2 (.range (.tmp 17) [18] join_Joiner_Waiting_1.a0 join_Joiner_Waiting_1.b0)))
  (.seq (.region [⟨(some 21), .load none (.tmp 2), none⟩,
    ⟨(some 22), .mov (.tmp 3), none⟩,
    ⟨(some 23), .load none (.tmp 5), none⟩,
    ⟨(some 24), .call (.tmp 21) [(.tmp 22), (.tmp 23)], none⟩,
    ⟨(some 25), .un .not (.tmp 24), none⟩] [25])
  (.cond (.tmp 25) (.exit 0) (.skip)))))
def join_Joiner_Waiting_1.body : ACode := .seq (.region [⟨(some 2), .box T.func_uint32_int_bool (.tmp 0), none⟩] [1, 2])
  (.scope (.seq (.seq (.region [⟨(some 6), .load none (.tmp 1), none⟩,
    ⟨(some 7), .eq false .ptr (.tmp 6) (.const .nilp), none⟩] [1, 2, 7])
  (.cond (.tmp 7) (.ret) (.skip)))
  (.seq (.skip)
  (.seq (.region [⟨(some 8), .load none (.tmp 1), none⟩,
    ⟨(some 9), .nilc (.tmp 8), none⟩,
    ⟨(some 10), .field 1 (.tmp 9), none⟩,
    ⟨(some 11), .field 0 (.tmp 10), none⟩,
    ⟨(some 12), .load none (.tmp 11), none⟩,
    ⟨(some 13), .call (.const (.fn F.table_Table_All [] [])) [(.tmp 12)], none⟩] [2, 13])
  (.block 0 (.range (.tmp 13) [14, 15] join_Joiner_Waiting_1.a1 join_Joiner_Waiting_1.b1))))))
def join_Joiner_Waiting_1 : AFun := ⟨26, 2, [], join_Joiner_Waiting_1.body⟩
def table_Table_All.body : ACode := .seq (.region [⟨(some 1), .box T.p_table_Table (.tmp 0), none⟩,
    ⟨(some 2), .mov (.const .nilf), none⟩] [1])
  (.seq (.region [⟨(some 3), .mkfn F.table_Table_All_1 [] [(.tmp 1)], none⟩,
    ⟨(some 2), .mov (.tmp 3), none⟩] [2])
  (.ret))
def table_Table_All : AFun := ⟨4, 1, [.tmp 2], table_Table_All.body⟩
def slot_Slot_Missing.body : ACode := .seq (.region [⟨(some 1), .box T.p_slot_Slot (.tmp 0), none⟩,
    ⟨(some 2), .mov (.const .nilf), none⟩] [1])
  (.seq (.region [⟨(some 3), .mkfn F.slot_Slot_Missing_1 [] [(.tmp 1)], none⟩,
    ⟨(some 2), .mov (.tmp 3), none⟩] [2])
  (.ret))
def slot_Slot_Missing : AFun := ⟨4, 1, [.tmp 2], slot_Slot_Missing.body⟩
def cuneiformref01_Same.d0 : List AOper := [⟨(some 17), .mov (.tmp 0), none⟩,
    ⟨(some 18), .mov (.tmp 5), none⟩,
    ⟨(some 19), .idx 1 none (.tmp 17) (.tmp 18), none⟩,
    ⟨(some 20), .load none (.tmp 19), none⟩,
    ⟨(some 21), .mov (.tmp 1), none⟩,
    ⟨(some 22), .mov (.tmp 5), none⟩,
    ⟨(some 23), .idx 1 none (.tmp 21) (.tmp 22), none⟩,
    ⟨(some 24), .load none (.tmp 23), none⟩,
    ⟨(some 25), .bin .neq (.tmp 20) (.tmp 24), none⟩]
def cuneiformref01_Same.d0b : List (List Nat) := [[], [], [0, 1], [0, 1, 2], [], [], [4, 5], [4, 5, 6], [0, 1, 2, 3, 4, 5, 6, 7]]
def cuneiformref01_Same.b1 : ACode := .seq (.seq (.region [⟨(some 11), .mov (.tmp 5), none⟩,
    ⟨(some 12), .mov (.tmp 0), none⟩,
    ⟨(some 13), .len .slice (.tmp 12), none⟩,
    ⟨(some 14), .bin .lss (.tmp 11) (.tmp 13), none⟩] [0, 1, 5, 14])
  (.cond (.tmp 14) (.skip) (.exit 0)))
  (.seq (.block 1 (.seq (.draw cuneiformref01_Same.d0 cuneiformref01_Same.d0b [[0, 1, 2, 3, 4, 5, 6, 7, 8]] [] [0, 1, 5, 25])
  (.cond (.tmp 25) (.seq (.region [⟨(some 4), .mov (.const (.bool false)), none⟩] [4])
  (.ret)) (.skip))))
  (.region [⟨(some 15), .mov (.tmp 5), none⟩,
    ⟨(some 16), .bin .add (.tmp 15) (.const (.int .i64 1)), none⟩,
    ⟨(some 5), .mov (.tmp 16), none⟩] [0, 1, 5]))
def cuneiformref01_Same.body : ACode := .seq (.region [⟨(some 4), .mov (.const (.bool false)), none⟩] [0, 1])
  (.seq (.seq (.region [⟨(some 6), .mov (.tmp 0), none⟩,
    ⟨(some 7), .len .slice (.tmp 6), none⟩,
    ⟨(some 8), .mov (.tmp 1), none⟩,
    ⟨(some 9), .len .slice (.tmp 8), none⟩,
    ⟨(some 10), .bin .neq (.tmp 7) (.tmp 9), none⟩] [0, 1, 10])
  (.cond (.tmp 10) (.seq (.region [⟨(some 4), .mov (.const (.bool false)), none⟩] [4])
  (.ret)) (.skip)))
  (.seq (.seq (.region [⟨(some 5), .mov (.const (.int .i64 0)), none⟩] [0, 1, 5])
  (.block 0 (.loop cuneiformref01_Same.b1)))
  (.seq (.region [⟨(some 4), .mov (.const (.bool true)), none⟩] [4])
  (.ret))))
def cuneiformref01_Same : AFun := ⟨26, 2, [.tmp 4], cuneiformref01_Same.body⟩
def window_Window_Copy.body : ACode := .seq (.region [⟨(some 2), .mov (.const .nilp), none⟩] [0])
  (.seq (.seq (.region [⟨(some 3), .mov (.tmp 0), none⟩,
    ⟨(some 4), .eq false .ptr (.tmp 3) (.const .nilp), none⟩] [0, 4])
  (.cond (.tmp 4) (.seq (.region [⟨(some 2), .mov (.const .nilp), none⟩] [2])
  (.ret)) (.skip)))
  (.seq (.region [⟨(some 5), .mov (.tmp 0), none⟩,
    ⟨(some 6), .nilc (.tmp 5), none⟩,
    ⟨(some 7), .field 0 (.tmp 6), none⟩,
    ⟨(some 8), .load (some 2) (.tmp 7), none⟩,
    ⟨(some 9), .build [(.int .u32 0), (.int .u64 0)] [(0, 2, (.tmp 8))], none⟩,
    ⟨(some 10), .box T.window_Window (.tmp 9), none⟩,
    ⟨(some 2), .mov (.tmp 10), none⟩] [2])
  (.ret)))
def window_Window_Copy : AFun := ⟨11, 1, [.tmp 2], window_Window_Copy.body⟩
def table_Table_Copy.d0 : List AOper := [⟨(some 8), .mov (.tmp 0), none⟩,
    ⟨(some 9), .nilc (.tmp 8), none⟩,
    ⟨(some 10), .field 0 (.tmp 9), none⟩,
    ⟨(some 11), .load none (.tmp 10), none⟩,
    ⟨(some 12), .mov (.tmp 0), none⟩,
    ⟨(some 13), .call (.const (.fn F.table_Table_Seqs [] [])) [(.tmp 12)], none⟩,
    ⟨(some 14), .mkmap, none⟩,
    ⟨(some 15), .build [(.int .i64 0), .nils, .nilm] [(0, 1, (.tmp 11)), (1, 1, (.tmp 13)), (2, 1, (.tmp 14))], none⟩,
    ⟨(some 16), .box T.table_Table (.tmp 15), none⟩,
    ⟨(some 3), .alloc T.p_table_Table [.nilp], none⟩,
    ⟨none, .store 1 (.tmp 3) (.tmp 16), none⟩]
def table_Table_Copy.d0b : List (List Nat) := [[], [0], [0, 1], [0, 1, 2], [], [4], [], [0, 1, 2, 3, 4, 5, 6], [0, 1, 2, 3, 4, 5, 6, 7], [], [0, 1, 2, 3, 4, 5, 6, 7, 8, 9]]
def table_Table_Copy.a1 : ACode := .seq (.region [⟨(some 4), .mov (.tmp 19), none⟩] [3, 4, 20])
  (.region [⟨(some 5), .mov (.tmp 20), none⟩] [3, 4, 5])
def table_Table_Copy.b1 : ACode := .block 1 (.region [⟨(some 21), .load none (.tmp 3), none⟩,
    ⟨(some 22), .nilc (.tmp 21), none⟩,
    ⟨(some 23), .field 2 (.tmp 22), none⟩,
    ⟨(some 24), .load none (.tmp 23), none⟩,
    ⟨(some 25), .mov (.tmp 4), none⟩,
    ⟨(some 26), .mov (.tmp 5), none⟩,
    ⟨none, .mapset .int (.tmp 24) (.tmp 25) (.tmp 26), none⟩] [])
def table_Table_Copy.body : ACode := .seq (.region [⟨(some 2), .mov (.const .nilp), none⟩] [0, 2])
  (.seq (.seq (.region [⟨(some 6), .mov (.tmp 0), none⟩,
    ⟨(some 7), .eq false .ptr (.tmp 6) (.const .nilp), none⟩] [0, 2, 7])
  (.cond (.tmp 7) (.seq (.region [⟨(some 2), .mov (.const .nilp), none⟩] [2])
  (.ret)) (.skip)))
  (.seq (.draw table_Table_Copy.d0 table_Table_Copy.d0b [[0, 1, 2, 3, 4, 5, 6, 7, 8, 9, 10], [0, 1, 2, 3, 4, 5, 6, 7, 9, 8, 10], [0, 1, 2, 3, 4, 5, 9, 6, 7, 8, 10], [0, 1, 2, 3, 4, 6, 5, 7, 8, 9, 10], [0, 1, 2, 3, 4, 6, 5, 7, 9, 8, 10], [0, 1, 2, 3, 4, 6, 9, 5, 7, 8, 10], [0, 1, 2, 3, 4, 9, 5, 6, 7, 8, 10], [0, 1, 2, 3, 4, 9, 6, 5, 7, 8, 10]] [(5, 3), (6, 3), (9, 3)] [0, 2, 3])
  (.seq (.seq (.region [⟨(some 17), .mov (.tmp 0), none⟩,
    ⟨(some 18), .call (.const (.fn F.table_Table_All [] [])) [(.tmp 17)], none⟩] [2, 3, 18])
  (.block 0 (.range (.tmp 18) [19, 20] table_Table_Copy.a1 table_Table_Copy.b1)))
  (.seq (.region [⟨(some 27), .load none (.tmp 3), none⟩,
    ⟨(some 2), .mov (.tmp 27), none⟩] [2])
  (.ret)))))
def table_Table_Copy : AFun := ⟨28, 1, [.tmp 2], table_Table_Copy.body⟩
def table_Table_Held.d0 : List AOper := [⟨(some 10), .load none (.tmp 3), none⟩,
    ⟨(some 11), .mov (.tmp 5), none⟩,
    ⟨(some 12), .call (.const (.fn F.slot_Slot_Size [] [])) [(.tmp 11)], none⟩,
    ⟨(some 13), .bin .add (.tmp 10) (.tmp 12), none⟩,
    ⟨none, .store 1 (.tmp 3) (.tmp 13), none⟩]
def table_Table_Held.d0b : List (List Nat) := [[], [], [1], [0, 1, 2], [0, 1, 2, 3]]
def table_Table_Held.a1 : ACode := .region [⟨(some 5), .mov (.tmp 9), none⟩] [3, 5]
def table_Table_Held.b1 : ACode := .block 1 (.draw table_Table_Held.d0 table_Table_Held.d0b [[0, 1, 2, 3, 4]] [(2, 0)] [])
def table_Table_Held.body : ACode := .seq (.region [⟨(some 2), .mov (.const (.int .i64 0)), none⟩] [0, 2])
  (.seq (.region [⟨(some 3), .alloc T.int [(.int .i64 0)], none⟩,
    ⟨none, .store 1 (.tmp 3) (.const (.int .i64 0)), none⟩] [0, 2, 3])
  (.seq (.seq (.region [⟨(some 6), .mov (.tmp 0), none⟩,
    ⟨(some 7), .call (.const (.fn F.table_Table_each [] [])) [(.tmp 6)], none⟩] [2, 3, 7])
  (.block 0 (.range (.tmp 7) [8, 9] table_Table_Held.a1 table_Table_Held.b1)))
  (.seq (.region [⟨(some 14), .load none (.tmp 3), none⟩,
    ⟨(some 2), .mov (.tmp 14), none⟩] [2])
  (.ret))))
def table_Table_Held : AFun := ⟨15, 1, [.tmp 2], table_Table_Held.body⟩
def serial_Add.body : ACode := .seq (.region [⟨(some 4), .mov (.const (.int .u32 0)), none⟩] [0, 1])
  (.seq (.region [⟨(some 5), .mov (.tmp 0), none⟩,
    ⟨(some 6), .mov (.tmp 1), none⟩,
    ⟨(some 7), .conv .u32 (.tmp 6), none⟩,
    ⟨(some 8), .bin .add (.tmp 5) (.tmp 7), none⟩,
    ⟨(some 4), .mov (.tmp 8), none⟩] [4])
  (.ret))
def serial_Add : AFun := ⟨9, 2, [.tmp 4], serial_Add.body⟩
def head_wrong.body : ACode := .seq (.region [⟨(some 1), .box T.head_Head (.tmp 0), none⟩,
    ⟨(some 2), .mov (.const .nilf), none⟩] [1])
  (.seq (.region [⟨(some 3), .mkfn F.head_wrong_1 [] [(.tmp 1)], none⟩,
    ⟨(some 2), .mov (.tmp 3), none⟩] [2])
  (.ret))
def head_wrong : AFun := ⟨4, 1, [.tmp 2], head_wrong.body⟩
def serial_After.body : ACode := .seq (.region [⟨(some 4), .mov (.const (.bool false)), none⟩] [0, 1])
  (.seq (.region [⟨(some 5), .mov (.tmp 0), none⟩,
    ⟨(some 6), .mov (.tmp 1), none⟩,
    ⟨(some 7), .call (.const (.fn F.serial_Diff [] [])) [(.tmp 5), (.tmp 6)], none⟩,
    ⟨(some 8), .bin .gtr (.tmp 7) (.const (.int .i64 0)), none⟩,
    ⟨(some 4), .mov (.tmp 8), none⟩] [4])
  (.ret))
def serial_After : AFun := ⟨9, 2, [.tmp 4], serial_After.body⟩
def window_state_bit.body : ACode := .seq (.region [⟨(some 2), .box T.window_state (.tmp 0), none⟩,
    ⟨(some 4), .mov (.const (.int .u64 0)), none⟩] [1, 2])
  (.seq (.seq (.region [⟨(some 6), .mov (.tmp 1), none⟩,
    ⟨(some 7), .field 0 (.tmp 2), none⟩,
    ⟨(some 8), .load none (.tmp 7), none⟩,
    ⟨(some 9), .call (.const (.fn F.serial_Way [] [])) [(.tmp 6), (.tmp 8)], none⟩,
    ⟨(some 5), .mov (.tmp 9), none⟩] [5])
  (.seq (.region [⟨(some 10), .mov (.tmp 5), none⟩,
    ⟨(some 11), .bin .lss (.tmp 10) (.const (.int .u32 64)), none⟩] [5, 11])
  (.cond (.tmp 11) (.seq (.region [⟨(some 12), .mov (.tmp 5), none⟩,
    ⟨(some 13), .bin .shl (.const (.int .u64 1)) (.tmp 12), none⟩,
    ⟨(some 4), .mov (.tmp 13), none⟩] [4])
  (.ret)) (.skip))))
  (.seq (.region [⟨(some 4), .mov (.const (.int .u64 0)), none⟩] [4])
  (.ret)))
def window_state_bit : AFun := ⟨14, 2, [.tmp 4], window_state_bit.body⟩
def table_Table_fresh.d0 : List AOper := [⟨(some 11), .mov (.tmp 0), none⟩,
    ⟨(some 12), .nilc (.tmp 11), none⟩,
    ⟨(some 13), .field 1 (.tmp 12), none⟩,
    ⟨(some 14), .load none (.tmp 13), none⟩,
    ⟨(some 15), .len .slice (.tmp 14), none⟩,
    ⟨(some 16), .mov (.tmp 0), none⟩,
    ⟨(some 17), .nilc (.tmp 16), none⟩,
    ⟨(some 18), .field 0 (.tmp 17), none⟩,
    ⟨(some 19), .load none (.tmp 18), none⟩,
    ⟨(some 20), .bin .geq (.tmp 15) (.tmp 19), none⟩]
def table_Table_fresh.d0b : List (List Nat) := [[], [0], [0, 1], [0, 1, 2], [0, 1, 2, 3], [], [5], [5, 6], [5, 6, 7], [0, 1, 2, 3, 4, 5, 6, 7, 8]]
def table_Table_fresh.d1 : List AOper := [⟨(some 45), .mov (.tmp 0), none⟩,
    ⟨(some 46), .nilc (.tmp 45), none⟩,
    ⟨(some 47), .field 2 (.tmp 46), none⟩,
    ⟨(some 48), .load none (.tmp 47), none⟩,
    ⟨(some 49), .field 2 (.tmp 3), none⟩,
    ⟨(some 50), .load none (.tmp 49), none⟩,
    ⟨(some 51), .mov (.tmp 9), none⟩,
    ⟨none, .mapset .int (.tmp 48) (.tmp 50) (.tmp 51), none⟩]
def table_Table_fresh.d1b : List (List Nat) := [[], [0], [0, 1], [0, 1, 2], [], [4], [], [0, 1, 2, 3, 4, 5, 6]]
def table_Table_fresh.d2 : List AOper := [⟨(some 52), .mov (.tmp 0), none⟩,
    ⟨(some 53), .mov (.tmp 0), none⟩,
    ⟨(some 54), .nilc (.tmp 53), none⟩,
    ⟨(some 55), .field 1 (.tmp 54), none⟩,
    ⟨(some 56), .load none (.tmp 55), none⟩,
    ⟨(some 57), .field 2 (.tmp 3), none⟩,
    ⟨(some 58), .load none (.tmp 57), none⟩,
    ⟨(some 59), .lit T.uint32 1 1 [(.int .u32 0)] [(0, 1, (.tmp 58))], none⟩,
    ⟨(some 60), .append T.uint32 1 4 (.tmp 56) (.tmp 59), none⟩,
    ⟨(some 61), .nilc (.tmp 52), none⟩,
    ⟨(some 62), .field 1 (.tmp 61), none⟩,
    ⟨none, .store 1 (.tmp 62) (.tmp 60), none⟩]
def table_Table_fresh.d2b : List (List Nat) := [[], [], [1], [1, 2], [1, 2, 3], [], [5], [5, 6], [1, 2, 3, 4, 5, 6, 7], [0, 1, 2, 3, 4, 5, 6, 7, 8], [0, 1, 2, 3, 4, 5, 6, 7, 8, 9], [0, 1, 2, 3, 4, 5, 6, 7, 8, 9, 10]]
def table_Table_fresh.body : ACode := .seq (.region [⟨(some 3), .box T.head_Head (.tmp 1), none⟩,
    ⟨(some 4), .alloc T.table_Out [.nils, (.bool false), (.bool false), (.int .u32 0)], none⟩,
    ⟨(some 5), .mov (.const (.int .i64 0)), none⟩] [0, 3, 4])
  (.seq (.region [⟨(some 6), .alloc T.table_Out [.nils, (.bool false), (.bool false), (.int .u32 0)], none⟩] [0, 3, 4, 6])
  (.seq (.seq (.draw table_Table_fresh.d0 table_Table_fresh.d0b [[0, 1, 2, 3, 4, 5, 6, 7, 8, 9]] [] [0, 3, 4, 6, 20])
  (.cond (.tmp 20) (.seq (.region [⟨(some 22), .mov (.tmp 0), none⟩,
    ⟨(some 23), .nilc (.tmp 22), none⟩,
    ⟨(some 24), .field 1 (.tmp 23), none⟩,
    ⟨(some 25), .load none (.tmp 24), none⟩,
    ⟨(some 26), .call (.const (.fn F.serial_Oldest [] [])) [(.tmp 25)], none⟩,
    ⟨(some 21), .mov (.tmp 26), none⟩,
    ⟨(some 27), .extract (.tmp 21) 0, none⟩,
    ⟨(some 28), .extract (.tmp 21) 1, none⟩,
    ⟨(some 7), .mov (.tmp 27), none⟩,
    ⟨(some 8), .mov (.tmp 28), none⟩] [0, 3, 4, 6, 7])
  (.seq (.seq (.region [⟨(some 29), .field 2 (.tmp 3), none⟩,
    ⟨(some 30), .load none (.tmp 29), none⟩,
    ⟨(some 31), .mov (.tmp 7), none⟩,
    ⟨(some 32), .call (.const (.fn F.serial_After [] [])) [(.tmp 30), (.tmp 31)], none⟩,
    ⟨(some 33), .un .not (.tmp 32), none⟩] [0, 3, 4, 6, 7, 33])
  (.cond (.tmp 33) (.seq (.region [⟨(some 34), .build [.nils, (.bool false), (.bool false), (.int .u32 0)] [], none⟩,
    ⟨none, .store 4 (.tmp 4) (.tmp 34), none⟩,
    ⟨(some 5), .mov (.const (.int .i64 18)), none⟩] [4, 5])
  (.ret)) (.skip)))
  (.seq (.region [⟨(some 35), .mov (.tmp 0), none⟩,
    ⟨(some 36), .mov (.tmp 7), none⟩,
    ⟨(some 37), .call (.const (.fn F.table_Table_Drop [] [])) [(.tmp 35), (.tmp 36)], none⟩] [0, 3, 4, 6, 7])
  (.region [⟨(some 38), .mov (.tmp 7), none⟩,
    ⟨(some 39), .build [.nils, (.bool false), (.bool false), (.int .u32 0)] [(2, 1, (.const (.bool true))), (3, 1, (.tmp 38))], none⟩,
    ⟨none, .store 4 (.tmp 6) (.tmp 39), none⟩] [0, 3, 4, 6])))) (.skip)))
  (.seq (.region [⟨(some 41), .load (some 5) (.tmp 3), none⟩,
    ⟨(some 42), .call (.const (.fn F.slot_New [] [])) [(.tmp 41)], none⟩,
    ⟨(some 40), .mov (.tmp 42), none⟩,
    ⟨(some 43), .extract (.tmp 40) 0, none⟩,
    ⟨(some 44), .extract (.tmp 40) 1, none⟩,
    ⟨(some 9), .mov (.tmp 43), none⟩,
    ⟨(some 10), .mov (.tmp 44), none⟩] [0, 3, 4, 6, 9, 10])
  (.seq (.draw table_Table_fresh.d1 table_Table_fresh.d1b [[0, 1, 2, 3, 4, 5, 6, 7]] [] [0, 3, 4, 6, 10])
  (.seq (.draw table_Table_fresh.d2 table_Table_fresh.d2b [[0, 1, 2, 3, 4, 5, 6, 7, 8, 9, 10, 11]] [(7, 4)] [4, 6, 10])
  (.seq (.region [⟨(some 63), .load (some 4) (.tmp 6), none⟩,
    ⟨(some 64), .mov (.tmp 10), none⟩,
    ⟨none, .store 4 (.tmp 4) (.tmp 63), none⟩,
    ⟨(some 5), .mov (.tmp 64), none⟩] [4, 5])
  (.ret)))))))
def table_Table_fresh : AFun := ⟨65, 2, [.cell 4 (some 4), .tmp 5], table_Table_fresh.body⟩
def slot_Slot_Put.d0 : List AOper := [⟨(some 10), .mov (.tmp 0), none⟩,
    ⟨(some 11), .nilc (.tmp 10), none⟩,
    ⟨(some 12), .field 5 (.tmp 11), none⟩,
    ⟨(some 13), .load none (.tmp 12), none⟩,
    ⟨(some 14), .field 0 (.tmp 3), none⟩,
    ⟨(some 15), .field 3 (.tmp 14), none⟩,
    ⟨(some 16), .load none (.tmp 15), none⟩,
    ⟨(some 17), .lookup .int .nils true (.tmp 13) (.tmp 16), none⟩,
    ⟨(some 9), .mov (.tmp 17), none⟩,
    ⟨(some 18), .extract (.tmp 9) 0, none⟩,
    ⟨(some 19), .extract (.tmp 9) 1, none⟩,
    ⟨(some 5), .mov (.tmp 18), none⟩,
    ⟨(some 6), .mov (.tmp 19), none⟩]
def slot_Slot_Put.d0b : List (List Nat) := [[], [0], [0, 1], [0, 1, 2], [], [4], [4, 5], [0, 1, 2, 3, 4, 5, 6], [0, 1, 2, 3, 4, 5, 6, 7], [0, 1, 2, 3, 4, 5, 6, 7, 8], [0, 1, 2, 3, 4, 5, 6, 7, 8], [0, 1, 2, 3, 4, 5, 6, 7, 8, 9], [0, 1, 2, 3, 4, 5, 6, 7, 8, 9, 10, 11]]
def slot_Slot_Put.d1 : List AOper := [⟨(some 21), .field 0 (.tmp 3), none⟩,
    ⟨(some 22), .load (some 5) (.tmp 21), none⟩,
    ⟨(some 23), .mov (.tmp 0), none⟩,
    ⟨(some 24), .nilc (.tmp 23), none⟩,
    ⟨(some 25), .field 0 (.tmp 24), none⟩,
    ⟨(some 26), .field 0 (.tmp 25), none⟩,
    ⟨(some 27), .load (some 5) (.tmp 26), none⟩,
    ⟨(some 28), .call (.const (.fn F.head_Mates [] [])) [(.tmp 22), (.tmp 27)], none⟩,
    ⟨(some 29), .un .not (.tmp 28), none⟩,
    ⟨(some 20), .mov (.tmp 29), none⟩]
def slot_Slot_Put.d1b : List (List Nat) := [[], [0], [], [2], [2, 3], [2, 3, 4], [2, 3, 4, 5], [0, 1, 2, 3, 4, 5, 6], [0, 1, 2, 3, 4, 5, 6, 7], [0, 1, 2, 3, 4, 5, 6, 7, 8]]
def slot_Slot_Put.d2 : List AOper := [⟨(some 31), .field 0 (.tmp 3), none⟩,
    ⟨(some 32), .field 3 (.tmp 31), none⟩,
    ⟨(some 33), .load none (.tmp 32), none⟩,
    ⟨(some 34), .bin .lss (.tmp 33) (.const (.int .i64 0)), none⟩,
    ⟨(some 35), .mov (.tmp 34), none⟩,
    ⟨(some 36), .field 0 (.tmp 3), some (35, false)⟩,
    ⟨(some 37), .field 3 (.tmp 36), some (35, false)⟩,
    ⟨(some 38), .load none (.tmp 37), some (35, false)⟩,
    ⟨(some 39), .mov (.tmp 0), some (35, false)⟩,
    ⟨(some 40), .nilc (.tmp 39), some (35, false)⟩,
    ⟨(some 41), .field 0 (.tmp 40), some (35, false)⟩,
    ⟨(some 42), .field 0 (.tmp 41), some (35, false)⟩,
    ⟨(some 43), .field 4 (.tmp 42), some (35, false)⟩,
    ⟨(some 44), .load none (.tmp 43), some (35, false)⟩,
    ⟨(some 45), .bin .geq (.tmp 38) (.tmp 44), some (35, false)⟩,
    ⟨(some 46), .pick (.tmp 35) (.const (.bool true)) (.tmp 45), none⟩,
    ⟨(some 30), .mov (.tmp 46), none⟩]
def slot_Slot_Put.d2b : List (List Nat) := [[], [0], [0, 1], [0, 1, 2], [0, 1, 2, 3], [0, 1, 2, 3, 4], [0, 1, 2, 3, 4, 5], [0, 1, 2, 3, 4, 5, 6], [0, 1, 2, 3, 4], [0, 1, 2, 3, 4, 8], [0, 1, 2, 3, 4, 8, 9], [0, 1, 2, 3, 4, 8, 9, 10], [0, 1, 2, 3, 4, 8, 9, 10, 11], [0, 1, 2, 3, 4, 8, 9, 10, 11, 12], [0, 1, 2, 3, 4, 5, 6, 7, 8, 9, 10, 11, 12, 13], [0, 1, 2, 3, 4, 5, 6, 7, 8, 9, 10, 11, 12, 13, 14], [0, 1, 2, 3, 4, 5, 6, 7, 8, 9, 10, 11, 12, 13, 14, 15]]
def slot_Slot_Put.d3 : List AOper := [⟨(some 55), .field 5 (.tmp 3), none⟩,
    ⟨(some 56), .load none (.tmp 55), none⟩,
    ⟨(some 57), .len .slice (.tmp 56), none⟩,
    ⟨(some 58), .mov (.tmp 0), none⟩,
    ⟨(some 59), .nilc (.tmp 58), none⟩,
    ⟨(some 60), .field 6 (.tmp 59), none⟩,
    ⟨(some 61), .load none (.tmp 60), none⟩,
    ⟨(some 62), .bin .sub (.const (.int .i64 192)) (.tmp 61), none⟩,
    ⟨(some 63), .bin .gtr (.tmp 57) (.tmp 62), none⟩,
    ⟨(some 54), .mov (.tmp 63), none⟩]
def slot_Slot_Put.d3b : List (List Nat) := [[], [0], [0, 1], [], [3], [3, 4], [3, 4, 5], [3, 4, 5, 6], [0, 1, 2, 3, 4, 5, 6, 7], [0, 1, 2, 3, 4, 5, 6, 7, 8]]
def slot_Slot_Put.d4 : List AOper := [⟨(some 64), .mov (.tmp 0), none⟩,
    ⟨(some 65), .nilc (.tmp 64), none⟩,
    ⟨(some 66), .field 5 (.tmp 65), none⟩,
    ⟨(some 67), .load none (.tmp 66), none⟩,
    ⟨(some 68), .field 0 (.tmp 3), none⟩,
    ⟨(some 69), .field 3 (.tmp 68), none⟩,
    ⟨(some 70), .load none (.tmp 69), none⟩,
    ⟨(some 71), .lit T.uint8 1 0 [] [], none⟩,
    ⟨(some 72), .field 5 (.tmp 3), none⟩,
    ⟨(some 73), .load none (.tmp 72), none⟩,
    ⟨(some 74), .append T.uint8 1 1 (.tmp 71) (.tmp 73), none⟩,
    ⟨none, .mapset .int (.tmp 67) (.tmp 70) (.tmp 74), none⟩]
def slot_Slot_Put.d4b : List (List Nat) := [[], [0], [0, 1], [0, 1, 2], [], [4], [4, 5], [], [], [8], [7, 8, 9], [0, 1, 2, 3, 4, 5, 6, 7, 8, 9, 10]]
def slot_Slot_Put.d5 : List AOper := [⟨(some 75), .mov (.tmp 0), none⟩,
    ⟨(some 76), .nilc (.tmp 75), none⟩,
    ⟨(some 77), .field 6 (.tmp 76), none⟩,
    ⟨(some 78), .load none (.tmp 77), none⟩,
    ⟨(some 79), .field 5 (.tmp 3), none⟩,
    ⟨(some 80), .load none (.tmp 79), none⟩,
    ⟨(some 81), .len .slice (.tmp 80), none⟩,
    ⟨(some 82), .bin .add (.tmp 78) (.tmp 81), none⟩,
    ⟨(some 83), .nilc (.tmp 75), none⟩,
    ⟨(some 84), .field 6 (.tmp 83), none⟩,
    ⟨none, .store 1 (.tmp 84) (.tmp 82), none⟩]
def slot_Slot_Put.d5b : List (List Nat) := [[], [0], [0, 1], [0, 1, 2], [], [4], [4, 5], [0, 1, 2, 3, 4, 5, 6], [0, 1, 2, 3, 4, 5, 6, 7], [0, 1, 2, 3, 4, 5, 6, 7, 8], [0, 1, 2, 3, 4, 5, 6, 7, 8, 9]]
def slot_Slot_Put.body : ACode := .seq (.region [⟨(some 3), .box T.frame_Frame (.tmp 1), none⟩,
    ⟨(some 4), .mov (.const (.int .i64 0)), none⟩] [0, 3])
  (.seq (.seq (.region [⟨(some 7), .mov (.tmp 0), none⟩,
    ⟨(some 8), .eq false .ptr (.tmp 7) (.const .nilp), none⟩] [0, 3, 8])
  (.cond (.tmp 8) (.seq (.region [⟨(some 4), .mov (.const (.int .i64 1)), none⟩] [4])
  (.ret)) (.skip)))
  (.seq (.draw slot_Slot_Put.d0 slot_Slot_Put.d0b [[0, 1, 2, 3, 4, 5, 6, 7, 8, 9, 10, 11, 12]] [] [0, 3, 6])
  (.seq (.block 0 (.seq (.draw slot_Slot_Put.d1 slot_Slot_Put.d1b [[0, 1, 2, 3, 4, 5, 6, 7, 8, 9]] [] [0, 3, 6, 20])
  (.cond (.tmp 20) (.seq (.region [⟨(some 4), .mov (.const (.int .i64 17)), none⟩] [4])
  (.ret)) (.seq (.draw slot_Slot_Put.d2 slot_Slot_Put.d2b [[0, 1, 2, 3, 4, 5, 6, 7, 8, 9, 10, 11, 12, 13, 14, 15, 16]] [] [0, 3, 6, 30])
  (.cond (.tmp 30) (.seq (.region [⟨(some 4), .mov (.const (.int .i64 3)), none⟩] [4])
  (.ret)) (.seq (.region [⟨(some 48), .field 5 (.tmp 3), none⟩,
    ⟨(some 49), .load none (.tmp 48), none⟩,
    ⟨(some 50), .len .slice (.tmp 49), none⟩,
    ⟨(some 51), .bin .eql (.tmp 50) (.const (.int .i64 0)), none⟩,
    ⟨(some 47), .mov (.tmp 51), none⟩] [0, 3, 6, 47])
  (.cond (.tmp 47) (.seq (.region [⟨(some 4), .mov (.const (.int .i64 13)), none⟩] [4])
  (.ret)) (.seq (.region [⟨(some 53), .mov (.tmp 6), none⟩,
    ⟨(some 52), .mov (.tmp 53), none⟩] [0, 3, 52])
  (.cond (.tmp 52) (.seq (.region [⟨(some 4), .mov (.const (.int .i64 16)), none⟩] [4])
  (.ret)) (.seq (.draw slot_Slot_Put.d3 slot_Slot_Put.d3b [[0, 1, 2, 3, 4, 5, 6, 7, 8, 9]] [] [0, 3, 54])
  (.cond (.tmp 54) (.seq (.region [⟨(some 4), .mov (.const (.int .i64 6)), none⟩] [4])
  (.ret)) (.skip))))))))))))
  (.seq (.draw slot_Slot_Put.d4 slot_Slot_Put.d4b [[0, 1, 2, 3, 4, 5, 6, 8, 9, 7, 10, 11]] [(7, 3), (7, 6), (7, 9), (10, 3), (10, 6)] [0, 3])
  (.seq (.draw slot_Slot_Put.d5 slot_Slot_Put.d5b [[0, 1, 2, 3, 4, 5, 6, 7, 8, 9, 10]] [] [])
  (.seq (.region [⟨(some 4), .mov (.const (.int .i64 0)), none⟩] [4])
  (.ret)))))))
def slot_Slot_Put : AFun := ⟨85, 2, [.tmp 4], slot_Slot_Put.body⟩
def slot_Slot_Bytes.b0 : ACode := .seq (.region [⟨(some 16), .bin .lss (.tmp 15) (.tmp 14), none⟩] [0, 4, 14, 15, 16])
  (.seq (.cond (.tmp 16) (.skip) (.exit 0))
  (.seq (.block 1 (.seq (.region [⟨(some 17), .mov (.tmp 15), none⟩,
    ⟨(some 5), .mov (.tmp 17), none⟩] [0, 4, 5, 14, 15])
  (.region [⟨(some 18), .mov (.tmp 4), none⟩,
    ⟨(some 19), .mov (.tmp 0), none⟩,
    ⟨(some 20), .nilc (.tmp 19), none⟩,
    ⟨(some 21), .field 5 (.tmp 20), none⟩,
    ⟨(some 22), .load none (.tmp 21), none⟩,
    ⟨(some 23), .mov (.tmp 5), none⟩,
    ⟨(some 24), .lookup .int .nils false (.tmp 22) (.tmp 23), none⟩,
    ⟨(some 25), .append T.uint8 1 1 (.tmp 18) (.tmp 24), none⟩,
    ⟨(some 4), .mov (.tmp 25), none⟩] [0, 4, 14, 15])))
  (.region [⟨(some 26), .bin .add (.tmp 15) (.const (.int .i64 1)), none⟩,
    ⟨(some 15), .mov (.tmp 26), none⟩] [0, 4, 14, 15])))
def slot_Slot_Bytes.body : ACode := .seq (.region [⟨(some 2), .mov (.const .nils), none⟩,
    ⟨(some 3), .mov (.const (.bool false)), none⟩] [0])
  (.seq (.seq (.region [⟨(some 6), .mov (.tmp 0), none⟩,
    ⟨(some 7), .call (.const (.fn F.slot_Slot_Full [] [])) [(.tmp 6)], none⟩,
    ⟨(some 8), .un .not (.tmp 7), none⟩] [0, 8])
  (.cond (.tmp 8) (.seq (.region [⟨(some 2), .mov (.const .nils), none⟩,
    ⟨(some 3), .mov (.const (.bool false)), none⟩] [2, 3])
  (.ret)) (.skip)))
  (.seq (.region [⟨(some 4), .mov (.const .nils), none⟩] [0, 4])
  (.seq (.seq (.region [⟨(some 9), .mov (.tmp 0), none⟩,
    ⟨(some 10), .nilc (.tmp 9), none⟩,
    ⟨(some 11), .field 0 (.tmp 10), none⟩,
    ⟨(some 12), .field 0 (.tmp 11), none⟩,
    ⟨(some 13), .field 4 (.tmp 12), none⟩,
    ⟨(some 14), .load none (.tmp 13), none⟩,
    ⟨(some 15), .mov (.const (.int .i64 0)), none⟩] [0, 4, 14, 15])
  (.block 0 (.loop slot_Slot_Bytes.b0)))
  (.seq (.region [⟨(some 27), .mov (.tmp 4), none⟩,
    ⟨(some 2), .mov (.tmp 27), none⟩,
    ⟨(some 3), .mov (.const (.bool true)), none⟩] [2, 3])
  (.ret)))))
def slot_Slot_Bytes : AFun := ⟨28, 1, [.tmp 2, .tmp 3], slot_Slot_Bytes.body⟩
def serial_Way.body : ACode := .seq (.region [⟨(some 4), .mov (.const (.int .u32 0)), none⟩] [0, 1])
  (.seq (.region [⟨(some 5), .mov (.tmp 1), none⟩,
    ⟨(some 6), .mov (.tmp 0), none⟩,
    ⟨(some 7), .bin .sub (.tmp 5) (.tmp 6), none⟩,
    ⟨(some 4), .mov (.tmp 7), none⟩] [4])
  (.ret))
def serial_Way : AFun := ⟨8, 2, [.tmp 4], serial_Way.body⟩
def slices_Index_uint32_uint32.b0 : ACode := .seq (.region [⟨(some 9), .bin .lss (.tmp 8) (.tmp 7), none⟩] [0, 1, 7, 8, 9])
  (.seq (.cond (.tmp 9) (.skip) (.exit 0))
  (.seq (.block 1 (.seq (.region [⟨(some 10), .mov (.tmp 8), none⟩,
    ⟨(some 5), .mov (.tmp 10), none⟩] [0, 1, 5, 7, 8])
  (.seq (.region [⟨(some 11), .mov (.tmp 1), none⟩,
    ⟨(some 12), .mov (.tmp 0), none⟩,
    ⟨(some 13), .mov (.tmp 5), none⟩,
    ⟨(some 14), .idx 1 none (.tmp 12) (.tmp 13), none⟩,
    ⟨(some 15), .load none (.tmp 14), none⟩,
    ⟨(some 16), .bin .eql (.tmp 11) (.tmp 15), none⟩] [0, 1, 5, 7, 8, 16])
  (.cond (.tmp 16) (.seq (.region [⟨(some 17), .mov (.tmp 5), none⟩,
    ⟨(some 4), .mov (.tmp 17), none⟩] [4])
  (.ret)) (.skip)))))
  (.region [⟨(some 18), .bin .add (.tmp 8) (.const (.int .i64 1)), none⟩,
    ⟨(some 8), .mov (.tmp 18), none⟩] [0, 1, 7, 8])))
def slices_Index_uint32_uint32.body : ACode := .seq (.region [⟨(some 4), .mov (.const (.int .i64 0)), none⟩] [0, 1])
  (.seq (.seq (.region [⟨(some 6), .mov (.tmp 0), none⟩,
    ⟨(some 7), .len .slice (.tmp 6), none⟩,
    ⟨(some 8), .mov (.const (.int .i64 0)), none⟩] [0, 1, 7, 8])
  (.block 0 (.loop slices_Index_uint32_uint32.b0)))
  (.seq (.region [⟨(some 4), .mov (.const (.int .i64 (-1))), none⟩] [4])
  (.ret)))
def slices_Index_uint32_uint32 : AFun := ⟨19, 2, [.tmp 4], slices_Index_uint32_uint32.body⟩
def table_Table_All_1.d0 : List AOper := [⟨(some 9), .load none (.tmp 2), none⟩,
    ⟨(some 10), .mov (.tmp 3), none⟩,
    ⟨(some 11), .mov (.tmp 4), none⟩,
    ⟨(some 12), .call (.const (.fn F.slot_Slot_Copy [] [])) [(.tmp 11)], none⟩,
    ⟨(some 13), .call (.tmp 9) [(.tmp 10), (.tmp 12)], none⟩,
    ⟨(some 14), .un .not (.tmp 13), none⟩]
def table_Table_All_1.d0b : List (List Nat) := [[], [], [], [2], [0, 1, 2, 3], [0, 1, 2, 3, 4]]
def table_Table_All_1.a1 : ACode := .seq (.region [⟨(some 3), .mov (.tmp 7), none⟩] [2, 3, 8])
  (.region [⟨(some 4), .mov (.tmp 8), none⟩] [2, 3, 4])
def table_Table_All_1.b1 : ACode := .block 1 (.seq (.draw table_Table_All_1.d0 table_Table_All_1.d0b [[0, 1, 2, 3, 4, 5]] [(3, 0)] [14])
  (.cond (.tmp 14) (.ret) (.skip)))
def table_Table_All_1.body : ACode := .seq (.region [⟨(some 2), .box T.func_uint32_p_slot_Slot_bool (.tmp 0), none⟩] [1, 2])
  (.seq (.region [⟨(some 5), .load none (.tmp 1), none⟩,
    ⟨(some 6), .call (.const (.fn F.table_Table_each [] [])) [(.tmp 5)], none⟩] [2, 6])
  (.block 0 (.range (.tmp 6) [7, 8] table_Table_All_1.a1 table_Table_All_1.b1)))
def table_Table_All_1 : AFun := ⟨15, 2, [], table_Table_All_1.body⟩
def table_Table_each.body : ACode := .seq (.region [⟨(some 1), .box T.p_table_Table (.tmp 0), none⟩,
    ⟨(some 2), .mov (.const .nilf), none⟩] [1])
  (.seq (.region [⟨(some 3), .mkfn F.table_Table_each_1 [] [(.tmp 1)], none⟩,
    ⟨(some 2), .mov (.tmp 3), none⟩] [2])
  (.ret))
def table_Table_each : AFun := ⟨4, 1, [.tmp 2], table_Table_each.body⟩
def slot_Slot_Copy.d0 : List AOper := [⟨(some 5), .mov (.tmp 0), none⟩,
    ⟨(some 6), .nilc (.tmp 5), none⟩,
    ⟨(some 7), .field 0 (.tmp 6), none⟩,
    ⟨(some 8), .load (some 5) (.tmp 7), none⟩,
    ⟨(some 9), .mov (.tmp 0), none⟩,
    ⟨(some 10), .nilc (.tmp 9), none⟩,
    ⟨(some 11), .field 5 (.tmp 10), none⟩,
    ⟨(some 12), .load none (.tmp 11), none⟩,
    ⟨(some 13), .call (.const (.fn F.maps_Clone_map_int_byte_int_byte [] [])) [(.tmp 12)], none⟩,
    ⟨(some 14), .mov (.tmp 0), none⟩,
    ⟨(some 15), .nilc (.tmp 14), none⟩,
    ⟨(some 16), .field 6 (.tmp 15), none⟩,
    ⟨(some 17), .load none (.tmp 16), none⟩,
    ⟨(some 18), .build [(.int .i64 0), (.int .i64 0), (.int .u32 0), (.int .i64 0), (.int .i64 0), .nilm, (.int .i64 0)] [(0, 5, (.tmp 8)), (5, 1, (.tmp 13)), (6, 1, (.tmp 17))], none⟩,
    ⟨(some 19), .box T.slot_Slot (.tmp 18), none⟩,
    ⟨(some 2), .mov (.tmp 19), none⟩]
def slot_Slot_Copy.d0b : List (List Nat) := [[], [0], [0, 1], [0, 1, 2], [], [4], [4, 5], [4, 5, 6], [4, 5, 6, 7], [], [9], [9, 10], [9, 10, 11], [0, 1, 2, 3, 4, 5, 6, 7, 8, 9, 10, 11, 12], [0, 1, 2, 3, 4, 5, 6, 7, 8, 9, 10, 11, 12, 13], [0, 1, 2, 3, 4, 5, 6, 7, 8, 9, 10, 11, 12, 13, 14]]
def slot_Slot_Copy.body : ACode := .seq (.region [⟨(some 2), .mov (.const .nilp), none⟩] [0])
  (.seq (.seq (.region [⟨(some 3), .mov (.tmp 0), none⟩,
    ⟨(some 4), .eq false .ptr (.tmp 3) (.const .nilp), none⟩] [0, 4])
  (.cond (.tmp 4) (.seq (.region [⟨(some 2), .mov (.const .nilp), none⟩] [2])
  (.ret)) (.skip)))
  (.seq (.draw slot_Slot_Copy.d0 slot_Slot_Copy.d0b [[0, 1, 2, 3, 4, 5, 6, 7, 9, 10, 11, 12, 8, 13, 14, 15]] [(8, 3), (8, 12)] [2])
  (.ret)))
def slot_Slot_Copy : AFun := ⟨20, 1, [.tmp 2], slot_Slot_Copy.body⟩
def slot_Slot_Missing_1.b0 : ACode := .seq (.seq (.region [⟨(some 6), .load none (.tmp 1), none⟩,
    ⟨(some 7), .eq true .ptr (.tmp 6) (.const .nilp), none⟩,
    ⟨(some 8), .mov (.tmp 7), none⟩,
    ⟨(some 9), .mov (.tmp 3), some (8, true)⟩,
    ⟨(some 10), .load none (.tmp 1), some (8, true)⟩,
    ⟨(some 11), .nilc (.tmp 10), some (8, true)⟩,
    ⟨(some 12), .field 0 (.tmp 11), some (8, true)⟩,
    ⟨(some 13), .field 0 (.tmp 12), some (8, true)⟩,
    ⟨(some 14), .field 4 (.tmp 13), some (8, true)⟩,
    ⟨(some 15), .load none (.tmp 14), some (8, true)⟩,
    ⟨(some 16), .bin .lss (.tmp 9) (.tmp 15), some (8, true)⟩,
    ⟨(some 17), .pick (.tmp 8) (.tmp 16) (.const (.bool false)), none⟩] [0, 1, 3, 17])
  (.cond (.tmp 17) (.skip) (.exit 0)))
  (.seq (.block 1 (.seq (.seq (.region [⟨(some 21), .load none (.tmp 1), none⟩,
    ⟨(some 22), .nilc (.tmp 21), none⟩,
    ⟨(some 23), .field 5 (.tmp 22), none⟩,
    ⟨(some 24), .load none (.tmp 23), none⟩,
    ⟨(some 25), .mov (.tmp 3), none⟩,
    ⟨(some 26), .lookup .int .nils true (.tmp 24) (.tmp 25), none⟩,
    ⟨(some 20), .mov (.tmp 26), none⟩,
    ⟨(some 27), .extract (.tmp 20) 0, none⟩,
    ⟨(some 28), .extract (.tmp 20) 1, none⟩,
    ⟨(some 4), .mov (.tmp 27), none⟩,
    ⟨(some 5), .mov (.tmp 28), none⟩] [0, 1, 3, 5])
  (.seq (.region [⟨(some 29), .mov (.tmp 5), none⟩] [0, 1, 3, 29])
  (.cond (.tmp 29) (.exit 1) (.skip))))
  (.seq (.region [⟨(some 30), .mov (.tmp 0), none⟩,
    ⟨(some 31), .mov (.tmp 3), none⟩,
    ⟨(some 32), .call (.tmp 30) [(.tmp 31)], none⟩,
    ⟨(some 33), .un .not (.tmp 32), none⟩] [0, 1, 3, 33])
  (.cond (.tmp 33) (.exit 0) (.skip)))))
  (.region [⟨(some 18), .mov (.tmp 3), none⟩,
    ⟨(some 19), .bin .add (.tmp 18) (.const (.int .i64 1)), none⟩,
    ⟨(some 3), .mov (.tmp 19), none⟩] [0, 1, 3]))
def slot_Slot_Missing_1.body : ACode := .scope (.seq (.skip)
  (.seq (.region [⟨(some 3), .mov (.const (.int .i64 0)), none⟩] [0, 1, 3])
  (.block 0 (.loop slot_Slot_Missing_1.b0))))
def slot_Slot_Missing_1 : AFun := ⟨34, 2, [], slot_Slot_Missing_1.body⟩
def table_Table_Seqs.body : ACode := .seq (.region [⟨(some 2), .mov (.const .nils), none⟩] [0])
  (.seq (.seq (.region [⟨(some 3), .mov (.tmp 0), none⟩,
    ⟨(some 4), .eq false .ptr (.tmp 3) (.const .nilp), none⟩] [0, 4])
  (.cond (.tmp 4) (.seq (.region [⟨(some 2), .mov (.const .nils), none⟩] [2])
  (.ret)) (.skip)))
  (.seq (.region [⟨(some 5), .mov (.tmp 0), none⟩,
    ⟨(some 6), .nilc (.tmp 5), none⟩,
    ⟨(some 7), .field 1 (.tmp 6), none⟩,
    ⟨(some 8), .load none (.tmp 7), none⟩,
    ⟨(some 9), .call (.const (.fn F.slices_Clone_uint32_uint32 [] [])) [(.tmp 8)], none⟩,
    ⟨(some 2), .mov (.tmp 9), none⟩] [2])
  (.ret)))
def table_Table_Seqs : AFun := ⟨10, 1, [.tmp 2], table_Table_Seqs.body⟩
def slot_Slot_Size.body : ACode := .seq (.region [⟨(some 2), .mov (.const (.int .i64 0)), none⟩] [0])
  (.seq (.seq (.region [⟨(some 3), .mov (.tmp 0), none⟩,
    ⟨(some 4), .eq false .ptr (.tmp 3) (.const .nilp), none⟩] [0, 4])
  (.cond (.tmp 4) (.seq (.region [⟨(some 2), .mov (.const (.int .i64 0)), none⟩] [2])
  (.ret)) (.skip)))
  (.seq (.region [⟨(some 5), .mov (.tmp 0), none⟩,
    ⟨(some 6), .nilc (.tmp 5), none⟩,
    ⟨(some 7), .field 6 (.tmp 6), none⟩,
    ⟨(some 8), .load none (.tmp 7), none⟩,
    ⟨(some 2), .mov (.tmp 8), none⟩] [2])
  (.ret)))
def slot_Slot_Size : AFun := ⟨9, 1, [.tmp 2], slot_Slot_Size.body⟩
def head_wrong_1.body : ACode := .region [⟨(some 3), .mov (.tmp 0), none⟩,
    ⟨(some 4), .field 0 (.tmp 1), none⟩,
    ⟨(some 5), .load none (.tmp 4), none⟩,
    ⟨(some 6), .bin .lss (.tmp 5) (.const (.int .i64 1)), none⟩,
    ⟨(some 7), .mov (.tmp 6), none⟩,
    ⟨(some 8), .field 0 (.tmp 1), some (7, false)⟩,
    ⟨(some 9), .load none (.tmp 8), some (7, false)⟩,
    ⟨(some 10), .bin .gtr (.tmp 9) (.const (.int .i64 2)), some (7, false)⟩,
    ⟨(some 11), .pick (.tmp 7) (.const (.bool true)) (.tmp 10), none⟩,
    ⟨(some 12), .call (.tmp 3) [(.const (.int .i64 10)), (.tmp 11)], none⟩,
    ⟨(some 13), .mov (.tmp 12), none⟩,
    ⟨(some 14), .mov (.tmp 0), some (13, true)⟩,
    ⟨(some 15), .field 1 (.tmp 1), some (13, true)⟩,
    ⟨(some 16), .load none (.tmp 15), some (13, true)⟩,
    ⟨(some 17), .bin .lss (.tmp 16) (.const (.int .i64 1)), some (13, true)⟩,
    ⟨(some 18), .mov (.tmp 17), some (13, true)⟩,
    ⟨(some 19), .field 1 (.tmp 1), some (18, false)⟩,
    ⟨(some 20), .load none (.tmp 19), some (18, false)⟩,
    ⟨(some 21), .bin .gtr (.tmp 20) (.const (.int .i64 5)), some (18, false)⟩,
    ⟨(some 22), .pick (.tmp 18) (.const (.bool true)) (.tmp 21), some (13, true)⟩,
    ⟨(some 23), .call (.tmp 14) [(.const (.int .i64 9)), (.tmp 22)], some (13, true)⟩,
    ⟨(some 24), .pick (.tmp 13) (.tmp 23) (.const (.bool false)), none⟩,
    ⟨(some 25), .mov (.tmp 24), none⟩,
    ⟨(some 26), .mov (.tmp 0), some (25, true)⟩,
    ⟨(some 27), .field 4 (.tmp 1), some (25, true)⟩,
    ⟨(some 28), .load none (.tmp 27), some (25, true)⟩,
    ⟨(some 29), .bin .lss (.tmp 28) (.const (.int .i64 1)), some (25, true)⟩,
    ⟨(some 30), .mov (.tmp 29), some (25, true)⟩,
    ⟨(some 31), .field 4 (.tmp 1), some (30, false)⟩,
    ⟨(some 32), .load none (.tmp 31), some (30, false)⟩,
    ⟨(some 33), .bin .gtr (.tmp 32) (.const (.int .i64 255)), some (30, false)⟩,
    ⟨(some 34), .pick (.tmp 30) (.const (.bool true)) (.tmp 33), some (25, true)⟩,
    ⟨(some 35), .mov (.tmp 34), some (25, true)⟩,
    ⟨(some 36), .field 3 (.tmp 1), some (35, false)⟩,
    ⟨(some 37), .load none (.tmp 36), some (35, false)⟩,
    ⟨(some 38), .bin .lss (.tmp 37) (.const (.int .i64 0)), some (35, false)⟩,
    ⟨(some 39), .pick (.tmp 35) (.const (.bool true)) (.tmp 38), some (25, true)⟩,
    ⟨(some 40), .mov (.tmp 39), some (25, true)⟩,
    ⟨(some 41), .field 3 (.tmp 1), some (40, false)⟩,
    ⟨(some 42), .load none (.tmp 41), some (40, false)⟩,
    ⟨(some 43), .field 4 (.tmp 1), some (40, false)⟩,
    ⟨(some 44), .load none (.tmp 43), some (40, false)⟩,
    ⟨(some 45), .bin .geq (.tmp 42) (.tmp 44), some (40, false)⟩,
    ⟨(some 46), .pick (.tmp 40) (.const (.bool true)) (.tmp 45), some (25, true)⟩,
    ⟨(some 47), .call (.tmp 26) [(.const (.int .i64 3)), (.tmp 46)], some (25, true)⟩,
    ⟨(some 48), .pick (.tmp 25) (.tmp 47) (.const (.bool false)), none⟩] []
def head_wrong_1 : AFun := ⟨49, 2, [], head_wrong_1.body⟩
def serial_Diff.body : ACode := .seq (.region [⟨(some 4), .mov (.const (.int .i64 0)), none⟩] [0, 1])
  (.seq (.region [⟨(some 5), .mov (.tmp 0), none⟩,
    ⟨(some 6), .mov (.tmp 1), none⟩,
    ⟨(some 7), .bin .sub (.tmp 5) (.tmp 6), none⟩,
    ⟨(some 8), .conv .i32 (.tmp 7), none⟩,
    ⟨(some 9), .conv .i64 (.tmp 8), none⟩,
    ⟨(some 4), .mov (.tmp 9), none⟩] [4])
  (.ret))
def serial_Diff : AFun := ⟨10, 2, [.tmp 4], serial_Diff.body⟩
def serial_Oldest.body : ACode := .seq (.region [⟨(some 2), .mov (.const (.int .u32 0)), none⟩,
    ⟨(some 3), .mov (.const (.bool false)), none⟩] [0])
  (.seq (.region [⟨(some 4), .mov (.tmp 0), none⟩,
    ⟨(some 5), .call (.const (.fn F.serial_taken [] [])) [(.tmp 4), (.const (.fn F.serial_Oldest_1 [] []))], none⟩,
    ⟨(some 6), .extract (.tmp 5) 0, none⟩,
    ⟨(some 7), .extract (.tmp 5) 1, none⟩,
    ⟨(some 2), .mov (.tmp 6), none⟩,
    ⟨(some 3), .mov (.tmp 7), none⟩] [2, 3])
  (.ret))
def serial_Oldest : AFun := ⟨8, 1, [.tmp 2, .tmp 3], serial_Oldest.body⟩
def slot_New.body : ACode := .seq (.region [⟨(some 1), .box T.head_Head (.tmp 0), none⟩,
    ⟨(some 2), .mov (.const .nilp), none⟩,
    ⟨(some 3), .mov (.const (.int .i64 0)), none⟩] [1])
  (.seq (.seq (.region [⟨(some 5), .load (some 5) (.tmp 1), none⟩,
    ⟨(some 6), .call (.const (.fn F.head_Check [] [])) [(.tmp 5)], none⟩,
    ⟨(some 4), .mov (.tmp 6), none⟩] [1, 4])
  (.seq (.region [⟨(some 7), .mov (.tmp 4), none⟩,
    ⟨(some 8), .bin .neq (.tmp 7) (.const (.int .i64 0)), none⟩] [1, 4, 8])
  (.cond (.tmp 8) (.seq (.region [⟨(some 9), .mov (.tmp 4), none⟩,
    ⟨(some 2), .mov (.const .nilp), none⟩,
    ⟨(some 3), .mov (.tmp 9), none⟩] [2, 3])
  (.ret)) (.skip))))
  (.seq (.region [⟨(some 10), .field 3 (.tmp 1), none⟩,
    ⟨none, .store 1 (.tmp 10) (.const (.int .i64 0)), none⟩] [1])
  (.seq (.region [⟨(some 11), .load (some 5) (.tmp 1), none⟩,
    ⟨(some 12), .build [(.int .i64 0), (.int .i64 0), (.int .u32 0), (.int .i64 0), (.int .i64 0)] [(0, 5, (.tmp 11))], none⟩,
    ⟨(some 13), .mkmap, none⟩,
    ⟨(some 14), .build [(.int .i64 0), (.int .i64 0), (.int .u32 0), (.int .i64 0), (.int .i64 0), .nilm, (.int .i64 0)] [(0, 5, (.tmp 12)), (5, 1, (.tmp 13)), (6, 1, (.const (.int .i64 0)))], none⟩,
    ⟨(some 15), .box T.slot_Slot (.tmp 14), none⟩,
    ⟨(some 2), .mov (.tmp 15), none⟩,
    ⟨(some 3), .mov (.const (.int .i64 0)), none⟩] [2, 3])
  (.ret))))
def slot_New : AFun := ⟨16, 1, [.tmp 2, .tmp 3], slot_New.body⟩
def head_Mates.body : ACode := .seq (.region [⟨(some 2), .box T.head_Head (.tmp 0), none⟩,
    ⟨(some 3), .box T.head_Head (.tmp 1), none⟩,
    ⟨(some 4), .mov (.const (.bool false)), none⟩] [2, 3])
  (.seq (.region [⟨(some 5), .field 3 (.tmp 3), none⟩,
    ⟨(some 6), .load none (.tmp 5), none⟩,
    ⟨(some 7), .field 3 (.tmp 2), none⟩,
    ⟨none, .store 1 (.tmp 7) (.tmp 6), none⟩] [2, 3])
  (.seq (.region [⟨(some 8), .load (some 5) (.tmp 2), none⟩,
    ⟨(some 9), .load (some 5) (.tmp 3), none⟩,
    ⟨(some 10), .eq false (.cells [.int, .int, .int, .int, .int]) (.tmp 8) (.tmp 9), none⟩,
    ⟨(some 4), .mov (.tmp 10), none⟩] [4])
  (.ret)))
def head_Mates : AFun := ⟨11, 2, [.tmp 4], head_Mates.body⟩
def slot_Slot_Full.d0 : List AOper := [⟨(some 3), .mov (.tmp 0), none⟩,
    ⟨(some 4), .eq true .ptr (.tmp 3) (.const .nilp), none⟩,
    ⟨(some 5), .mov (.tmp 4), none⟩,
    ⟨(some 6), .mov (.tmp 0), some (5, true)⟩,
    ⟨(some 7), .nilc (.tmp 6), some (5, true)⟩,
    ⟨(some 8), .field 5 (.tmp 7), some (5, true)⟩,
    ⟨(some 9), .load none (.tmp 8), some (5, true)⟩,
    ⟨(some 10), .len .map (.tmp 9), some (5, true)⟩,
    ⟨(some 11), .mov (.tmp 0), some (5, true)⟩,
    ⟨(some 12), .nilc (.tmp 11), some (5, true)⟩,
    ⟨(some 13), .field 0 (.tmp 12), some (5, true)⟩,
    ⟨(some 14), .field 0 (.tmp 13), some (5, true)⟩,
    ⟨(some 15), .field 4 (.tmp 14), some (5, true)⟩,
    ⟨(some 16), .load none (.tmp 15), some (5, true)⟩,
    ⟨(some 17), .bin .eql (.tmp 10) (.tmp 16), some (5, true)⟩,
    ⟨(some 18), .pick (.tmp 5) (.tmp 17) (.const (.bool false)), none⟩,
    ⟨(some 2), .mov (.tmp 18), none⟩]
def slot_Slot_Full.d0b : List (List Nat) := [[], [0], [0, 1], [0, 1, 2], [0, 1, 2, 3], [0, 1, 2, 3, 4], [0, 1, 2, 3, 4, 5], [0, 1, 2, 3, 4, 5, 6], [0, 1, 2], [0, 1, 2, 8], [0, 1, 2, 8, 9], [0, 1, 2, 8, 9, 10], [0, 1, 2, 8, 9, 10, 11], [0, 1, 2, 8, 9, 10, 11, 12], [0, 1, 2, 3, 4, 5, 6, 7, 8, 9, 10, 11, 12, 13], [0, 1, 2, 3, 4, 5, 6, 7, 8, 9, 10, 11, 12, 13, 14], [0, 1, 2, 3, 4, 5, 6, 7, 8, 9, 10, 11, 12, 13, 14, 15]]
def slot_Slot_Full.body : ACode := .seq (.region [⟨(some 2), .mov (.const (.bool false)), none⟩] [0])
  (.seq (.draw slot_Slot_Full.d0 slot_Slot_Full.d0b [[0, 1, 2, 3, 4, 5, 6, 7, 8, 9, 10, 11, 12, 13, 14, 15, 16]] [] [2])
  (.ret))
def slot_Slot_Full : AFun := ⟨19, 1, [.tmp 2], slot_Slot_Full.body⟩
def table_Table_each_1.b0 : ACode := .seq (.region [⟨(some 13), .bin .lss (.tmp 12) (.tmp 11), none⟩] [0, 1, 10, 11, 12, 13])
  (.seq (.cond (.tmp 13) (.skip) (.exit 0))
  (.seq (.block 1 (.seq (.region [⟨(some 14), .idx 1 none (.tmp 10) (.tmp 12), none⟩,
    ⟨(some 15), .load none (.tmp 14), none⟩,
    ⟨(some 4), .mov (.tmp 15), none⟩] [0, 1, 4, 10, 11, 12])
  (.seq (.region [⟨(some 16), .mov (.tmp 0), none⟩,
    ⟨(some 17), .mov (.tmp 4), none⟩,
    ⟨(some 18), .load none (.tmp 1), none⟩,
    ⟨(some 19), .nilc (.tmp 18), none⟩,
    ⟨(some 20), .field 2 (.tmp 19), none⟩,
    ⟨(some 21), .load none (.tmp 20), none⟩,
    ⟨(some 22), .mov (.tmp 4), none⟩,
    ⟨(some 23), .lookup .int .nilp false (.tmp 21) (.tmp 22), none⟩,
    ⟨(some 24), .call (.tmp 16) [(.tmp 17), (.tmp 23)], none⟩,
    ⟨(some 25), .un .not (.tmp 24), none⟩] [0, 1, 10, 11, 12, 25])
  (.cond (.tmp 25) (.exit 0) (.skip)))))
  (.region [⟨(some 26), .bin .add (.tmp 12) (.const (.int .i64 1)), none⟩,
    ⟨(some 12), .mov (.tmp 26), none⟩] [0, 1, 10, 11, 12])))
def table_Table_each_1.body : ACode := .scope (.seq (.seq (.region [⟨(some 5), .load none (.tmp 1), none⟩,
    ⟨(some 6), .eq false .ptr (.tmp 5) (.const .nilp), none⟩] [0, 1, 6])
  (.cond (.tmp 6) (.ret) (.skip)))
  (.seq (.skip)
  (.seq (.region [⟨(some 7), .load none (.tmp 1), none⟩,
    ⟨(some 8), .nilc (.tmp 7), none⟩,
    ⟨(some 9), .field 1 (.tmp 8), none⟩,
    ⟨(some 10), .load none (.tmp 9), none⟩,
    ⟨(some 11), .len .slice (.tmp 10), none⟩,
    ⟨(some 12), .mov (.const (.int .i64 0)), none⟩] [0, 1, 10, 11, 12])
  (.block 0 (.loop table_Table_each_1.b0)))))
def table_Table_each_1 : AFun := ⟨27, 2, [], table_Table_each_1.body⟩
def slices_Clone_uint32_uint32.body : ACode := .seq (.region [⟨(some 2), .mov (.const .nils), none⟩] [0])
  (.seq (.seq (.region [⟨(some 3), .mov (.tmp 0), none⟩,
    ⟨(some 4), .eq false .slice (.tmp 3) (.const .nils), none⟩] [0, 4])
  (.cond (.tmp 4) (.seq (.region [⟨(some 2), .mov (.const .nils), none⟩] [2])
  (.ret)) (.skip)))
  (.seq (.region [⟨(some 5), .lit T.uint32 1 0 [] [], none⟩,
    ⟨(some 6), .mov (.tmp 0), none⟩,
    ⟨(some 7), .append T.uint32 1 4 (.tmp 5) (.tmp 6), none⟩,
    ⟨(some 2), .mov (.tmp 7), none⟩] [2])
  (.ret)))
def slices_Clone_uint32_uint32 : AFun := ⟨8, 1, [.tmp 2], slices_Clone_uint32_uint32.body⟩
def serial_taken.a0 : ACode := .region [⟨(some 7), .mov (.tmp 17), none⟩] [3, 6, 7]
def serial_taken.b0 : ACode := .block 1 (.seq (.seq (.region [⟨(some 18), .load none (.tmp 3), none⟩,
    ⟨(some 19), .mov (.tmp 7), none⟩,
    ⟨(some 20), .load none (.tmp 6), none⟩,
    ⟨(some 21), .call (.tmp 18) [(.tmp 19), (.tmp 20)], none⟩,
    ⟨(some 22), .un .not (.tmp 21), none⟩] [6, 7, 22])
  (.cond (.tmp 22) (.exit 1) (.skip)))
  (.region [⟨(some 23), .mov (.tmp 7), none⟩,
    ⟨none, .store 1 (.tmp 6) (.tmp 23), none⟩] []))
def serial_taken.body : ACode := .seq (.region [⟨(some 3), .box T.func_uint32_uint32_bool (.tmp 1), none⟩,
    ⟨(some 4), .mov (.const (.int .u32 0)), none⟩,
    ⟨(some 5), .mov (.const (.bool false)), none⟩] [0, 3, 4, 5])
  (.scope (.seq (.seq (.region [⟨(some 8), .mov (.tmp 0), none⟩,
    ⟨(some 9), .len .slice (.tmp 8), none⟩,
    ⟨(some 10), .bin .eql (.tmp 9) (.const (.int .i64 0)), none⟩] [0, 3, 4, 5, 10])
  (.cond (.tmp 10) (.seq (.region [⟨(some 4), .mov (.const (.int .u32 0)), none⟩,
    ⟨(some 5), .mov (.const (.bool false)), none⟩] [4, 5])
  (.ret)) (.skip)))
  (.seq (.region [⟨(some 11), .mov (.tmp 0), none⟩,
    ⟨(some 12), .idx 1 none (.tmp 11) (.const (.int .i64 0)), none⟩,
    ⟨(some 13), .load none (.tmp 12), none⟩,
    ⟨(some 6), .alloc T.uint32 [(.int .u32 0)], none⟩,
    ⟨none, .store 1 (.tmp 6) (.tmp 13), none⟩] [0, 3, 4, 5, 6])
  (.seq (.skip)
  (.seq (.seq (.region [⟨(some 14), .mov (.tmp 0), none⟩,
    ⟨(some 15), .slice 1 .slice (.tmp 14) (some (.const (.int .i64 1))) none none, none⟩,
    ⟨(some 16), .call (.const (.fn F.slices_Values_uint32_uint32 [] [])) [(.tmp 15)], none⟩] [3, 4, 5, 6, 16])
  (.block 0 (.range (.tmp 16) [17] serial_taken.a0 serial_taken.b0)))
  (.seq (.region [⟨(some 24), .load none (.tmp 6), none⟩,
    ⟨(some 4), .mov (.tmp 24), none⟩,
    ⟨(some 5), .mov (.const (.bool true)), none⟩] [4, 5])
  (.ret)))))))
def serial_taken : AFun := ⟨25, 2, [.tmp 4, .tmp 5], serial_taken.body⟩
def serial_Oldest_1.body : ACode := .seq (.region [⟨(some 4), .mov (.const (.bool false)), none⟩] [0, 1])
  (.seq (.region [⟨(some 5), .mov (.tmp 1), none⟩,
    ⟨(some 6), .mov (.tmp 0), none⟩,
    ⟨(some 7), .call (.const (.fn F.serial_After [] [])) [(.tmp 5), (.tmp 6)], none⟩,
    ⟨(some 4), .mov (.tmp 7), none⟩] [4])
  (.ret))
def serial_Oldest_1 : AFun := ⟨8, 2, [.tmp 4], serial_Oldest_1.body⟩
def slices_Values_uint32_uint32.body : ACode := .seq (.region [⟨(some 1), .box T.sl_uint32 (.tmp 0), none⟩,
    ⟨(some 2), .mov (.const .nilf), none⟩] [1])
  (.seq (.region [⟨(some 3), .mkfn F.slices_Values_uint32_uint32_1 [] [(.tmp 1)], none⟩,
    ⟨(some 2), .mov (.tmp 3), none⟩] [2])
  (.ret))
def slices_Values_uint32_uint32 : AFun := ⟨4, 1, [.tmp 2], slices_Values_uint32_uint32.body⟩
def slices_Values_uint32_uint32_1.b0 : ACode := .seq (.region [⟨(some 8), .bin .lss (.tmp 7) (.tmp 6), none⟩] [0, 5, 6, 7, 8])
  (.seq (.cond (.tmp 8) (.skip) (.exit 0))
  (.seq (.block 1 (.seq (.region [⟨(some 9), .idx 1 none (.tmp 5) (.tmp 7), none⟩,
    ⟨(some 10), .load none (.tmp 9), none⟩,
    ⟨(some 4), .mov (.tmp 10), none⟩] [0, 4, 5, 6, 7])
  (.seq (.region [⟨(some 11), .mov (.tmp 0), none⟩,
    ⟨(some 12), .mov (.tmp 4), none⟩,
    ⟨(some 13), .call (.tmp 11) [(.tmp 12)], none⟩,
    ⟨(some 14), .un .not (.tmp 13), none⟩] [0, 5, 6, 7, 14])
  (.cond (.tmp 14) (.ret) (.skip)))))
  (.region [⟨(some 15), .bin .add (.tmp 7) (.const (.int .i64 1)), none⟩,
    ⟨(some 7), .mov (.tmp 15), none⟩] [0, 5, 6, 7])))
def slices_Values_uint32_uint32_1.body : ACode := .seq (.region [⟨(some 5), .load none (.tmp 1), none⟩,
    ⟨(some 6), .len .slice (.tmp 5), none⟩,
    ⟨(some 7), .mov (.const (.int .i64 0)), none⟩] [0, 5, 6, 7])
  (.block 0 (.loop slices_Values_uint32_uint32_1.b0))
def slices_Values_uint32_uint32_1 : AFun := ⟨16, 2, [], slices_Values_uint32_uint32_1.body⟩
def ldel0_ren : Go.Shelf.Ren := ⟨(fun | 45 => 55 | n => n), (fun | 22 => 30 | 23 => 22 | 3 => 3 | 4 => 4 | 0 => 0 | n => n), (fun n => n)⟩
theorem ldel0 : Go.Proofs.SlLaysE.n45 Try.prog ldel0_ren := { mixed := by kernel_rfl, f45 := ⟨Try.f55.name, by decide, Try.func55.trans (congrArg some (by kernel_rfl))⟩, t0 := Try.underlying0, a0 := Try.isAgg0, z0 := Try.sizeOf0, v0 := Try.zeroValue0, t3 := Try.underlying3, a3 := Try.isAgg3, z3 := Try.sizeOf3, v3 := Try.zeroValue3, t4 := Try.underlying4, a4 := Try.isAgg4, z4 := Try.sizeOf4, v4 := Try.zeroValue4, t22 := Try.underlying30, a22 := Try.isAgg30, z22 := Try.sizeOf30, v22 := Try.zeroValue30, a23 := Try.isAgg22, z23 := Try.sizeOf22 }
set_option maxRecDepth 10000 in
theorem slices_Delete_uint32_uint32_nat : NatOk Try.prog F.slices_Delete_uint32_uint32 .del := delete_nat ldel0 Try.zeroValue22 (by kernel_rfl)
def lclo0_ren : Go.Shelf.Ren := ⟨(fun | 5 => 89 | 7 => 100 | n => n), (fun | 23 => 138 | 25 => 3 | 3 => 33 | 4 => 4 | 20 => 20 | n => n), (fun n => n)⟩
theorem lclo0 : Go.Proofs.SlLaysW.n5 Try.prog lclo0_ren := { mixed := by kernel_rfl, f5 := ⟨Try.f89.name, by decide, Try.func89.trans (congrArg some (by kernel_rfl))⟩, f7 := Try.func100.trans (congrArg some (by kernel_rfl)), t4 := Try.underlying4, a4 := Try.isAgg4, z4 := Try.sizeOf4, v4 := Try.zeroValue4, t20 := Try.underlying20, a20 := Try.isAgg20, z20 := Try.sizeOf20, v20 := Try.zeroValue20, t23 := Try.underlying138, a23 := Try.isAgg138, z23 := Try.sizeOf138, v23 := Try.zeroValue138 }
set_option maxRecDepth 10000 in
theorem maps_Clone_map_int_byte_int_byte_nat : NatOk Try.prog F.maps_Clone_map_int_byte_int_byte .clone := clone_nat lclo0
theorem cuneiformlaw15_JoinNil_code : okFun Try.prog F.cuneiformlaw15_JoinNil cuneiformlaw15_JoinNil = true := by kernel_rfl
theorem join_New_code : okFun Try.prog F.join_New join_New = true := by kernel_rfl
theorem join_Joiner_Take_code : okFun Try.prog F.join_Joiner_Take join_Joiner_Take = true := by kernel_rfl
theorem join_Joiner_Done_code : okFun Try.prog F.join_Joiner_Done join_Joiner_Done = true := by kernel_rfl
theorem cuneiformlaw15_known_code : okFun Try.prog F.cuneiformlaw15_known cuneiformlaw15_known = true := by kernel_rfl
theorem join_Joiner_Waiting_code : okFun Try.prog F.join_Joiner_Waiting join_Joiner_Waiting = true := by kernel_rfl
theorem cuneiformlaw14_Outs_code : okFun Try.prog F.cuneiformlaw14_Outs cuneiformlaw14_Outs = true := by kernel_rfl
theorem join_Joiner_Drop_code : okFun Try.prog F.join_Joiner_Drop join_Joiner_Drop = true := by kernel_rfl
theorem join_Joiner_Window_code : okFun Try.prog F.join_Joiner_Window join_Joiner_Window = true := by kernel_rfl
theorem join_Joiner_Table_code : okFun Try.prog F.join_Joiner_Table join_Joiner_Table = true := by kernel_rfl
theorem join_Joiner_Held_code : okFun Try.prog F.join_Joiner_Held join_Joiner_Held = true := by kernel_rfl
theorem join_Joiner_Copy_code : okFun Try.prog F.join_Joiner_Copy join_Joiner_Copy = true := by kernel_rfl
theorem table_New_code : okFun Try.prog F.table_New table_New = true := by kernel_rfl
theorem window_New_code : okFun Try.prog F.window_New window_New = true := by kernel_rfl
theorem head_Check_code : okFun Try.prog F.head_Check head_Check = true := by kernel_rfl
theorem window_Window_Look_code : okFun Try.prog F.window_Window_Look window_Window_Look = true := by kernel_rfl
theorem table_Table_Put_code : okFun Try.prog F.table_Table_Put table_Table_Put = true := by kernel_rfl
theorem window_Window_Mark_code : okFun Try.prog F.window_Window_Mark window_Window_Mark = true := by kernel_rfl
theorem table_Table_Drop_code : okFun Try.prog F.table_Table_Drop table_Table_Drop = true := by kernel_rfl
theorem join_Joiner_Waiting_1_code : okFun Try.prog F.join_Joiner_Waiting_1 join_Joiner_Waiting_1 = true := by kernel_rfl
theorem table_Table_All_code : okFun Try.prog F.table_Table_All table_Table_All = true := by kernel_rfl
theorem slot_Slot_Missing_code : okFun Try.prog F.slot_Slot_Missing slot_Slot_Missing = true := by kernel_rfl
theorem cuneiformref01_Same_code : okFun Try.prog F.cuneiformref01_Same cuneiformref01_Same = true := by kernel_rfl
theorem window_Window_Copy_code : okFun Try.prog F.window_Window_Copy window_Window_Copy = true := by kernel_rfl
theorem table_Table_Copy_code : okFun Try.prog F.table_Table_Copy table_Table_Copy = true := by kernel_rfl
theorem table_Table_Held_code : okFun Try.prog F.table_Table_Held table_Table_Held = true := by kernel_rfl
theorem serial_Add_code : okFun Try.prog F.serial_Add serial_Add = true := by kernel_rfl
theorem head_wrong_code : okFun Try.prog F.head_wrong head_wrong = true := by kernel_rfl
theorem serial_After_code : okFun Try.prog F.serial_After serial_After = true := by kernel_rfl
theorem window_state_bit_code : okFun Try.prog F.window_state_bit window_state_bit = true := by kernel_rfl
theorem table_Table_fresh_code : okFun Try.prog F.table_Table_fresh table_Table_fresh = true := by kernel_rfl
theorem slot_Slot_Put_code : okFun Try.prog F.slot_Slot_Put slot_Slot_Put = true := by kernel_rfl
theorem slot_Slot_Bytes_code : okFun Try.prog F.slot_Slot_Bytes slot_Slot_Bytes = true := by kernel_rfl
theorem serial_Way_code : okFun Try.prog F.serial_Way serial_Way = true := by kernel_rfl
theorem slices_Index_uint32_uint32_code : okFun Try.prog F.slices_Index_uint32_uint32 slices_Index_uint32_uint32 = true := by kernel_rfl
theorem table_Table_All_1_code : okFun Try.prog F.table_Table_All_1 table_Table_All_1 = true := by kernel_rfl
theorem table_Table_each_code : okFun Try.prog F.table_Table_each table_Table_each = true := by kernel_rfl
theorem slot_Slot_Copy_code : okFun Try.prog F.slot_Slot_Copy slot_Slot_Copy = true := by kernel_rfl
theorem slot_Slot_Missing_1_code : okFun Try.prog F.slot_Slot_Missing_1 slot_Slot_Missing_1 = true := by kernel_rfl
theorem table_Table_Seqs_code : okFun Try.prog F.table_Table_Seqs table_Table_Seqs = true := by kernel_rfl
theorem slot_Slot_Size_code : okFun Try.prog F.slot_Slot_Size slot_Slot_Size = true := by kernel_rfl
theorem head_wrong_1_code : okFun Try.prog F.head_wrong_1 head_wrong_1 = true := by kernel_rfl
theorem serial_Diff_code : okFun Try.prog F.serial_Diff serial_Diff = true := by kernel_rfl
theorem serial_Oldest_code : okFun Try.prog F.serial_Oldest serial_Oldest = true := by kernel_rfl
theorem slot_New_code : okFun Try.prog F.slot_New slot_New = true := by kernel_rfl
theorem head_Mates_code : okFun Try.prog F.head_Mates head_Mates = true := by kernel_rfl
theorem slot_Slot_Full_code : okFun Try.prog F.slot_Slot_Full slot_Slot_Full = true := by kernel_rfl
theorem table_Table_each_1_code : okFun Try.prog F.table_Table_each_1 table_Table_each_1 = true := by kernel_rfl
theorem slices_Clone_uint32_uint32_code : okFun Try.prog F.slices_Clone_uint32_uint32 slices_Clone_uint32_uint32 = true := by kernel_rfl
theorem serial_taken_code : okFun Try.prog F.serial_taken serial_taken = true := by kernel_rfl
theorem serial_Oldest_1_code : okFun Try.prog F.serial_Oldest_1 serial_Oldest_1 = true := by kernel_rfl
theorem slices_Values_uint32_uint32_code : okFun Try.prog F.slices_Values_uint32_uint32 slices_Values_uint32_uint32 = true := by kernel_rfl
theorem slices_Values_uint32_uint32_1_code : okFun Try.prog F.slices_Values_uint32_uint32_1 slices_Values_uint32_uint32_1 = true := by kernel_rfl
def codes : CT := [(F.cuneiformlaw15_JoinNil, cuneiformlaw15_JoinNil), (F.join_New, join_New), (F.join_Joiner_Take, join_Joiner_Take), (F.join_Joiner_Done, join_Joiner_Done), (F.cuneiformlaw15_known, cuneiformlaw15_known), (F.join_Joiner_Waiting, join_Joiner_Waiting), (F.cuneiformlaw14_Outs, cuneiformlaw14_Outs), (F.join_Joiner_Drop, join_Joiner_Drop), (F.join_Joiner_Window, join_Joiner_Window), (F.join_Joiner_Table, join_Joiner_Table), (F.join_Joiner_Held, join_Joiner_Held), (F.join_Joiner_Copy, join_Joiner_Copy), (F.table_New, table_New), (F.window_New, window_New), (F.head_Check, head_Check), (F.window_Window_Look, window_Window_Look), (F.table_Table_Put, table_Table_Put), (F.window_Window_Mark, window_Window_Mark), (F.table_Table_Drop, table_Table_Drop), (F.join_Joiner_Waiting_1, join_Joiner_Waiting_1), (F.table_Table_All, table_Table_All), (F.slot_Slot_Missing, slot_Slot_Missing), (F.cuneiformref01_Same, cuneiformref01_Same), (F.window_Window_Copy, window_Window_Copy), (F.table_Table_Copy, table_Table_Copy), (F.table_Table_Held, table_Table_Held), (F.serial_Add, serial_Add), (F.head_wrong, head_wrong), (F.serial_After, serial_After), (F.window_state_bit, window_state_bit), (F.table_Table_fresh, table_Table_fresh), (F.slot_Slot_Put, slot_Slot_Put), (F.slot_Slot_Bytes, slot_Slot_Bytes), (F.serial_Way, serial_Way), (F.slices_Index_uint32_uint32, slices_Index_uint32_uint32), (F.slices_Delete_uint32_uint32, natF .del), (F.table_Table_All_1, table_Table_All_1), (F.table_Table_each, table_Table_each), (F.slot_Slot_Copy, slot_Slot_Copy), (F.slot_Slot_Missing_1, slot_Slot_Missing_1), (F.table_Table_Seqs, table_Table_Seqs), (F.slot_Slot_Size, slot_Slot_Size), (F.head_wrong_1, head_wrong_1), (F.serial_Diff, serial_Diff), (F.serial_Oldest, serial_Oldest), (F.slot_New, slot_New), (F.head_Mates, head_Mates), (F.slot_Slot_Full, slot_Slot_Full), (F.table_Table_each_1, table_Table_each_1), (F.maps_Clone_map_int_byte_int_byte, natF .clone), (F.slices_Clone_uint32_uint32, slices_Clone_uint32_uint32), (F.serial_taken, serial_taken), (F.serial_Oldest_1, serial_Oldest_1), (F.slices_Values_uint32_uint32, slices_Values_uint32_uint32), (F.slices_Values_uint32_uint32_1, slices_Values_uint32_uint32_1)]
theorem codes_ok : AllOk Try.prog codes := ⟨cuneiformlaw15_JoinNil_code, join_New_code, join_Joiner_Take_code, join_Joiner_Done_code, cuneiformlaw15_known_code, join_Joiner_Waiting_code, cuneiformlaw14_Outs_code, join_Joiner_Drop_code, join_Joiner_Window_code, join_Joiner_Table_code, join_Joiner_Held_code, join_Joiner_Copy_code, table_New_code, window_New_code, head_Check_code, window_Window_Look_code, table_Table_Put_code, window_Window_Mark_code, table_Table_Drop_code, join_Joiner_Waiting_1_code, table_Table_All_code, slot_Slot_Missing_code, cuneiformref01_Same_code, window_Window_Copy_code, table_Table_Copy_code, table_Table_Held_code, serial_Add_code, head_wrong_code, serial_After_code, window_state_bit_code, table_Table_fresh_code, slot_Slot_Put_code, slot_Slot_Bytes_code, serial_Way_code, slices_Index_uint32_uint32_code, slices_Delete_uint32_uint32_nat, table_Table_All_1_code, table_Table_each_code, slot_Slot_Copy_code, slot_Slot_Missing_1_code, table_Table_Seqs_code, slot_Slot_Size_code, head_wrong_1_code, serial_Diff_code, serial_Oldest_code, slot_New_code, head_Mates_code, slot_Slot_Full_code, table_Table_each_1_code, maps_Clone_map_int_byte_int_byte_nat, slices_Clone_uint32_uint32_code, serial_taken_code, serial_Oldest_1_code, slices_Values_uint32_uint32_code, slices_Values_uint32_uint32_1_code, trivial⟩
end Go.Proofs.Ytmioldcmjfackaa
