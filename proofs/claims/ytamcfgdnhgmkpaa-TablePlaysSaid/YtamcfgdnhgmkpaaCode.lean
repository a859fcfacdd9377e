/-
  The code that the statements of this seat reach, in the form of that machine, and that it is the program's. By an AI agent. No person has read it.
-/
import Derived.Test.YtamcfgdnhgmkpaaProg
import Derived.Test.YtamcfgdnhgmkpaaAm8
import Derived.KernelRfl
set_option linter.unusedSimpArgs false
set_option linter.unusedVariables false

/-
  The code of this seat in the form of the abstract machine, and that it is the program's. Printed by a program (wip/am/gen.py, code.py). By an AI agent.
-/
namespace Go.Proofs.Ytamcfgdnhgmkpaa
open Go Go.Am
namespace F
def cuneiformlaw14_TableNext : FuncId := 3
def cuneiformlaw14_TableBounds : FuncId := 4
def cuneiformlaw14_TablePlays : FuncId := 6
def table_New : FuncId := 7
def cuneiformlaw08_Cut : FuncId := 8
def table_Table_Put : FuncId := 9
def cut_Frames : FuncId := 10
def cuneiformlaw14_known : FuncId := 11
def cuneiformref01_Same : FuncId := 12
def table_Table_Drop : FuncId := 13
def table_Table_Seqs : FuncId := 14
def table_Table_Held : FuncId := 15
def table_Table_Len : FuncId := 16
def cuneiformlaw14_seqs : FuncId := 17
def table_Table_All : FuncId := 18
def cuneiformlaw14_Outs : FuncId := 19
def table_Table_Room : FuncId := 20
def table_Table_Copy : FuncId := 21
def cuneiformref14_Put : FuncId := 22
def cuneiformlaw08_Of : FuncId := 23
def cuneiformref14_Drop : FuncId := 24
def cuneiformlaw14_Alike : FuncId := 25
def head_Check : FuncId := 26
def table_Table_fresh : FuncId := 27
def slot_Slot_Put : FuncId := 28
def slot_Slot_Bytes : FuncId := 29
def cut_Count : FuncId := 30
def cut_Parts : FuncId := 31
def slices_Index_uint32_uint32 : FuncId := 32
def slices_Delete_uint32_uint32 : FuncId := 33
def slices_Clone_uint32_uint32 : FuncId := 34
def table_Table_each : FuncId := 35
def slot_Slot_Size : FuncId := 36
def table_Table_All_1 : FuncId := 37
def slot_Slot_Copy : FuncId := 38
def cuneiformref07_Check : FuncId := 39
def cuneiformref14_find : FuncId := 40
def cuneiformref10_Best : FuncId := 41
def cuneiformref14_Seqs : FuncId := 42
def cuneiformref10_After : FuncId := 43
def cuneiformref13_New : FuncId := 44
def cuneiformref13_Put : FuncId := 45
def cuneiformref13_Full : FuncId := 46
def cuneiformref13_Bytes : FuncId := 47
def cuneiformref14_Held : FuncId := 48
def cuneiformlaw13_Alike : FuncId := 49
def head_wrong : FuncId := 50
def serial_Oldest : FuncId := 51
def serial_After : FuncId := 52
def slot_New : FuncId := 53
def head_Mates : FuncId := 54
def slot_Slot_Full : FuncId := 55
def cut_Parts_1 : FuncId := 56
def table_Table_each_1 : FuncId := 57
def maps_Clone_map_int_byte_int_byte : FuncId := 58
def cuneiformref10_Way : FuncId := 59
def cuneiformref12_Mates : FuncId := 60
def cuneiformref13_Has : FuncId := 61
def cuneiformref13_Size : FuncId := 62
def slot_Slot_Head : FuncId := 63
def slot_Slot_Have : FuncId := 64
def slot_Slot_Missing : FuncId := 65
def head_wrong_1 : FuncId := 66
def serial_taken : FuncId := 67
def serial_Oldest_1 : FuncId := 68
def serial_Diff : FuncId := 69
def slot_Slot_Missing_1 : FuncId := 71
def slices_Values_uint32_uint32 : FuncId := 72
def slices_Values_uint32_uint32_1 : FuncId := 73
end F
namespace T
def int : TypeId := 3
def bool : TypeId := 4
def uint8 : TypeId := 5
def sl_frame_Frame : TypeId := 22
def uint32 : TypeId := 23
def head_Head : TypeId := 25
def sl_uint8 : TypeId := 26
def p_table_Table : TypeId := 28
def api_Errno : TypeId := 29
def frame_Frame : TypeId := 33
def table_Out : TypeId := 36
def sl_uint32 : TypeId := 45
def cuneiformref14_Out : TypeId := 54
def cuneiformref14_T : TypeId := 60
def cuneiformref07_H : TypeId := 65
def cuneiformref08_F : TypeId := 67
def table_Table : TypeId := 74
def p_slot_Slot : TypeId := 76
def func_uint32_p_slot_Slot_bool : TypeId := 88
def func_uint32_uint32_bool : TypeId := 95
def cuneiformref13_S : TypeId := 98
def slot_Slot : TypeId := 116
end T
def cuneiformlaw14_TableNext.b0 : ACode := .seq (.seq (.region [⟨(some 43), .mov (.tmp 15), none⟩,
    ⟨(some 44), .mov (.tmp 1), none⟩,
    ⟨(some 45), .len .slice (.tmp 44), none⟩,
    ⟨(some 46), .bin .lss (.tmp 43) (.tmp 45), none⟩,
    ⟨(some 47), .mov (.tmp 46), none⟩,
    ⟨(some 48), .mov (.tmp 15), some (47, true)⟩,
    ⟨(some 49), .bin .lss (.tmp 48) (.const (.int .i64 100)), some (47, true)⟩,
    ⟨(some 50), .pick (.tmp 47) (.tmp 49) (.const (.bool false)), none⟩] [1, 2, 4, 5, 9, 13, 15, 50])
  (.cond (.tmp 50) (.skip) (.exit 0)))
  (.seq (.block 1 (.seq (.region [⟨(some 53), .mov (.tmp 1), none⟩,
    ⟨(some 54), .mov (.tmp 15), none⟩,
    ⟨(some 55), .idx 6 none (.tmp 53) (.tmp 54), none⟩,
    ⟨(some 56), .load (some 6) (.tmp 55), none⟩,
    ⟨(some 57), .call (.const (.fn F.cuneiformlaw08_Cut [] [])) [(.tmp 56)], none⟩,
    ⟨(some 16), .alloc T.frame_Frame [(.int .i64 0), (.int .i64 0), (.int .u32 0), (.int .i64 0), (.int .i64 0), .nils], none⟩,
    ⟨none, .store 6 (.tmp 16) (.tmp 57), none⟩] [1, 2, 4, 5, 9, 13, 15, 16])
  (.seq (.region [⟨(some 58), .mov (.tmp 2), none⟩,
    ⟨(some 59), .bin .sub (.tmp 58) (.const (.int .u32 1)), none⟩,
    ⟨(some 60), .field 0 (.tmp 16), none⟩,
    ⟨(some 61), .field 2 (.tmp 60), none⟩,
    ⟨(some 62), .load none (.tmp 61), none⟩,
    ⟨(some 63), .bin .rem (.tmp 62) (.const (.int .u32 1073741824)), none⟩,
    ⟨(some 64), .bin .sub (.tmp 59) (.tmp 63), none⟩,
    ⟨(some 65), .field 0 (.tmp 16), none⟩,
    ⟨(some 66), .field 2 (.tmp 65), none⟩,
    ⟨none, .store 1 (.tmp 66) (.tmp 64), none⟩] [1, 2, 4, 5, 9, 13, 15, 16])
  (.region [⟨(some 67), .mov (.tmp 13), none⟩,
    ⟨(some 68), .load (some 6) (.tmp 16), none⟩,
    ⟨(some 69), .call (.const (.fn F.table_Table_Put [] [])) [(.tmp 67), (.tmp 68)], none⟩] [1, 2, 4, 5, 9, 13, 15]))))
  (.region [⟨(some 51), .mov (.tmp 15), none⟩,
    ⟨(some 52), .bin .add (.tmp 51) (.const (.int .i64 1)), none⟩,
    ⟨(some 15), .mov (.tmp 52), none⟩] [1, 2, 4, 5, 9, 13, 15]))
def cuneiformlaw14_TableNext.b1 : ACode := .seq (.seq (.region [⟨(some 87), .mov (.tmp 19), none⟩,
    ⟨(some 88), .mov (.tmp 17), none⟩,
    ⟨(some 89), .len .slice (.tmp 88), none⟩,
    ⟨(some 90), .bin .lss (.tmp 87) (.tmp 89), none⟩] [2, 4, 13, 17, 19, 90])
  (.cond (.tmp 90) (.skip) (.exit 2)))
  (.seq (.block 3 (.seq (.region [⟨(some 94), .mov (.tmp 13), none⟩,
    ⟨(some 95), .mov (.tmp 17), none⟩,
    ⟨(some 96), .mov (.tmp 19), none⟩,
    ⟨(some 97), .idx 6 none (.tmp 95) (.tmp 96), none⟩,
    ⟨(some 98), .load (some 6) (.tmp 97), none⟩,
    ⟨(some 99), .call (.const (.fn F.table_Table_Put [] [])) [(.tmp 94), (.tmp 98)], none⟩,
    ⟨(some 93), .mov (.tmp 99), none⟩,
    ⟨(some 100), .extract (.tmp 93) 0, none⟩,
    ⟨(some 101), .extract (.tmp 93) 1, none⟩,
    ⟨(some 20), .alloc T.table_Out [.nils, (.bool false), (.bool false), (.int .u32 0)], none⟩,
    ⟨none, .store 4 (.tmp 20) (.tmp 100), none⟩,
    ⟨(some 21), .mov (.tmp 101), none⟩] [2, 4, 13, 17, 19, 20, 21])
  (.seq (.region [⟨(some 102), .mov (.tmp 21), none⟩,
    ⟨(some 103), .bin .neq (.tmp 102) (.const (.int .i64 0)), none⟩,
    ⟨(some 104), .mov (.tmp 103), none⟩,
    ⟨(some 105), .field 1 (.tmp 20), some (104, false)⟩,
    ⟨(some 106), .load none (.tmp 105), some (104, false)⟩,
    ⟨(some 107), .mov (.tmp 19), some (104, false)⟩,
    ⟨(some 108), .mov (.tmp 17), some (104, false)⟩,
    ⟨(some 109), .len .slice (.tmp 108), some (104, false)⟩,
    ⟨(some 110), .bin .sub (.tmp 109) (.const (.int .i64 1)), some (104, false)⟩,
    ⟨(some 111), .bin .eql (.tmp 107) (.tmp 110), some (104, false)⟩,
    ⟨(some 112), .eq true .bool (.tmp 106) (.tmp 111), some (104, false)⟩,
    ⟨(some 113), .pick (.tmp 104) (.const (.bool true)) (.tmp 112), none⟩,
    ⟨(some 114), .mov (.tmp 113), none⟩,
    ⟨(some 115), .field 1 (.tmp 20), some (114, false)⟩,
    ⟨(some 116), .load none (.tmp 115), some (114, false)⟩,
    ⟨(some 117), .mov (.tmp 116), some (114, false)⟩,
    ⟨(some 118), .field 0 (.tmp 20), some (117, true)⟩,
    ⟨(some 119), .load none (.tmp 118), some (117, true)⟩,
    ⟨(some 120), .mov (.tmp 4), some (117, true)⟩,
    ⟨(some 121), .call (.const (.fn F.cuneiformref01_Same [] [])) [(.tmp 119), (.tmp 120)], some (117, true)⟩,
    ⟨(some 122), .un .not (.tmp 121), some (117, true)⟩,
    ⟨(some 123), .pick (.tmp 117) (.tmp 122) (.const (.bool false)), some (114, false)⟩,
    ⟨(some 124), .pick (.tmp 114) (.const (.bool true)) (.tmp 123), none⟩] [2, 4, 13, 17, 19, 124])
  (.cond (.tmp 124) (.seq (.region [⟨(some 12), .mov (.const (.bool false)), none⟩] [12])
  (.ret)) (.skip)))))
  (.region [⟨(some 91), .mov (.tmp 19), none⟩,
    ⟨(some 92), .bin .add (.tmp 91) (.const (.int .i64 1)), none⟩,
    ⟨(some 19), .mov (.tmp 92), none⟩] [2, 4, 13, 17, 19]))
def cuneiformlaw14_TableNext.body : ACode := .seq (.region [⟨(some 9), .box T.head_Head (.tmp 3), none⟩,
    ⟨(some 12), .mov (.const (.bool false)), none⟩] [0, 1, 2, 4, 5, 9])
  (.seq (.region [⟨(some 22), .mov (.tmp 0), none⟩,
    ⟨(some 23), .conv .u64 (.tmp 22), none⟩,
    ⟨(some 24), .bin .rem (.tmp 23) (.const (.int .u64 16)), none⟩,
    ⟨(some 25), .conv .i64 (.tmp 24), none⟩,
    ⟨(some 26), .bin .add (.const (.int .i64 1)) (.tmp 25), none⟩,
    ⟨(some 27), .mov (.tmp 5), none⟩,
    ⟨(some 28), .conv .u64 (.tmp 27), none⟩,
    ⟨(some 29), .bin .rem (.tmp 28) (.const (.int .u64 242)), none⟩,
    ⟨(some 30), .conv .i64 (.tmp 29), none⟩,
    ⟨(some 31), .bin .add (.const (.int .i64 1)) (.tmp 30), none⟩,
    ⟨(some 0), .mov (.tmp 26), none⟩,
    ⟨(some 5), .mov (.tmp 31), none⟩] [0, 1, 2, 4, 5, 9])
  (.seq (.region [⟨(some 33), .mov (.tmp 0), none⟩,
    ⟨(some 34), .call (.const (.fn F.table_New [] [])) [(.tmp 33)], none⟩,
    ⟨(some 32), .mov (.tmp 34), none⟩,
    ⟨(some 35), .extract (.tmp 32) 0, none⟩,
    ⟨(some 36), .extract (.tmp 32) 1, none⟩,
    ⟨(some 13), .mov (.tmp 35), none⟩,
    ⟨(some 14), .mov (.tmp 36), none⟩] [1, 2, 4, 5, 9, 13, 14])
  (.seq (.seq (.region [⟨(some 37), .mov (.tmp 14), none⟩,
    ⟨(some 38), .bin .neq (.tmp 37) (.const (.int .i64 0)), none⟩,
    ⟨(some 39), .mov (.tmp 38), none⟩,
    ⟨(some 40), .mov (.tmp 13), some (39, false)⟩,
    ⟨(some 41), .eq false .ptr (.tmp 40) (.const .nilp), some (39, false)⟩,
    ⟨(some 42), .pick (.tmp 39) (.const (.bool true)) (.tmp 41), none⟩] [1, 2, 4, 5, 9, 13, 42])
  (.cond (.tmp 42) (.seq (.region [⟨(some 12), .mov (.const (.bool false)), none⟩] [12])
  (.ret)) (.skip)))
  (.seq (.seq (.region [⟨(some 15), .mov (.const (.int .i64 0)), none⟩] [1, 2, 4, 5, 9, 13, 15])
  (.block 0 (.loop cuneiformlaw14_TableNext.b0)))
  (.seq (.region [⟨(some 70), .mov (.tmp 2), none⟩,
    ⟨(some 71), .field 2 (.tmp 9), none⟩,
    ⟨none, .store 1 (.tmp 71) (.tmp 70), none⟩] [2, 4, 5, 9, 13])
  (.seq (.region [⟨(some 72), .mov (.tmp 4), none⟩,
    ⟨(some 73), .mov (.tmp 4), none⟩,
    ⟨(some 74), .len .slice (.tmp 73), none⟩,
    ⟨(some 75), .maxmin false (.tmp 74) (.const (.int .i64 192)), none⟩,
    ⟨(some 76), .slice 1 .slice (.tmp 72) none (some (.tmp 75)) none, none⟩,
    ⟨(some 4), .mov (.tmp 76), none⟩] [2, 4, 5, 9, 13])
  (.seq (.region [⟨(some 78), .load (some 5) (.tmp 9), none⟩,
    ⟨(some 79), .mov (.tmp 4), none⟩,
    ⟨(some 80), .mov (.tmp 5), none⟩,
    ⟨(some 81), .call (.const (.fn F.cut_Frames [] [])) [(.tmp 78), (.tmp 79), (.tmp 80)], none⟩,
    ⟨(some 77), .mov (.tmp 81), none⟩,
    ⟨(some 82), .extract (.tmp 77) 0, none⟩,
    ⟨(some 83), .extract (.tmp 77) 1, none⟩,
    ⟨(some 17), .mov (.tmp 82), none⟩,
    ⟨(some 18), .mov (.tmp 83), none⟩] [2, 4, 13, 17, 18])
  (.seq (.seq (.region [⟨(some 84), .mov (.tmp 18), none⟩,
    ⟨(some 85), .bin .neq (.tmp 84) (.const (.int .i64 0)), none⟩] [2, 4, 13, 17, 85])
  (.cond (.tmp 85) (.seq (.region [⟨(some 86), .call (.const (.fn F.cuneiformlaw14_known [] [])) [], none⟩,
    ⟨(some 12), .mov (.tmp 86), none⟩] [12])
  (.ret)) (.skip)))
  (.seq (.seq (.region [⟨(some 19), .mov (.const (.int .i64 0)), none⟩] [2, 4, 13, 17, 19])
  (.block 2 (.loop cuneiformlaw14_TableNext.b1)))
  (.seq (.region [⟨(some 125), .call (.const (.fn F.cuneiformlaw14_known [] [])) [], none⟩,
    ⟨(some 126), .mov (.tmp 125), none⟩,
    ⟨(some 127), .mov (.tmp 13), some (126, true)⟩,
    ⟨(some 128), .mov (.tmp 2), some (126, true)⟩,
    ⟨(some 129), .call (.const (.fn F.table_Table_Drop [] [])) [(.tmp 127), (.tmp 128)], some (126, true)⟩,
    ⟨(some 130), .un .not (.tmp 129), some (126, true)⟩,
    ⟨(some 131), .pick (.tmp 126) (.tmp 130) (.const (.bool false)), none⟩,
    ⟨(some 12), .mov (.tmp 131), none⟩] [12])
  (.ret)))))))))))
def cuneiformlaw14_TableNext : AFun := ⟨132, 6, [.tmp 12], cuneiformlaw14_TableNext.body⟩
def cuneiformlaw14_TableBounds.b0 : ACode := .seq (.seq (.region [⟨(some 28), .mov (.tmp 7), none⟩,
    ⟨(some 29), .mov (.tmp 1), none⟩,
    ⟨(some 30), .len .slice (.tmp 29), none⟩,
    ⟨(some 31), .bin .lss (.tmp 28) (.tmp 30), none⟩,
    ⟨(some 32), .mov (.tmp 31), none⟩,
    ⟨(some 33), .mov (.tmp 7), some (32, true)⟩,
    ⟨(some 34), .bin .lss (.tmp 33) (.const (.int .i64 100)), some (32, true)⟩,
    ⟨(some 35), .pick (.tmp 32) (.tmp 34) (.const (.bool false)), none⟩] [0, 1, 5, 7, 35])
  (.cond (.tmp 35) (.skip) (.exit 0)))
  (.seq (.block 1 (.seq (.region [⟨(some 38), .mov (.tmp 5), none⟩,
    ⟨(some 39), .call (.const (.fn F.table_Table_Seqs [] [])) [(.tmp 38)], none⟩,
    ⟨(some 40), .mov (.tmp 5), none⟩,
    ⟨(some 41), .call (.const (.fn F.table_Table_Held [] [])) [(.tmp 40)], none⟩,
    ⟨(some 8), .mov (.tmp 39), none⟩,
    ⟨(some 9), .mov (.tmp 41), none⟩] [0, 1, 5, 7, 8, 9])
  (.seq (.region [⟨(some 43), .mov (.tmp 5), none⟩,
    ⟨(some 44), .mov (.tmp 1), none⟩,
    ⟨(some 45), .mov (.tmp 7), none⟩,
    ⟨(some 46), .idx 6 none (.tmp 44) (.tmp 45), none⟩,
    ⟨(some 47), .load (some 6) (.tmp 46), none⟩,
    ⟨(some 48), .call (.const (.fn F.cuneiformlaw08_Cut [] [])) [(.tmp 47)], none⟩,
    ⟨(some 49), .call (.const (.fn F.table_Table_Put [] [])) [(.tmp 43), (.tmp 48)], none⟩,
    ⟨(some 42), .mov (.tmp 49), none⟩,
    ⟨(some 50), .extract (.tmp 42) 0, none⟩,
    ⟨(some 51), .extract (.tmp 42) 1, none⟩,
    ⟨(some 10), .alloc T.table_Out [.nils, (.bool false), (.bool false), (.int .u32 0)], none⟩,
    ⟨none, .store 4 (.tmp 10) (.tmp 50), none⟩,
    ⟨(some 11), .mov (.tmp 51), none⟩] [0, 1, 5, 7, 8, 9, 10, 11])
  (.seq (.region [⟨(some 52), .mov (.tmp 5), none⟩,
    ⟨(some 53), .call (.const (.fn F.table_Table_Len [] [])) [(.tmp 52)], none⟩,
    ⟨(some 54), .mov (.tmp 0), none⟩,
    ⟨(some 55), .bin .gtr (.tmp 53) (.tmp 54), none⟩,
    ⟨(some 56), .mov (.tmp 55), none⟩,
    ⟨(some 57), .mov (.tmp 5), some (56, false)⟩,
    ⟨(some 58), .call (.const (.fn F.table_Table_Held [] [])) [(.tmp 57)], some (56, false)⟩,
    ⟨(some 59), .mov (.tmp 5), some (56, false)⟩,
    ⟨(some 60), .call (.const (.fn F.table_Table_Len [] [])) [(.tmp 59)], some (56, false)⟩,
    ⟨(some 61), .bin .mul (.const (.int .i64 192)) (.tmp 60), some (56, false)⟩,
    ⟨(some 62), .bin .gtr (.tmp 58) (.tmp 61), some (56, false)⟩,
    ⟨(some 63), .pick (.tmp 56) (.const (.bool true)) (.tmp 62), none⟩,
    ⟨(some 64), .mov (.tmp 63), none⟩,
    ⟨(some 65), .mov (.tmp 11), some (64, false)⟩,
    ⟨(some 66), .bin .neq (.tmp 65) (.const (.int .i64 0)), some (64, false)⟩,
    ⟨(some 67), .mov (.tmp 66), some (64, false)⟩,
    ⟨(some 68), .mov (.tmp 5), some (67, true)⟩,
    ⟨(some 69), .call (.const (.fn F.table_Table_Seqs [] [])) [(.tmp 68)], some (67, true)⟩,
    ⟨(some 70), .mov (.tmp 8), some (67, true)⟩,
    ⟨(some 71), .call (.const (.fn F.cuneiformlaw14_seqs [] [])) [(.tmp 69), (.tmp 70)], some (67, true)⟩,
    ⟨(some 72), .un .not (.tmp 71), some (67, true)⟩,
    ⟨(some 73), .mov (.tmp 72), some (67, true)⟩,
    ⟨(some 74), .mov (.tmp 5), some (73, false)⟩,
    ⟨(some 75), .call (.const (.fn F.table_Table_Held [] [])) [(.tmp 74)], some (73, false)⟩,
    ⟨(some 76), .mov (.tmp 9), some (73, false)⟩,
    ⟨(some 77), .bin .neq (.tmp 75) (.tmp 76), some (73, false)⟩,
    ⟨(some 78), .pick (.tmp 73) (.const (.bool true)) (.tmp 77), some (67, true)⟩,
    ⟨(some 79), .mov (.tmp 78), some (67, true)⟩,
    ⟨(some 80), .field 1 (.tmp 10), some (79, false)⟩,
    ⟨(some 81), .load none (.tmp 80), some (79, false)⟩,
    ⟨(some 82), .pick (.tmp 79) (.const (.bool true)) (.tmp 81), some (67, true)⟩,
    ⟨(some 83), .mov (.tmp 82), some (67, true)⟩,
    ⟨(some 84), .field 2 (.tmp 10), some (83, false)⟩,
    ⟨(some 85), .load none (.tmp 84), some (83, false)⟩,
    ⟨(some 86), .pick (.tmp 83) (.const (.bool true)) (.tmp 85), some (67, true)⟩,
    ⟨(some 87), .pick (.tmp 67) (.tmp 86) (.const (.bool false)), some (64, false)⟩,
    ⟨(some 88), .pick (.tmp 64) (.const (.bool true)) (.tmp 87), none⟩,
    ⟨(some 89), .mov (.tmp 88), none⟩,
    ⟨(some 90), .field 1 (.tmp 10), some (89, false)⟩,
    ⟨(some 91), .load none (.tmp 90), some (89, false)⟩,
    ⟨(some 92), .mov (.tmp 91), some (89, false)⟩,
    ⟨(some 93), .field 0 (.tmp 10), some (92, true)⟩,
    ⟨(some 94), .load none (.tmp 93), some (92, true)⟩,
    ⟨(some 95), .len .slice (.tmp 94), some (92, true)⟩,
    ⟨(some 96), .bin .gtr (.tmp 95) (.const (.int .i64 192)), some (92, true)⟩,
    ⟨(some 97), .pick (.tmp 92) (.tmp 96) (.const (.bool false)), some (89, false)⟩,
    ⟨(some 98), .pick (.tmp 89) (.const (.bool true)) (.tmp 97), none⟩,
    ⟨(some 99), .mov (.tmp 98), none⟩,
    ⟨(some 100), .field 2 (.tmp 10), some (99, false)⟩,
    ⟨(some 101), .load none (.tmp 100), some (99, false)⟩,
    ⟨(some 102), .mov (.tmp 101), some (99, false)⟩,
    ⟨(some 103), .mov (.tmp 8), some (102, true)⟩,
    ⟨(some 104), .len .slice (.tmp 103), some (102, true)⟩,
    ⟨(some 105), .mov (.tmp 0), some (102, true)⟩,
    ⟨(some 106), .bin .neq (.tmp 104) (.tmp 105), some (102, true)⟩,
    ⟨(some 107), .pick (.tmp 102) (.tmp 106) (.const (.bool false)), some (99, false)⟩,
    ⟨(some 108), .pick (.tmp 99) (.const (.bool true)) (.tmp 107), none⟩] [0, 1, 5, 7, 108])
  (.cond (.tmp 108) (.seq (.region [⟨(some 4), .mov (.const (.bool false)), none⟩] [4])
  (.ret)) (.skip))))))
  (.region [⟨(some 36), .mov (.tmp 7), none⟩,
    ⟨(some 37), .bin .add (.tmp 36) (.const (.int .i64 1)), none⟩,
    ⟨(some 7), .mov (.tmp 37), none⟩] [0, 1, 5, 7]))
def cuneiformlaw14_TableBounds.body : ACode := .seq (.region [⟨(some 4), .mov (.const (.bool false)), none⟩] [0, 1])
  (.seq (.region [⟨(some 12), .mov (.tmp 0), none⟩,
    ⟨(some 13), .conv .u64 (.tmp 12), none⟩,
    ⟨(some 14), .bin .rem (.tmp 13) (.const (.int .u64 16)), none⟩,
    ⟨(some 15), .conv .i64 (.tmp 14), none⟩,
    ⟨(some 16), .bin .add (.const (.int .i64 1)) (.tmp 15), none⟩,
    ⟨(some 0), .mov (.tmp 16), none⟩] [0, 1])
  (.seq (.region [⟨(some 18), .mov (.tmp 0), none⟩,
    ⟨(some 19), .call (.const (.fn F.table_New [] [])) [(.tmp 18)], none⟩,
    ⟨(some 17), .mov (.tmp 19), none⟩,
    ⟨(some 20), .extract (.tmp 17) 0, none⟩,
    ⟨(some 21), .extract (.tmp 17) 1, none⟩,
    ⟨(some 5), .mov (.tmp 20), none⟩,
    ⟨(some 6), .mov (.tmp 21), none⟩] [0, 1, 5, 6])
  (.seq (.seq (.region [⟨(some 22), .mov (.tmp 6), none⟩,
    ⟨(some 23), .bin .neq (.tmp 22) (.const (.int .i64 0)), none⟩,
    ⟨(some 24), .mov (.tmp 23), none⟩,
    ⟨(some 25), .mov (.tmp 5), some (24, false)⟩,
    ⟨(some 26), .eq false .ptr (.tmp 25) (.const .nilp), some (24, false)⟩,
    ⟨(some 27), .pick (.tmp 24) (.const (.bool true)) (.tmp 26), none⟩] [0, 1, 5, 27])
  (.cond (.tmp 27) (.seq (.region [⟨(some 4), .mov (.const (.bool false)), none⟩] [4])
  (.ret)) (.skip)))
  (.seq (.seq (.region [⟨(some 7), .mov (.const (.int .i64 0)), none⟩] [0, 1, 5, 7])
  (.block 0 (.loop cuneiformlaw14_TableBounds.b0)))
  (.seq (.region [⟨(some 109), .call (.const (.fn F.cuneiformlaw14_known [] [])) [], none⟩,
    ⟨(some 4), .mov (.tmp 109), none⟩] [4])
  (.ret))))))
def cuneiformlaw14_TableBounds : AFun := ⟨110, 2, [.tmp 4], cuneiformlaw14_TableBounds.body⟩
def cuneiformlaw14_TablePlays.d0 : List AOper := [⟨(some 69), .load (some 2) (.tmp 7), none⟩,
    ⟨(some 70), .load (some 6) (.tmp 9), none⟩,
    ⟨(some 71), .call (.const (.fn F.cuneiformlaw08_Of [] [])) [(.tmp 70)], none⟩,
    ⟨(some 72), .call (.const (.fn F.cuneiformref14_Put [] [])) [(.tmp 69), (.tmp 71)], none⟩,
    ⟨(some 68), .mov (.tmp 72), none⟩,
    ⟨(some 73), .extract (.tmp 68) 0, none⟩,
    ⟨(some 74), .extract (.tmp 68) 1, none⟩,
    ⟨(some 75), .extract (.tmp 68) 2, none⟩,
    ⟨(some 10), .alloc T.cuneiformref14_T [(.int .i64 0), .nils], none⟩,
    ⟨(some 11), .alloc T.cuneiformref14_Out [.nils, (.bool false), (.bool false), (.int .u32 0)], none⟩,
    ⟨none, .store 2 (.tmp 10) (.tmp 73), none⟩,
    ⟨none, .store 4 (.tmp 11) (.tmp 74), none⟩,
    ⟨(some 12), .mov (.tmp 75), none⟩]
def cuneiformlaw14_TablePlays.d0b : List (List Nat) := [[], [], [1], [0, 1, 2], [0, 1, 2, 3], [0, 1, 2, 3, 4], [0, 1, 2, 3, 4], [0, 1, 2, 3, 4], [], [], [0, 1, 2, 3, 4, 5, 8, 9], [0, 1, 2, 3, 4, 5, 6, 8, 9, 10], [0, 1, 2, 3, 4, 5, 6, 7, 8, 9, 10, 11]]
def cuneiformlaw14_TablePlays.d1 : List AOper := [⟨(some 102), .mov (.tmp 5), none⟩,
    ⟨(some 103), .field 0 (.tmp 9), none⟩,
    ⟨(some 104), .field 2 (.tmp 103), none⟩,
    ⟨(some 105), .load none (.tmp 104), none⟩,
    ⟨(some 106), .call (.const (.fn F.table_Table_Drop [] [])) [(.tmp 102), (.tmp 105)], none⟩,
    ⟨(some 107), .field 1 (.tmp 7), none⟩,
    ⟨(some 108), .load none (.tmp 107), none⟩,
    ⟨(some 109), .len .slice (.tmp 108), none⟩,
    ⟨(some 110), .mov (.tmp 15), none⟩,
    ⟨(some 111), .bin .lss (.tmp 109) (.tmp 110), none⟩,
    ⟨(some 112), .eq true .bool (.tmp 106) (.tmp 111), none⟩]
def cuneiformlaw14_TablePlays.d1b : List (List Nat) := [[], [], [1], [1, 2], [0, 1, 2, 3], [], [5], [5, 6], [], [5, 6, 7, 8], [0, 1, 2, 3, 4, 5, 6, 7, 8, 9]]
def cuneiformlaw14_TablePlays.b2 : ACode := .seq (.seq (.region [⟨(some 45), .mov (.tmp 8), none⟩,
    ⟨(some 46), .mov (.tmp 1), none⟩,
    ⟨(some 47), .len .slice (.tmp 46), none⟩,
    ⟨(some 48), .bin .lss (.tmp 45) (.tmp 47), none⟩,
    ⟨(some 49), .mov (.tmp 48), none⟩,
    ⟨(some 50), .mov (.tmp 8), some (49, true)⟩,
    ⟨(some 51), .bin .lss (.tmp 50) (.const (.int .i64 60)), some (49, true)⟩,
    ⟨(some 52), .pick (.tmp 49) (.tmp 51) (.const (.bool false)), none⟩] [1, 5, 7, 8, 52])
  (.cond (.tmp 52) (.skip) (.exit 0)))
  (.seq (.block 1 (.seq (.region [⟨(some 55), .mov (.tmp 1), none⟩,
    ⟨(some 56), .mov (.tmp 8), none⟩,
    ⟨(some 57), .idx 7 none (.tmp 55) (.tmp 56), none⟩,
    ⟨(some 58), .field 1 (.tmp 57), none⟩,
    ⟨(some 59), .load (some 6) (.tmp 58), none⟩,
    ⟨(some 60), .call (.const (.fn F.cuneiformlaw08_Cut [] [])) [(.tmp 59)], none⟩,
    ⟨(some 9), .alloc T.frame_Frame [(.int .i64 0), (.int .i64 0), (.int .u32 0), (.int .i64 0), (.int .i64 0), .nils], none⟩,
    ⟨none, .store 6 (.tmp 9) (.tmp 60), none⟩] [1, 5, 7, 8, 9])
  (.seq (.seq (.region [⟨(some 61), .mov (.tmp 1), none⟩,
    ⟨(some 62), .mov (.tmp 8), none⟩,
    ⟨(some 63), .idx 7 none (.tmp 61) (.tmp 62), none⟩,
    ⟨(some 64), .field 0 (.tmp 63), none⟩,
    ⟨(some 65), .load none (.tmp 64), none⟩] [1, 5, 7, 8, 9, 65])
  (.block 2 (.seq (.region [⟨(some 67), .bin .eql (.tmp 65) (.const (.int .i64 0)), none⟩,
    ⟨(some 66), .mov (.tmp 67), none⟩] [1, 5, 7, 8, 9, 65, 66])
  (.cond (.tmp 66) (.seq (.draw cuneiformlaw14_TablePlays.d0 cuneiformlaw14_TablePlays.d0b [[0, 1, 2, 3, 4, 5, 6, 7, 8, 9, 10, 11, 12], [0, 1, 2, 3, 4, 5, 6, 7, 9, 8, 10, 11, 12], [0, 1, 2, 8, 3, 4, 5, 6, 7, 9, 10, 11, 12], [0, 1, 2, 8, 9, 3, 4, 5, 6, 7, 10, 11, 12], [0, 1, 2, 9, 3, 4, 5, 6, 7, 8, 10, 11, 12], [0, 1, 2, 9, 8, 3, 4, 5, 6, 7, 10, 11, 12], [0, 1, 8, 2, 3, 4, 5, 6, 7, 9, 10, 11, 12], [0, 1, 8, 2, 9, 3, 4, 5, 6, 7, 10, 11, 12], [0, 1, 8, 9, 2, 3, 4, 5, 6, 7, 10, 11, 12], [0, 1, 9, 2, 3, 4, 5, 6, 7, 8, 10, 11, 12], [0, 1, 9, 2, 8, 3, 4, 5, 6, 7, 10, 11, 12], [0, 1, 9, 8, 2, 3, 4, 5, 6, 7, 10, 11, 12]] [(2, 0), (8, 0), (8, 1), (9, 0), (9, 1)] [1, 5, 7, 8, 9, 10, 11, 12])
  (.seq (.region [⟨(some 77), .mov (.tmp 5), none⟩,
    ⟨(some 78), .load (some 6) (.tmp 9), none⟩,
    ⟨(some 79), .call (.const (.fn F.table_Table_Put [] [])) [(.tmp 77), (.tmp 78)], none⟩,
    ⟨(some 76), .mov (.tmp 79), none⟩,
    ⟨(some 80), .extract (.tmp 76) 0, none⟩,
    ⟨(some 81), .extract (.tmp 76) 1, none⟩,
    ⟨(some 13), .alloc T.table_Out [.nils, (.bool false), (.bool false), (.int .u32 0)], none⟩,
    ⟨none, .store 4 (.tmp 13) (.tmp 80), none⟩,
    ⟨(some 14), .mov (.tmp 81), none⟩] [1, 5, 7, 8, 10, 11, 12, 13, 14])
  (.seq (.region [⟨(some 82), .load (some 2) (.tmp 10), none⟩,
    ⟨none, .store 2 (.tmp 7) (.tmp 82), none⟩] [1, 5, 7, 8, 11, 12, 13, 14])
  (.seq (.region [⟨(some 83), .mov (.tmp 14), none⟩,
    ⟨(some 84), .mov (.tmp 12), none⟩,
    ⟨(some 85), .bin .neq (.tmp 83) (.tmp 84), none⟩,
    ⟨(some 86), .mov (.tmp 85), none⟩,
    ⟨(some 87), .load (some 4) (.tmp 13), some (86, false)⟩,
    ⟨(some 88), .load (some 4) (.tmp 11), some (86, false)⟩,
    ⟨(some 89), .call (.const (.fn F.cuneiformlaw14_Outs [] [])) [(.tmp 87), (.tmp 88)], some (86, false)⟩,
    ⟨(some 90), .un .not (.tmp 89), some (86, false)⟩,
    ⟨(some 91), .pick (.tmp 86) (.const (.bool true)) (.tmp 90), none⟩] [1, 5, 7, 8, 91])
  (.cond (.tmp 91) (.seq (.region [⟨(some 4), .mov (.const (.bool false)), none⟩] [4])
  (.ret)) (.skip)))))) (.seq (.region [⟨(some 93), .bin .eql (.tmp 65) (.const (.int .i64 1)), none⟩,
    ⟨(some 92), .mov (.tmp 93), none⟩] [1, 5, 7, 8, 9, 65, 92])
  (.cond (.tmp 92) (.seq (.region [⟨(some 94), .field 1 (.tmp 7), none⟩,
    ⟨(some 95), .load none (.tmp 94), none⟩,
    ⟨(some 96), .len .slice (.tmp 95), none⟩,
    ⟨(some 15), .mov (.tmp 96), none⟩] [1, 5, 7, 8, 9, 15])
  (.seq (.region [⟨(some 97), .load (some 2) (.tmp 7), none⟩,
    ⟨(some 98), .field 0 (.tmp 9), none⟩,
    ⟨(some 99), .field 2 (.tmp 98), none⟩,
    ⟨(some 100), .load none (.tmp 99), none⟩,
    ⟨(some 101), .call (.const (.fn F.cuneiformref14_Drop [] [])) [(.tmp 97), (.tmp 100)], none⟩,
    ⟨none, .store 2 (.tmp 7) (.tmp 101), none⟩] [1, 5, 7, 8, 9, 15])
  (.seq (.draw cuneiformlaw14_TablePlays.d1 cuneiformlaw14_TablePlays.d1b [[0, 1, 2, 3, 5, 6, 7, 8, 9, 4, 10]] [(4, 6)] [1, 5, 7, 8, 112])
  (.cond (.tmp 112) (.seq (.region [⟨(some 4), .mov (.const (.bool false)), none⟩] [4])
  (.ret)) (.skip))))) (.seq (.region [⟨(some 114), .bin .eql (.tmp 65) (.const (.int .i64 2)), none⟩,
    ⟨(some 113), .mov (.tmp 114), none⟩] [1, 5, 7, 8, 9, 113])
  (.cond (.tmp 113) (.seq (.region [⟨(some 115), .mov (.tmp 5), none⟩,
    ⟨(some 116), .call (.const (.fn F.table_Table_Copy [] [])) [(.tmp 115)], none⟩,
    ⟨(some 16), .mov (.tmp 116), none⟩] [1, 5, 7, 8, 9, 16])
  (.seq (.seq (.region [⟨(some 117), .mov (.tmp 16), none⟩,
    ⟨(some 118), .eq false .ptr (.tmp 117) (.const .nilp), none⟩,
    ⟨(some 119), .mov (.tmp 118), none⟩,
    ⟨(some 120), .mov (.tmp 16), some (119, false)⟩,
    ⟨(some 121), .load (some 2) (.tmp 7), some (119, false)⟩,
    ⟨(some 122), .call (.const (.fn F.cuneiformlaw14_Alike [] [])) [(.tmp 120), (.tmp 121)], some (119, false)⟩,
    ⟨(some 123), .un .not (.tmp 122), some (119, false)⟩,
    ⟨(some 124), .pick (.tmp 119) (.const (.bool true)) (.tmp 123), none⟩] [1, 5, 7, 8, 9, 16, 124])
  (.cond (.tmp 124) (.seq (.region [⟨(some 4), .mov (.const (.bool false)), none⟩] [4])
  (.ret)) (.skip)))
  (.seq (.region [⟨(some 125), .mov (.tmp 5), none⟩,
    ⟨(some 126), .load (some 6) (.tmp 9), none⟩,
    ⟨(some 127), .call (.const (.fn F.table_Table_Put [] [])) [(.tmp 125), (.tmp 126)], none⟩] [1, 5, 7, 8, 9, 16])
  (.seq (.region [⟨(some 128), .mov (.tmp 5), none⟩,
    ⟨(some 129), .field 0 (.tmp 9), none⟩,
    ⟨(some 130), .field 2 (.tmp 129), none⟩,
    ⟨(some 131), .load none (.tmp 130), none⟩,
    ⟨(some 132), .call (.const (.fn F.table_Table_Drop [] [])) [(.tmp 128), (.tmp 131)], none⟩] [1, 7, 8, 16])
  (.region [⟨(some 133), .mov (.tmp 16), none⟩,
    ⟨(some 5), .mov (.tmp 133), none⟩] [1, 5, 7, 8]))))) (.skip)))))))))
  (.seq (.region [⟨(some 134), .mov (.tmp 5), none⟩,
    ⟨(some 135), .eq false .ptr (.tmp 134) (.const .nilp), none⟩,
    ⟨(some 136), .mov (.tmp 135), none⟩,
    ⟨(some 137), .mov (.tmp 5), some (136, false)⟩,
    ⟨(some 138), .load (some 2) (.tmp 7), some (136, false)⟩,
    ⟨(some 139), .call (.const (.fn F.cuneiformlaw14_Alike [] [])) [(.tmp 137), (.tmp 138)], some (136, false)⟩,
    ⟨(some 140), .un .not (.tmp 139), some (136, false)⟩,
    ⟨(some 141), .pick (.tmp 136) (.const (.bool true)) (.tmp 140), none⟩] [1, 5, 7, 8, 141])
  (.cond (.tmp 141) (.seq (.region [⟨(some 4), .mov (.const (.bool false)), none⟩] [4])
  (.ret)) (.skip))))))
  (.region [⟨(some 53), .mov (.tmp 8), none⟩,
    ⟨(some 54), .bin .add (.tmp 53) (.const (.int .i64 1)), none⟩,
    ⟨(some 8), .mov (.tmp 54), none⟩] [1, 5, 7, 8]))
def cuneiformlaw14_TablePlays.body : ACode := .seq (.region [⟨(some 4), .mov (.const (.bool false)), none⟩] [0, 1])
  (.seq (.region [⟨(some 18), .mov (.tmp 0), none⟩,
    ⟨(some 19), .call (.const (.fn F.table_New [] [])) [(.tmp 18)], none⟩,
    ⟨(some 17), .mov (.tmp 19), none⟩,
    ⟨(some 20), .extract (.tmp 17) 0, none⟩,
    ⟨(some 21), .extract (.tmp 17) 1, none⟩,
    ⟨(some 5), .mov (.tmp 20), none⟩,
    ⟨(some 6), .mov (.tmp 21), none⟩] [0, 1, 5, 6])
  (.seq (.seq (.region [⟨(some 22), .mov (.tmp 0), none⟩,
    ⟨(some 23), .bin .lss (.tmp 22) (.const (.int .i64 1)), none⟩,
    ⟨(some 24), .mov (.tmp 23), none⟩,
    ⟨(some 25), .mov (.tmp 0), some (24, false)⟩,
    ⟨(some 26), .bin .gtr (.tmp 25) (.const (.int .i64 16)), some (24, false)⟩,
    ⟨(some 27), .pick (.tmp 24) (.const (.bool true)) (.tmp 26), none⟩] [0, 1, 5, 6, 27])
  (.cond (.tmp 27) (.seq (.region [⟨(some 28), .call (.const (.fn F.cuneiformlaw14_known [] [])) [], none⟩,
    ⟨(some 29), .mov (.tmp 28), none⟩,
    ⟨(some 30), .mov (.tmp 5), some (29, true)⟩,
    ⟨(some 31), .eq false .ptr (.tmp 30) (.const .nilp), some (29, true)⟩,
    ⟨(some 32), .pick (.tmp 29) (.tmp 31) (.const (.bool false)), none⟩,
    ⟨(some 33), .mov (.tmp 32), none⟩,
    ⟨(some 34), .mov (.tmp 6), some (33, true)⟩,
    ⟨(some 35), .bin .eql (.tmp 34) (.const (.int .i64 5)), some (33, true)⟩,
    ⟨(some 36), .pick (.tmp 33) (.tmp 35) (.const (.bool false)), none⟩,
    ⟨(some 4), .mov (.tmp 36), none⟩] [4])
  (.ret)) (.skip)))
  (.seq (.seq (.region [⟨(some 37), .mov (.tmp 6), none⟩,
    ⟨(some 38), .bin .neq (.tmp 37) (.const (.int .i64 0)), none⟩,
    ⟨(some 39), .mov (.tmp 38), none⟩,
    ⟨(some 40), .mov (.tmp 5), some (39, false)⟩,
    ⟨(some 41), .eq false .ptr (.tmp 40) (.const .nilp), some (39, false)⟩,
    ⟨(some 42), .pick (.tmp 39) (.const (.bool true)) (.tmp 41), none⟩] [0, 1, 5, 42])
  (.cond (.tmp 42) (.seq (.region [⟨(some 4), .mov (.const (.bool false)), none⟩] [4])
  (.ret)) (.skip)))
  (.seq (.region [⟨(some 43), .mov (.tmp 0), none⟩,
    ⟨(some 44), .build [(.int .i64 0), .nils] [(0, 1, (.tmp 43))], none⟩,
    ⟨(some 7), .alloc T.cuneiformref14_T [(.int .i64 0), .nils], none⟩,
    ⟨none, .store 2 (.tmp 7) (.tmp 44), none⟩] [1, 5, 7])
  (.seq (.seq (.region [⟨(some 8), .mov (.const (.int .i64 0)), none⟩] [1, 5, 7, 8])
  (.block 0 (.loop cuneiformlaw14_TablePlays.b2)))
  (.seq (.region [⟨(some 142), .call (.const (.fn F.cuneiformlaw14_known [] [])) [], none⟩,
    ⟨(some 4), .mov (.tmp 142), none⟩] [4])
  (.ret)))))))
def cuneiformlaw14_TablePlays : AFun := ⟨143, 2, [.tmp 4], cuneiformlaw14_TablePlays.body⟩
def table_New.body : ACode := .seq (.region [⟨(some 2), .mov (.const .nilp), none⟩,
    ⟨(some 3), .mov (.const (.int .i64 0)), none⟩] [0])
  (.seq (.seq (.region [⟨(some 4), .mov (.tmp 0), none⟩,
    ⟨(some 5), .bin .lss (.tmp 4) (.const (.int .i64 1)), none⟩,
    ⟨(some 6), .mov (.tmp 5), none⟩,
    ⟨(some 7), .mov (.tmp 0), some (6, false)⟩,
    ⟨(some 8), .bin .gtr (.tmp 7) (.const (.int .i64 16)), some (6, false)⟩,
    ⟨(some 9), .pick (.tmp 6) (.const (.bool true)) (.tmp 8), none⟩] [0, 9])
  (.cond (.tmp 9) (.seq (.region [⟨(some 2), .mov (.const .nilp), none⟩,
    ⟨(some 3), .mov (.const (.int .i64 5)), none⟩] [2, 3])
  (.ret)) (.skip)))
  (.seq (.region [⟨(some 10), .mov (.tmp 0), none⟩,
    ⟨(some 11), .mkmap, none⟩,
    ⟨(some 12), .build [(.int .i64 0), .nils, .nilm] [(0, 1, (.tmp 10)), (1, 1, (.const .nils)), (2, 1, (.tmp 11))], none⟩,
    ⟨(some 13), .box T.table_Table (.tmp 12), none⟩,
    ⟨(some 2), .mov (.tmp 13), none⟩,
    ⟨(some 3), .mov (.const (.int .i64 0)), none⟩] [2, 3])
  (.ret)))
def table_New : AFun := ⟨14, 1, [.tmp 2, .tmp 3], table_New.body⟩
def cuneiformlaw08_Cut.body : ACode := .seq (.region [⟨(some 1), .box T.frame_Frame (.tmp 0), none⟩,
    ⟨(some 2), .alloc T.frame_Frame [(.int .i64 0), (.int .i64 0), (.int .u32 0), (.int .i64 0), (.int .i64 0), .nils], none⟩] [1, 2])
  (.seq (.region [⟨(some 3), .field 5 (.tmp 1), none⟩,
    ⟨(some 4), .load none (.tmp 3), none⟩,
    ⟨(some 5), .field 5 (.tmp 1), none⟩,
    ⟨(some 6), .load none (.tmp 5), none⟩,
    ⟨(some 7), .len .slice (.tmp 6), none⟩,
    ⟨(some 8), .maxmin false (.tmp 7) (.const (.int .i64 250)), none⟩,
    ⟨(some 9), .slice 1 .slice (.tmp 4) none (some (.tmp 8)) none, none⟩,
    ⟨(some 10), .field 5 (.tmp 1), none⟩,
    ⟨none, .store 1 (.tmp 10) (.tmp 9), none⟩] [1, 2])
  (.seq (.region [⟨(some 11), .load (some 6) (.tmp 1), none⟩,
    ⟨none, .store 6 (.tmp 2) (.tmp 11), none⟩] [2])
  (.ret)))
def cuneiformlaw08_Cut : AFun := ⟨12, 1, [.cell 2 (some 6)], cuneiformlaw08_Cut.body⟩
def table_Table_Put.d0 : List AOper := [⟨(some 53), .mov (.tmp 0), none⟩,
    ⟨(some 54), .nilc (.tmp 53), none⟩,
    ⟨(some 55), .field 2 (.tmp 54), none⟩,
    ⟨(some 56), .load none (.tmp 55), none⟩,
    ⟨(some 57), .mov (.tmp 8), none⟩,
    ⟨(some 58), .lookup .int .nilp false (.tmp 56) (.tmp 57), none⟩,
    ⟨(some 59), .load (some 6) (.tmp 3), none⟩,
    ⟨(some 60), .call (.const (.fn F.slot_Slot_Put [] [])) [(.tmp 58), (.tmp 59)], none⟩,
    ⟨(some 9), .mov (.tmp 60), none⟩]
def table_Table_Put.d0b : List (List Nat) := [[], [0], [0, 1], [0, 1, 2], [], [0, 1, 2, 3, 4], [], [0, 1, 2, 3, 4, 5, 6], [0, 1, 2, 3, 4, 5, 6, 7]]
def table_Table_Put.body : ACode := .seq (.region [⟨(some 3), .box T.frame_Frame (.tmp 1), none⟩,
    ⟨(some 4), .alloc T.table_Out [.nils, (.bool false), (.bool false), (.int .u32 0)], none⟩,
    ⟨(some 5), .mov (.const (.int .i64 0)), none⟩] [0, 3, 4])
  (.seq (.seq (.region [⟨(some 10), .mov (.tmp 0), none⟩,
    ⟨(some 11), .eq false .ptr (.tmp 10) (.const .nilp), none⟩] [0, 3, 4, 11])
  (.cond (.tmp 11) (.seq (.region [⟨(some 12), .build [.nils, (.bool false), (.bool false), (.int .u32 0)] [], none⟩,
    ⟨none, .store 4 (.tmp 4) (.tmp 12), none⟩,
    ⟨(some 5), .mov (.const (.int .i64 1)), none⟩] [4, 5])
  (.ret)) (.skip)))
  (.seq (.region [⟨(some 13), .field 0 (.tmp 3), none⟩,
    ⟨(some 14), .load (some 5) (.tmp 13), none⟩,
    ⟨(some 15), .call (.const (.fn F.head_Check [] [])) [(.tmp 14)], none⟩,
    ⟨(some 6), .mov (.tmp 15), none⟩] [0, 3, 4, 6])
  (.seq (.block 0 (.seq (.region [⟨(some 17), .mov (.tmp 6), none⟩,
    ⟨(some 18), .bin .neq (.tmp 17) (.const (.int .i64 0)), none⟩,
    ⟨(some 16), .mov (.tmp 18), none⟩] [0, 3, 4, 6, 16])
  (.cond (.tmp 16) (.seq (.region [⟨(some 19), .build [.nils, (.bool false), (.bool false), (.int .u32 0)] [], none⟩,
    ⟨(some 20), .mov (.tmp 6), none⟩,
    ⟨none, .store 4 (.tmp 4) (.tmp 19), none⟩,
    ⟨(some 5), .mov (.tmp 20), none⟩] [4, 5])
  (.ret)) (.seq (.region [⟨(some 22), .field 5 (.tmp 3), none⟩,
    ⟨(some 23), .load none (.tmp 22), none⟩,
    ⟨(some 24), .len .slice (.tmp 23), none⟩,
    ⟨(some 25), .bin .eql (.tmp 24) (.const (.int .i64 0)), none⟩,
    ⟨(some 21), .mov (.tmp 25), none⟩] [0, 3, 4, 21])
  (.cond (.tmp 21) (.seq (.region [⟨(some 26), .build [.nils, (.bool false), (.bool false), (.int .u32 0)] [], none⟩,
    ⟨none, .store 4 (.tmp 4) (.tmp 26), none⟩,
    ⟨(some 5), .mov (.const (.int .i64 13)), none⟩] [4, 5])
  (.ret)) (.skip))))))
  (.seq (.region [⟨(some 7), .alloc T.table_Out [.nils, (.bool false), (.bool false), (.int .u32 0)], none⟩] [0, 3, 4, 7])
  (.seq (.region [⟨(some 27), .field 0 (.tmp 3), none⟩,
    ⟨(some 28), .field 2 (.tmp 27), none⟩,
    ⟨(some 29), .load none (.tmp 28), none⟩,
    ⟨(some 8), .mov (.tmp 29), none⟩] [0, 3, 4, 7, 8])
  (.seq (.seq (.region [⟨(some 30), .mov (.tmp 0), none⟩,
    ⟨(some 31), .nilc (.tmp 30), none⟩,
    ⟨(some 32), .field 2 (.tmp 31), none⟩,
    ⟨(some 33), .load none (.tmp 32), none⟩,
    ⟨(some 34), .mov (.tmp 8), none⟩,
    ⟨(some 35), .lookup .int .nilp false (.tmp 33) (.tmp 34), none⟩,
    ⟨(some 36), .eq false .ptr (.tmp 35) (.const .nilp), none⟩] [0, 3, 4, 7, 8, 36])
  (.cond (.tmp 36) (.seq (.seq (.region [⟨(some 37), .field 5 (.tmp 3), none⟩,
    ⟨(some 38), .load none (.tmp 37), none⟩,
    ⟨(some 39), .len .slice (.tmp 38), none⟩,
    ⟨(some 40), .bin .gtr (.tmp 39) (.const (.int .i64 192)), none⟩] [0, 3, 4, 7, 8, 40])
  (.cond (.tmp 40) (.seq (.region [⟨(some 41), .build [.nils, (.bool false), (.bool false), (.int .u32 0)] [], none⟩,
    ⟨none, .store 4 (.tmp 4) (.tmp 41), none⟩,
    ⟨(some 5), .mov (.const (.int .i64 6)), none⟩] [4, 5])
  (.ret)) (.skip)))
  (.seq (.region [⟨(some 43), .mov (.tmp 0), none⟩,
    ⟨(some 44), .field 0 (.tmp 3), none⟩,
    ⟨(some 45), .load (some 5) (.tmp 44), none⟩,
    ⟨(some 46), .call (.const (.fn F.table_Table_fresh [] [])) [(.tmp 43), (.tmp 45)], none⟩,
    ⟨(some 42), .mov (.tmp 46), none⟩,
    ⟨(some 47), .extract (.tmp 42) 0, none⟩,
    ⟨(some 48), .extract (.tmp 42) 1, none⟩,
    ⟨none, .store 4 (.tmp 7) (.tmp 47), none⟩,
    ⟨(some 6), .mov (.tmp 48), none⟩] [0, 3, 4, 6, 7, 8])
  (.seq (.region [⟨(some 49), .mov (.tmp 6), none⟩,
    ⟨(some 50), .bin .neq (.tmp 49) (.const (.int .i64 0)), none⟩] [0, 3, 4, 6, 7, 8, 50])
  (.cond (.tmp 50) (.seq (.region [⟨(some 51), .build [.nils, (.bool false), (.bool false), (.int .u32 0)] [], none⟩,
    ⟨(some 52), .mov (.tmp 6), none⟩,
    ⟨none, .store 4 (.tmp 4) (.tmp 51), none⟩,
    ⟨(some 5), .mov (.tmp 52), none⟩] [4, 5])
  (.ret)) (.skip))))) (.skip)))
  (.seq (.seq (.draw table_Table_Put.d0 table_Table_Put.d0b [[0, 1, 2, 3, 4, 5, 6, 7, 8]] [] [0, 4, 7, 8, 9])
  (.seq (.region [⟨(some 61), .mov (.tmp 9), none⟩,
    ⟨(some 62), .bin .neq (.tmp 61) (.const (.int .i64 0)), none⟩] [0, 4, 7, 8, 9, 62])
  (.cond (.tmp 62) (.seq (.region [⟨(some 63), .build [.nils, (.bool false), (.bool false), (.int .u32 0)] [], none⟩,
    ⟨(some 64), .mov (.tmp 9), none⟩,
    ⟨none, .store 4 (.tmp 4) (.tmp 63), none⟩,
    ⟨(some 5), .mov (.tmp 64), none⟩] [4, 5])
  (.ret)) (.skip))))
  (.seq (.seq (.region [⟨(some 66), .mov (.tmp 0), none⟩,
    ⟨(some 67), .nilc (.tmp 66), none⟩,
    ⟨(some 68), .field 2 (.tmp 67), none⟩,
    ⟨(some 69), .load none (.tmp 68), none⟩,
    ⟨(some 70), .mov (.tmp 8), none⟩,
    ⟨(some 71), .lookup .int .nilp false (.tmp 69) (.tmp 70), none⟩,
    ⟨(some 72), .call (.const (.fn F.slot_Slot_Bytes [] [])) [(.tmp 71)], none⟩,
    ⟨(some 65), .mov (.tmp 72), none⟩,
    ⟨(some 73), .extract (.tmp 65) 0, none⟩,
    ⟨(some 74), .extract (.tmp 65) 1, none⟩,
    ⟨(some 75), .field 0 (.tmp 7), none⟩,
    ⟨none, .store 1 (.tmp 75) (.tmp 73), none⟩,
    ⟨(some 76), .field 1 (.tmp 7), none⟩,
    ⟨none, .store 1 (.tmp 76) (.tmp 74), none⟩] [0, 4, 7, 8])
  (.seq (.region [⟨(some 77), .field 1 (.tmp 7), none⟩,
    ⟨(some 78), .load none (.tmp 77), none⟩] [0, 4, 7, 8, 78])
  (.cond (.tmp 78) (.region [⟨(some 79), .mov (.tmp 0), none⟩,
    ⟨(some 80), .mov (.tmp 8), none⟩,
    ⟨(some 81), .call (.const (.fn F.table_Table_Drop [] [])) [(.tmp 79), (.tmp 80)], none⟩] [4, 7]) (.skip))))
  (.seq (.region [⟨(some 82), .load (some 4) (.tmp 7), none⟩,
    ⟨none, .store 4 (.tmp 4) (.tmp 82), none⟩,
    ⟨(some 5), .mov (.const (.int .i64 0)), none⟩] [4, 5])
  (.ret))))))))))
def table_Table_Put : AFun := ⟨83, 2, [.cell 4 (some 4), .tmp 5], table_Table_Put.body⟩
def cut_Frames.a0 : ACode := .seq (.region [⟨(some 10), .mov (.tmp 41), none⟩] [3, 9, 10, 42])
  (.region [⟨(some 11), .mov (.tmp 42), none⟩] [3, 9, 10, 11])
def cut_Frames.b0 : ACode := .block 2 (.seq (.region [⟨(some 43), .mov (.tmp 10), none⟩,
    ⟨(some 44), .field 3 (.tmp 3), none⟩,
    ⟨none, .store 1 (.tmp 44) (.tmp 43), none⟩] [3, 9, 11])
  (.region [⟨(some 45), .load none (.tmp 9), none⟩,
    ⟨(some 46), .load (some 5) (.tmp 3), none⟩,
    ⟨(some 47), .mov (.tmp 11), none⟩,
    ⟨(some 48), .build [(.int .i64 0), (.int .i64 0), (.int .u32 0), (.int .i64 0), (.int .i64 0), .nils] [(0, 5, (.tmp 46)), (5, 1, (.tmp 47))], none⟩,
    ⟨(some 49), .lit T.frame_Frame 6 1 [(.int .i64 0), (.int .i64 0), (.int .u32 0), (.int .i64 0), (.int .i64 0), .nils] [(0, 6, (.tmp 48))], none⟩,
    ⟨(some 50), .append T.frame_Frame 6 64 (.tmp 45) (.tmp 49), none⟩,
    ⟨none, .store 1 (.tmp 9) (.tmp 50), none⟩] []))
def cut_Frames.body : ACode := .seq (.region [⟨(some 3), .box T.head_Head (.tmp 0), none⟩,
    ⟨(some 6), .mov (.const .nils), none⟩,
    ⟨(some 7), .mov (.const (.int .i64 0)), none⟩] [1, 2, 3, 6, 7])
  (.seq (.block 0 (.seq (.region [⟨(some 13), .mov (.tmp 1), none⟩,
    ⟨(some 14), .len .slice (.tmp 13), none⟩,
    ⟨(some 15), .bin .eql (.tmp 14) (.const (.int .i64 0)), none⟩,
    ⟨(some 12), .mov (.tmp 15), none⟩] [1, 2, 3, 6, 7, 12])
  (.cond (.tmp 12) (.seq (.region [⟨(some 6), .mov (.const .nils), none⟩,
    ⟨(some 7), .mov (.const (.int .i64 13)), none⟩] [6, 7])
  (.ret)) (.seq (.region [⟨(some 17), .mov (.tmp 1), none⟩,
    ⟨(some 18), .len .slice (.tmp 17), none⟩,
    ⟨(some 19), .bin .gtr (.tmp 18) (.const (.int .i64 192)), none⟩,
    ⟨(some 16), .mov (.tmp 19), none⟩] [1, 2, 3, 6, 7, 16])
  (.cond (.tmp 16) (.seq (.region [⟨(some 6), .mov (.const .nils), none⟩,
    ⟨(some 7), .mov (.const (.int .i64 2)), none⟩] [6, 7])
  (.ret)) (.seq (.region [⟨(some 21), .mov (.tmp 2), none⟩,
    ⟨(some 22), .bin .lss (.tmp 21) (.const (.int .i64 1)), none⟩,
    ⟨(some 23), .mov (.tmp 22), none⟩,
    ⟨(some 24), .mov (.tmp 2), some (23, false)⟩,
    ⟨(some 25), .bin .gtr (.tmp 24) (.const (.int .i64 242)), some (23, false)⟩,
    ⟨(some 26), .pick (.tmp 23) (.const (.bool true)) (.tmp 25), none⟩,
    ⟨(some 20), .mov (.tmp 26), none⟩] [1, 2, 3, 6, 7, 20])
  (.cond (.tmp 20) (.seq (.region [⟨(some 6), .mov (.const .nils), none⟩,
    ⟨(some 7), .mov (.const (.int .i64 5)), none⟩] [6, 7])
  (.ret)) (.skip))))))))
  (.seq (.region [⟨(some 27), .mov (.tmp 1), none⟩,
    ⟨(some 28), .len .slice (.tmp 27), none⟩,
    ⟨(some 29), .mov (.tmp 2), none⟩,
    ⟨(some 30), .call (.const (.fn F.cut_Count [] [])) [(.tmp 28), (.tmp 29)], none⟩,
    ⟨(some 31), .field 3 (.tmp 3), none⟩,
    ⟨none, .store 1 (.tmp 31) (.const (.int .i64 0)), none⟩,
    ⟨(some 32), .field 4 (.tmp 3), none⟩,
    ⟨none, .store 1 (.tmp 32) (.tmp 30), none⟩] [1, 2, 3, 6, 7])
  (.seq (.seq (.region [⟨(some 33), .load (some 5) (.tmp 3), none⟩,
    ⟨(some 34), .call (.const (.fn F.head_Check [] [])) [(.tmp 33)], none⟩,
    ⟨(some 8), .mov (.tmp 34), none⟩] [1, 2, 3, 6, 7, 8])
  (.seq (.region [⟨(some 35), .mov (.tmp 8), none⟩,
    ⟨(some 36), .bin .neq (.tmp 35) (.const (.int .i64 0)), none⟩] [1, 2, 3, 6, 7, 8, 36])
  (.cond (.tmp 36) (.seq (.region [⟨(some 37), .mov (.tmp 8), none⟩,
    ⟨(some 6), .mov (.const .nils), none⟩,
    ⟨(some 7), .mov (.tmp 37), none⟩] [6, 7])
  (.ret)) (.skip))))
  (.seq (.region [⟨(some 9), .alloc T.sl_frame_Frame [.nils], none⟩] [1, 2, 3, 6, 7, 9])
  (.seq (.seq (.region [⟨(some 38), .mov (.tmp 1), none⟩,
    ⟨(some 39), .mov (.tmp 2), none⟩,
    ⟨(some 40), .call (.const (.fn F.cut_Parts [] [])) [(.tmp 38), (.tmp 39)], none⟩] [3, 6, 7, 9, 40])
  (.block 1 (.range (.tmp 40) [41, 42] cut_Frames.a0 cut_Frames.b0)))
  (.seq (.region [⟨(some 51), .load none (.tmp 9), none⟩,
    ⟨(some 6), .mov (.tmp 51), none⟩,
    ⟨(some 7), .mov (.const (.int .i64 0)), none⟩] [6, 7])
  (.ret)))))))
def cut_Frames : AFun := ⟨52, 3, [.tmp 6, .tmp 7], cut_Frames.body⟩
def cuneiformlaw14_known.body : ACode := .seq (.region [⟨(some 0), .mov (.const (.bool false)), none⟩] [])
  (.seq (.region [⟨(some 12), .call (.const (.fn F.table_New [] [])) [(.const (.int .i64 1))], none⟩,
    ⟨(some 11), .mov (.tmp 12), none⟩,
    ⟨(some 13), .extract (.tmp 11) 0, none⟩,
    ⟨(some 14), .extract (.tmp 11) 1, none⟩,
    ⟨(some 1), .mov (.tmp 13), none⟩,
    ⟨(some 2), .mov (.tmp 14), none⟩] [1, 2])
  (.seq (.region [⟨(some 15), .build [(.int .i64 0), (.int .i64 0), (.int .u32 0), (.int .i64 0), (.int .i64 0)] [(0, 1, (.const (.int .i64 1))), (1, 1, (.const (.int .i64 1))), (2, 1, (.const (.int .u32 5))), (4, 1, (.const (.int .i64 2)))], none⟩,
    ⟨(some 16), .lit T.uint8 1 1 [(.int .u8 0)] [(0, 1, (.const (.int .u8 1)))], none⟩,
    ⟨(some 17), .build [(.int .i64 0), (.int .i64 0), (.int .u32 0), (.int .i64 0), (.int .i64 0), .nils] [(0, 5, (.tmp 15)), (5, 1, (.tmp 16))], none⟩,
    ⟨(some 3), .alloc T.frame_Frame [(.int .i64 0), (.int .i64 0), (.int .u32 0), (.int .i64 0), (.int .i64 0), .nils], none⟩,
    ⟨none, .store 6 (.tmp 3) (.tmp 17), none⟩] [1, 2, 3])
  (.seq (.region [⟨(some 18), .load (some 6) (.tmp 3), none⟩,
    ⟨(some 4), .alloc T.frame_Frame [(.int .i64 0), (.int .i64 0), (.int .u32 0), (.int .i64 0), (.int .i64 0), .nils], none⟩,
    ⟨none, .store 6 (.tmp 4) (.tmp 18), none⟩] [1, 2, 3, 4])
  (.seq (.region [⟨(some 19), .field 0 (.tmp 4), none⟩,
    ⟨(some 20), .field 2 (.tmp 19), none⟩,
    ⟨none, .store 1 (.tmp 20) (.const (.int .u32 6)), none⟩] [1, 2, 3, 4])
  (.seq (.seq (.region [⟨(some 21), .mov (.tmp 2), none⟩,
    ⟨(some 22), .bin .neq (.tmp 21) (.const (.int .i64 0)), none⟩,
    ⟨(some 23), .mov (.tmp 22), none⟩,
    ⟨(some 24), .mov (.tmp 1), some (23, false)⟩,
    ⟨(some 25), .eq false .ptr (.tmp 24) (.const .nilp), some (23, false)⟩,
    ⟨(some 26), .pick (.tmp 23) (.const (.bool true)) (.tmp 25), none⟩] [1, 3, 4, 26])
  (.cond (.tmp 26) (.seq (.region [⟨(some 0), .mov (.const (.bool false)), none⟩] [0])
  (.ret)) (.skip)))
  (.seq (.region [⟨(some 28), .mov (.tmp 1), none⟩,
    ⟨(some 29), .load (some 6) (.tmp 3), none⟩,
    ⟨(some 30), .call (.const (.fn F.table_Table_Put [] [])) [(.tmp 28), (.tmp 29)], none⟩,
    ⟨(some 27), .mov (.tmp 30), none⟩,
    ⟨(some 31), .extract (.tmp 27) 0, none⟩,
    ⟨(some 32), .extract (.tmp 27) 1, none⟩,
    ⟨(some 5), .alloc T.table_Out [.nils, (.bool false), (.bool false), (.int .u32 0)], none⟩,
    ⟨none, .store 4 (.tmp 5) (.tmp 31), none⟩,
    ⟨(some 6), .mov (.tmp 32), none⟩] [1, 3, 4, 6])
  (.seq (.region [⟨(some 34), .mov (.tmp 1), none⟩,
    ⟨(some 35), .load (some 6) (.tmp 4), none⟩,
    ⟨(some 36), .call (.const (.fn F.table_Table_Put [] [])) [(.tmp 34), (.tmp 35)], none⟩,
    ⟨(some 33), .mov (.tmp 36), none⟩,
    ⟨(some 37), .extract (.tmp 33) 0, none⟩,
    ⟨(some 38), .extract (.tmp 33) 1, none⟩,
    ⟨(some 7), .alloc T.table_Out [.nils, (.bool false), (.bool false), (.int .u32 0)], none⟩,
    ⟨none, .store 4 (.tmp 7) (.tmp 37), none⟩,
    ⟨(some 8), .mov (.tmp 38), none⟩] [1, 3, 6, 7, 8])
  (.seq (.region [⟨(some 40), .mov (.tmp 1), none⟩,
    ⟨(some 41), .load (some 6) (.tmp 3), none⟩,
    ⟨(some 42), .call (.const (.fn F.table_Table_Put [] [])) [(.tmp 40), (.tmp 41)], none⟩,
    ⟨(some 39), .mov (.tmp 42), none⟩,
    ⟨(some 43), .extract (.tmp 39) 0, none⟩,
    ⟨(some 44), .extract (.tmp 39) 1, none⟩,
    ⟨(some 9), .alloc T.table_Out [.nils, (.bool false), (.bool false), (.int .u32 0)], none⟩,
    ⟨none, .store 4 (.tmp 9) (.tmp 43), none⟩,
    ⟨(some 10), .mov (.tmp 44), none⟩] [6, 7, 8, 10])
  (.seq (.region [⟨(some 45), .mov (.tmp 6), none⟩,
    ⟨(some 46), .bin .eql (.tmp 45) (.const (.int .i64 0)), none⟩,
    ⟨(some 47), .mov (.tmp 46), none⟩,
    ⟨(some 48), .mov (.tmp 8), some (47, true)⟩,
    ⟨(some 49), .bin .eql (.tmp 48) (.const (.int .i64 0)), some (47, true)⟩,
    ⟨(some 50), .pick (.tmp 47) (.tmp 49) (.const (.bool false)), none⟩,
    ⟨(some 51), .mov (.tmp 50), none⟩,
    ⟨(some 52), .field 2 (.tmp 7), some (51, true)⟩,
    ⟨(some 53), .load none (.tmp 52), some (51, true)⟩,
    ⟨(some 54), .pick (.tmp 51) (.tmp 53) (.const (.bool false)), none⟩,
    ⟨(some 55), .mov (.tmp 54), none⟩,
    ⟨(some 56), .field 3 (.tmp 7), some (55, true)⟩,
    ⟨(some 57), .load none (.tmp 56), some (55, true)⟩,
    ⟨(some 58), .bin .eql (.tmp 57) (.const (.int .u32 5)), some (55, true)⟩,
    ⟨(some 59), .pick (.tmp 55) (.tmp 58) (.const (.bool false)), none⟩,
    ⟨(some 60), .mov (.tmp 59), none⟩,
    ⟨(some 61), .field 1 (.tmp 7), some (60, true)⟩,
    ⟨(some 62), .load none (.tmp 61), some (60, true)⟩,
    ⟨(some 63), .un .not (.tmp 62), some (60, true)⟩,
    ⟨(some 64), .pick (.tmp 60) (.tmp 63) (.const (.bool false)), none⟩,
    ⟨(some 65), .mov (.tmp 64), none⟩,
    ⟨(some 66), .mov (.tmp 10), some (65, true)⟩,
    ⟨(some 67), .bin .eql (.tmp 66) (.const (.int .i64 18)), some (65, true)⟩,
    ⟨(some 68), .pick (.tmp 65) (.tmp 67) (.const (.bool false)), none⟩,
    ⟨(some 0), .mov (.tmp 68), none⟩] [0])
  (.ret))))))))))
def cuneiformlaw14_known : AFun := ⟨69, 0, [.tmp 0], cuneiformlaw14_known.body⟩
def cuneiformref01_Same.d0 : List AOper := [⟨(some 17), .mov (.tmp 0), none⟩,
    ⟨(some 18), .mov (.tmp 5), none⟩,
    ⟨(some 19), .idx 1 none (.tmp 17) (.tmp 18), none⟩,
    ⟨(some 20), .load none (.tmp 19), none⟩,
    ⟨(some 21), .mov (.tmp 1), none⟩,
    ⟨(some 22), .mov (.tmp 5), none⟩,
    ⟨(some 23), .idx 1 none (.tmp 21) (.tmp 22), none⟩,
    ⟨(some 24), .load none (.tmp 23), none⟩,
    ⟨(some 25), .bin .neq (.tmp 20) (.tmp 24), none⟩]
def cuneiformref01_Same.d0b : List (List Nat) := [[], [], [0, 1], [0, 1, 2], [], [], [4, 5], [4, 5, 6], [0, 1, 2, 3, 4, 5, 6, 7]]
def cuneiformref01_Same.b1 : ACode := .seq (.seq (.region [⟨(some 11), .mov (.tmp 5), none⟩,
    ⟨(some 12), .mov (.tmp 0), none⟩,
    ⟨(some 13), .len .slice (.tmp 12), none⟩,
    ⟨(some 14), .bin .lss (.tmp 11) (.tmp 13), none⟩] [0, 1, 5, 14])
  (.cond (.tmp 14) (.skip) (.exit 0)))
  (.seq (.block 1 (.seq (.draw cuneiformref01_Same.d0 cuneiformref01_Same.d0b [[0, 1, 2, 3, 4, 5, 6, 7, 8]] [] [0, 1, 5, 25])
  (.cond (.tmp 25) (.seq (.region [⟨(some 4), .mov (.const (.bool false)), none⟩] [4])
  (.ret)) (.skip))))
  (.region [⟨(some 15), .mov (.tmp 5), none⟩,
    ⟨(some 16), .bin .add (.tmp 15) (.const (.int .i64 1)), none⟩,
    ⟨(some 5), .mov (.tmp 16), none⟩] [0, 1, 5]))
def cuneiformref01_Same.body : ACode := .seq (.region [⟨(some 4), .mov (.const (.bool false)), none⟩] [0, 1])
  (.seq (.seq (.region [⟨(some 6), .mov (.tmp 0), none⟩,
    ⟨(some 7), .len .slice (.tmp 6), none⟩,
    ⟨(some 8), .mov (.tmp 1), none⟩,
    ⟨(some 9), .len .slice (.tmp 8), none⟩,
    ⟨(some 10), .bin .neq (.tmp 7) (.tmp 9), none⟩] [0, 1, 10])
  (.cond (.tmp 10) (.seq (.region [⟨(some 4), .mov (.const (.bool false)), none⟩] [4])
  (.ret)) (.skip)))
  (.seq (.seq (.region [⟨(some 5), .mov (.const (.int .i64 0)), none⟩] [0, 1, 5])
  (.block 0 (.loop cuneiformref01_Same.b1)))
  (.seq (.region [⟨(some 4), .mov (.const (.bool true)), none⟩] [4])
  (.ret))))
def cuneiformref01_Same : AFun := ⟨26, 2, [.tmp 4], cuneiformref01_Same.body⟩
def table_Table_Drop.body : ACode := .seq (.region [⟨(some 4), .mov (.const (.bool false)), none⟩] [0, 1])
  (.seq (.seq (.region [⟨(some 6), .mov (.tmp 0), none⟩,
    ⟨(some 7), .eq false .ptr (.tmp 6) (.const .nilp), none⟩,
    ⟨(some 8), .mov (.tmp 7), none⟩,
    ⟨(some 9), .mov (.tmp 0), some (8, false)⟩,
    ⟨(some 10), .nilc (.tmp 9), some (8, false)⟩,
    ⟨(some 11), .field 2 (.tmp 10), some (8, false)⟩,
    ⟨(some 12), .load none (.tmp 11), some (8, false)⟩,
    ⟨(some 13), .mov (.tmp 1), some (8, false)⟩,
    ⟨(some 14), .lookup .int .nilp false (.tmp 12) (.tmp 13), some (8, false)⟩,
    ⟨(some 15), .eq false .ptr (.tmp 14) (.const .nilp), some (8, false)⟩,
    ⟨(some 16), .pick (.tmp 8) (.const (.bool true)) (.tmp 15), none⟩] [0, 1, 16])
  (.cond (.tmp 16) (.seq (.region [⟨(some 4), .mov (.const (.bool false)), none⟩] [4])
  (.ret)) (.skip)))
  (.seq (.region [⟨(some 17), .mov (.tmp 0), none⟩,
    ⟨(some 18), .nilc (.tmp 17), none⟩,
    ⟨(some 19), .field 2 (.tmp 18), none⟩,
    ⟨(some 20), .load none (.tmp 19), none⟩,
    ⟨(some 21), .mov (.tmp 1), none⟩,
    ⟨none, .mapdel .int (.tmp 20) (.tmp 21), none⟩] [0, 1])
  (.seq (.region [⟨(some 22), .mov (.tmp 0), none⟩,
    ⟨(some 23), .nilc (.tmp 22), none⟩,
    ⟨(some 24), .field 1 (.tmp 23), none⟩,
    ⟨(some 25), .load none (.tmp 24), none⟩,
    ⟨(some 26), .mov (.tmp 1), none⟩,
    ⟨(some 27), .call (.const (.fn F.slices_Index_uint32_uint32 [] [])) [(.tmp 25), (.tmp 26)], none⟩,
    ⟨(some 5), .mov (.tmp 27), none⟩] [0, 5])
  (.seq (.region [⟨(some 28), .mov (.tmp 0), none⟩,
    ⟨(some 29), .mov (.tmp 0), none⟩,
    ⟨(some 30), .nilc (.tmp 29), none⟩,
    ⟨(some 31), .field 1 (.tmp 30), none⟩,
    ⟨(some 32), .load none (.tmp 31), none⟩,
    ⟨(some 33), .mov (.tmp 5), none⟩,
    ⟨(some 34), .mov (.tmp 5), none⟩,
    ⟨(some 35), .bin .add (.tmp 34) (.const (.int .i64 1)), none⟩,
    ⟨(some 36), .call (.const (.fn F.slices_Delete_uint32_uint32 [] [])) [(.tmp 32), (.tmp 33), (.tmp 35)], none⟩,
    ⟨(some 37), .nilc (.tmp 28), none⟩,
    ⟨(some 38), .field 1 (.tmp 37), none⟩,
    ⟨none, .store 1 (.tmp 38) (.tmp 36), none⟩] [])
  (.seq (.region [⟨(some 4), .mov (.const (.bool true)), none⟩] [4])
  (.ret))))))
def table_Table_Drop : AFun := ⟨39, 2, [.tmp 4], table_Table_Drop.body⟩
def table_Table_Seqs.body : ACode := .seq (.region [⟨(some 2), .mov (.const .nils), none⟩] [0])
  (.seq (.seq (.region [⟨(some 3), .mov (.tmp 0), none⟩,
    ⟨(some 4), .eq false .ptr (.tmp 3) (.const .nilp), none⟩] [0, 4])
  (.cond (.tmp 4) (.seq (.region [⟨(some 2), .mov (.const .nils), none⟩] [2])
  (.ret)) (.skip)))
  (.seq (.region [⟨(some 5), .mov (.tmp 0), none⟩,
    ⟨(some 6), .nilc (.tmp 5), none⟩,
    ⟨(some 7), .field 1 (.tmp 6), none⟩,
    ⟨(some 8), .load none (.tmp 7), none⟩,
    ⟨(some 9), .call (.const (.fn F.slices_Clone_uint32_uint32 [] [])) [(.tmp 8)], none⟩,
    ⟨(some 2), .mov (.tmp 9), none⟩] [2])
  (.ret)))
def table_Table_Seqs : AFun := ⟨10, 1, [.tmp 2], table_Table_Seqs.body⟩
def table_Table_Held.d0 : List AOper := [⟨(some 10), .load none (.tmp 3), none⟩,
    ⟨(some 11), .mov (.tmp 5), none⟩,
    ⟨(some 12), .call (.const (.fn F.slot_Slot_Size [] [])) [(.tmp 11)], none⟩,
    ⟨(some 13), .bin .add (.tmp 10) (.tmp 12), none⟩,
    ⟨none, .store 1 (.tmp 3) (.tmp 13), none⟩]
def table_Table_Held.d0b : List (List Nat) := [[], [], [1], [0, 1, 2], [0, 1, 2, 3]]
def table_Table_Held.a1 : ACode := .region [⟨(some 5), .mov (.tmp 9), none⟩] [3, 5]
def table_Table_Held.b1 : ACode := .block 1 (.draw table_Table_Held.d0 table_Table_Held.d0b [[0, 1, 2, 3, 4]] [(2, 0)] [])
def table_Table_Held.body : ACode := .seq (.region [⟨(some 2), .mov (.const (.int .i64 0)), none⟩] [0, 2])
  (.seq (.region [⟨(some 3), .alloc T.int [(.int .i64 0)], none⟩,
    ⟨none, .store 1 (.tmp 3) (.const (.int .i64 0)), none⟩] [0, 2, 3])
  (.seq (.seq (.region [⟨(some 6), .mov (.tmp 0), none⟩,
    ⟨(some 7), .call (.const (.fn F.table_Table_each [] [])) [(.tmp 6)], none⟩] [2, 3, 7])
  (.block 0 (.range (.tmp 7) [8, 9] table_Table_Held.a1 table_Table_Held.b1)))
  (.seq (.region [⟨(some 14), .load none (.tmp 3), none⟩,
    ⟨(some 2), .mov (.tmp 14), none⟩] [2])
  (.ret))))
def table_Table_Held : AFun := ⟨15, 1, [.tmp 2], table_Table_Held.body⟩
def table_Table_Len.body : ACode := .seq (.region [⟨(some 2), .mov (.const (.int .i64 0)), none⟩] [0])
  (.seq (.seq (.region [⟨(some 3), .mov (.tmp 0), none⟩,
    ⟨(some 4), .eq false .ptr (.tmp 3) (.const .nilp), none⟩] [0, 4])
  (.cond (.tmp 4) (.seq (.region [⟨(some 2), .mov (.const (.int .i64 0)), none⟩] [2])
  (.ret)) (.skip)))
  (.seq (.region [⟨(some 5), .mov (.tmp 0), none⟩,
    ⟨(some 6), .nilc (.tmp 5), none⟩,
    ⟨(some 7), .field 1 (.tmp 6), none⟩,
    ⟨(some 8), .load none (.tmp 7), none⟩,
    ⟨(some 9), .len .slice (.tmp 8), none⟩,
    ⟨(some 2), .mov (.tmp 9), none⟩] [2])
  (.ret)))
def table_Table_Len : AFun := ⟨10, 1, [.tmp 2], table_Table_Len.body⟩
def cuneiformlaw14_seqs.d0 : List AOper := [⟨(some 17), .mov (.tmp 0), none⟩,
    ⟨(some 18), .mov (.tmp 5), none⟩,
    ⟨(some 19), .idx 1 none (.tmp 17) (.tmp 18), none⟩,
    ⟨(some 20), .load none (.tmp 19), none⟩,
    ⟨(some 21), .mov (.tmp 1), none⟩,
    ⟨(some 22), .mov (.tmp 5), none⟩,
    ⟨(some 23), .idx 1 none (.tmp 21) (.tmp 22), none⟩,
    ⟨(some 24), .load none (.tmp 23), none⟩,
    ⟨(some 25), .bin .neq (.tmp 20) (.tmp 24), none⟩]
def cuneiformlaw14_seqs.d0b : List (List Nat) := [[], [], [0, 1], [0, 1, 2], [], [], [4, 5], [4, 5, 6], [0, 1, 2, 3, 4, 5, 6, 7]]
def cuneiformlaw14_seqs.b1 : ACode := .seq (.seq (.region [⟨(some 11), .mov (.tmp 5), none⟩,
    ⟨(some 12), .mov (.tmp 0), none⟩,
    ⟨(some 13), .len .slice (.tmp 12), none⟩,
    ⟨(some 14), .bin .lss (.tmp 11) (.tmp 13), none⟩] [0, 1, 5, 14])
  (.cond (.tmp 14) (.skip) (.exit 0)))
  (.seq (.block 1 (.seq (.draw cuneiformlaw14_seqs.d0 cuneiformlaw14_seqs.d0b [[0, 1, 2, 3, 4, 5, 6, 7, 8]] [] [0, 1, 5, 25])
  (.cond (.tmp 25) (.seq (.region [⟨(some 4), .mov (.const (.bool false)), none⟩] [4])
  (.ret)) (.skip))))
  (.region [⟨(some 15), .mov (.tmp 5), none⟩,
    ⟨(some 16), .bin .add (.tmp 15) (.const (.int .i64 1)), none⟩,
    ⟨(some 5), .mov (.tmp 16), none⟩] [0, 1, 5]))
def cuneiformlaw14_seqs.body : ACode := .seq (.region [⟨(some 4), .mov (.const (.bool false)), none⟩] [0, 1])
  (.seq (.seq (.region [⟨(some 6), .mov (.tmp 0), none⟩,
    ⟨(some 7), .len .slice (.tmp 6), none⟩,
    ⟨(some 8), .mov (.tmp 1), none⟩,
    ⟨(some 9), .len .slice (.tmp 8), none⟩,
    ⟨(some 10), .bin .neq (.tmp 7) (.tmp 9), none⟩] [0, 1, 10])
  (.cond (.tmp 10) (.seq (.region [⟨(some 4), .mov (.const (.bool false)), none⟩] [4])
  (.ret)) (.skip)))
  (.seq (.seq (.region [⟨(some 5), .mov (.const (.int .i64 0)), none⟩] [0, 1, 5])
  (.block 0 (.loop cuneiformlaw14_seqs.b1)))
  (.seq (.region [⟨(some 4), .mov (.const (.bool true)), none⟩] [4])
  (.ret))))
def cuneiformlaw14_seqs : AFun := ⟨26, 2, [.tmp 4], cuneiformlaw14_seqs.body⟩
def table_Table_All.body : ACode := .seq (.region [⟨(some 1), .box T.p_table_Table (.tmp 0), none⟩,
    ⟨(some 2), .mov (.const .nilf), none⟩] [1])
  (.seq (.region [⟨(some 3), .mkfn F.table_Table_All_1 [] [(.tmp 1)], none⟩,
    ⟨(some 2), .mov (.tmp 3), none⟩] [2])
  (.ret))
def table_Table_All : AFun := ⟨4, 1, [.tmp 2], table_Table_All.body⟩
def cuneiformlaw14_Outs.body : ACode := .seq (.region [⟨(some 2), .box T.table_Out (.tmp 0), none⟩,
    ⟨(some 3), .box T.cuneiformref14_Out (.tmp 1), none⟩,
    ⟨(some 4), .mov (.const (.bool false)), none⟩] [2, 3])
  (.seq (.region [⟨(some 5), .field 0 (.tmp 2), none⟩,
    ⟨(some 6), .load none (.tmp 5), none⟩,
    ⟨(some 7), .field 0 (.tmp 3), none⟩,
    ⟨(some 8), .load none (.tmp 7), none⟩,
    ⟨(some 9), .call (.const (.fn F.cuneiformref01_Same [] [])) [(.tmp 6), (.tmp 8)], none⟩,
    ⟨(some 10), .mov (.tmp 9), none⟩,
    ⟨(some 11), .field 1 (.tmp 2), some (10, true)⟩,
    ⟨(some 12), .load none (.tmp 11), some (10, true)⟩,
    ⟨(some 13), .field 1 (.tmp 3), some (10, true)⟩,
    ⟨(some 14), .load none (.tmp 13), some (10, true)⟩,
    ⟨(some 15), .eq false .bool (.tmp 12) (.tmp 14), some (10, true)⟩,
    ⟨(some 16), .pick (.tmp 10) (.tmp 15) (.const (.bool false)), none⟩,
    ⟨(some 17), .mov (.tmp 16), none⟩,
    ⟨(some 18), .field 2 (.tmp 2), some (17, true)⟩,
    ⟨(some 19), .load none (.tmp 18), some (17, true)⟩,
    ⟨(some 20), .field 2 (.tmp 3), some (17, true)⟩,
    ⟨(some 21), .load none (.tmp 20), some (17, true)⟩,
    ⟨(some 22), .eq false .bool (.tmp 19) (.tmp 21), some (17, true)⟩,
    ⟨(some 23), .pick (.tmp 17) (.tmp 22) (.const (.bool false)), none⟩,
    ⟨(some 24), .mov (.tmp 23), none⟩,
    ⟨(some 25), .field 3 (.tmp 2), some (24, true)⟩,
    ⟨(some 26), .load none (.tmp 25), some (24, true)⟩,
    ⟨(some 27), .field 3 (.tmp 3), some (24, true)⟩,
    ⟨(some 28), .load none (.tmp 27), some (24, true)⟩,
    ⟨(some 29), .bin .eql (.tmp 26) (.tmp 28), some (24, true)⟩,
    ⟨(some 30), .pick (.tmp 24) (.tmp 29) (.const (.bool false)), none⟩,
    ⟨(some 4), .mov (.tmp 30), none⟩] [4])
  (.ret))
def cuneiformlaw14_Outs : AFun := ⟨31, 2, [.tmp 4], cuneiformlaw14_Outs.body⟩
def table_Table_Room.body : ACode := .seq (.region [⟨(some 2), .mov (.const (.int .i64 0)), none⟩] [0])
  (.seq (.seq (.region [⟨(some 3), .mov (.tmp 0), none⟩,
    ⟨(some 4), .eq false .ptr (.tmp 3) (.const .nilp), none⟩] [0, 4])
  (.cond (.tmp 4) (.seq (.region [⟨(some 2), .mov (.const (.int .i64 0)), none⟩] [2])
  (.ret)) (.skip)))
  (.seq (.region [⟨(some 5), .mov (.tmp 0), none⟩,
    ⟨(some 6), .nilc (.tmp 5), none⟩,
    ⟨(some 7), .field 0 (.tmp 6), none⟩,
    ⟨(some 8), .load none (.tmp 7), none⟩,
    ⟨(some 2), .mov (.tmp 8), none⟩] [2])
  (.ret)))
def table_Table_Room : AFun := ⟨9, 1, [.tmp 2], table_Table_Room.body⟩
def table_Table_Copy.d0 : List AOper := [⟨(some 8), .mov (.tmp 0), none⟩,
    ⟨(some 9), .nilc (.tmp 8), none⟩,
    ⟨(some 10), .field 0 (.tmp 9), none⟩,
    ⟨(some 11), .load none (.tmp 10), none⟩,
    ⟨(some 12), .mov (.tmp 0), none⟩,
    ⟨(some 13), .call (.const (.fn F.table_Table_Seqs [] [])) [(.tmp 12)], none⟩,
    ⟨(some 14), .mkmap, none⟩,
    ⟨(some 15), .build [(.int .i64 0), .nils, .nilm] [(0, 1, (.tmp 11)), (1, 1, (.tmp 13)), (2, 1, (.tmp 14))], none⟩,
    ⟨(some 16), .box T.table_Table (.tmp 15), none⟩,
    ⟨(some 3), .alloc T.p_table_Table [.nilp], none⟩,
    ⟨none, .store 1 (.tmp 3) (.tmp 16), none⟩]
def table_Table_Copy.d0b : List (List Nat) := [[], [0], [0, 1], [0, 1, 2], [], [4], [], [0, 1, 2, 3, 4, 5, 6], [0, 1, 2, 3, 4, 5, 6, 7], [], [0, 1, 2, 3, 4, 5, 6, 7, 8, 9]]
def table_Table_Copy.a1 : ACode := .seq (.region [⟨(some 4), .mov (.tmp 19), none⟩] [3, 4, 20])
  (.region [⟨(some 5), .mov (.tmp 20), none⟩] [3, 4, 5])
def table_Table_Copy.b1 : ACode := .block 1 (.region [⟨(some 21), .load none (.tmp 3), none⟩,
    ⟨(some 22), .nilc (.tmp 21), none⟩,
    ⟨(some 23), .field 2 (.tmp 22), none⟩,
    ⟨(some 24), .load none (.tmp 23), none⟩,
    ⟨(some 25), .mov (.tmp 4), none⟩,
    ⟨(some 26), .mov (.tmp 5), none⟩,
    ⟨none, .mapset .int (.tmp 24) (.tmp 25) (.tmp 26), none⟩] [])
def table_Table_Copy.body : ACode := .seq (.region [⟨(some 2), .mov (.const .nilp), none⟩] [0, 2])
  (.seq (.seq (.region [⟨(some 6), .mov (.tmp 0), none⟩,
    ⟨(some 7), .eq false .ptr (.tmp 6) (.const .nilp), none⟩] [0, 2, 7])
  (.cond (.tmp 7) (.seq (.region [⟨(some 2), .mov (.const .nilp), none⟩] [2])
  (.ret)) (.skip)))
  (.seq (.draw table_Table_Copy.d0 table_Table_Copy.d0b [[0, 1, 2, 3, 4, 5, 6, 7, 8, 9, 10], [0, 1, 2, 3, 4, 5, 6, 7, 9, 8, 10], [0, 1, 2, 3, 4, 5, 9, 6, 7, 8, 10], [0, 1, 2, 3, 4, 6, 5, 7, 8, 9, 10], [0, 1, 2, 3, 4, 6, 5, 7, 9, 8, 10], [0, 1, 2, 3, 4, 6, 9, 5, 7, 8, 10], [0, 1, 2, 3, 4, 9, 5, 6, 7, 8, 10], [0, 1, 2, 3, 4, 9, 6, 5, 7, 8, 10]] [(5, 3), (6, 3), (9, 3)] [0, 2, 3])
  (.seq (.seq (.region [⟨(some 17), .mov (.tmp 0), none⟩,
    ⟨(some 18), .call (.const (.fn F.table_Table_All [] [])) [(.tmp 17)], none⟩] [2, 3, 18])
  (.block 0 (.range (.tmp 18) [19, 20] table_Table_Copy.a1 table_Table_Copy.b1)))
  (.seq (.region [⟨(some 27), .load none (.tmp 3), none⟩,
    ⟨(some 2), .mov (.tmp 27), none⟩] [2])
  (.ret)))))
def table_Table_Copy : AFun := ⟨28, 1, [.tmp 2], table_Table_Copy.body⟩
def cuneiformref14_Put.d0 : List AOper := [⟨(some 18), .load (some 2) (.tmp 2), none⟩,
    ⟨(some 19), .build [.nils, (.bool false), (.bool false), (.int .u32 0)] [], none⟩,
    ⟨(some 20), .field 0 (.tmp 3), none⟩,
    ⟨(some 21), .load (some 5) (.tmp 20), none⟩,
    ⟨(some 22), .call (.const (.fn F.cuneiformref07_Check [] [])) [(.tmp 21)], none⟩,
    ⟨none, .store 2 (.tmp 4) (.tmp 18), none⟩,
    ⟨none, .store 4 (.tmp 5) (.tmp 19), none⟩,
    ⟨(some 6), .mov (.tmp 22), none⟩]
def cuneiformref14_Put.d0b : List (List Nat) := [[], [], [], [2], [2, 3], [0, 2, 3, 4], [0, 1, 2, 3, 4, 5], [0, 1, 2, 3, 4, 5, 6]]
def cuneiformref14_Put.d1 : List AOper := [⟨(some 69), .lit T.cuneiformref13_S 6 0 [] [], none⟩,
    ⟨(some 70), .field 1 (.tmp 2), none⟩,
    ⟨(some 71), .load none (.tmp 70), none⟩,
    ⟨(some 72), .append T.cuneiformref13_S 6 64 (.tmp 69) (.tmp 71), none⟩,
    ⟨(some 73), .field 0 (.tmp 3), none⟩,
    ⟨(some 74), .load (some 5) (.tmp 73), none⟩,
    ⟨(some 75), .call (.const (.fn F.cuneiformref13_New [] [])) [(.tmp 74)], none⟩,
    ⟨(some 76), .lit T.cuneiformref13_S 6 1 [(.int .i64 0), (.int .i64 0), (.int .u32 0), (.int .i64 0), (.int .i64 0), .nils] [(0, 6, (.tmp 75))], none⟩,
    ⟨(some 77), .append T.cuneiformref13_S 6 64 (.tmp 72) (.tmp 76), none⟩,
    ⟨(some 78), .field 1 (.tmp 2), none⟩,
    ⟨none, .store 1 (.tmp 78) (.tmp 77), none⟩]
def cuneiformref14_Put.d1b : List (List Nat) := [[], [], [1], [0, 1, 2], [], [4], [0, 1, 2, 3, 4, 5], [0, 1, 2, 3, 4, 5, 6], [0, 1, 2, 3, 4, 5, 6, 7], [0, 1, 2, 3, 4, 5, 6, 7, 8], [0, 1, 2, 3, 4, 5, 6, 7, 8, 9]]
def cuneiformref14_Put.d2 : List AOper := [⟨(some 84), .field 1 (.tmp 2), none⟩,
    ⟨(some 85), .load none (.tmp 84), none⟩,
    ⟨(some 86), .mov (.tmp 9), none⟩,
    ⟨(some 87), .idx 6 none (.tmp 85) (.tmp 86), none⟩,
    ⟨(some 88), .load (some 6) (.tmp 87), none⟩,
    ⟨(some 89), .load (some 6) (.tmp 3), none⟩,
    ⟨(some 90), .call (.const (.fn F.cuneiformref13_Put [] [])) [(.tmp 88), (.tmp 89)], none⟩,
    ⟨(some 83), .mov (.tmp 90), none⟩,
    ⟨(some 91), .extract (.tmp 83) 0, none⟩,
    ⟨(some 92), .extract (.tmp 83) 1, none⟩,
    ⟨(some 12), .alloc T.cuneiformref13_S [(.int .i64 0), (.int .i64 0), (.int .u32 0), (.int .i64 0), (.int .i64 0), .nils], none⟩,
    ⟨none, .store 6 (.tmp 12) (.tmp 91), none⟩,
    ⟨(some 13), .mov (.tmp 92), none⟩]
def cuneiformref14_Put.d2b : List (List Nat) := [[], [0], [], [0, 1, 2], [0, 1, 2, 3], [], [0, 1, 2, 3, 4, 5], [0, 1, 2, 3, 4, 5, 6], [0, 1, 2, 3, 4, 5, 6, 7], [0, 1, 2, 3, 4, 5, 6, 7], [], [0, 1, 2, 3, 4, 5, 6, 7, 8, 10], [0, 1, 2, 3, 4, 5, 6, 7, 8, 9, 10, 11]]
def cuneiformref14_Put.d3 : List AOper := [⟨(some 119), .load (some 2) (.tmp 2), none⟩,
    ⟨(some 120), .load (some 4) (.tmp 8), none⟩,
    ⟨none, .store 2 (.tmp 4) (.tmp 119), none⟩,
    ⟨none, .store 4 (.tmp 5) (.tmp 120), none⟩,
    ⟨(some 6), .mov (.const (.int .i64 0)), none⟩]
def cuneiformref14_Put.d3b : List (List Nat) := [[], [], [0], [0, 1, 2], [0, 1, 2, 3]]
def cuneiformref14_Put.body : ACode := .seq (.region [⟨(some 2), .box T.cuneiformref14_T (.tmp 0), none⟩,
    ⟨(some 3), .box T.cuneiformref08_F (.tmp 1), none⟩,
    ⟨(some 4), .alloc T.cuneiformref14_T [(.int .i64 0), .nils], none⟩,
    ⟨(some 5), .alloc T.cuneiformref14_Out [.nils, (.bool false), (.bool false), (.int .u32 0)], none⟩,
    ⟨(some 6), .mov (.const (.int .i64 0)), none⟩] [2, 3, 4, 5])
  (.seq (.seq (.region [⟨(some 14), .field 0 (.tmp 3), none⟩,
    ⟨(some 15), .load (some 5) (.tmp 14), none⟩,
    ⟨(some 16), .call (.const (.fn F.cuneiformref07_Check [] [])) [(.tmp 15)], none⟩,
    ⟨(some 17), .bin .neq (.tmp 16) (.const (.int .i64 0)), none⟩] [2, 3, 4, 5, 17])
  (.cond (.tmp 17) (.seq (.draw cuneiformref14_Put.d0 cuneiformref14_Put.d0b [[0, 1, 2, 3, 4, 5, 6, 7]] [(4, 0)] [4, 5, 6])
  (.ret)) (.skip)))
  (.seq (.seq (.region [⟨(some 23), .field 5 (.tmp 3), none⟩,
    ⟨(some 24), .load none (.tmp 23), none⟩,
    ⟨(some 25), .len .slice (.tmp 24), none⟩,
    ⟨(some 26), .bin .eql (.tmp 25) (.const (.int .i64 0)), none⟩] [2, 3, 4, 5, 26])
  (.cond (.tmp 26) (.seq (.region [⟨(some 27), .load (some 2) (.tmp 2), none⟩,
    ⟨(some 28), .build [.nils, (.bool false), (.bool false), (.int .u32 0)] [], none⟩,
    ⟨none, .store 2 (.tmp 4) (.tmp 27), none⟩,
    ⟨none, .store 4 (.tmp 5) (.tmp 28), none⟩,
    ⟨(some 6), .mov (.const (.int .i64 13)), none⟩] [4, 5, 6])
  (.ret)) (.skip)))
  (.seq (.region [⟨(some 29), .load (some 2) (.tmp 2), none⟩,
    ⟨(some 7), .alloc T.cuneiformref14_T [(.int .i64 0), .nils], none⟩,
    ⟨none, .store 2 (.tmp 7) (.tmp 29), none⟩] [2, 3, 4, 5, 7])
  (.seq (.region [⟨(some 8), .alloc T.cuneiformref14_Out [.nils, (.bool false), (.bool false), (.int .u32 0)], none⟩] [2, 3, 4, 5, 7, 8])
  (.seq (.region [⟨(some 30), .load (some 2) (.tmp 2), none⟩,
    ⟨(some 31), .field 0 (.tmp 3), none⟩,
    ⟨(some 32), .field 2 (.tmp 31), none⟩,
    ⟨(some 33), .load none (.tmp 32), none⟩,
    ⟨(some 34), .call (.const (.fn F.cuneiformref14_find [] [])) [(.tmp 30), (.tmp 33)], none⟩,
    ⟨(some 9), .mov (.tmp 34), none⟩] [2, 3, 4, 5, 7, 8, 9])
  (.seq (.seq (.region [⟨(some 35), .mov (.tmp 9), none⟩,
    ⟨(some 36), .bin .lss (.tmp 35) (.const (.int .i64 0)), none⟩] [2, 3, 4, 5, 7, 8, 9, 36])
  (.cond (.tmp 36) (.seq (.seq (.region [⟨(some 37), .field 5 (.tmp 3), none⟩,
    ⟨(some 38), .load none (.tmp 37), none⟩,
    ⟨(some 39), .len .slice (.tmp 38), none⟩,
    ⟨(some 40), .bin .gtr (.tmp 39) (.const (.int .i64 192)), none⟩] [2, 3, 4, 5, 7, 8, 40])
  (.cond (.tmp 40) (.seq (.region [⟨(some 41), .load (some 2) (.tmp 2), none⟩,
    ⟨(some 42), .build [.nils, (.bool false), (.bool false), (.int .u32 0)] [], none⟩,
    ⟨none, .store 2 (.tmp 4) (.tmp 41), none⟩,
    ⟨none, .store 4 (.tmp 5) (.tmp 42), none⟩,
    ⟨(some 6), .mov (.const (.int .i64 6)), none⟩] [4, 5, 6])
  (.ret)) (.skip)))
  (.seq (.seq (.region [⟨(some 43), .field 1 (.tmp 2), none⟩,
    ⟨(some 44), .load none (.tmp 43), none⟩,
    ⟨(some 45), .len .slice (.tmp 44), none⟩,
    ⟨(some 46), .field 0 (.tmp 2), none⟩,
    ⟨(some 47), .load none (.tmp 46), none⟩,
    ⟨(some 48), .bin .eql (.tmp 45) (.tmp 47), none⟩] [2, 3, 4, 5, 7, 8, 48])
  (.cond (.tmp 48) (.seq (.region [⟨(some 50), .load (some 2) (.tmp 2), none⟩,
    ⟨(some 51), .call (.const (.fn F.cuneiformref14_Seqs [] [])) [(.tmp 50)], none⟩,
    ⟨(some 52), .call (.const (.fn F.cuneiformref10_Best [] [])) [(.tmp 51), (.const (.bool false))], none⟩,
    ⟨(some 49), .mov (.tmp 52), none⟩,
    ⟨(some 53), .extract (.tmp 49) 0, none⟩,
    ⟨(some 54), .extract (.tmp 49) 1, none⟩,
    ⟨(some 10), .mov (.tmp 53), none⟩,
    ⟨(some 11), .mov (.tmp 54), none⟩] [2, 3, 4, 5, 7, 8, 10])
  (.seq (.seq (.region [⟨(some 55), .field 0 (.tmp 3), none⟩,
    ⟨(some 56), .field 2 (.tmp 55), none⟩,
    ⟨(some 57), .load none (.tmp 56), none⟩,
    ⟨(some 58), .mov (.tmp 10), none⟩,
    ⟨(some 59), .call (.const (.fn F.cuneiformref10_After [] [])) [(.tmp 57), (.tmp 58)], none⟩,
    ⟨(some 60), .un .not (.tmp 59), none⟩] [2, 3, 4, 5, 7, 8, 10, 60])
  (.cond (.tmp 60) (.seq (.region [⟨(some 61), .load (some 2) (.tmp 2), none⟩,
    ⟨(some 62), .build [.nils, (.bool false), (.bool false), (.int .u32 0)] [], none⟩,
    ⟨none, .store 2 (.tmp 4) (.tmp 61), none⟩,
    ⟨none, .store 4 (.tmp 5) (.tmp 62), none⟩,
    ⟨(some 6), .mov (.const (.int .i64 18)), none⟩] [4, 5, 6])
  (.ret)) (.skip)))
  (.seq (.region [⟨(some 63), .load (some 2) (.tmp 2), none⟩,
    ⟨(some 64), .mov (.tmp 10), none⟩,
    ⟨(some 65), .call (.const (.fn F.cuneiformref14_Drop [] [])) [(.tmp 63), (.tmp 64)], none⟩,
    ⟨none, .store 2 (.tmp 2) (.tmp 65), none⟩] [2, 3, 4, 5, 7, 8, 10])
  (.region [⟨(some 66), .mov (.tmp 10), none⟩,
    ⟨(some 67), .field 2 (.tmp 8), none⟩,
    ⟨none, .store 1 (.tmp 67) (.const (.bool true)), none⟩,
    ⟨(some 68), .field 3 (.tmp 8), none⟩,
    ⟨none, .store 1 (.tmp 68) (.tmp 66), none⟩] [2, 3, 4, 5, 7, 8])))) (.skip)))
  (.seq (.draw cuneiformref14_Put.d1 cuneiformref14_Put.d1b [[1, 2, 4, 5, 0, 3, 6, 7, 8, 9, 10]] [(0, 2), (0, 5), (3, 5)] [2, 3, 4, 5, 7, 8])
  (.region [⟨(some 79), .field 1 (.tmp 2), none⟩,
    ⟨(some 80), .load none (.tmp 79), none⟩,
    ⟨(some 81), .len .slice (.tmp 80), none⟩,
    ⟨(some 82), .bin .sub (.tmp 81) (.const (.int .i64 1)), none⟩,
    ⟨(some 9), .mov (.tmp 82), none⟩] [2, 3, 4, 5, 7, 8, 9])))) (.skip)))
  (.seq (.draw cuneiformref14_Put.d2 cuneiformref14_Put.d2b [[0, 1, 2, 3, 4, 5, 6, 7, 8, 9, 10, 11, 12], [0, 1, 2, 3, 4, 5, 10, 6, 7, 8, 9, 11, 12]] [(10, 1), (10, 3), (10, 4), (10, 5)] [2, 3, 4, 5, 7, 8, 9, 12, 13])
  (.seq (.seq (.region [⟨(some 93), .mov (.tmp 13), none⟩,
    ⟨(some 94), .bin .neq (.tmp 93) (.const (.int .i64 0)), none⟩] [2, 3, 4, 5, 7, 8, 9, 12, 13, 94])
  (.cond (.tmp 94) (.seq (.region [⟨(some 95), .load (some 2) (.tmp 7), none⟩,
    ⟨(some 96), .build [.nils, (.bool false), (.bool false), (.int .u32 0)] [], none⟩,
    ⟨(some 97), .mov (.tmp 13), none⟩,
    ⟨none, .store 2 (.tmp 4) (.tmp 95), none⟩,
    ⟨none, .store 4 (.tmp 5) (.tmp 96), none⟩,
    ⟨(some 6), .mov (.tmp 97), none⟩] [4, 5, 6])
  (.ret)) (.skip)))
  (.seq (.region [⟨(some 98), .lit T.cuneiformref13_S 6 0 [] [], none⟩,
    ⟨(some 99), .field 1 (.tmp 2), none⟩,
    ⟨(some 100), .load none (.tmp 99), none⟩,
    ⟨(some 101), .append T.cuneiformref13_S 6 64 (.tmp 98) (.tmp 100), none⟩,
    ⟨(some 102), .field 1 (.tmp 2), none⟩,
    ⟨none, .store 1 (.tmp 102) (.tmp 101), none⟩] [2, 3, 4, 5, 8, 9, 12])
  (.seq (.region [⟨(some 103), .field 1 (.tmp 2), none⟩,
    ⟨(some 104), .load none (.tmp 103), none⟩,
    ⟨(some 105), .mov (.tmp 9), none⟩,
    ⟨(some 106), .load (some 6) (.tmp 12), none⟩,
    ⟨(some 107), .idx 6 none (.tmp 104) (.tmp 105), none⟩,
    ⟨none, .store 6 (.tmp 107) (.tmp 106), none⟩] [2, 3, 4, 5, 8, 12])
  (.seq (.seq (.region [⟨(some 108), .load (some 6) (.tmp 12), none⟩,
    ⟨(some 109), .call (.const (.fn F.cuneiformref13_Full [] [])) [(.tmp 108)], none⟩] [2, 3, 4, 5, 8, 12, 109])
  (.cond (.tmp 109) (.seq (.region [⟨(some 110), .load (some 6) (.tmp 12), none⟩,
    ⟨(some 111), .call (.const (.fn F.cuneiformref13_Bytes [] [])) [(.tmp 110)], none⟩,
    ⟨(some 112), .field 0 (.tmp 8), none⟩,
    ⟨none, .store 1 (.tmp 112) (.tmp 111), none⟩,
    ⟨(some 113), .field 1 (.tmp 8), none⟩,
    ⟨none, .store 1 (.tmp 113) (.const (.bool true)), none⟩] [2, 3, 4, 5, 8])
  (.region [⟨(some 114), .load (some 2) (.tmp 2), none⟩,
    ⟨(some 115), .field 0 (.tmp 3), none⟩,
    ⟨(some 116), .field 2 (.tmp 115), none⟩,
    ⟨(some 117), .load none (.tmp 116), none⟩,
    ⟨(some 118), .call (.const (.fn F.cuneiformref14_Drop [] [])) [(.tmp 114), (.tmp 117)], none⟩,
    ⟨none, .store 2 (.tmp 2) (.tmp 118), none⟩] [2, 4, 5, 8])) (.skip)))
  (.seq (.draw cuneiformref14_Put.d3 cuneiformref14_Put.d3b [[0, 1, 2, 3, 4]] [(2, 1)] [4, 5, 6])
  (.ret)))))))))))))
def cuneiformref14_Put : AFun := ⟨121, 2, [.cell 4 (some 2), .cell 5 (some 4), .tmp 6], cuneiformref14_Put.body⟩
def cuneiformlaw08_Of.body : ACode := .seq (.region [⟨(some 1), .box T.frame_Frame (.tmp 0), none⟩,
    ⟨(some 2), .alloc T.cuneiformref08_F [(.int .i64 0), (.int .i64 0), (.int .u32 0), (.int .i64 0), (.int .i64 0), .nils], none⟩] [1, 2])
  (.seq (.region [⟨(some 3), .field 0 (.tmp 1), none⟩,
    ⟨(some 4), .load (some 5) (.tmp 3), none⟩,
    ⟨(some 5), .field 5 (.tmp 1), none⟩,
    ⟨(some 6), .load none (.tmp 5), none⟩,
    ⟨(some 7), .build [(.int .i64 0), (.int .i64 0), (.int .u32 0), (.int .i64 0), (.int .i64 0), .nils] [(0, 5, (.tmp 4)), (5, 1, (.tmp 6))], none⟩,
    ⟨none, .store 6 (.tmp 2) (.tmp 7), none⟩] [2])
  (.ret))
def cuneiformlaw08_Of : AFun := ⟨8, 1, [.cell 2 (some 6)], cuneiformlaw08_Of.body⟩
def cuneiformref14_Drop.b0 : ACode := .seq (.seq (.region [⟨(some 7), .mov (.tmp 6), none⟩,
    ⟨(some 8), .field 1 (.tmp 2), none⟩,
    ⟨(some 9), .load none (.tmp 8), none⟩,
    ⟨(some 10), .len .slice (.tmp 9), none⟩,
    ⟨(some 11), .bin .lss (.tmp 7) (.tmp 10), none⟩] [1, 2, 4, 5, 6, 11])
  (.cond (.tmp 11) (.skip) (.exit 0)))
  (.seq (.block 1 (.seq (.region [⟨(some 14), .field 1 (.tmp 2), none⟩,
    ⟨(some 15), .load none (.tmp 14), none⟩,
    ⟨(some 16), .mov (.tmp 6), none⟩,
    ⟨(some 17), .idx 6 none (.tmp 15) (.tmp 16), none⟩,
    ⟨(some 18), .field 0 (.tmp 17), none⟩,
    ⟨(some 19), .field 2 (.tmp 18), none⟩,
    ⟨(some 20), .load none (.tmp 19), none⟩,
    ⟨(some 21), .mov (.tmp 1), none⟩,
    ⟨(some 22), .bin .neq (.tmp 20) (.tmp 21), none⟩] [1, 2, 4, 5, 6, 22])
  (.cond (.tmp 22) (.region [⟨(some 23), .mov (.tmp 5), none⟩,
    ⟨(some 24), .field 1 (.tmp 2), none⟩,
    ⟨(some 25), .load none (.tmp 24), none⟩,
    ⟨(some 26), .mov (.tmp 6), none⟩,
    ⟨(some 27), .idx 6 none (.tmp 25) (.tmp 26), none⟩,
    ⟨(some 28), .load (some 6) (.tmp 27), none⟩,
    ⟨(some 29), .lit T.cuneiformref13_S 6 1 [(.int .i64 0), (.int .i64 0), (.int .u32 0), (.int .i64 0), (.int .i64 0), .nils] [(0, 6, (.tmp 28))], none⟩,
    ⟨(some 30), .append T.cuneiformref13_S 6 64 (.tmp 23) (.tmp 29), none⟩,
    ⟨(some 5), .mov (.tmp 30), none⟩] [1, 2, 4, 5, 6]) (.skip))))
  (.region [⟨(some 12), .mov (.tmp 6), none⟩,
    ⟨(some 13), .bin .add (.tmp 12) (.const (.int .i64 1)), none⟩,
    ⟨(some 6), .mov (.tmp 13), none⟩] [1, 2, 4, 5, 6]))
def cuneiformref14_Drop.body : ACode := .seq (.region [⟨(some 2), .box T.cuneiformref14_T (.tmp 0), none⟩,
    ⟨(some 4), .alloc T.cuneiformref14_T [(.int .i64 0), .nils], none⟩] [1, 2, 4])
  (.seq (.region [⟨(some 5), .mov (.const .nils), none⟩] [1, 2, 4, 5])
  (.seq (.seq (.region [⟨(some 6), .mov (.const (.int .i64 0)), none⟩] [1, 2, 4, 5, 6])
  (.block 0 (.loop cuneiformref14_Drop.b0)))
  (.seq (.region [⟨(some 31), .mov (.tmp 5), none⟩,
    ⟨(some 32), .field 1 (.tmp 2), none⟩,
    ⟨none, .store 1 (.tmp 32) (.tmp 31), none⟩] [2, 4])
  (.seq (.region [⟨(some 33), .load (some 2) (.tmp 2), none⟩,
    ⟨none, .store 2 (.tmp 4) (.tmp 33), none⟩] [4])
  (.ret)))))
def cuneiformref14_Drop : AFun := ⟨34, 2, [.cell 4 (some 2)], cuneiformref14_Drop.body⟩
def cuneiformlaw14_Alike.d0 : List AOper := [⟨(some 10), .mov (.tmp 0), none⟩,
    ⟨(some 11), .call (.const (.fn F.table_Table_Seqs [] [])) [(.tmp 10)], none⟩,
    ⟨(some 12), .load (some 2) (.tmp 3), none⟩,
    ⟨(some 13), .call (.const (.fn F.cuneiformref14_Seqs [] [])) [(.tmp 12)], none⟩,
    ⟨(some 14), .call (.const (.fn F.cuneiformlaw14_seqs [] [])) [(.tmp 11), (.tmp 13)], none⟩,
    ⟨(some 15), .un .not (.tmp 14), none⟩,
    ⟨(some 16), .mov (.tmp 15), none⟩,
    ⟨(some 17), .mov (.tmp 0), some (16, false)⟩,
    ⟨(some 18), .call (.const (.fn F.table_Table_Held [] [])) [(.tmp 17)], some (16, false)⟩,
    ⟨(some 19), .load (some 2) (.tmp 3), some (16, false)⟩,
    ⟨(some 20), .call (.const (.fn F.cuneiformref14_Held [] [])) [(.tmp 19)], some (16, false)⟩,
    ⟨(some 21), .bin .neq (.tmp 18) (.tmp 20), some (16, false)⟩,
    ⟨(some 22), .pick (.tmp 16) (.const (.bool true)) (.tmp 21), none⟩,
    ⟨(some 23), .mov (.tmp 22), none⟩,
    ⟨(some 24), .mov (.tmp 0), some (23, false)⟩,
    ⟨(some 25), .call (.const (.fn F.table_Table_Len [] [])) [(.tmp 24)], some (23, false)⟩,
    ⟨(some 26), .field 1 (.tmp 3), some (23, false)⟩,
    ⟨(some 27), .load none (.tmp 26), some (23, false)⟩,
    ⟨(some 28), .len .slice (.tmp 27), some (23, false)⟩,
    ⟨(some 29), .bin .neq (.tmp 25) (.tmp 28), some (23, false)⟩,
    ⟨(some 30), .pick (.tmp 23) (.const (.bool true)) (.tmp 29), none⟩,
    ⟨(some 31), .mov (.tmp 30), none⟩,
    ⟨(some 32), .mov (.tmp 0), some (31, false)⟩,
    ⟨(some 33), .call (.const (.fn F.table_Table_Room [] [])) [(.tmp 32)], some (31, false)⟩,
    ⟨(some 34), .field 0 (.tmp 3), some (31, false)⟩,
    ⟨(some 35), .load none (.tmp 34), some (31, false)⟩,
    ⟨(some 36), .bin .neq (.tmp 33) (.tmp 35), some (31, false)⟩,
    ⟨(some 37), .pick (.tmp 31) (.const (.bool true)) (.tmp 36), none⟩]
def cuneiformlaw14_Alike.d0b : List (List Nat) := [[], [0], [], [0, 1, 2], [0, 1, 2, 3], [0, 1, 2, 3, 4], [0, 1, 2, 3, 4, 5], [0, 1, 2, 3, 4, 5, 6], [0, 1, 2, 3, 4, 5, 6, 7], [0, 1, 2, 3, 4, 5, 6], [0, 1, 2, 3, 4, 5, 6, 7, 8, 9], [0, 1, 2, 3, 4, 5, 6, 7, 8, 9, 10], [0, 1, 2, 3, 4, 5, 6, 7, 8, 9, 10, 11], [0, 1, 2, 3, 4, 5, 6, 7, 8, 9, 10, 11, 12], [0, 1, 2, 3, 4, 5, 6, 7, 8, 9, 10, 11, 12, 13], [0, 1, 2, 3, 4, 5, 6, 7, 8, 9, 10, 11, 12, 13, 14], [0, 1, 2, 3, 4, 5, 6, 7, 8, 9, 10, 11, 12, 13], [0, 1, 2, 3, 4, 5, 6, 7, 8, 9, 10, 11, 12, 13, 16], [0, 1, 2, 3, 4, 5, 6, 7, 8, 9, 10, 11, 12, 13, 16, 17], [0, 1, 2, 3, 4, 5, 6, 7, 8, 9, 10, 11, 12, 13, 14, 15, 16, 17, 18], [0, 1, 2, 3, 4, 5, 6, 7, 8, 9, 10, 11, 12, 13, 14, 15, 16, 17, 18, 19], [0, 1, 2, 3, 4, 5, 6, 7, 8, 9, 10, 11, 12, 13, 14, 15, 16, 17, 18, 19, 20], [0, 1, 2, 3, 4, 5, 6, 7, 8, 9, 10, 11, 12, 13, 14, 15, 16, 17, 18, 19, 20, 21], [0, 1, 2, 3, 4, 5, 6, 7, 8, 9, 10, 11, 12, 13, 14, 15, 16, 17, 18, 19, 20, 21, 22], [0, 1, 2, 3, 4, 5, 6, 7, 8, 9, 10, 11, 12, 13, 14, 15, 16, 17, 18, 19, 20, 21], [0, 1, 2, 3, 4, 5, 6, 7, 8, 9, 10, 11, 12, 13, 14, 15, 16, 17, 18, 19, 20, 21, 24], [0, 1, 2, 3, 4, 5, 6, 7, 8, 9, 10, 11, 12, 13, 14, 15, 16, 17, 18, 19, 20, 21, 22, 23, 24, 25], [0, 1, 2, 3, 4, 5, 6, 7, 8, 9, 10, 11, 12, 13, 14, 15, 16, 17, 18, 19, 20, 21, 22, 23, 24, 25, 26]]
def cuneiformlaw14_Alike.a1 : ACode := .seq (.region [⟨(some 8), .mov (.tmp 43), none⟩] [3, 5, 6, 8, 44])
  (.region [⟨(some 9), .mov (.tmp 44), none⟩] [3, 5, 6, 8, 9])
def cuneiformlaw14_Alike.b1 : ACode := .block 1 (.seq (.region [⟨(some 45), .load none (.tmp 6), none⟩,
    ⟨(some 46), .mov (.tmp 45), none⟩,
    ⟨(some 47), .load none (.tmp 5), some (46, true)⟩,
    ⟨(some 48), .field 1 (.tmp 3), some (46, true)⟩,
    ⟨(some 49), .load none (.tmp 48), some (46, true)⟩,
    ⟨(some 50), .len .slice (.tmp 49), some (46, true)⟩,
    ⟨(some 51), .bin .lss (.tmp 47) (.tmp 50), some (46, true)⟩,
    ⟨(some 52), .pick (.tmp 46) (.tmp 51) (.const (.bool false)), none⟩,
    ⟨(some 53), .mov (.tmp 52), none⟩,
    ⟨(some 54), .mov (.tmp 8), some (53, true)⟩,
    ⟨(some 55), .field 1 (.tmp 3), some (53, true)⟩,
    ⟨(some 56), .load none (.tmp 55), some (53, true)⟩,
    ⟨(some 57), .load none (.tmp 5), some (53, true)⟩,
    ⟨(some 58), .idx 6 none (.tmp 56) (.tmp 57), some (53, true)⟩,
    ⟨(some 59), .field 0 (.tmp 58), some (53, true)⟩,
    ⟨(some 60), .field 2 (.tmp 59), some (53, true)⟩,
    ⟨(some 61), .load none (.tmp 60), some (53, true)⟩,
    ⟨(some 62), .bin .eql (.tmp 54) (.tmp 61), some (53, true)⟩,
    ⟨(some 63), .pick (.tmp 53) (.tmp 62) (.const (.bool false)), none⟩,
    ⟨(some 64), .mov (.tmp 63), none⟩,
    ⟨(some 65), .mov (.tmp 9), some (64, true)⟩,
    ⟨(some 66), .field 1 (.tmp 3), some (64, true)⟩,
    ⟨(some 67), .load none (.tmp 66), some (64, true)⟩,
    ⟨(some 68), .load none (.tmp 5), some (64, true)⟩,
    ⟨(some 69), .idx 6 none (.tmp 67) (.tmp 68), some (64, true)⟩,
    ⟨(some 70), .load (some 6) (.tmp 69), some (64, true)⟩,
    ⟨(some 71), .call (.const (.fn F.cuneiformlaw13_Alike [] [])) [(.tmp 65), (.tmp 70)], some (64, true)⟩,
    ⟨(some 72), .pick (.tmp 64) (.tmp 71) (.const (.bool false)), none⟩,
    ⟨none, .store 1 (.tmp 6) (.tmp 72), none⟩] [5])
  (.region [⟨(some 73), .load none (.tmp 5), none⟩,
    ⟨(some 74), .bin .add (.tmp 73) (.const (.int .i64 1)), none⟩,
    ⟨none, .store 1 (.tmp 5) (.tmp 74), none⟩] []))
def cuneiformlaw14_Alike.body : ACode := .seq (.region [⟨(some 3), .box T.cuneiformref14_T (.tmp 1), none⟩,
    ⟨(some 4), .mov (.const (.bool false)), none⟩] [0, 3, 4])
  (.seq (.seq (.draw cuneiformlaw14_Alike.d0 cuneiformlaw14_Alike.d0b [[0, 2, 1, 3, 4, 5, 6, 7, 9, 8, 10, 11, 12, 13, 14, 16, 17, 18, 15, 19, 20, 21, 22, 24, 25, 23, 26, 27]] [(1, 2), (8, 9), (15, 17), (23, 25)] [0, 3, 4, 37])
  (.cond (.tmp 37) (.seq (.region [⟨(some 4), .mov (.const (.bool false)), none⟩] [4])
  (.ret)) (.skip)))
  (.seq (.region [⟨(some 5), .alloc T.int [(.int .i64 0)], none⟩,
    ⟨(some 6), .alloc T.bool [(.bool false)], none⟩,
    ⟨none, .store 1 (.tmp 5) (.const (.int .i64 0)), none⟩,
    ⟨none, .store 1 (.tmp 6) (.const (.bool true)), none⟩] [0, 3, 4, 5, 6])
  (.seq (.region [⟨(some 38), .mov (.tmp 0), none⟩,
    ⟨(some 39), .call (.const (.fn F.table_Table_All [] [])) [(.tmp 38)], none⟩,
    ⟨(some 7), .mov (.tmp 39), none⟩] [3, 4, 5, 6, 7])
  (.seq (.seq (.region [⟨(some 40), .mov (.tmp 7), none⟩,
    ⟨(some 41), .eq false .func (.tmp 40) (.const .nilf), none⟩] [3, 4, 5, 6, 7, 41])
  (.cond (.tmp 41) (.seq (.region [⟨(some 4), .mov (.const (.bool false)), none⟩] [4])
  (.ret)) (.skip)))
  (.seq (.seq (.region [⟨(some 42), .mov (.tmp 7), none⟩] [3, 4, 5, 6, 42])
  (.block 0 (.range (.tmp 42) [43, 44] cuneiformlaw14_Alike.a1 cuneiformlaw14_Alike.b1)))
  (.seq (.region [⟨(some 75), .load none (.tmp 6), none⟩,
    ⟨(some 76), .mov (.tmp 75), none⟩,
    ⟨(some 77), .load none (.tmp 5), some (76, true)⟩,
    ⟨(some 78), .field 1 (.tmp 3), some (76, true)⟩,
    ⟨(some 79), .load none (.tmp 78), some (76, true)⟩,
    ⟨(some 80), .len .slice (.tmp 79), some (76, true)⟩,
    ⟨(some 81), .bin .eql (.tmp 77) (.tmp 80), some (76, true)⟩,
    ⟨(some 82), .pick (.tmp 76) (.tmp 81) (.const (.bool false)), none⟩,
    ⟨(some 4), .mov (.tmp 82), none⟩] [4])
  (.ret)))))))
def cuneiformlaw14_Alike : AFun := ⟨83, 2, [.tmp 4], cuneiformlaw14_Alike.body⟩
def head_Check.a0 : ACode := .seq (.region [⟨(some 4), .mov (.tmp 8), none⟩] [3, 4, 9])
  (.region [⟨(some 5), .mov (.tmp 9), none⟩] [3, 4, 5])
def head_Check.b0 : ACode := .block 1 (.seq (.region [⟨(some 10), .mov (.tmp 5), none⟩] [3, 4, 10])
  (.cond (.tmp 10) (.seq (.region [⟨(some 11), .mov (.tmp 4), none⟩,
    ⟨none, .store 1 (.tmp 3) (.tmp 11), none⟩] [])
  (.exit 0)) (.skip)))
def head_Check.body : ACode := .seq (.region [⟨(some 1), .box T.head_Head (.tmp 0), none⟩,
    ⟨(some 2), .mov (.const (.int .i64 0)), none⟩] [1, 2])
  (.scope (.seq (.region [⟨(some 3), .alloc T.api_Errno [(.int .i64 0)], none⟩,
    ⟨none, .store 1 (.tmp 3) (.const (.int .i64 0)), none⟩] [1, 2, 3])
  (.seq (.skip)
  (.seq (.seq (.region [⟨(some 6), .load (some 5) (.tmp 1), none⟩,
    ⟨(some 7), .call (.const (.fn F.head_wrong [] [])) [(.tmp 6)], none⟩] [2, 3, 7])
  (.block 0 (.range (.tmp 7) [8, 9] head_Check.a0 head_Check.b0)))
  (.seq (.region [⟨(some 12), .load none (.tmp 3), none⟩,
    ⟨(some 2), .mov (.tmp 12), none⟩] [2])
  (.ret))))))
def head_Check : AFun := ⟨13, 1, [.tmp 2], head_Check.body⟩
def table_Table_fresh.d0 : List AOper := [⟨(some 11), .mov (.tmp 0), none⟩,
    ⟨(some 12), .nilc (.tmp 11), none⟩,
    ⟨(some 13), .field 1 (.tmp 12), none⟩,
    ⟨(some 14), .load none (.tmp 13), none⟩,
    ⟨(some 15), .len .slice (.tmp 14), none⟩,
    ⟨(some 16), .mov (.tmp 0), none⟩,
    ⟨(some 17), .nilc (.tmp 16), none⟩,
    ⟨(some 18), .field 0 (.tmp 17), none⟩,
    ⟨(some 19), .load none (.tmp 18), none⟩,
    ⟨(some 20), .bin .geq (.tmp 15) (.tmp 19), none⟩]
def table_Table_fresh.d0b : List (List Nat) := [[], [0], [0, 1], [0, 1, 2], [0, 1, 2, 3], [], [5], [5, 6], [5, 6, 7], [0, 1, 2, 3, 4, 5, 6, 7, 8]]
def table_Table_fresh.d1 : List AOper := [⟨(some 45), .mov (.tmp 0), none⟩,
    ⟨(some 46), .nilc (.tmp 45), none⟩,
    ⟨(some 47), .field 2 (.tmp 46), none⟩,
    ⟨(some 48), .load none (.tmp 47), none⟩,
    ⟨(some 49), .field 2 (.tmp 3), none⟩,
    ⟨(some 50), .load none (.tmp 49), none⟩,
    ⟨(some 51), .mov (.tmp 9), none⟩,
    ⟨none, .mapset .int (.tmp 48) (.tmp 50) (.tmp 51), none⟩]
def table_Table_fresh.d1b : List (List Nat) := [[], [0], [0, 1], [0, 1, 2], [], [4], [], [0, 1, 2, 3, 4, 5, 6]]
def table_Table_fresh.d2 : List AOper := [⟨(some 52), .mov (.tmp 0), none⟩,
    ⟨(some 53), .mov (.tmp 0), none⟩,
    ⟨(some 54), .nilc (.tmp 53), none⟩,
    ⟨(some 55), .field 1 (.tmp 54), none⟩,
    ⟨(some 56), .load none (.tmp 55), none⟩,
    ⟨(some 57), .field 2 (.tmp 3), none⟩,
    ⟨(some 58), .load none (.tmp 57), none⟩,
    ⟨(some 59), .lit T.uint32 1 1 [(.int .u32 0)] [(0, 1, (.tmp 58))], none⟩,
    ⟨(some 60), .append T.uint32 1 4 (.tmp 56) (.tmp 59), none⟩,
    ⟨(some 61), .nilc (.tmp 52), none⟩,
    ⟨(some 62), .field 1 (.tmp 61), none⟩,
    ⟨none, .store 1 (.tmp 62) (.tmp 60), none⟩]
def table_Table_fresh.d2b : List (List Nat) := [[], [], [1], [1, 2], [1, 2, 3], [], [5], [5, 6], [1, 2, 3, 4, 5, 6, 7], [0, 1, 2, 3, 4, 5, 6, 7, 8], [0, 1, 2, 3, 4, 5, 6, 7, 8, 9], [0, 1, 2, 3, 4, 5, 6, 7, 8, 9, 10]]
def table_Table_fresh.body : ACode := .seq (.region [⟨(some 3), .box T.head_Head (.tmp 1), none⟩,
    ⟨(some 4), .alloc T.table_Out [.nils, (.bool false), (.bool false), (.int .u32 0)], none⟩,
    ⟨(some 5), .mov (.const (.int .i64 0)), none⟩] [0, 3, 4])
  (.seq (.region [⟨(some 6), .alloc T.table_Out [.nils, (.bool false), (.bool false), (.int .u32 0)], none⟩] [0, 3, 4, 6])
  (.seq (.seq (.draw table_Table_fresh.d0 table_Table_fresh.d0b [[0, 1, 2, 3, 4, 5, 6, 7, 8, 9]] [] [0, 3, 4, 6, 20])
  (.cond (.tmp 20) (.seq (.region [⟨(some 22), .mov (.tmp 0), none⟩,
    ⟨(some 23), .nilc (.tmp 22), none⟩,
    ⟨(some 24), .field 1 (.tmp 23), none⟩,
    ⟨(some 25), .load none (.tmp 24), none⟩,
    ⟨(some 26), .call (.const (.fn F.serial_Oldest [] [])) [(.tmp 25)], none⟩,
    ⟨(some 21), .mov (.tmp 26), none⟩,
    ⟨(some 27), .extract (.tmp 21) 0, none⟩,
    ⟨(some 28), .extract (.tmp 21) 1, none⟩,
    ⟨(some 7), .mov (.tmp 27), none⟩,
    ⟨(some 8), .mov (.tmp 28), none⟩] [0, 3, 4, 6, 7])
  (.seq (.seq (.region [⟨(some 29), .field 2 (.tmp 3), none⟩,
    ⟨(some 30), .load none (.tmp 29), none⟩,
    ⟨(some 31), .mov (.tmp 7), none⟩,
    ⟨(some 32), .call (.const (.fn F.serial_After [] [])) [(.tmp 30), (.tmp 31)], none⟩,
    ⟨(some 33), .un .not (.tmp 32), none⟩] [0, 3, 4, 6, 7, 33])
  (.cond (.tmp 33) (.seq (.region [⟨(some 34), .build [.nils, (.bool false), (.bool false), (.int .u32 0)] [], none⟩,
    ⟨none, .store 4 (.tmp 4) (.tmp 34), none⟩,
    ⟨(some 5), .mov (.const (.int .i64 18)), none⟩] [4, 5])
  (.ret)) (.skip)))
  (.seq (.region [⟨(some 35), .mov (.tmp 0), none⟩,
    ⟨(some 36), .mov (.tmp 7), none⟩,
    ⟨(some 37), .call (.const (.fn F.table_Table_Drop [] [])) [(.tmp 35), (.tmp 36)], none⟩] [0, 3, 4, 6, 7])
  (.region [⟨(some 38), .mov (.tmp 7), none⟩,
    ⟨(some 39), .build [.nils, (.bool false), (.bool false), (.int .u32 0)] [(2, 1, (.const (.bool true))), (3, 1, (.tmp 38))], none⟩,
    ⟨none, .store 4 (.tmp 6) (.tmp 39), none⟩] [0, 3, 4, 6])))) (.skip)))
  (.seq (.region [⟨(some 41), .load (some 5) (.tmp 3), none⟩,
    ⟨(some 42), .call (.const (.fn F.slot_New [] [])) [(.tmp 41)], none⟩,
    ⟨(some 40), .mov (.tmp 42), none⟩,
    ⟨(some 43), .extract (.tmp 40) 0, none⟩,
    ⟨(some 44), .extract (.tmp 40) 1, none⟩,
    ⟨(some 9), .mov (.tmp 43), none⟩,
    ⟨(some 10), .mov (.tmp 44), none⟩] [0, 3, 4, 6, 9, 10])
  (.seq (.draw table_Table_fresh.d1 table_Table_fresh.d1b [[0, 1, 2, 3, 4, 5, 6, 7]] [] [0, 3, 4, 6, 10])
  (.seq (.draw table_Table_fresh.d2 table_Table_fresh.d2b [[0, 1, 2, 3, 4, 5, 6, 7, 8, 9, 10, 11]] [(7, 4)] [4, 6, 10])
  (.seq (.region [⟨(some 63), .load (some 4) (.tmp 6), none⟩,
    ⟨(some 64), .mov (.tmp 10), none⟩,
    ⟨none, .store 4 (.tmp 4) (.tmp 63), none⟩,
    ⟨(some 5), .mov (.tmp 64), none⟩] [4, 5])
  (.ret)))))))
def table_Table_fresh : AFun := ⟨65, 2, [.cell 4 (some 4), .tmp 5], table_Table_fresh.body⟩
def slot_Slot_Put.d0 : List AOper := [⟨(some 10), .mov (.tmp 0), none⟩,
    ⟨(some 11), .nilc (.tmp 10), none⟩,
    ⟨(some 12), .field 5 (.tmp 11), none⟩,
    ⟨(some 13), .load none (.tmp 12), none⟩,
    ⟨(some 14), .field 0 (.tmp 3), none⟩,
    ⟨(some 15), .field 3 (.tmp 14), none⟩,
    ⟨(some 16), .load none (.tmp 15), none⟩,
    ⟨(some 17), .lookup .int .nils true (.tmp 13) (.tmp 16), none⟩,
    ⟨(some 9), .mov (.tmp 17), none⟩,
    ⟨(some 18), .extract (.tmp 9) 0, none⟩,
    ⟨(some 19), .extract (.tmp 9) 1, none⟩,
    ⟨(some 5), .mov (.tmp 18), none⟩,
    ⟨(some 6), .mov (.tmp 19), none⟩]
def slot_Slot_Put.d0b : List (List Nat) := [[], [0], [0, 1], [0, 1, 2], [], [4], [4, 5], [0, 1, 2, 3, 4, 5, 6], [0, 1, 2, 3, 4, 5, 6, 7], [0, 1, 2, 3, 4, 5, 6, 7, 8], [0, 1, 2, 3, 4, 5, 6, 7, 8], [0, 1, 2, 3, 4, 5, 6, 7, 8, 9], [0, 1, 2, 3, 4, 5, 6, 7, 8, 9, 10, 11]]
def slot_Slot_Put.d1 : List AOper := [⟨(some 21), .field 0 (.tmp 3), none⟩,
    ⟨(some 22), .load (some 5) (.tmp 21), none⟩,
    ⟨(some 23), .mov (.tmp 0), none⟩,
    ⟨(some 24), .nilc (.tmp 23), none⟩,
    ⟨(some 25), .field 0 (.tmp 24), none⟩,
    ⟨(some 26), .field 0 (.tmp 25), none⟩,
    ⟨(some 27), .load (some 5) (.tmp 26), none⟩,
    ⟨(some 28), .call (.const (.fn F.head_Mates [] [])) [(.tmp 22), (.tmp 27)], none⟩,
    ⟨(some 29), .un .not (.tmp 28), none⟩,
    ⟨(some 20), .mov (.tmp 29), none⟩]
def slot_Slot_Put.d1b : List (List Nat) := [[], [0], [], [2], [2, 3], [2, 3, 4], [2, 3, 4, 5], [0, 1, 2, 3, 4, 5, 6], [0, 1, 2, 3, 4, 5, 6, 7], [0, 1, 2, 3, 4, 5, 6, 7, 8]]
def slot_Slot_Put.d2 : List AOper := [⟨(some 31), .field 0 (.tmp 3), none⟩,
    ⟨(some 32), .field 3 (.tmp 31), none⟩,
    ⟨(some 33), .load none (.tmp 32), none⟩,
    ⟨(some 34), .bin .lss (.tmp 33) (.const (.int .i64 0)), none⟩,
    ⟨(some 35), .mov (.tmp 34), none⟩,
    ⟨(some 36), .field 0 (.tmp 3), some (35, false)⟩,
    ⟨(some 37), .field 3 (.tmp 36), some (35, false)⟩,
    ⟨(some 38), .load none (.tmp 37), some (35, false)⟩,
    ⟨(some 39), .mov (.tmp 0), some (35, false)⟩,
    ⟨(some 40), .nilc (.tmp 39), some (35, false)⟩,
    ⟨(some 41), .field 0 (.tmp 40), some (35, false)⟩,
    ⟨(some 42), .field 0 (.tmp 41), some (35, false)⟩,
    ⟨(some 43), .field 4 (.tmp 42), some (35, false)⟩,
    ⟨(some 44), .load none (.tmp 43), some (35, false)⟩,
    ⟨(some 45), .bin .geq (.tmp 38) (.tmp 44), some (35, false)⟩,
    ⟨(some 46), .pick (.tmp 35) (.const (.bool true)) (.tmp 45), none⟩,
    ⟨(some 30), .mov (.tmp 46), none⟩]
def slot_Slot_Put.d2b : List (List Nat) := [[], [0], [0, 1], [0, 1, 2], [0, 1, 2, 3], [0, 1, 2, 3, 4], [0, 1, 2, 3, 4, 5], [0, 1, 2, 3, 4, 5, 6], [0, 1, 2, 3, 4], [0, 1, 2, 3, 4, 8], [0, 1, 2, 3, 4, 8, 9], [0, 1, 2, 3, 4, 8, 9, 10], [0, 1, 2, 3, 4, 8, 9, 10, 11], [0, 1, 2, 3, 4, 8, 9, 10, 11, 12], [0, 1, 2, 3, 4, 5, 6, 7, 8, 9, 10, 11, 12, 13], [0, 1, 2, 3, 4, 5, 6, 7, 8, 9, 10, 11, 12, 13, 14], [0, 1, 2, 3, 4, 5, 6, 7, 8, 9, 10, 11, 12, 13, 14, 15]]
def slot_Slot_Put.d3 : List AOper := [⟨(some 55), .field 5 (.tmp 3), none⟩,
    ⟨(some 56), .load none (.tmp 55), none⟩,
    ⟨(some 57), .len .slice (.tmp 56), none⟩,
    ⟨(some 58), .mov (.tmp 0), none⟩,
    ⟨(some 59), .nilc (.tmp 58), none⟩,
    ⟨(some 60), .field 6 (.tmp 59), none⟩,
    ⟨(some 61), .load none (.tmp 60), none⟩,
    ⟨(some 62), .bin .sub (.const (.int .i64 192)) (.tmp 61), none⟩,
    ⟨(some 63), .bin .gtr (.tmp 57) (.tmp 62), none⟩,
    ⟨(some 54), .mov (.tmp 63), none⟩]
def slot_Slot_Put.d3b : List (List Nat) := [[], [0], [0, 1], [], [3], [3, 4], [3, 4, 5], [3, 4, 5, 6], [0, 1, 2, 3, 4, 5, 6, 7], [0, 1, 2, 3, 4, 5, 6, 7, 8]]
def slot_Slot_Put.d4 : List AOper := [⟨(some 64), .mov (.tmp 0), none⟩,
    ⟨(some 65), .nilc (.tmp 64), none⟩,
    ⟨(some 66), .field 5 (.tmp 65), none⟩,
    ⟨(some 67), .load none (.tmp 66), none⟩,
    ⟨(some 68), .field 0 (.tmp 3), none⟩,
    ⟨(some 69), .field 3 (.tmp 68), none⟩,
    ⟨(some 70), .load none (.tmp 69), none⟩,
    ⟨(some 71), .lit T.uint8 1 0 [] [], none⟩,
    ⟨(some 72), .field 5 (.tmp 3), none⟩,
    ⟨(some 73), .load none (.tmp 72), none⟩,
    ⟨(some 74), .append T.uint8 1 1 (.tmp 71) (.tmp 73), none⟩,
    ⟨none, .mapset .int (.tmp 67) (.tmp 70) (.tmp 74), none⟩]
def slot_Slot_Put.d4b : List (List Nat) := [[], [0], [0, 1], [0, 1, 2], [], [4], [4, 5], [], [], [8], [7, 8, 9], [0, 1, 2, 3, 4, 5, 6, 7, 8, 9, 10]]
def slot_Slot_Put.d5 : List AOper := [⟨(some 75), .mov (.tmp 0), none⟩,
    ⟨(some 76), .nilc (.tmp 75), none⟩,
    ⟨(some 77), .field 6 (.tmp 76), none⟩,
    ⟨(some 78), .load none (.tmp 77), none⟩,
    ⟨(some 79), .field 5 (.tmp 3), none⟩,
    ⟨(some 80), .load none (.tmp 79), none⟩,
    ⟨(some 81), .len .slice (.tmp 80), none⟩,
    ⟨(some 82), .bin .add (.tmp 78) (.tmp 81), none⟩,
    ⟨(some 83), .nilc (.tmp 75), none⟩,
    ⟨(some 84), .field 6 (.tmp 83), none⟩,
    ⟨none, .store 1 (.tmp 84) (.tmp 82), none⟩]
def slot_Slot_Put.d5b : List (List Nat) := [[], [0], [0, 1], [0, 1, 2], [], [4], [4, 5], [0, 1, 2, 3, 4, 5, 6], [0, 1, 2, 3, 4, 5, 6, 7], [0, 1, 2, 3, 4, 5, 6, 7, 8], [0, 1, 2, 3, 4, 5, 6, 7, 8, 9]]
def slot_Slot_Put.body : ACode := .seq (.region [⟨(some 3), .box T.frame_Frame (.tmp 1), none⟩,
    ⟨(some 4), .mov (.const (.int .i64 0)), none⟩] [0, 3])
  (.seq (.seq (.region [⟨(some 7), .mov (.tmp 0), none⟩,
    ⟨(some 8), .eq false .ptr (.tmp 7) (.const .nilp), none⟩] [0, 3, 8])
  (.cond (.tmp 8) (.seq (.region [⟨(some 4), .mov (.const (.int .i64 1)), none⟩] [4])
  (.ret)) (.skip)))
  (.seq (.draw slot_Slot_Put.d0 slot_Slot_Put.d0b [[0, 1, 2, 3, 4, 5, 6, 7, 8, 9, 10, 11, 12]] [] [0, 3, 6])
  (.seq (.block 0 (.seq (.draw slot_Slot_Put.d1 slot_Slot_Put.d1b [[0, 1, 2, 3, 4, 5, 6, 7, 8, 9]] [] [0, 3, 6, 20])
  (.cond (.tmp 20) (.seq (.region [⟨(some 4), .mov (.const (.int .i64 17)), none⟩] [4])
  (.ret)) (.seq (.draw slot_Slot_Put.d2 slot_Slot_Put.d2b [[0, 1, 2, 3, 4, 5, 6, 7, 8, 9, 10, 11, 12, 13, 14, 15, 16]] [] [0, 3, 6, 30])
  (.cond (.tmp 30) (.seq (.region [⟨(some 4), .mov (.const (.int .i64 3)), none⟩] [4])
  (.ret)) (.seq (.region [⟨(some 48), .field 5 (.tmp 3), none⟩,
    ⟨(some 49), .load none (.tmp 48), none⟩,
    ⟨(some 50), .len .slice (.tmp 49), none⟩,
    ⟨(some 51), .bin .eql (.tmp 50) (.const (.int .i64 0)), none⟩,
    ⟨(some 47), .mov (.tmp 51), none⟩] [0, 3, 6, 47])
  (.cond (.tmp 47) (.seq (.region [⟨(some 4), .mov (.const (.int .i64 13)), none⟩] [4])
  (.ret)) (.seq (.region [⟨(some 53), .mov (.tmp 6), none⟩,
    ⟨(some 52), .mov (.tmp 53), none⟩] [0, 3, 52])
  (.cond (.tmp 52) (.seq (.region [⟨(some 4), .mov (.const (.int .i64 16)), none⟩] [4])
  (.ret)) (.seq (.draw slot_Slot_Put.d3 slot_Slot_Put.d3b [[0, 1, 2, 3, 4, 5, 6, 7, 8, 9]] [] [0, 3, 54])
  (.cond (.tmp 54) (.seq (.region [⟨(some 4), .mov (.const (.int .i64 6)), none⟩] [4])
  (.ret)) (.skip))))))))))))
  (.seq (.draw slot_Slot_Put.d4 slot_Slot_Put.d4b [[0, 1, 2, 3, 4, 5, 6, 8, 9, 7, 10, 11]] [(7, 3), (7, 6), (7, 9), (10, 3), (10, 6)] [0, 3])
  (.seq (.draw slot_Slot_Put.d5 slot_Slot_Put.d5b [[0, 1, 2, 3, 4, 5, 6, 7, 8, 9, 10]] [] [])
  (.seq (.region [⟨(some 4), .mov (.const (.int .i64 0)), none⟩] [4])
  (.ret)))))))
def slot_Slot_Put : AFun := ⟨85, 2, [.tmp 4], slot_Slot_Put.body⟩
def slot_Slot_Bytes.b0 : ACode := .seq (.region [⟨(some 16), .bin .lss (.tmp 15) (.tmp 14), none⟩] [0, 4, 14, 15, 16])
  (.seq (.cond (.tmp 16) (.skip) (.exit 0))
  (.seq (.block 1 (.seq (.region [⟨(some 17), .mov (.tmp 15), none⟩,
    ⟨(some 5), .mov (.tmp 17), none⟩] [0, 4, 5, 14, 15])
  (.region [⟨(some 18), .mov (.tmp 4), none⟩,
    ⟨(some 19), .mov (.tmp 0), none⟩,
    ⟨(some 20), .nilc (.tmp 19), none⟩,
    ⟨(some 21), .field 5 (.tmp 20), none⟩,
    ⟨(some 22), .load none (.tmp 21), none⟩,
    ⟨(some 23), .mov (.tmp 5), none⟩,
    ⟨(some 24), .lookup .int .nils false (.tmp 22) (.tmp 23), none⟩,
    ⟨(some 25), .append T.uint8 1 1 (.tmp 18) (.tmp 24), none⟩,
    ⟨(some 4), .mov (.tmp 25), none⟩] [0, 4, 14, 15])))
  (.region [⟨(some 26), .bin .add (.tmp 15) (.const (.int .i64 1)), none⟩,
    ⟨(some 15), .mov (.tmp 26), none⟩] [0, 4, 14, 15])))
def slot_Slot_Bytes.body : ACode := .seq (.region [⟨(some 2), .mov (.const .nils), none⟩,
    ⟨(some 3), .mov (.const (.bool false)), none⟩] [0])
  (.seq (.seq (.region [⟨(some 6), .mov (.tmp 0), none⟩,
    ⟨(some 7), .call (.const (.fn F.slot_Slot_Full [] [])) [(.tmp 6)], none⟩,
    ⟨(some 8), .un .not (.tmp 7), none⟩] [0, 8])
  (.cond (.tmp 8) (.seq (.region [⟨(some 2), .mov (.const .nils), none⟩,
    ⟨(some 3), .mov (.const (.bool false)), none⟩] [2, 3])
  (.ret)) (.skip)))
  (.seq (.region [⟨(some 4), .mov (.const .nils), none⟩] [0, 4])
  (.seq (.seq (.region [⟨(some 9), .mov (.tmp 0), none⟩,
    ⟨(some 10), .nilc (.tmp 9), none⟩,
    ⟨(some 11), .field 0 (.tmp 10), none⟩,
    ⟨(some 12), .field 0 (.tmp 11), none⟩,
    ⟨(some 13), .field 4 (.tmp 12), none⟩,
    ⟨(some 14), .load none (.tmp 13), none⟩,
    ⟨(some 15), .mov (.const (.int .i64 0)), none⟩] [0, 4, 14, 15])
  (.block 0 (.loop slot_Slot_Bytes.b0)))
  (.seq (.region [⟨(some 27), .mov (.tmp 4), none⟩,
    ⟨(some 2), .mov (.tmp 27), none⟩,
    ⟨(some 3), .mov (.const (.bool true)), none⟩] [2, 3])
  (.ret)))))
def slot_Slot_Bytes : AFun := ⟨28, 1, [.tmp 2, .tmp 3], slot_Slot_Bytes.body⟩
def cut_Count.body : ACode := .seq (.region [⟨(some 4), .mov (.const (.int .i64 0)), none⟩] [0, 1])
  (.seq (.block 0 (.seq (.region [⟨(some 6), .mov (.tmp 1), none⟩,
    ⟨(some 7), .bin .lss (.tmp 6) (.const (.int .i64 1)), none⟩,
    ⟨(some 5), .mov (.tmp 7), none⟩] [0, 1, 5])
  (.cond (.tmp 5) (.seq (.region [⟨(some 4), .mov (.const (.int .i64 0)), none⟩] [4])
  (.ret)) (.seq (.region [⟨(some 9), .mov (.tmp 0), none⟩,
    ⟨(some 10), .bin .lss (.tmp 9) (.const (.int .i64 1)), none⟩,
    ⟨(some 8), .mov (.tmp 10), none⟩] [0, 1, 8])
  (.cond (.tmp 8) (.seq (.region [⟨(some 4), .mov (.const (.int .i64 1)), none⟩] [4])
  (.ret)) (.skip))))))
  (.seq (.region [⟨(some 11), .mov (.tmp 0), none⟩,
    ⟨(some 12), .bin .sub (.tmp 11) (.const (.int .i64 1)), none⟩,
    ⟨(some 13), .mov (.tmp 1), none⟩,
    ⟨(some 14), .bin .quo (.tmp 12) (.tmp 13), none⟩,
    ⟨(some 15), .bin .add (.tmp 14) (.const (.int .i64 1)), none⟩,
    ⟨(some 4), .mov (.tmp 15), none⟩] [4])
  (.ret)))
def cut_Count : AFun := ⟨16, 2, [.tmp 4], cut_Count.body⟩
def cut_Parts.body : ACode := .seq (.region [⟨(some 2), .box T.sl_uint8 (.tmp 0), none⟩,
    ⟨(some 3), .box T.int (.tmp 1), none⟩,
    ⟨(some 4), .mov (.const .nilf), none⟩] [2, 3])
  (.seq (.region [⟨(some 5), .mkfn F.cut_Parts_1 [] [(.tmp 2), (.tmp 3)], none⟩,
    ⟨(some 4), .mov (.tmp 5), none⟩] [4])
  (.ret))
def cut_Parts : AFun := ⟨6, 2, [.tmp 4], cut_Parts.body⟩
def slices_Index_uint32_uint32.b0 : ACode := .seq (.region [⟨(some 9), .bin .lss (.tmp 8) (.tmp 7), none⟩] [0, 1, 7, 8, 9])
  (.seq (.cond (.tmp 9) (.skip) (.exit 0))
  (.seq (.block 1 (.seq (.region [⟨(some 10), .mov (.tmp 8), none⟩,
    ⟨(some 5), .mov (.tmp 10), none⟩] [0, 1, 5, 7, 8])
  (.seq (.region [⟨(some 11), .mov (.tmp 1), none⟩,
    ⟨(some 12), .mov (.tmp 0), none⟩,
    ⟨(some 13), .mov (.tmp 5), none⟩,
    ⟨(some 14), .idx 1 none (.tmp 12) (.tmp 13), none⟩,
    ⟨(some 15), .load none (.tmp 14), none⟩,
    ⟨(some 16), .bin .eql (.tmp 11) (.tmp 15), none⟩] [0, 1, 5, 7, 8, 16])
  (.cond (.tmp 16) (.seq (.region [⟨(some 17), .mov (.tmp 5), none⟩,
    ⟨(some 4), .mov (.tmp 17), none⟩] [4])
  (.ret)) (.skip)))))
  (.region [⟨(some 18), .bin .add (.tmp 8) (.const (.int .i64 1)), none⟩,
    ⟨(some 8), .mov (.tmp 18), none⟩] [0, 1, 7, 8])))
def slices_Index_uint32_uint32.body : ACode := .seq (.region [⟨(some 4), .mov (.const (.int .i64 0)), none⟩] [0, 1])
  (.seq (.seq (.region [⟨(some 6), .mov (.tmp 0), none⟩,
    ⟨(some 7), .len .slice (.tmp 6), none⟩,
    ⟨(some 8), .mov (.const (.int .i64 0)), none⟩] [0, 1, 7, 8])
  (.block 0 (.loop slices_Index_uint32_uint32.b0)))
  (.seq (.region [⟨(some 4), .mov (.const (.int .i64 (-1))), none⟩] [4])
  (.ret)))
def slices_Index_uint32_uint32 : AFun := ⟨19, 2, [.tmp 4], slices_Index_uint32_uint32.body⟩
def slices_Clone_uint32_uint32.body : ACode := .seq (.region [⟨(some 2), .mov (.const .nils), none⟩] [0])
  (.seq (.seq (.region [⟨(some 3), .mov (.tmp 0), none⟩,
    ⟨(some 4), .eq false .slice (.tmp 3) (.const .nils), none⟩] [0, 4])
  (.cond (.tmp 4) (.seq (.region [⟨(some 2), .mov (.const .nils), none⟩] [2])
  (.ret)) (.skip)))
  (.seq (.region [⟨(some 5), .lit T.uint32 1 0 [] [], none⟩,
    ⟨(some 6), .mov (.tmp 0), none⟩,
    ⟨(some 7), .append T.uint32 1 4 (.tmp 5) (.tmp 6), none⟩,
    ⟨(some 2), .mov (.tmp 7), none⟩] [2])
  (.ret)))
def slices_Clone_uint32_uint32 : AFun := ⟨8, 1, [.tmp 2], slices_Clone_uint32_uint32.body⟩
def table_Table_each.body : ACode := .seq (.region [⟨(some 1), .box T.p_table_Table (.tmp 0), none⟩,
    ⟨(some 2), .mov (.const .nilf), none⟩] [1])
  (.seq (.region [⟨(some 3), .mkfn F.table_Table_each_1 [] [(.tmp 1)], none⟩,
    ⟨(some 2), .mov (.tmp 3), none⟩] [2])
  (.ret))
def table_Table_each : AFun := ⟨4, 1, [.tmp 2], table_Table_each.body⟩
def slot_Slot_Size.body : ACode := .seq (.region [⟨(some 2), .mov (.const (.int .i64 0)), none⟩] [0])
  (.seq (.seq (.region [⟨(some 3), .mov (.tmp 0), none⟩,
    ⟨(some 4), .eq false .ptr (.tmp 3) (.const .nilp), none⟩] [0, 4])
  (.cond (.tmp 4) (.seq (.region [⟨(some 2), .mov (.const (.int .i64 0)), none⟩] [2])
  (.ret)) (.skip)))
  (.seq (.region [⟨(some 5), .mov (.tmp 0), none⟩,
    ⟨(some 6), .nilc (.tmp 5), none⟩,
    ⟨(some 7), .field 6 (.tmp 6), none⟩,
    ⟨(some 8), .load none (.tmp 7), none⟩,
    ⟨(some 2), .mov (.tmp 8), none⟩] [2])
  (.ret)))
def slot_Slot_Size : AFun := ⟨9, 1, [.tmp 2], slot_Slot_Size.body⟩
def table_Table_All_1.d0 : List AOper := [⟨(some 9), .load none (.tmp 2), none⟩,
    ⟨(some 10), .mov (.tmp 3), none⟩,
    ⟨(some 11), .mov (.tmp 4), none⟩,
    ⟨(some 12), .call (.const (.fn F.slot_Slot_Copy [] [])) [(.tmp 11)], none⟩,
    ⟨(some 13), .call (.tmp 9) [(.tmp 10), (.tmp 12)], none⟩,
    ⟨(some 14), .un .not (.tmp 13), none⟩]
def table_Table_All_1.d0b : List (List Nat) := [[], [], [], [2], [0, 1, 2, 3], [0, 1, 2, 3, 4]]
def table_Table_All_1.a1 : ACode := .seq (.region [⟨(some 3), .mov (.tmp 7), none⟩] [2, 3, 8])
  (.region [⟨(some 4), .mov (.tmp 8), none⟩] [2, 3, 4])
def table_Table_All_1.b1 : ACode := .block 1 (.seq (.draw table_Table_All_1.d0 table_Table_All_1.d0b [[0, 1, 2, 3, 4, 5]] [(3, 0)] [14])
  (.cond (.tmp 14) (.ret) (.skip)))
def table_Table_All_1.body : ACode := .seq (.region [⟨(some 2), .box T.func_uint32_p_slot_Slot_bool (.tmp 0), none⟩] [1, 2])
  (.seq (.region [⟨(some 5), .load none (.tmp 1), none⟩,
    ⟨(some 6), .call (.const (.fn F.table_Table_each [] [])) [(.tmp 5)], none⟩] [2, 6])
  (.block 0 (.range (.tmp 6) [7, 8] table_Table_All_1.a1 table_Table_All_1.b1)))
def table_Table_All_1 : AFun := ⟨15, 2, [], table_Table_All_1.body⟩
def slot_Slot_Copy.d0 : List AOper := [⟨(some 5), .mov (.tmp 0), none⟩,
    ⟨(some 6), .nilc (.tmp 5), none⟩,
    ⟨(some 7), .field 0 (.tmp 6), none⟩,
    ⟨(some 8), .load (some 5) (.tmp 7), none⟩,
    ⟨(some 9), .mov (.tmp 0), none⟩,
    ⟨(some 10), .nilc (.tmp 9), none⟩,
    ⟨(some 11), .field 5 (.tmp 10), none⟩,
    ⟨(some 12), .load none (.tmp 11), none⟩,
    ⟨(some 13), .call (.const (.fn F.maps_Clone_map_int_byte_int_byte [] [])) [(.tmp 12)], none⟩,
    ⟨(some 14), .mov (.tmp 0), none⟩,
    ⟨(some 15), .nilc (.tmp 14), none⟩,
    ⟨(some 16), .field 6 (.tmp 15), none⟩,
    ⟨(some 17), .load none (.tmp 16), none⟩,
    ⟨(some 18), .build [(.int .i64 0), (.int .i64 0), (.int .u32 0), (.int .i64 0), (.int .i64 0), .nilm, (.int .i64 0)] [(0, 5, (.tmp 8)), (5, 1, (.tmp 13)), (6, 1, (.tmp 17))], none⟩,
    ⟨(some 19), .box T.slot_Slot (.tmp 18), none⟩,
    ⟨(some 2), .mov (.tmp 19), none⟩]
def slot_Slot_Copy.d0b : List (List Nat) := [[], [0], [0, 1], [0, 1, 2], [], [4], [4, 5], [4, 5, 6], [4, 5, 6, 7], [], [9], [9, 10], [9, 10, 11], [0, 1, 2, 3, 4, 5, 6, 7, 8, 9, 10, 11, 12], [0, 1, 2, 3, 4, 5, 6, 7, 8, 9, 10, 11, 12, 13], [0, 1, 2, 3, 4, 5, 6, 7, 8, 9, 10, 11, 12, 13, 14]]
def slot_Slot_Copy.body : ACode := .seq (.region [⟨(some 2), .mov (.const .nilp), none⟩] [0])
  (.seq (.seq (.region [⟨(some 3), .mov (.tmp 0), none⟩,
    ⟨(some 4), .eq false .ptr (.tmp 3) (.const .nilp), none⟩] [0, 4])
  (.cond (.tmp 4) (.seq (.region [⟨(some 2), .mov (.const .nilp), none⟩] [2])
  (.ret)) (.skip)))
  (.seq (.draw slot_Slot_Copy.d0 slot_Slot_Copy.d0b [[0, 1, 2, 3, 4, 5, 6, 7, 9, 10, 11, 12, 8, 13, 14, 15]] [(8, 3), (8, 12)] [2])
  (.ret)))
def slot_Slot_Copy : AFun := ⟨20, 1, [.tmp 2], slot_Slot_Copy.body⟩
def cuneiformref07_Check.body : ACode := .seq (.region [⟨(some 1), .box T.cuneiformref07_H (.tmp 0), none⟩,
    ⟨(some 2), .mov (.const (.int .i64 0)), none⟩] [1])
  (.seq (.seq (.region [⟨(some 3), .field 0 (.tmp 1), none⟩,
    ⟨(some 4), .load none (.tmp 3), none⟩,
    ⟨(some 5), .bin .neq (.tmp 4) (.const (.int .i64 1)), none⟩,
    ⟨(some 6), .mov (.tmp 5), none⟩,
    ⟨(some 7), .field 0 (.tmp 1), some (6, true)⟩,
    ⟨(some 8), .load none (.tmp 7), some (6, true)⟩,
    ⟨(some 9), .bin .neq (.tmp 8) (.const (.int .i64 2)), some (6, true)⟩,
    ⟨(some 10), .pick (.tmp 6) (.tmp 9) (.const (.bool false)), none⟩] [1, 10])
  (.cond (.tmp 10) (.seq (.region [⟨(some 2), .mov (.const (.int .i64 10)), none⟩] [2])
  (.ret)) (.skip)))
  (.seq (.seq (.region [⟨(some 11), .field 1 (.tmp 1), none⟩,
    ⟨(some 12), .load none (.tmp 11), none⟩,
    ⟨(some 13), .bin .lss (.tmp 12) (.const (.int .i64 1)), none⟩,
    ⟨(some 14), .mov (.tmp 13), none⟩,
    ⟨(some 15), .field 1 (.tmp 1), some (14, false)⟩,
    ⟨(some 16), .load none (.tmp 15), some (14, false)⟩,
    ⟨(some 17), .bin .gtr (.tmp 16) (.const (.int .i64 5)), some (14, false)⟩,
    ⟨(some 18), .pick (.tmp 14) (.const (.bool true)) (.tmp 17), none⟩] [1, 18])
  (.cond (.tmp 18) (.seq (.region [⟨(some 2), .mov (.const (.int .i64 9)), none⟩] [2])
  (.ret)) (.skip)))
  (.seq (.seq (.region [⟨(some 19), .field 4 (.tmp 1), none⟩,
    ⟨(some 20), .load none (.tmp 19), none⟩,
    ⟨(some 21), .bin .lss (.tmp 20) (.const (.int .i64 1)), none⟩,
    ⟨(some 22), .mov (.tmp 21), none⟩,
    ⟨(some 23), .field 4 (.tmp 1), some (22, false)⟩,
    ⟨(some 24), .load none (.tmp 23), some (22, false)⟩,
    ⟨(some 25), .bin .gtr (.tmp 24) (.const (.int .i64 255)), some (22, false)⟩,
    ⟨(some 26), .pick (.tmp 22) (.const (.bool true)) (.tmp 25), none⟩,
    ⟨(some 27), .mov (.tmp 26), none⟩,
    ⟨(some 28), .field 3 (.tmp 1), some (27, false)⟩,
    ⟨(some 29), .load none (.tmp 28), some (27, false)⟩,
    ⟨(some 30), .bin .lss (.tmp 29) (.const (.int .i64 0)), some (27, false)⟩,
    ⟨(some 31), .pick (.tmp 27) (.const (.bool true)) (.tmp 30), none⟩,
    ⟨(some 32), .mov (.tmp 31), none⟩,
    ⟨(some 33), .field 3 (.tmp 1), some (32, false)⟩,
    ⟨(some 34), .load none (.tmp 33), some (32, false)⟩,
    ⟨(some 35), .field 4 (.tmp 1), some (32, false)⟩,
    ⟨(some 36), .load none (.tmp 35), some (32, false)⟩,
    ⟨(some 37), .bin .geq (.tmp 34) (.tmp 36), some (32, false)⟩,
    ⟨(some 38), .pick (.tmp 32) (.const (.bool true)) (.tmp 37), none⟩] [38])
  (.cond (.tmp 38) (.seq (.region [⟨(some 2), .mov (.const (.int .i64 3)), none⟩] [2])
  (.ret)) (.skip)))
  (.seq (.region [⟨(some 2), .mov (.const (.int .i64 0)), none⟩] [2])
  (.ret)))))
def cuneiformref07_Check : AFun := ⟨39, 1, [.tmp 2], cuneiformref07_Check.body⟩
def cuneiformref14_find.b0 : ACode := .seq (.seq (.region [⟨(some 6), .mov (.tmp 5), none⟩,
    ⟨(some 7), .field 1 (.tmp 2), none⟩,
    ⟨(some 8), .load none (.tmp 7), none⟩,
    ⟨(some 9), .len .slice (.tmp 8), none⟩,
    ⟨(some 10), .bin .lss (.tmp 6) (.tmp 9), none⟩] [1, 2, 5, 10])
  (.cond (.tmp 10) (.skip) (.exit 0)))
  (.seq (.block 1 (.seq (.region [⟨(some 13), .field 1 (.tmp 2), none⟩,
    ⟨(some 14), .load none (.tmp 13), none⟩,
    ⟨(some 15), .mov (.tmp 5), none⟩,
    ⟨(some 16), .idx 6 none (.tmp 14) (.tmp 15), none⟩,
    ⟨(some 17), .field 0 (.tmp 16), none⟩,
    ⟨(some 18), .field 2 (.tmp 17), none⟩,
    ⟨(some 19), .load none (.tmp 18), none⟩,
    ⟨(some 20), .mov (.tmp 1), none⟩,
    ⟨(some 21), .bin .eql (.tmp 19) (.tmp 20), none⟩] [1, 2, 5, 21])
  (.cond (.tmp 21) (.seq (.region [⟨(some 22), .mov (.tmp 5), none⟩,
    ⟨(some 4), .mov (.tmp 22), none⟩] [4])
  (.ret)) (.skip))))
  (.region [⟨(some 11), .mov (.tmp 5), none⟩,
    ⟨(some 12), .bin .add (.tmp 11) (.const (.int .i64 1)), none⟩,
    ⟨(some 5), .mov (.tmp 12), none⟩] [1, 2, 5]))
def cuneiformref14_find.body : ACode := .seq (.region [⟨(some 2), .box T.cuneiformref14_T (.tmp 0), none⟩,
    ⟨(some 4), .mov (.const (.int .i64 0)), none⟩] [1, 2])
  (.seq (.seq (.region [⟨(some 5), .mov (.const (.int .i64 0)), none⟩] [1, 2, 5])
  (.block 0 (.loop cuneiformref14_find.b0)))
  (.seq (.region [⟨(some 4), .mov (.const (.int .i64 (-1))), none⟩] [4])
  (.ret)))
def cuneiformref14_find : AFun := ⟨23, 2, [.tmp 4], cuneiformref14_find.body⟩
def cuneiformref10_Best.b0 : ACode := .seq (.seq (.region [⟨(some 14), .mov (.tmp 7), none⟩,
    ⟨(some 15), .mov (.tmp 0), none⟩,
    ⟨(some 16), .len .slice (.tmp 15), none⟩,
    ⟨(some 17), .bin .lss (.tmp 14) (.tmp 16), none⟩] [0, 1, 6, 7, 17])
  (.cond (.tmp 17) (.skip) (.exit 0)))
  (.seq (.block 1 (.seq (.region [⟨(some 20), .mov (.tmp 1), none⟩,
    ⟨(some 21), .mov (.tmp 20), none⟩,
    ⟨(some 22), .mov (.tmp 0), some (21, true)⟩,
    ⟨(some 23), .mov (.tmp 7), some (21, true)⟩,
    ⟨(some 24), .idx 1 none (.tmp 22) (.tmp 23), some (21, true)⟩,
    ⟨(some 25), .load none (.tmp 24), some (21, true)⟩,
    ⟨(some 26), .mov (.tmp 6), some (21, true)⟩,
    ⟨(some 27), .call (.const (.fn F.cuneiformref10_After [] [])) [(.tmp 25), (.tmp 26)], some (21, true)⟩,
    ⟨(some 28), .pick (.tmp 21) (.tmp 27) (.const (.bool false)), none⟩,
    ⟨(some 29), .mov (.tmp 28), none⟩,
    ⟨(some 30), .mov (.tmp 1), some (29, false)⟩,
    ⟨(some 31), .un .not (.tmp 30), some (29, false)⟩,
    ⟨(some 32), .mov (.tmp 31), some (29, false)⟩,
    ⟨(some 33), .mov (.tmp 6), some (32, true)⟩,
    ⟨(some 34), .mov (.tmp 0), some (32, true)⟩,
    ⟨(some 35), .mov (.tmp 7), some (32, true)⟩,
    ⟨(some 36), .idx 1 none (.tmp 34) (.tmp 35), some (32, true)⟩,
    ⟨(some 37), .load none (.tmp 36), some (32, true)⟩,
    ⟨(some 38), .call (.const (.fn F.cuneiformref10_After [] [])) [(.tmp 33), (.tmp 37)], some (32, true)⟩,
    ⟨(some 39), .pick (.tmp 32) (.tmp 38) (.const (.bool false)), some (29, false)⟩,
    ⟨(some 40), .pick (.tmp 29) (.const (.bool true)) (.tmp 39), none⟩] [0, 1, 6, 7, 40])
  (.cond (.tmp 40) (.region [⟨(some 41), .mov (.tmp 0), none⟩,
    ⟨(some 42), .mov (.tmp 7), none⟩,
    ⟨(some 43), .idx 1 none (.tmp 41) (.tmp 42), none⟩,
    ⟨(some 44), .load none (.tmp 43), none⟩,
    ⟨(some 6), .mov (.tmp 44), none⟩] [0, 1, 6, 7]) (.skip))))
  (.region [⟨(some 18), .mov (.tmp 7), none⟩,
    ⟨(some 19), .bin .add (.tmp 18) (.const (.int .i64 1)), none⟩,
    ⟨(some 7), .mov (.tmp 19), none⟩] [0, 1, 6, 7]))
def cuneiformref10_Best.body : ACode := .seq (.region [⟨(some 4), .mov (.const (.int .u32 0)), none⟩,
    ⟨(some 5), .mov (.const (.bool false)), none⟩] [0, 1])
  (.seq (.seq (.region [⟨(some 8), .mov (.tmp 0), none⟩,
    ⟨(some 9), .len .slice (.tmp 8), none⟩,
    ⟨(some 10), .bin .eql (.tmp 9) (.const (.int .i64 0)), none⟩] [0, 1, 10])
  (.cond (.tmp 10) (.seq (.region [⟨(some 4), .mov (.const (.int .u32 0)), none⟩,
    ⟨(some 5), .mov (.const (.bool false)), none⟩] [4, 5])
  (.ret)) (.skip)))
  (.seq (.region [⟨(some 11), .mov (.tmp 0), none⟩,
    ⟨(some 12), .idx 1 none (.tmp 11) (.const (.int .i64 0)), none⟩,
    ⟨(some 13), .load none (.tmp 12), none⟩,
    ⟨(some 6), .mov (.tmp 13), none⟩] [0, 1, 6])
  (.seq (.seq (.region [⟨(some 7), .mov (.const (.int .i64 1)), none⟩] [0, 1, 6, 7])
  (.block 0 (.loop cuneiformref10_Best.b0)))
  (.seq (.region [⟨(some 45), .mov (.tmp 6), none⟩,
    ⟨(some 4), .mov (.tmp 45), none⟩,
    ⟨(some 5), .mov (.const (.bool true)), none⟩] [4, 5])
  (.ret)))))
def cuneiformref10_Best : AFun := ⟨46, 2, [.tmp 4, .tmp 5], cuneiformref10_Best.body⟩
def cuneiformref14_Seqs.b0 : ACode := .seq (.seq (.region [⟨(some 5), .mov (.tmp 4), none⟩,
    ⟨(some 6), .field 1 (.tmp 1), none⟩,
    ⟨(some 7), .load none (.tmp 6), none⟩,
    ⟨(some 8), .len .slice (.tmp 7), none⟩,
    ⟨(some 9), .bin .lss (.tmp 5) (.tmp 8), none⟩] [1, 3, 4, 9])
  (.cond (.tmp 9) (.skip) (.exit 0)))
  (.seq (.block 1 (.region [⟨(some 12), .mov (.tmp 3), none⟩,
    ⟨(some 13), .field 1 (.tmp 1), none⟩,
    ⟨(some 14), .load none (.tmp 13), none⟩,
    ⟨(some 15), .mov (.tmp 4), none⟩,
    ⟨(some 16), .idx 6 none (.tmp 14) (.tmp 15), none⟩,
    ⟨(some 17), .field 0 (.tmp 16), none⟩,
    ⟨(some 18), .field 2 (.tmp 17), none⟩,
    ⟨(some 19), .load none (.tmp 18), none⟩,
    ⟨(some 20), .lit T.uint32 1 1 [(.int .u32 0)] [(0, 1, (.tmp 19))], none⟩,
    ⟨(some 21), .append T.uint32 1 4 (.tmp 12) (.tmp 20), none⟩,
    ⟨(some 3), .mov (.tmp 21), none⟩] [1, 3, 4]))
  (.region [⟨(some 10), .mov (.tmp 4), none⟩,
    ⟨(some 11), .bin .add (.tmp 10) (.const (.int .i64 1)), none⟩,
    ⟨(some 4), .mov (.tmp 11), none⟩] [1, 3, 4]))
def cuneiformref14_Seqs.body : ACode := .seq (.region [⟨(some 1), .box T.cuneiformref14_T (.tmp 0), none⟩,
    ⟨(some 2), .mov (.const .nils), none⟩] [1])
  (.seq (.region [⟨(some 3), .mov (.const .nils), none⟩] [1, 3])
  (.seq (.seq (.region [⟨(some 4), .mov (.const (.int .i64 0)), none⟩] [1, 3, 4])
  (.block 0 (.loop cuneiformref14_Seqs.b0)))
  (.seq (.region [⟨(some 22), .mov (.tmp 3), none⟩,
    ⟨(some 2), .mov (.tmp 22), none⟩] [2])
  (.ret))))
def cuneiformref14_Seqs : AFun := ⟨23, 1, [.tmp 2], cuneiformref14_Seqs.body⟩
def cuneiformref10_After.body : ACode := .seq (.region [⟨(some 4), .mov (.const (.bool false)), none⟩] [0, 1])
  (.seq (.region [⟨(some 5), .mov (.tmp 1), none⟩,
    ⟨(some 6), .mov (.tmp 0), none⟩,
    ⟨(some 7), .call (.const (.fn F.cuneiformref10_Way [] [])) [(.tmp 5), (.tmp 6)], none⟩,
    ⟨(some 8), .bin .geq (.tmp 7) (.const (.int .u32 1)), none⟩,
    ⟨(some 9), .mov (.tmp 8), none⟩,
    ⟨(some 10), .mov (.tmp 1), some (9, true)⟩,
    ⟨(some 11), .mov (.tmp 0), some (9, true)⟩,
    ⟨(some 12), .call (.const (.fn F.cuneiformref10_Way [] [])) [(.tmp 10), (.tmp 11)], some (9, true)⟩,
    ⟨(some 13), .bin .lss (.tmp 12) (.const (.int .u32 2147483648)), some (9, true)⟩,
    ⟨(some 14), .pick (.tmp 9) (.tmp 13) (.const (.bool false)), none⟩,
    ⟨(some 4), .mov (.tmp 14), none⟩] [4])
  (.ret))
def cuneiformref10_After : AFun := ⟨15, 2, [.tmp 4], cuneiformref10_After.body⟩
def cuneiformref13_New.body : ACode := .seq (.region [⟨(some 1), .box T.cuneiformref07_H (.tmp 0), none⟩,
    ⟨(some 2), .alloc T.cuneiformref13_S [(.int .i64 0), (.int .i64 0), (.int .u32 0), (.int .i64 0), (.int .i64 0), .nils], none⟩] [1, 2])
  (.seq (.region [⟨(some 3), .field 3 (.tmp 1), none⟩,
    ⟨none, .store 1 (.tmp 3) (.const (.int .i64 0)), none⟩] [1, 2])
  (.seq (.region [⟨(some 4), .load (some 5) (.tmp 1), none⟩,
    ⟨(some 5), .build [(.int .i64 0), (.int .i64 0), (.int .u32 0), (.int .i64 0), (.int .i64 0), .nils] [(0, 5, (.tmp 4))], none⟩,
    ⟨none, .store 6 (.tmp 2) (.tmp 5), none⟩] [2])
  (.ret)))
def cuneiformref13_New : AFun := ⟨6, 1, [.cell 2 (some 6)], cuneiformref13_New.body⟩
def cuneiformref13_Put.d0 : List AOper := [⟨(some 39), .load (some 6) (.tmp 2), none⟩,
    ⟨(some 40), .call (.const (.fn F.cuneiformref13_Size [] [])) [(.tmp 39)], none⟩,
    ⟨(some 41), .field 5 (.tmp 3), none⟩,
    ⟨(some 42), .load none (.tmp 41), none⟩,
    ⟨(some 43), .len .slice (.tmp 42), none⟩,
    ⟨(some 44), .bin .add (.tmp 40) (.tmp 43), none⟩,
    ⟨(some 45), .bin .gtr (.tmp 44) (.const (.int .i64 192)), none⟩]
def cuneiformref13_Put.d0b : List (List Nat) := [[], [0], [], [2], [2, 3], [0, 1, 2, 3, 4], [0, 1, 2, 3, 4, 5]]
def cuneiformref13_Put.d1 : List AOper := [⟨(some 47), .lit T.cuneiformref08_F 6 0 [] [], none⟩,
    ⟨(some 48), .field 5 (.tmp 2), none⟩,
    ⟨(some 49), .load none (.tmp 48), none⟩,
    ⟨(some 50), .append T.cuneiformref08_F 6 64 (.tmp 47) (.tmp 49), none⟩,
    ⟨(some 51), .load (some 6) (.tmp 3), none⟩,
    ⟨(some 52), .lit T.cuneiformref08_F 6 1 [(.int .i64 0), (.int .i64 0), (.int .u32 0), (.int .i64 0), (.int .i64 0), .nils] [(0, 6, (.tmp 51))], none⟩,
    ⟨(some 53), .append T.cuneiformref08_F 6 64 (.tmp 50) (.tmp 52), none⟩,
    ⟨(some 54), .field 5 (.tmp 2), none⟩,
    ⟨none, .store 1 (.tmp 54) (.tmp 53), none⟩]
def cuneiformref13_Put.d1b : List (List Nat) := [[], [], [1], [0, 1, 2], [], [4], [0, 1, 2, 3, 4, 5], [0, 1, 2, 3, 4, 5, 6], [0, 1, 2, 3, 4, 5, 6, 7]]
def cuneiformref13_Put.body : ACode := .seq (.region [⟨(some 2), .box T.cuneiformref13_S (.tmp 0), none⟩,
    ⟨(some 3), .box T.cuneiformref08_F (.tmp 1), none⟩,
    ⟨(some 4), .alloc T.cuneiformref13_S [(.int .i64 0), (.int .i64 0), (.int .u32 0), (.int .i64 0), (.int .i64 0), .nils], none⟩,
    ⟨(some 5), .mov (.const (.int .i64 0)), none⟩] [2, 3, 4])
  (.seq (.seq (.region [⟨(some 6), .field 0 (.tmp 3), none⟩,
    ⟨(some 7), .load (some 5) (.tmp 6), none⟩,
    ⟨(some 8), .field 0 (.tmp 2), none⟩,
    ⟨(some 9), .load (some 5) (.tmp 8), none⟩,
    ⟨(some 10), .call (.const (.fn F.cuneiformref12_Mates [] [])) [(.tmp 7), (.tmp 9)], none⟩,
    ⟨(some 11), .un .not (.tmp 10), none⟩] [2, 3, 4, 11])
  (.cond (.tmp 11) (.seq (.region [⟨(some 12), .load (some 6) (.tmp 2), none⟩,
    ⟨none, .store 6 (.tmp 4) (.tmp 12), none⟩,
    ⟨(some 5), .mov (.const (.int .i64 17)), none⟩] [4, 5])
  (.ret)) (.skip)))
  (.seq (.seq (.region [⟨(some 13), .field 0 (.tmp 3), none⟩,
    ⟨(some 14), .field 3 (.tmp 13), none⟩,
    ⟨(some 15), .load none (.tmp 14), none⟩,
    ⟨(some 16), .bin .lss (.tmp 15) (.const (.int .i64 0)), none⟩,
    ⟨(some 17), .mov (.tmp 16), none⟩,
    ⟨(some 18), .field 0 (.tmp 3), some (17, false)⟩,
    ⟨(some 19), .field 3 (.tmp 18), some (17, false)⟩,
    ⟨(some 20), .load none (.tmp 19), some (17, false)⟩,
    ⟨(some 21), .field 0 (.tmp 2), some (17, false)⟩,
    ⟨(some 22), .field 4 (.tmp 21), some (17, false)⟩,
    ⟨(some 23), .load none (.tmp 22), some (17, false)⟩,
    ⟨(some 24), .bin .geq (.tmp 20) (.tmp 23), some (17, false)⟩,
    ⟨(some 25), .pick (.tmp 17) (.const (.bool true)) (.tmp 24), none⟩] [2, 3, 4, 25])
  (.cond (.tmp 25) (.seq (.region [⟨(some 26), .load (some 6) (.tmp 2), none⟩,
    ⟨none, .store 6 (.tmp 4) (.tmp 26), none⟩,
    ⟨(some 5), .mov (.const (.int .i64 3)), none⟩] [4, 5])
  (.ret)) (.skip)))
  (.seq (.seq (.region [⟨(some 27), .field 5 (.tmp 3), none⟩,
    ⟨(some 28), .load none (.tmp 27), none⟩,
    ⟨(some 29), .len .slice (.tmp 28), none⟩,
    ⟨(some 30), .bin .eql (.tmp 29) (.const (.int .i64 0)), none⟩] [2, 3, 4, 30])
  (.cond (.tmp 30) (.seq (.region [⟨(some 31), .load (some 6) (.tmp 2), none⟩,
    ⟨none, .store 6 (.tmp 4) (.tmp 31), none⟩,
    ⟨(some 5), .mov (.const (.int .i64 13)), none⟩] [4, 5])
  (.ret)) (.skip)))
  (.seq (.seq (.region [⟨(some 32), .load (some 6) (.tmp 2), none⟩,
    ⟨(some 33), .field 0 (.tmp 3), none⟩,
    ⟨(some 34), .field 3 (.tmp 33), none⟩,
    ⟨(some 35), .load none (.tmp 34), none⟩,
    ⟨(some 36), .call (.const (.fn F.cuneiformref13_Has [] [])) [(.tmp 32), (.tmp 35)], none⟩,
    ⟨(some 37), .bin .geq (.tmp 36) (.const (.int .i64 0)), none⟩] [2, 3, 4, 37])
  (.cond (.tmp 37) (.seq (.region [⟨(some 38), .load (some 6) (.tmp 2), none⟩,
    ⟨none, .store 6 (.tmp 4) (.tmp 38), none⟩,
    ⟨(some 5), .mov (.const (.int .i64 16)), none⟩] [4, 5])
  (.ret)) (.skip)))
  (.seq (.seq (.draw cuneiformref13_Put.d0 cuneiformref13_Put.d0b [[0, 2, 3, 4, 1, 5, 6]] [(1, 3)] [2, 3, 4, 45])
  (.cond (.tmp 45) (.seq (.region [⟨(some 46), .load (some 6) (.tmp 2), none⟩,
    ⟨none, .store 6 (.tmp 4) (.tmp 46), none⟩,
    ⟨(some 5), .mov (.const (.int .i64 6)), none⟩] [4, 5])
  (.ret)) (.skip)))
  (.seq (.draw cuneiformref13_Put.d1 cuneiformref13_Put.d1b [[1, 2, 4, 0, 3, 5, 6, 7, 8], [1, 2, 4, 0, 5, 3, 6, 7, 8], [1, 2, 4, 5, 0, 3, 6, 7, 8]] [(0, 2), (0, 4), (3, 4), (5, 2)] [2, 4])
  (.seq (.region [⟨(some 55), .load (some 6) (.tmp 2), none⟩,
    ⟨none, .store 6 (.tmp 4) (.tmp 55), none⟩,
    ⟨(some 5), .mov (.const (.int .i64 0)), none⟩] [4, 5])
  (.ret))))))))
def cuneiformref13_Put : AFun := ⟨56, 2, [.cell 4 (some 6), .tmp 5], cuneiformref13_Put.body⟩
def cuneiformref13_Full.body : ACode := .seq (.region [⟨(some 1), .box T.cuneiformref13_S (.tmp 0), none⟩,
    ⟨(some 2), .mov (.const (.bool false)), none⟩] [1])
  (.seq (.region [⟨(some 3), .field 0 (.tmp 1), none⟩,
    ⟨(some 4), .field 4 (.tmp 3), none⟩,
    ⟨(some 5), .load none (.tmp 4), none⟩,
    ⟨(some 6), .bin .gtr (.tmp 5) (.const (.int .i64 0)), none⟩,
    ⟨(some 7), .mov (.tmp 6), none⟩,
    ⟨(some 8), .field 5 (.tmp 1), some (7, true)⟩,
    ⟨(some 9), .load none (.tmp 8), some (7, true)⟩,
    ⟨(some 10), .len .slice (.tmp 9), some (7, true)⟩,
    ⟨(some 11), .field 0 (.tmp 1), some (7, true)⟩,
    ⟨(some 12), .field 4 (.tmp 11), some (7, true)⟩,
    ⟨(some 13), .load none (.tmp 12), some (7, true)⟩,
    ⟨(some 14), .bin .eql (.tmp 10) (.tmp 13), some (7, true)⟩,
    ⟨(some 15), .pick (.tmp 7) (.tmp 14) (.const (.bool false)), none⟩,
    ⟨(some 2), .mov (.tmp 15), none⟩] [2])
  (.ret))
def cuneiformref13_Full : AFun := ⟨16, 1, [.tmp 2], cuneiformref13_Full.body⟩
def cuneiformref13_Bytes.b0 : ACode := .seq (.seq (.region [⟨(some 6), .mov (.tmp 4), none⟩,
    ⟨(some 7), .field 0 (.tmp 1), none⟩,
    ⟨(some 8), .field 4 (.tmp 7), none⟩,
    ⟨(some 9), .load none (.tmp 8), none⟩,
    ⟨(some 10), .bin .lss (.tmp 6) (.tmp 9), none⟩] [1, 3, 4, 10])
  (.cond (.tmp 10) (.skip) (.exit 0)))
  (.seq (.block 1 (.seq (.region [⟨(some 13), .load (some 6) (.tmp 1), none⟩,
    ⟨(some 14), .mov (.tmp 4), none⟩,
    ⟨(some 15), .call (.const (.fn F.cuneiformref13_Has [] [])) [(.tmp 13), (.tmp 14)], none⟩,
    ⟨(some 5), .mov (.tmp 15), none⟩] [1, 3, 4, 5])
  (.seq (.region [⟨(some 16), .mov (.tmp 5), none⟩,
    ⟨(some 17), .bin .geq (.tmp 16) (.const (.int .i64 0)), none⟩] [1, 3, 4, 5, 17])
  (.cond (.tmp 17) (.region [⟨(some 18), .mov (.tmp 3), none⟩,
    ⟨(some 19), .field 5 (.tmp 1), none⟩,
    ⟨(some 20), .load none (.tmp 19), none⟩,
    ⟨(some 21), .mov (.tmp 5), none⟩,
    ⟨(some 22), .idx 6 none (.tmp 20) (.tmp 21), none⟩,
    ⟨(some 23), .field 5 (.tmp 22), none⟩,
    ⟨(some 24), .load none (.tmp 23), none⟩,
    ⟨(some 25), .append T.uint8 1 1 (.tmp 18) (.tmp 24), none⟩,
    ⟨(some 3), .mov (.tmp 25), none⟩] [1, 3, 4]) (.skip)))))
  (.region [⟨(some 11), .mov (.tmp 4), none⟩,
    ⟨(some 12), .bin .add (.tmp 11) (.const (.int .i64 1)), none⟩,
    ⟨(some 4), .mov (.tmp 12), none⟩] [1, 3, 4]))
def cuneiformref13_Bytes.body : ACode := .seq (.region [⟨(some 1), .box T.cuneiformref13_S (.tmp 0), none⟩,
    ⟨(some 2), .mov (.const .nils), none⟩] [1])
  (.seq (.region [⟨(some 3), .mov (.const .nils), none⟩] [1, 3])
  (.seq (.seq (.region [⟨(some 4), .mov (.const (.int .i64 0)), none⟩] [1, 3, 4])
  (.block 0 (.loop cuneiformref13_Bytes.b0)))
  (.seq (.region [⟨(some 26), .mov (.tmp 3), none⟩,
    ⟨(some 2), .mov (.tmp 26), none⟩] [2])
  (.ret))))
def cuneiformref13_Bytes : AFun := ⟨27, 1, [.tmp 2], cuneiformref13_Bytes.body⟩
def cuneiformref14_Held.b0 : ACode := .seq (.seq (.region [⟨(some 5), .mov (.tmp 4), none⟩,
    ⟨(some 6), .field 1 (.tmp 1), none⟩,
    ⟨(some 7), .load none (.tmp 6), none⟩,
    ⟨(some 8), .len .slice (.tmp 7), none⟩,
    ⟨(some 9), .bin .lss (.tmp 5) (.tmp 8), none⟩] [1, 3, 4, 9])
  (.cond (.tmp 9) (.skip) (.exit 0)))
  (.seq (.block 1 (.region [⟨(some 12), .mov (.tmp 3), none⟩,
    ⟨(some 13), .field 1 (.tmp 1), none⟩,
    ⟨(some 14), .load none (.tmp 13), none⟩,
    ⟨(some 15), .mov (.tmp 4), none⟩,
    ⟨(some 16), .idx 6 none (.tmp 14) (.tmp 15), none⟩,
    ⟨(some 17), .load (some 6) (.tmp 16), none⟩,
    ⟨(some 18), .call (.const (.fn F.cuneiformref13_Size [] [])) [(.tmp 17)], none⟩,
    ⟨(some 19), .bin .add (.tmp 12) (.tmp 18), none⟩,
    ⟨(some 3), .mov (.tmp 19), none⟩] [1, 3, 4]))
  (.region [⟨(some 10), .mov (.tmp 4), none⟩,
    ⟨(some 11), .bin .add (.tmp 10) (.const (.int .i64 1)), none⟩,
    ⟨(some 4), .mov (.tmp 11), none⟩] [1, 3, 4]))
def cuneiformref14_Held.body : ACode := .seq (.region [⟨(some 1), .box T.cuneiformref14_T (.tmp 0), none⟩,
    ⟨(some 2), .mov (.const (.int .i64 0)), none⟩] [1])
  (.seq (.region [⟨(some 3), .mov (.const (.int .i64 0)), none⟩] [1, 3])
  (.seq (.seq (.region [⟨(some 4), .mov (.const (.int .i64 0)), none⟩] [1, 3, 4])
  (.block 0 (.loop cuneiformref14_Held.b0)))
  (.seq (.region [⟨(some 20), .mov (.tmp 3), none⟩,
    ⟨(some 2), .mov (.tmp 20), none⟩] [2])
  (.ret))))
def cuneiformref14_Held : AFun := ⟨21, 1, [.tmp 2], cuneiformref14_Held.body⟩
def cuneiformlaw13_Alike.d0 : List AOper := [⟨(some 19), .mov (.tmp 0), none⟩,
    ⟨(some 20), .call (.const (.fn F.slot_Slot_Head [] [])) [(.tmp 19)], none⟩,
    ⟨(some 21), .field 0 (.tmp 3), none⟩,
    ⟨(some 22), .load (some 5) (.tmp 21), none⟩,
    ⟨(some 23), .eq true (.cells [.int, .int, .int, .int, .int]) (.tmp 20) (.tmp 22), none⟩,
    ⟨(some 24), .mov (.tmp 23), none⟩,
    ⟨(some 25), .mov (.tmp 0), some (24, false)⟩,
    ⟨(some 26), .call (.const (.fn F.slot_Slot_Have [] [])) [(.tmp 25)], some (24, false)⟩,
    ⟨(some 27), .field 5 (.tmp 3), some (24, false)⟩,
    ⟨(some 28), .load none (.tmp 27), some (24, false)⟩,
    ⟨(some 29), .len .slice (.tmp 28), some (24, false)⟩,
    ⟨(some 30), .bin .neq (.tmp 26) (.tmp 29), some (24, false)⟩,
    ⟨(some 31), .pick (.tmp 24) (.const (.bool true)) (.tmp 30), none⟩,
    ⟨(some 32), .mov (.tmp 31), none⟩,
    ⟨(some 33), .mov (.tmp 0), some (32, false)⟩,
    ⟨(some 34), .call (.const (.fn F.slot_Slot_Size [] [])) [(.tmp 33)], some (32, false)⟩,
    ⟨(some 35), .load (some 6) (.tmp 3), some (32, false)⟩,
    ⟨(some 36), .call (.const (.fn F.cuneiformref13_Size [] [])) [(.tmp 35)], some (32, false)⟩,
    ⟨(some 37), .bin .neq (.tmp 34) (.tmp 36), some (32, false)⟩,
    ⟨(some 38), .pick (.tmp 32) (.const (.bool true)) (.tmp 37), none⟩,
    ⟨(some 39), .mov (.tmp 38), none⟩,
    ⟨(some 40), .mov (.tmp 0), some (39, false)⟩,
    ⟨(some 41), .call (.const (.fn F.slot_Slot_Full [] [])) [(.tmp 40)], some (39, false)⟩,
    ⟨(some 42), .mov (.tmp 7), some (39, false)⟩,
    ⟨(some 43), .eq true .bool (.tmp 41) (.tmp 42), some (39, false)⟩,
    ⟨(some 44), .pick (.tmp 39) (.const (.bool true)) (.tmp 43), none⟩,
    ⟨(some 45), .mov (.tmp 44), none⟩,
    ⟨(some 46), .mov (.tmp 6), some (45, false)⟩,
    ⟨(some 47), .mov (.tmp 7), some (45, false)⟩,
    ⟨(some 48), .eq true .bool (.tmp 46) (.tmp 47), some (45, false)⟩,
    ⟨(some 49), .pick (.tmp 45) (.const (.bool true)) (.tmp 48), none⟩,
    ⟨(some 50), .mov (.tmp 49), none⟩,
    ⟨(some 51), .mov (.tmp 7), some (50, false)⟩,
    ⟨(some 52), .mov (.tmp 51), some (50, false)⟩,
    ⟨(some 53), .mov (.tmp 5), some (52, true)⟩,
    ⟨(some 54), .load (some 6) (.tmp 3), some (52, true)⟩,
    ⟨(some 55), .call (.const (.fn F.cuneiformref13_Bytes [] [])) [(.tmp 54)], some (52, true)⟩,
    ⟨(some 56), .call (.const (.fn F.cuneiformref01_Same [] [])) [(.tmp 53), (.tmp 55)], some (52, true)⟩,
    ⟨(some 57), .un .not (.tmp 56), some (52, true)⟩,
    ⟨(some 58), .pick (.tmp 52) (.tmp 57) (.const (.bool false)), some (50, false)⟩,
    ⟨(some 59), .pick (.tmp 50) (.const (.bool true)) (.tmp 58), none⟩,
    ⟨(some 60), .mov (.tmp 59), none⟩,
    ⟨(some 61), .mov (.tmp 7), some (60, false)⟩,
    ⟨(some 62), .un .not (.tmp 61), some (60, false)⟩,
    ⟨(some 63), .mov (.tmp 62), some (60, false)⟩,
    ⟨(some 64), .mov (.tmp 5), some (63, true)⟩,
    ⟨(some 65), .len .slice (.tmp 64), some (63, true)⟩,
    ⟨(some 66), .bin .neq (.tmp 65) (.const (.int .i64 0)), some (63, true)⟩,
    ⟨(some 67), .pick (.tmp 63) (.tmp 66) (.const (.bool false)), some (60, false)⟩,
    ⟨(some 68), .pick (.tmp 60) (.const (.bool true)) (.tmp 67), none⟩]
def cuneiformlaw13_Alike.d0b : List (List Nat) := [[], [0], [], [2], [0, 1, 2, 3], [0, 1, 2, 3, 4], [0, 1, 2, 3, 4, 5], [0, 1, 2, 3, 4, 5, 6], [0, 1, 2, 3, 4, 5], [0, 1, 2, 3, 4, 5, 8], [0, 1, 2, 3, 4, 5, 8, 9], [0, 1, 2, 3, 4, 5, 6, 7, 8, 9, 10], [0, 1, 2, 3, 4, 5, 6, 7, 8, 9, 10, 11], [0, 1, 2, 3, 4, 5, 6, 7, 8, 9, 10, 11, 12], [0, 1, 2, 3, 4, 5, 6, 7, 8, 9, 10, 11, 12, 13], [0, 1, 2, 3, 4, 5, 6, 7, 8, 9, 10, 11, 12, 13, 14], [0, 1, 2, 3, 4, 5, 6, 7, 8, 9, 10, 11, 12, 13], [0, 1, 2, 3, 4, 5, 6, 7, 8, 9, 10, 11, 12, 13, 14, 15, 16], [0, 1, 2, 3, 4, 5, 6, 7, 8, 9, 10, 11, 12, 13, 14, 15, 16, 17], [0, 1, 2, 3, 4, 5, 6, 7, 8, 9, 10, 11, 12, 13, 14, 15, 16, 17, 18], [0, 1, 2, 3, 4, 5, 6, 7, 8, 9, 10, 11, 12, 13, 14, 15, 16, 17, 18, 19], [0, 1, 2, 3, 4, 5, 6, 7, 8, 9, 10, 11, 12, 13, 14, 15, 16, 17, 18, 19, 20], [0, 1, 2, 3, 4, 5, 6, 7, 8, 9, 10, 11, 12, 13, 14, 15, 16, 17, 18, 19, 20, 21], [0, 1, 2, 3, 4, 5, 6, 7, 8, 9, 10, 11, 12, 13, 14, 15, 16, 17, 18, 19, 20], [0, 1, 2, 3, 4, 5, 6, 7, 8, 9, 10, 11, 12, 13, 14, 15, 16, 17, 18, 19, 20, 21, 22, 23], [0, 1, 2, 3, 4, 5, 6, 7, 8, 9, 10, 11, 12, 13, 14, 15, 16, 17, 18, 19, 20, 21, 22, 23, 24], [0, 1, 2, 3, 4, 5, 6, 7, 8, 9, 10, 11, 12, 13, 14, 15, 16, 17, 18, 19, 20, 21, 22, 23, 24, 25], [0, 1, 2, 3, 4, 5, 6, 7, 8, 9, 10, 11, 12, 13, 14, 15, 16, 17, 18, 19, 20, 21, 22, 23, 24, 25, 26], [0, 1, 2, 3, 4, 5, 6, 7, 8, 9, 10, 11, 12, 13, 14, 15, 16, 17, 18, 19, 20, 21, 22, 23, 24, 25, 26], [0, 1, 2, 3, 4, 5, 6, 7, 8, 9, 10, 11, 12, 13, 14, 15, 16, 17, 18, 19, 20, 21, 22, 23, 24, 25, 26, 27, 28], [0, 1, 2, 3, 4, 5, 6, 7, 8, 9, 10, 11, 12, 13, 14, 15, 16, 17, 18, 19, 20, 21, 22, 23, 24, 25, 26, 27, 28, 29], [0, 1, 2, 3, 4, 5, 6, 7, 8, 9, 10, 11, 12, 13, 14, 15, 16, 17, 18, 19, 20, 21, 22, 23, 24, 25, 26, 27, 28, 29, 30], [0, 1, 2, 3, 4, 5, 6, 7, 8, 9, 10, 11, 12, 13, 14, 15, 16, 17, 18, 19, 20, 21, 22, 23, 24, 25, 26, 27, 28, 29, 30, 31], [0, 1, 2, 3, 4, 5, 6, 7, 8, 9, 10, 11, 12, 13, 14, 15, 16, 17, 18, 19, 20, 21, 22, 23, 24, 25, 26, 27, 28, 29, 30, 31, 32], [0, 1, 2, 3, 4, 5, 6, 7, 8, 9, 10, 11, 12, 13, 14, 15, 16, 17, 18, 19, 20, 21, 22, 23, 24, 25, 26, 27, 28, 29, 30, 31, 32, 33], [0, 1, 2, 3, 4, 5, 6, 7, 8, 9, 10, 11, 12, 13, 14, 15, 16, 17, 18, 19, 20, 21, 22, 23, 24, 25, 26, 27, 28, 29, 30, 31, 32, 33], [0, 1, 2, 3, 4, 5, 6, 7, 8, 9, 10, 11, 12, 13, 14, 15, 16, 17, 18, 19, 20, 21, 22, 23, 24, 25, 26, 27, 28, 29, 30, 31, 32, 33, 35], [0, 1, 2, 3, 4, 5, 6, 7, 8, 9, 10, 11, 12, 13, 14, 15, 16, 17, 18, 19, 20, 21, 22, 23, 24, 25, 26, 27, 28, 29, 30, 31, 32, 33, 34, 35, 36], [0, 1, 2, 3, 4, 5, 6, 7, 8, 9, 10, 11, 12, 13, 14, 15, 16, 17, 18, 19, 20, 21, 22, 23, 24, 25, 26, 27, 28, 29, 30, 31, 32, 33, 34, 35, 36, 37], [0, 1, 2, 3, 4, 5, 6, 7, 8, 9, 10, 11, 12, 13, 14, 15, 16, 17, 18, 19, 20, 21, 22, 23, 24, 25, 26, 27, 28, 29, 30, 31, 32, 33, 34, 35, 36, 37, 38], [0, 1, 2, 3, 4, 5, 6, 7, 8, 9, 10, 11, 12, 13, 14, 15, 16, 17, 18, 19, 20, 21, 22, 23, 24, 25, 26, 27, 28, 29, 30, 31, 32, 33, 34, 35, 36, 37, 38, 39], [0, 1, 2, 3, 4, 5, 6, 7, 8, 9, 10, 11, 12, 13, 14, 15, 16, 17, 18, 19, 20, 21, 22, 23, 24, 25, 26, 27, 28, 29, 30, 31, 32, 33, 34, 35, 36, 37, 38, 39, 40], [0, 1, 2, 3, 4, 5, 6, 7, 8, 9, 10, 11, 12, 13, 14, 15, 16, 17, 18, 19, 20, 21, 22, 23, 24, 25, 26, 27, 28, 29, 30, 31, 32, 33, 34, 35, 36, 37, 38, 39, 40, 41], [0, 1, 2, 3, 4, 5, 6, 7, 8, 9, 10, 11, 12, 13, 14, 15, 16, 17, 18, 19, 20, 21, 22, 23, 24, 25, 26, 27, 28, 29, 30, 31, 32, 33, 34, 35, 36, 37, 38, 39, 40, 41, 42], [0, 1, 2, 3, 4, 5, 6, 7, 8, 9, 10, 11, 12, 13, 14, 15, 16, 17, 18, 19, 20, 21, 22, 23, 24, 25, 26, 27, 28, 29, 30, 31, 32, 33, 34, 35, 36, 37, 38, 39, 40, 41, 42, 43], [0, 1, 2, 3, 4, 5, 6, 7, 8, 9, 10, 11, 12, 13, 14, 15, 16, 17, 18, 19, 20, 21, 22, 23, 24, 25, 26, 27, 28, 29, 30, 31, 32, 33, 34, 35, 36, 37, 38, 39, 40, 41, 42, 43, 44], [0, 1, 2, 3, 4, 5, 6, 7, 8, 9, 10, 11, 12, 13, 14, 15, 16, 17, 18, 19, 20, 21, 22, 23, 24, 25, 26, 27, 28, 29, 30, 31, 32, 33, 34, 35, 36, 37, 38, 39, 40, 41, 42, 43, 44, 45], [0, 1, 2, 3, 4, 5, 6, 7, 8, 9, 10, 11, 12, 13, 14, 15, 16, 17, 18, 19, 20, 21, 22, 23, 24, 25, 26, 27, 28, 29, 30, 31, 32, 33, 34, 35, 36, 37, 38, 39, 40, 41, 42, 43, 44, 45, 46], [0, 1, 2, 3, 4, 5, 6, 7, 8, 9, 10, 11, 12, 13, 14, 15, 16, 17, 18, 19, 20, 21, 22, 23, 24, 25, 26, 27, 28, 29, 30, 31, 32, 33, 34, 35, 36, 37, 38, 39, 40, 41, 42, 43, 44, 45, 46, 47], [0, 1, 2, 3, 4, 5, 6, 7, 8, 9, 10, 11, 12, 13, 14, 15, 16, 17, 18, 19, 20, 21, 22, 23, 24, 25, 26, 27, 28, 29, 30, 31, 32, 33, 34, 35, 36, 37, 38, 39, 40, 41, 42, 43, 44, 45, 46, 47, 48]]
def cuneiformlaw13_Alike.b1 : ACode := .seq (.seq (.region [⟨(some 75), .load none (.tmp 8), none⟩,
    ⟨(some 76), .field 0 (.tmp 3), none⟩,
    ⟨(some 77), .field 4 (.tmp 76), none⟩,
    ⟨(some 78), .load none (.tmp 77), none⟩,
    ⟨(some 79), .bin .lss (.tmp 75) (.tmp 78), none⟩,
    ⟨(some 80), .mov (.tmp 79), none⟩,
    ⟨(some 81), .load (some 6) (.tmp 3), some (80, true)⟩,
    ⟨(some 82), .load none (.tmp 8), some (80, true)⟩,
    ⟨(some 83), .call (.const (.fn F.cuneiformref13_Has [] [])) [(.tmp 81), (.tmp 82)], some (80, true)⟩,
    ⟨(some 84), .bin .geq (.tmp 83) (.const (.int .i64 0)), some (80, true)⟩,
    ⟨(some 85), .pick (.tmp 80) (.tmp 84) (.const (.bool false)), none⟩] [3, 8, 9, 11, 85])
  (.cond (.tmp 85) (.skip) (.exit 2)))
  (.block 3 (.region [⟨(some 86), .load none (.tmp 8), none⟩,
    ⟨(some 87), .bin .add (.tmp 86) (.const (.int .i64 1)), none⟩,
    ⟨none, .store 1 (.tmp 8) (.tmp 87), none⟩] [3, 8, 9, 11]))
def cuneiformlaw13_Alike.a2 : ACode := .region [⟨(some 11), .mov (.tmp 74), none⟩] [3, 8, 9, 11]
def cuneiformlaw13_Alike.b2 : ACode := .block 1 (.seq (.block 2 (.loop cuneiformlaw13_Alike.b1))
  (.seq (.region [⟨(some 88), .load none (.tmp 9), none⟩,
    ⟨(some 89), .mov (.tmp 88), none⟩,
    ⟨(some 90), .load none (.tmp 8), some (89, true)⟩,
    ⟨(some 91), .field 0 (.tmp 3), some (89, true)⟩,
    ⟨(some 92), .field 4 (.tmp 91), some (89, true)⟩,
    ⟨(some 93), .load none (.tmp 92), some (89, true)⟩,
    ⟨(some 94), .bin .lss (.tmp 90) (.tmp 93), some (89, true)⟩,
    ⟨(some 95), .pick (.tmp 89) (.tmp 94) (.const (.bool false)), none⟩,
    ⟨(some 96), .mov (.tmp 95), none⟩,
    ⟨(some 97), .mov (.tmp 11), some (96, true)⟩,
    ⟨(some 98), .load none (.tmp 8), some (96, true)⟩,
    ⟨(some 99), .bin .eql (.tmp 97) (.tmp 98), some (96, true)⟩,
    ⟨(some 100), .pick (.tmp 96) (.tmp 99) (.const (.bool false)), none⟩,
    ⟨none, .store 1 (.tmp 9) (.tmp 100), none⟩] [8])
  (.region [⟨(some 101), .load none (.tmp 8), none⟩,
    ⟨(some 102), .bin .add (.tmp 101) (.const (.int .i64 1)), none⟩,
    ⟨none, .store 1 (.tmp 8) (.tmp 102), none⟩] [])))
def cuneiformlaw13_Alike.b3 : ACode := .seq (.seq (.region [⟨(some 103), .load none (.tmp 8), none⟩,
    ⟨(some 104), .field 0 (.tmp 3), none⟩,
    ⟨(some 105), .field 4 (.tmp 104), none⟩,
    ⟨(some 106), .load none (.tmp 105), none⟩,
    ⟨(some 107), .bin .lss (.tmp 103) (.tmp 106), none⟩] [3, 8, 9, 107])
  (.cond (.tmp 107) (.skip) (.exit 4)))
  (.block 5 (.seq (.region [⟨(some 108), .load none (.tmp 9), none⟩,
    ⟨(some 109), .mov (.tmp 108), none⟩,
    ⟨(some 110), .load (some 6) (.tmp 3), some (109, true)⟩,
    ⟨(some 111), .load none (.tmp 8), some (109, true)⟩,
    ⟨(some 112), .call (.const (.fn F.cuneiformref13_Has [] [])) [(.tmp 110), (.tmp 111)], some (109, true)⟩,
    ⟨(some 113), .bin .geq (.tmp 112) (.const (.int .i64 0)), some (109, true)⟩,
    ⟨(some 114), .pick (.tmp 109) (.tmp 113) (.const (.bool false)), none⟩,
    ⟨none, .store 1 (.tmp 9) (.tmp 114), none⟩] [3, 8, 9])
  (.region [⟨(some 115), .load none (.tmp 8), none⟩,
    ⟨(some 116), .bin .add (.tmp 115) (.const (.int .i64 1)), none⟩,
    ⟨none, .store 1 (.tmp 8) (.tmp 116), none⟩] [3, 8, 9])))
def cuneiformlaw13_Alike.body : ACode := .seq (.region [⟨(some 3), .box T.cuneiformref13_S (.tmp 1), none⟩,
    ⟨(some 4), .mov (.const (.bool false)), none⟩] [0, 3, 4])
  (.seq (.region [⟨(some 13), .mov (.tmp 0), none⟩,
    ⟨(some 14), .call (.const (.fn F.slot_Slot_Bytes [] [])) [(.tmp 13)], none⟩,
    ⟨(some 12), .mov (.tmp 14), none⟩,
    ⟨(some 15), .extract (.tmp 12) 0, none⟩,
    ⟨(some 16), .extract (.tmp 12) 1, none⟩,
    ⟨(some 5), .mov (.tmp 15), none⟩,
    ⟨(some 6), .mov (.tmp 16), none⟩] [0, 3, 4, 5, 6])
  (.seq (.region [⟨(some 17), .load (some 6) (.tmp 3), none⟩,
    ⟨(some 18), .call (.const (.fn F.cuneiformref13_Full [] [])) [(.tmp 17)], none⟩,
    ⟨(some 7), .mov (.tmp 18), none⟩] [0, 3, 4, 5, 6, 7])
  (.seq (.seq (.draw cuneiformlaw13_Alike.d0 cuneiformlaw13_Alike.d0b [[0, 2, 3, 1, 4, 5, 6, 8, 9, 10, 7, 11, 12, 13, 14, 16, 15, 17, 18, 19, 20, 21, 23, 22, 24, 25, 26, 27, 28, 29, 30, 31, 32, 33, 34, 35, 36, 37, 38, 39, 40, 41, 42, 43, 44, 45, 46, 47, 48, 49]] [(1, 3), (7, 9), (15, 16)] [0, 3, 4, 68])
  (.cond (.tmp 68) (.seq (.region [⟨(some 4), .mov (.const (.bool false)), none⟩] [4])
  (.ret)) (.skip)))
  (.seq (.region [⟨(some 8), .alloc T.int [(.int .i64 0)], none⟩,
    ⟨(some 9), .alloc T.bool [(.bool false)], none⟩,
    ⟨none, .store 1 (.tmp 8) (.const (.int .i64 0)), none⟩,
    ⟨none, .store 1 (.tmp 9) (.const (.bool true)), none⟩] [0, 3, 4, 8, 9])
  (.seq (.region [⟨(some 69), .mov (.tmp 0), none⟩,
    ⟨(some 70), .call (.const (.fn F.slot_Slot_Missing [] [])) [(.tmp 69)], none⟩,
    ⟨(some 10), .mov (.tmp 70), none⟩] [3, 4, 8, 9, 10])
  (.seq (.seq (.region [⟨(some 71), .mov (.tmp 10), none⟩,
    ⟨(some 72), .eq false .func (.tmp 71) (.const .nilf), none⟩] [3, 4, 8, 9, 10, 72])
  (.cond (.tmp 72) (.seq (.region [⟨(some 4), .mov (.const (.bool false)), none⟩] [4])
  (.ret)) (.skip)))
  (.seq (.seq (.region [⟨(some 73), .mov (.tmp 10), none⟩] [3, 4, 8, 9, 73])
  (.block 0 (.range (.tmp 73) [74] cuneiformlaw13_Alike.a2 cuneiformlaw13_Alike.b2)))
  (.seq (.block 4 (.loop cuneiformlaw13_Alike.b3))
  (.seq (.region [⟨(some 117), .load none (.tmp 9), none⟩,
    ⟨(some 4), .mov (.tmp 117), none⟩] [4])
  (.ret))))))))))
def cuneiformlaw13_Alike : AFun := ⟨118, 2, [.tmp 4], cuneiformlaw13_Alike.body⟩
def head_wrong.body : ACode := .seq (.region [⟨(some 1), .box T.head_Head (.tmp 0), none⟩,
    ⟨(some 2), .mov (.const .nilf), none⟩] [1])
  (.seq (.region [⟨(some 3), .mkfn F.head_wrong_1 [] [(.tmp 1)], none⟩,
    ⟨(some 2), .mov (.tmp 3), none⟩] [2])
  (.ret))
def head_wrong : AFun := ⟨4, 1, [.tmp 2], head_wrong.body⟩
def serial_Oldest.body : ACode := .seq (.region [⟨(some 2), .mov (.const (.int .u32 0)), none⟩,
    ⟨(some 3), .mov (.const (.bool false)), none⟩] [0])
  (.seq (.region [⟨(some 4), .mov (.tmp 0), none⟩,
    ⟨(some 5), .call (.const (.fn F.serial_taken [] [])) [(.tmp 4), (.const (.fn F.serial_Oldest_1 [] []))], none⟩,
    ⟨(some 6), .extract (.tmp 5) 0, none⟩,
    ⟨(some 7), .extract (.tmp 5) 1, none⟩,
    ⟨(some 2), .mov (.tmp 6), none⟩,
    ⟨(some 3), .mov (.tmp 7), none⟩] [2, 3])
  (.ret))
def serial_Oldest : AFun := ⟨8, 1, [.tmp 2, .tmp 3], serial_Oldest.body⟩
def serial_After.body : ACode := .seq (.region [⟨(some 4), .mov (.const (.bool false)), none⟩] [0, 1])
  (.seq (.region [⟨(some 5), .mov (.tmp 0), none⟩,
    ⟨(some 6), .mov (.tmp 1), none⟩,
    ⟨(some 7), .call (.const (.fn F.serial_Diff [] [])) [(.tmp 5), (.tmp 6)], none⟩,
    ⟨(some 8), .bin .gtr (.tmp 7) (.const (.int .i64 0)), none⟩,
    ⟨(some 4), .mov (.tmp 8), none⟩] [4])
  (.ret))
def serial_After : AFun := ⟨9, 2, [.tmp 4], serial_After.body⟩
def slot_New.body : ACode := .seq (.region [⟨(some 1), .box T.head_Head (.tmp 0), none⟩,
    ⟨(some 2), .mov (.const .nilp), none⟩,
    ⟨(some 3), .mov (.const (.int .i64 0)), none⟩] [1])
  (.seq (.seq (.region [⟨(some 5), .load (some 5) (.tmp 1), none⟩,
    ⟨(some 6), .call (.const (.fn F.head_Check [] [])) [(.tmp 5)], none⟩,
    ⟨(some 4), .mov (.tmp 6), none⟩] [1, 4])
  (.seq (.region [⟨(some 7), .mov (.tmp 4), none⟩,
    ⟨(some 8), .bin .neq (.tmp 7) (.const (.int .i64 0)), none⟩] [1, 4, 8])
  (.cond (.tmp 8) (.seq (.region [⟨(some 9), .mov (.tmp 4), none⟩,
    ⟨(some 2), .mov (.const .nilp), none⟩,
    ⟨(some 3), .mov (.tmp 9), none⟩] [2, 3])
  (.ret)) (.skip))))
  (.seq (.region [⟨(some 10), .field 3 (.tmp 1), none⟩,
    ⟨none, .store 1 (.tmp 10) (.const (.int .i64 0)), none⟩] [1])
  (.seq (.region [⟨(some 11), .load (some 5) (.tmp 1), none⟩,
    ⟨(some 12), .build [(.int .i64 0), (.int .i64 0), (.int .u32 0), (.int .i64 0), (.int .i64 0)] [(0, 5, (.tmp 11))], none⟩,
    ⟨(some 13), .mkmap, none⟩,
    ⟨(some 14), .build [(.int .i64 0), (.int .i64 0), (.int .u32 0), (.int .i64 0), (.int .i64 0), .nilm, (.int .i64 0)] [(0, 5, (.tmp 12)), (5, 1, (.tmp 13)), (6, 1, (.const (.int .i64 0)))], none⟩,
    ⟨(some 15), .box T.slot_Slot (.tmp 14), none⟩,
    ⟨(some 2), .mov (.tmp 15), none⟩,
    ⟨(some 3), .mov (.const (.int .i64 0)), none⟩] [2, 3])
  (.ret))))
def slot_New : AFun := ⟨16, 1, [.tmp 2, .tmp 3], slot_New.body⟩
def head_Mates.body : ACode := .seq (.region [⟨(some 2), .box T.head_Head (.tmp 0), none⟩,
    ⟨(some 3), .box T.head_Head (.tmp 1), none⟩,
    ⟨(some 4), .mov (.const (.bool false)), none⟩] [2, 3])
  (.seq (.region [⟨(some 5), .field 3 (.tmp 3), none⟩,
    ⟨(some 6), .load none (.tmp 5), none⟩,
    ⟨(some 7), .field 3 (.tmp 2), none⟩,
    ⟨none, .store 1 (.tmp 7) (.tmp 6), none⟩] [2, 3])
  (.seq (.region [⟨(some 8), .load (some 5) (.tmp 2), none⟩,
    ⟨(some 9), .load (some 5) (.tmp 3), none⟩,
    ⟨(some 10), .eq false (.cells [.int, .int, .int, .int, .int]) (.tmp 8) (.tmp 9), none⟩,
    ⟨(some 4), .mov (.tmp 10), none⟩] [4])
  (.ret)))
def head_Mates : AFun := ⟨11, 2, [.tmp 4], head_Mates.body⟩
def slot_Slot_Full.d0 : List AOper := [⟨(some 3), .mov (.tmp 0), none⟩,
    ⟨(some 4), .eq true .ptr (.tmp 3) (.const .nilp), none⟩,
    ⟨(some 5), .mov (.tmp 4), none⟩,
    ⟨(some 6), .mov (.tmp 0), some (5, true)⟩,
    ⟨(some 7), .nilc (.tmp 6), some (5, true)⟩,
    ⟨(some 8), .field 5 (.tmp 7), some (5, true)⟩,
    ⟨(some 9), .load none (.tmp 8), some (5, true)⟩,
    ⟨(some 10), .len .map (.tmp 9), some (5, true)⟩,
    ⟨(some 11), .mov (.tmp 0), some (5, true)⟩,
    ⟨(some 12), .nilc (.tmp 11), some (5, true)⟩,
    ⟨(some 13), .field 0 (.tmp 12), some (5, true)⟩,
    ⟨(some 14), .field 0 (.tmp 13), some (5, true)⟩,
    ⟨(some 15), .field 4 (.tmp 14), some (5, true)⟩,
    ⟨(some 16), .load none (.tmp 15), some (5, true)⟩,
    ⟨(some 17), .bin .eql (.tmp 10) (.tmp 16), some (5, true)⟩,
    ⟨(some 18), .pick (.tmp 5) (.tmp 17) (.const (.bool false)), none⟩,
    ⟨(some 2), .mov (.tmp 18), none⟩]
def slot_Slot_Full.d0b : List (List Nat) := [[], [0], [0, 1], [0, 1, 2], [0, 1, 2, 3], [0, 1, 2, 3, 4], [0, 1, 2, 3, 4, 5], [0, 1, 2, 3, 4, 5, 6], [0, 1, 2], [0, 1, 2, 8], [0, 1, 2, 8, 9], [0, 1, 2, 8, 9, 10], [0, 1, 2, 8, 9, 10, 11], [0, 1, 2, 8, 9, 10, 11, 12], [0, 1, 2, 3, 4, 5, 6, 7, 8, 9, 10, 11, 12, 13], [0, 1, 2, 3, 4, 5, 6, 7, 8, 9, 10, 11, 12, 13, 14], [0, 1, 2, 3, 4, 5, 6, 7, 8, 9, 10, 11, 12, 13, 14, 15]]
def slot_Slot_Full.body : ACode := .seq (.region [⟨(some 2), .mov (.const (.bool false)), none⟩] [0])
  (.seq (.draw slot_Slot_Full.d0 slot_Slot_Full.d0b [[0, 1, 2, 3, 4, 5, 6, 7, 8, 9, 10, 11, 12, 13, 14, 15, 16]] [] [2])
  (.ret))
def slot_Slot_Full : AFun := ⟨19, 1, [.tmp 2], slot_Slot_Full.body⟩
def cut_Parts_1.b0 : ACode := .seq (.seq (.region [⟨(some 6), .load none (.tmp 1), none⟩,
    ⟨(some 7), .len .slice (.tmp 6), none⟩,
    ⟨(some 8), .bin .gtr (.tmp 7) (.const (.int .i64 0)), none⟩,
    ⟨(some 9), .mov (.tmp 8), none⟩,
    ⟨(some 10), .load none (.tmp 2), some (9, true)⟩,
    ⟨(some 11), .bin .gtr (.tmp 10) (.const (.int .i64 0)), some (9, true)⟩,
    ⟨(some 12), .pick (.tmp 9) (.tmp 11) (.const (.bool false)), none⟩] [0, 1, 2, 4, 12])
  (.cond (.tmp 12) (.skip) (.exit 0)))
  (.seq (.block 1 (.seq (.region [⟨(some 15), .load none (.tmp 2), none⟩,
    ⟨(some 16), .load none (.tmp 1), none⟩,
    ⟨(some 17), .len .slice (.tmp 16), none⟩,
    ⟨(some 18), .maxmin false (.tmp 15) (.tmp 17), none⟩,
    ⟨(some 5), .mov (.tmp 18), none⟩] [0, 1, 2, 4, 5])
  (.seq (.seq (.region [⟨(some 19), .mov (.tmp 0), none⟩,
    ⟨(some 20), .mov (.tmp 4), none⟩,
    ⟨(some 21), .lit T.uint8 1 0 [] [], none⟩,
    ⟨(some 22), .load none (.tmp 1), none⟩,
    ⟨(some 23), .mov (.tmp 5), none⟩,
    ⟨(some 24), .mov (.tmp 5), none⟩,
    ⟨(some 25), .slice 1 .slice (.tmp 22) none (some (.tmp 23)) (some (.tmp 24)), none⟩,
    ⟨(some 26), .append T.uint8 1 1 (.tmp 21) (.tmp 25), none⟩,
    ⟨(some 27), .call (.tmp 19) [(.tmp 20), (.tmp 26)], none⟩,
    ⟨(some 28), .un .not (.tmp 27), none⟩] [0, 1, 2, 4, 5, 28])
  (.cond (.tmp 28) (.ret) (.skip)))
  (.region [⟨(some 29), .load none (.tmp 1), none⟩,
    ⟨(some 30), .mov (.tmp 5), none⟩,
    ⟨(some 31), .slice 1 .slice (.tmp 29) (some (.tmp 30)) none none, none⟩,
    ⟨none, .store 1 (.tmp 1) (.tmp 31), none⟩] [0, 1, 2, 4]))))
  (.region [⟨(some 13), .mov (.tmp 4), none⟩,
    ⟨(some 14), .bin .add (.tmp 13) (.const (.int .i64 1)), none⟩,
    ⟨(some 4), .mov (.tmp 14), none⟩] [0, 1, 2, 4]))
def cut_Parts_1.body : ACode := .seq (.region [⟨(some 4), .mov (.const (.int .i64 0)), none⟩] [0, 1, 2, 4])
  (.block 0 (.loop cut_Parts_1.b0))
def cut_Parts_1 : AFun := ⟨32, 3, [], cut_Parts_1.body⟩
def table_Table_each_1.b0 : ACode := .seq (.region [⟨(some 13), .bin .lss (.tmp 12) (.tmp 11), none⟩] [0, 1, 10, 11, 12, 13])
  (.seq (.cond (.tmp 13) (.skip) (.exit 0))
  (.seq (.block 1 (.seq (.region [⟨(some 14), .idx 1 none (.tmp 10) (.tmp 12), none⟩,
    ⟨(some 15), .load none (.tmp 14), none⟩,
    ⟨(some 4), .mov (.tmp 15), none⟩] [0, 1, 4, 10, 11, 12])
  (.seq (.region [⟨(some 16), .mov (.tmp 0), none⟩,
    ⟨(some 17), .mov (.tmp 4), none⟩,
    ⟨(some 18), .load none (.tmp 1), none⟩,
    ⟨(some 19), .nilc (.tmp 18), none⟩,
    ⟨(some 20), .field 2 (.tmp 19), none⟩,
    ⟨(some 21), .load none (.tmp 20), none⟩,
    ⟨(some 22), .mov (.tmp 4), none⟩,
    ⟨(some 23), .lookup .int .nilp false (.tmp 21) (.tmp 22), none⟩,
    ⟨(some 24), .call (.tmp 16) [(.tmp 17), (.tmp 23)], none⟩,
    ⟨(some 25), .un .not (.tmp 24), none⟩] [0, 1, 10, 11, 12, 25])
  (.cond (.tmp 25) (.exit 0) (.skip)))))
  (.region [⟨(some 26), .bin .add (.tmp 12) (.const (.int .i64 1)), none⟩,
    ⟨(some 12), .mov (.tmp 26), none⟩] [0, 1, 10, 11, 12])))
def table_Table_each_1.body : ACode := .scope (.seq (.seq (.region [⟨(some 5), .load none (.tmp 1), none⟩,
    ⟨(some 6), .eq false .ptr (.tmp 5) (.const .nilp), none⟩] [0, 1, 6])
  (.cond (.tmp 6) (.ret) (.skip)))
  (.seq (.skip)
  (.seq (.region [⟨(some 7), .load none (.tmp 1), none⟩,
    ⟨(some 8), .nilc (.tmp 7), none⟩,
    ⟨(some 9), .field 1 (.tmp 8), none⟩,
    ⟨(some 10), .load none (.tmp 9), none⟩,
    ⟨(some 11), .len .slice (.tmp 10), none⟩,
    ⟨(some 12), .mov (.const (.int .i64 0)), none⟩] [0, 1, 10, 11, 12])
  (.block 0 (.loop table_Table_each_1.b0)))))
def table_Table_each_1 : AFun := ⟨27, 2, [], table_Table_each_1.body⟩
def cuneiformref10_Way.body : ACode := .seq (.region [⟨(some 4), .mov (.const (.int .u32 0)), none⟩] [0, 1])
  (.seq (.region [⟨(some 5), .mov (.tmp 1), none⟩,
    ⟨(some 6), .conv .u64 (.tmp 5), none⟩,
    ⟨(some 7), .bin .add (.tmp 6) (.const (.int .u64 4294967296)), none⟩,
    ⟨(some 8), .mov (.tmp 0), none⟩,
    ⟨(some 9), .conv .u64 (.tmp 8), none⟩,
    ⟨(some 10), .bin .sub (.tmp 7) (.tmp 9), none⟩,
    ⟨(some 11), .bin .rem (.tmp 10) (.const (.int .u64 4294967296)), none⟩,
    ⟨(some 12), .conv .u32 (.tmp 11), none⟩,
    ⟨(some 4), .mov (.tmp 12), none⟩] [4])
  (.ret))
def cuneiformref10_Way : AFun := ⟨13, 2, [.tmp 4], cuneiformref10_Way.body⟩
def cuneiformref12_Mates.body : ACode := .seq (.region [⟨(some 2), .box T.cuneiformref07_H (.tmp 0), none⟩,
    ⟨(some 3), .box T.cuneiformref07_H (.tmp 1), none⟩,
    ⟨(some 4), .mov (.const (.bool false)), none⟩] [2, 3])
  (.seq (.region [⟨(some 5), .field 0 (.tmp 2), none⟩,
    ⟨(some 6), .load none (.tmp 5), none⟩,
    ⟨(some 7), .field 0 (.tmp 3), none⟩,
    ⟨(some 8), .load none (.tmp 7), none⟩,
    ⟨(some 9), .bin .eql (.tmp 6) (.tmp 8), none⟩,
    ⟨(some 10), .mov (.tmp 9), none⟩,
    ⟨(some 11), .field 1 (.tmp 2), some (10, true)⟩,
    ⟨(some 12), .load none (.tmp 11), some (10, true)⟩,
    ⟨(some 13), .field 1 (.tmp 3), some (10, true)⟩,
    ⟨(some 14), .load none (.tmp 13), some (10, true)⟩,
    ⟨(some 15), .bin .eql (.tmp 12) (.tmp 14), some (10, true)⟩,
    ⟨(some 16), .pick (.tmp 10) (.tmp 15) (.const (.bool false)), none⟩,
    ⟨(some 17), .mov (.tmp 16), none⟩,
    ⟨(some 18), .field 2 (.tmp 2), some (17, true)⟩,
    ⟨(some 19), .load none (.tmp 18), some (17, true)⟩,
    ⟨(some 20), .field 2 (.tmp 3), some (17, true)⟩,
    ⟨(some 21), .load none (.tmp 20), some (17, true)⟩,
    ⟨(some 22), .bin .eql (.tmp 19) (.tmp 21), some (17, true)⟩,
    ⟨(some 23), .pick (.tmp 17) (.tmp 22) (.const (.bool false)), none⟩,
    ⟨(some 24), .mov (.tmp 23), none⟩,
    ⟨(some 25), .field 4 (.tmp 2), some (24, true)⟩,
    ⟨(some 26), .load none (.tmp 25), some (24, true)⟩,
    ⟨(some 27), .field 4 (.tmp 3), some (24, true)⟩,
    ⟨(some 28), .load none (.tmp 27), some (24, true)⟩,
    ⟨(some 29), .bin .eql (.tmp 26) (.tmp 28), some (24, true)⟩,
    ⟨(some 30), .pick (.tmp 24) (.tmp 29) (.const (.bool false)), none⟩,
    ⟨(some 4), .mov (.tmp 30), none⟩] [4])
  (.ret))
def cuneiformref12_Mates : AFun := ⟨31, 2, [.tmp 4], cuneiformref12_Mates.body⟩
def cuneiformref13_Has.b0 : ACode := .seq (.seq (.region [⟨(some 6), .mov (.tmp 5), none⟩,
    ⟨(some 7), .field 5 (.tmp 2), none⟩,
    ⟨(some 8), .load none (.tmp 7), none⟩,
    ⟨(some 9), .len .slice (.tmp 8), none⟩,
    ⟨(some 10), .bin .lss (.tmp 6) (.tmp 9), none⟩] [1, 2, 5, 10])
  (.cond (.tmp 10) (.skip) (.exit 0)))
  (.seq (.block 1 (.seq (.region [⟨(some 13), .field 5 (.tmp 2), none⟩,
    ⟨(some 14), .load none (.tmp 13), none⟩,
    ⟨(some 15), .mov (.tmp 5), none⟩,
    ⟨(some 16), .idx 6 none (.tmp 14) (.tmp 15), none⟩,
    ⟨(some 17), .field 0 (.tmp 16), none⟩,
    ⟨(some 18), .field 3 (.tmp 17), none⟩,
    ⟨(some 19), .load none (.tmp 18), none⟩,
    ⟨(some 20), .mov (.tmp 1), none⟩,
    ⟨(some 21), .bin .eql (.tmp 19) (.tmp 20), none⟩] [1, 2, 5, 21])
  (.cond (.tmp 21) (.seq (.region [⟨(some 22), .mov (.tmp 5), none⟩,
    ⟨(some 4), .mov (.tmp 22), none⟩] [4])
  (.ret)) (.skip))))
  (.region [⟨(some 11), .mov (.tmp 5), none⟩,
    ⟨(some 12), .bin .add (.tmp 11) (.const (.int .i64 1)), none⟩,
    ⟨(some 5), .mov (.tmp 12), none⟩] [1, 2, 5]))
def cuneiformref13_Has.body : ACode := .seq (.region [⟨(some 2), .box T.cuneiformref13_S (.tmp 0), none⟩,
    ⟨(some 4), .mov (.const (.int .i64 0)), none⟩] [1, 2])
  (.seq (.seq (.region [⟨(some 5), .mov (.const (.int .i64 0)), none⟩] [1, 2, 5])
  (.block 0 (.loop cuneiformref13_Has.b0)))
  (.seq (.region [⟨(some 4), .mov (.const (.int .i64 (-1))), none⟩] [4])
  (.ret)))
def cuneiformref13_Has : AFun := ⟨23, 2, [.tmp 4], cuneiformref13_Has.body⟩
def cuneiformref13_Size.b0 : ACode := .seq (.seq (.region [⟨(some 5), .mov (.tmp 4), none⟩,
    ⟨(some 6), .field 5 (.tmp 1), none⟩,
    ⟨(some 7), .load none (.tmp 6), none⟩,
    ⟨(some 8), .len .slice (.tmp 7), none⟩,
    ⟨(some 9), .bin .lss (.tmp 5) (.tmp 8), none⟩] [1, 3, 4, 9])
  (.cond (.tmp 9) (.skip) (.exit 0)))
  (.seq (.block 1 (.region [⟨(some 12), .mov (.tmp 3), none⟩,
    ⟨(some 13), .field 5 (.tmp 1), none⟩,
    ⟨(some 14), .load none (.tmp 13), none⟩,
    ⟨(some 15), .mov (.tmp 4), none⟩,
    ⟨(some 16), .idx 6 none (.tmp 14) (.tmp 15), none⟩,
    ⟨(some 17), .field 5 (.tmp 16), none⟩,
    ⟨(some 18), .load none (.tmp 17), none⟩,
    ⟨(some 19), .len .slice (.tmp 18), none⟩,
    ⟨(some 20), .bin .add (.tmp 12) (.tmp 19), none⟩,
    ⟨(some 3), .mov (.tmp 20), none⟩] [1, 3, 4]))
  (.region [⟨(some 10), .mov (.tmp 4), none⟩,
    ⟨(some 11), .bin .add (.tmp 10) (.const (.int .i64 1)), none⟩,
    ⟨(some 4), .mov (.tmp 11), none⟩] [1, 3, 4]))
def cuneiformref13_Size.body : ACode := .seq (.region [⟨(some 1), .box T.cuneiformref13_S (.tmp 0), none⟩,
    ⟨(some 2), .mov (.const (.int .i64 0)), none⟩] [1])
  (.seq (.region [⟨(some 3), .mov (.const (.int .i64 0)), none⟩] [1, 3])
  (.seq (.seq (.region [⟨(some 4), .mov (.const (.int .i64 0)), none⟩] [1, 3, 4])
  (.block 0 (.loop cuneiformref13_Size.b0)))
  (.seq (.region [⟨(some 21), .mov (.tmp 3), none⟩,
    ⟨(some 2), .mov (.tmp 21), none⟩] [2])
  (.ret))))
def cuneiformref13_Size : AFun := ⟨22, 1, [.tmp 2], cuneiformref13_Size.body⟩
def slot_Slot_Head.body : ACode := .seq (.region [⟨(some 2), .alloc T.head_Head [(.int .i64 0), (.int .i64 0), (.int .u32 0), (.int .i64 0), (.int .i64 0)], none⟩] [0, 2])
  (.seq (.seq (.region [⟨(some 3), .mov (.tmp 0), none⟩,
    ⟨(some 4), .eq false .ptr (.tmp 3) (.const .nilp), none⟩] [0, 2, 4])
  (.cond (.tmp 4) (.seq (.region [⟨(some 5), .build [(.int .i64 0), (.int .i64 0), (.int .u32 0), (.int .i64 0), (.int .i64 0)] [], none⟩,
    ⟨none, .store 5 (.tmp 2) (.tmp 5), none⟩] [2])
  (.ret)) (.skip)))
  (.seq (.region [⟨(some 6), .mov (.tmp 0), none⟩,
    ⟨(some 7), .nilc (.tmp 6), none⟩,
    ⟨(some 8), .field 0 (.tmp 7), none⟩,
    ⟨(some 9), .field 0 (.tmp 8), none⟩,
    ⟨(some 10), .load (some 5) (.tmp 9), none⟩,
    ⟨none, .store 5 (.tmp 2) (.tmp 10), none⟩] [2])
  (.ret)))
def slot_Slot_Head : AFun := ⟨11, 1, [.cell 2 (some 5)], slot_Slot_Head.body⟩
def slot_Slot_Have.body : ACode := .seq (.region [⟨(some 2), .mov (.const (.int .i64 0)), none⟩] [0])
  (.seq (.seq (.region [⟨(some 3), .mov (.tmp 0), none⟩,
    ⟨(some 4), .eq false .ptr (.tmp 3) (.const .nilp), none⟩] [0, 4])
  (.cond (.tmp 4) (.seq (.region [⟨(some 2), .mov (.const (.int .i64 0)), none⟩] [2])
  (.ret)) (.skip)))
  (.seq (.region [⟨(some 5), .mov (.tmp 0), none⟩,
    ⟨(some 6), .nilc (.tmp 5), none⟩,
    ⟨(some 7), .field 5 (.tmp 6), none⟩,
    ⟨(some 8), .load none (.tmp 7), none⟩,
    ⟨(some 9), .len .map (.tmp 8), none⟩,
    ⟨(some 2), .mov (.tmp 9), none⟩] [2])
  (.ret)))
def slot_Slot_Have : AFun := ⟨10, 1, [.tmp 2], slot_Slot_Have.body⟩
def slot_Slot_Missing.body : ACode := .seq (.region [⟨(some 1), .box T.p_slot_Slot (.tmp 0), none⟩,
    ⟨(some 2), .mov (.const .nilf), none⟩] [1])
  (.seq (.region [⟨(some 3), .mkfn F.slot_Slot_Missing_1 [] [(.tmp 1)], none⟩,
    ⟨(some 2), .mov (.tmp 3), none⟩] [2])
  (.ret))
def slot_Slot_Missing : AFun := ⟨4, 1, [.tmp 2], slot_Slot_Missing.body⟩
def head_wrong_1.body : ACode := .region [⟨(some 3), .mov (.tmp 0), none⟩,
    ⟨(some 4), .field 0 (.tmp 1), none⟩,
    ⟨(some 5), .load none (.tmp 4), none⟩,
    ⟨(some 6), .bin .lss (.tmp 5) (.const (.int .i64 1)), none⟩,
    ⟨(some 7), .mov (.tmp 6), none⟩,
    ⟨(some 8), .field 0 (.tmp 1), some (7, false)⟩,
    ⟨(some 9), .load none (.tmp 8), some (7, false)⟩,
    ⟨(some 10), .bin .gtr (.tmp 9) (.const (.int .i64 2)), some (7, false)⟩,
    ⟨(some 11), .pick (.tmp 7) (.const (.bool true)) (.tmp 10), none⟩,
    ⟨(some 12), .call (.tmp 3) [(.const (.int .i64 10)), (.tmp 11)], none⟩,
    ⟨(some 13), .mov (.tmp 12), none⟩,
    ⟨(some 14), .mov (.tmp 0), some (13, true)⟩,
    ⟨(some 15), .field 1 (.tmp 1), some (13, true)⟩,
    ⟨(some 16), .load none (.tmp 15), some (13, true)⟩,
    ⟨(some 17), .bin .lss (.tmp 16) (.const (.int .i64 1)), some (13, true)⟩,
    ⟨(some 18), .mov (.tmp 17), some (13, true)⟩,
    ⟨(some 19), .field 1 (.tmp 1), some (18, false)⟩,
    ⟨(some 20), .load none (.tmp 19), some (18, false)⟩,
    ⟨(some 21), .bin .gtr (.tmp 20) (.const (.int .i64 5)), some (18, false)⟩,
    ⟨(some 22), .pick (.tmp 18) (.const (.bool true)) (.tmp 21), some (13, true)⟩,
    ⟨(some 23), .call (.tmp 14) [(.const (.int .i64 9)), (.tmp 22)], some (13, true)⟩,
    ⟨(some 24), .pick (.tmp 13) (.tmp 23) (.const (.bool false)), none⟩,
    ⟨(some 25), .mov (.tmp 24), none⟩,
    ⟨(some 26), .mov (.tmp 0), some (25, true)⟩,
    ⟨(some 27), .field 4 (.tmp 1), some (25, true)⟩,
    ⟨(some 28), .load none (.tmp 27), some (25, true)⟩,
    ⟨(some 29), .bin .lss (.tmp 28) (.const (.int .i64 1)), some (25, true)⟩,
    ⟨(some 30), .mov (.tmp 29), some (25, true)⟩,
    ⟨(some 31), .field 4 (.tmp 1), some (30, false)⟩,
    ⟨(some 32), .load none (.tmp 31), some (30, false)⟩,
    ⟨(some 33), .bin .gtr (.tmp 32) (.const (.int .i64 255)), some (30, false)⟩,
    ⟨(some 34), .pick (.tmp 30) (.const (.bool true)) (.tmp 33), some (25, true)⟩,
    ⟨(some 35), .mov (.tmp 34), some (25, true)⟩,
    ⟨(some 36), .field 3 (.tmp 1), some (35, false)⟩,
    ⟨(some 37), .load none (.tmp 36), some (35, false)⟩,
    ⟨(some 38), .bin .lss (.tmp 37) (.const (.int .i64 0)), some (35, false)⟩,
    ⟨(some 39), .pick (.tmp 35) (.const (.bool true)) (.tmp 38), some (25, true)⟩,
    ⟨(some 40), .mov (.tmp 39), some (25, true)⟩,
    ⟨(some 41), .field 3 (.tmp 1), some (40, false)⟩,
    ⟨(some 42), .load none (.tmp 41), some (40, false)⟩,
    ⟨(some 43), .field 4 (.tmp 1), some (40, false)⟩,
    ⟨(some 44), .load none (.tmp 43), some (40, false)⟩,
    ⟨(some 45), .bin .geq (.tmp 42) (.tmp 44), some (40, false)⟩,
    ⟨(some 46), .pick (.tmp 40) (.const (.bool true)) (.tmp 45), some (25, true)⟩,
    ⟨(some 47), .call (.tmp 26) [(.const (.int .i64 3)), (.tmp 46)], some (25, true)⟩,
    ⟨(some 48), .pick (.tmp 25) (.tmp 47) (.const (.bool false)), none⟩] []
def head_wrong_1 : AFun := ⟨49, 2, [], head_wrong_1.body⟩
def serial_taken.a0 : ACode := .region [⟨(some 7), .mov (.tmp 17), none⟩] [3, 6, 7]
def serial_taken.b0 : ACode := .block 1 (.seq (.seq (.region [⟨(some 18), .load none (.tmp 3), none⟩,
    ⟨(some 19), .mov (.tmp 7), none⟩,
    ⟨(some 20), .load none (.tmp 6), none⟩,
    ⟨(some 21), .call (.tmp 18) [(.tmp 19), (.tmp 20)], none⟩,
    ⟨(some 22), .un .not (.tmp 21), none⟩] [6, 7, 22])
  (.cond (.tmp 22) (.exit 1) (.skip)))
  (.region [⟨(some 23), .mov (.tmp 7), none⟩,
    ⟨none, .store 1 (.tmp 6) (.tmp 23), none⟩] []))
def serial_taken.body : ACode := .seq (.region [⟨(some 3), .box T.func_uint32_uint32_bool (.tmp 1), none⟩,
    ⟨(some 4), .mov (.const (.int .u32 0)), none⟩,
    ⟨(some 5), .mov (.const (.bool false)), none⟩] [0, 3, 4, 5])
  (.scope (.seq (.seq (.region [⟨(some 8), .mov (.tmp 0), none⟩,
    ⟨(some 9), .len .slice (.tmp 8), none⟩,
    ⟨(some 10), .bin .eql (.tmp 9) (.const (.int .i64 0)), none⟩] [0, 3, 4, 5, 10])
  (.cond (.tmp 10) (.seq (.region [⟨(some 4), .mov (.const (.int .u32 0)), none⟩,
    ⟨(some 5), .mov (.const (.bool false)), none⟩] [4, 5])
  (.ret)) (.skip)))
  (.seq (.region [⟨(some 11), .mov (.tmp 0), none⟩,
    ⟨(some 12), .idx 1 none (.tmp 11) (.const (.int .i64 0)), none⟩,
    ⟨(some 13), .load none (.tmp 12), none⟩,
    ⟨(some 6), .alloc T.uint32 [(.int .u32 0)], none⟩,
    ⟨none, .store 1 (.tmp 6) (.tmp 13), none⟩] [0, 3, 4, 5, 6])
  (.seq (.skip)
  (.seq (.seq (.region [⟨(some 14), .mov (.tmp 0), none⟩,
    ⟨(some 15), .slice 1 .slice (.tmp 14) (some (.const (.int .i64 1))) none none, none⟩,
    ⟨(some 16), .call (.const (.fn F.slices_Values_uint32_uint32 [] [])) [(.tmp 15)], none⟩] [3, 4, 5, 6, 16])
  (.block 0 (.range (.tmp 16) [17] serial_taken.a0 serial_taken.b0)))
  (.seq (.region [⟨(some 24), .load none (.tmp 6), none⟩,
    ⟨(some 4), .mov (.tmp 24), none⟩,
    ⟨(some 5), .mov (.const (.bool true)), none⟩] [4, 5])
  (.ret)))))))
def serial_taken : AFun := ⟨25, 2, [.tmp 4, .tmp 5], serial_taken.body⟩
def serial_Oldest_1.body : ACode := .seq (.region [⟨(some 4), .mov (.const (.bool false)), none⟩] [0, 1])
  (.seq (.region [⟨(some 5), .mov (.tmp 1), none⟩,
    ⟨(some 6), .mov (.tmp 0), none⟩,
    ⟨(some 7), .call (.const (.fn F.serial_After [] [])) [(.tmp 5), (.tmp 6)], none⟩,
    ⟨(some 4), .mov (.tmp 7), none⟩] [4])
  (.ret))
def serial_Oldest_1 : AFun := ⟨8, 2, [.tmp 4], serial_Oldest_1.body⟩
def serial_Diff.body : ACode := .seq (.region [⟨(some 4), .mov (.const (.int .i64 0)), none⟩] [0, 1])
  (.seq (.region [⟨(some 5), .mov (.tmp 0), none⟩,
    ⟨(some 6), .mov (.tmp 1), none⟩,
    ⟨(some 7), .bin .sub (.tmp 5) (.tmp 6), none⟩,
    ⟨(some 8), .conv .i32 (.tmp 7), none⟩,
    ⟨(some 9), .conv .i64 (.tmp 8), none⟩,
    ⟨(some 4), .mov (.tmp 9), none⟩] [4])
  (.ret))
def serial_Diff : AFun := ⟨10, 2, [.tmp 4], serial_Diff.body⟩
def slot_Slot_Missing_1.b0 : ACode := .seq (.seq (.region [⟨(some 6), .load none (.tmp 1), none⟩,
    ⟨(some 7), .eq true .ptr (.tmp 6) (.const .nilp), none⟩,
    ⟨(some 8), .mov (.tmp 7), none⟩,
    ⟨(some 9), .mov (.tmp 3), some (8, true)⟩,
    ⟨(some 10), .load none (.tmp 1), some (8, true)⟩,
    ⟨(some 11), .nilc (.tmp 10), some (8, true)⟩,
    ⟨(some 12), .field 0 (.tmp 11), some (8, true)⟩,
    ⟨(some 13), .field 0 (.tmp 12), some (8, true)⟩,
    ⟨(some 14), .field 4 (.tmp 13), some (8, true)⟩,
    ⟨(some 15), .load none (.tmp 14), some (8, true)⟩,
    ⟨(some 16), .bin .lss (.tmp 9) (.tmp 15), some (8, true)⟩,
    ⟨(some 17), .pick (.tmp 8) (.tmp 16) (.const (.bool false)), none⟩] [0, 1, 3, 17])
  (.cond (.tmp 17) (.skip) (.exit 0)))
  (.seq (.block 1 (.seq (.seq (.region [⟨(some 21), .load none (.tmp 1), none⟩,
    ⟨(some 22), .nilc (.tmp 21), none⟩,
    ⟨(some 23), .field 5 (.tmp 22), none⟩,
    ⟨(some 24), .load none (.tmp 23), none⟩,
    ⟨(some 25), .mov (.tmp 3), none⟩,
    ⟨(some 26), .lookup .int .nils true (.tmp 24) (.tmp 25), none⟩,
    ⟨(some 20), .mov (.tmp 26), none⟩,
    ⟨(some 27), .extract (.tmp 20) 0, none⟩,
    ⟨(some 28), .extract (.tmp 20) 1, none⟩,
    ⟨(some 4), .mov (.tmp 27), none⟩,
    ⟨(some 5), .mov (.tmp 28), none⟩] [0, 1, 3, 5])
  (.seq (.region [⟨(some 29), .mov (.tmp 5), none⟩] [0, 1, 3, 29])
  (.cond (.tmp 29) (.exit 1) (.skip))))
  (.seq (.region [⟨(some 30), .mov (.tmp 0), none⟩,
    ⟨(some 31), .mov (.tmp 3), none⟩,
    ⟨(some 32), .call (.tmp 30) [(.tmp 31)], none⟩,
    ⟨(some 33), .un .not (.tmp 32), none⟩] [0, 1, 3, 33])
  (.cond (.tmp 33) (.exit 0) (.skip)))))
  (.region [⟨(some 18), .mov (.tmp 3), none⟩,
    ⟨(some 19), .bin .add (.tmp 18) (.const (.int .i64 1)), none⟩,
    ⟨(some 3), .mov (.tmp 19), none⟩] [0, 1, 3]))
def slot_Slot_Missing_1.body : ACode := .scope (.seq (.skip)
  (.seq (.region [⟨(some 3), .mov (.const (.int .i64 0)), none⟩] [0, 1, 3])
  (.block 0 (.loop slot_Slot_Missing_1.b0))))
def slot_Slot_Missing_1 : AFun := ⟨34, 2, [], slot_Slot_Missing_1.body⟩
def slices_Values_uint32_uint32.body : ACode := .seq (.region [⟨(some 1), .box T.sl_uint32 (.tmp 0), none⟩,
    ⟨(some 2), .mov (.const .nilf), none⟩] [1])
  (.seq (.region [⟨(some 3), .mkfn F.slices_Values_uint32_uint32_1 [] [(.tmp 1)], none⟩,
    ⟨(some 2), .mov (.tmp 3), none⟩] [2])
  (.ret))
def slices_Values_uint32_uint32 : AFun := ⟨4, 1, [.tmp 2], slices_Values_uint32_uint32.body⟩
def slices_Values_uint32_uint32_1.b0 : ACode := .seq (.region [⟨(some 8), .bin .lss (.tmp 7) (.tmp 6), none⟩] [0, 5, 6, 7, 8])
  (.seq (.cond (.tmp 8) (.skip) (.exit 0))
  (.seq (.block 1 (.seq (.region [⟨(some 9), .idx 1 none (.tmp 5) (.tmp 7), none⟩,
    ⟨(some 10), .load none (.tmp 9), none⟩,
    ⟨(some 4), .mov (.tmp 10), none⟩] [0, 4, 5, 6, 7])
  (.seq (.region [⟨(some 11), .mov (.tmp 0), none⟩,
    ⟨(some 12), .mov (.tmp 4), none⟩,
    ⟨(some 13), .call (.tmp 11) [(.tmp 12)], none⟩,
    ⟨(some 14), .un .not (.tmp 13), none⟩] [0, 5, 6, 7, 14])
  (.cond (.tmp 14) (.ret) (.skip)))))
  (.region [⟨(some 15), .bin .add (.tmp 7) (.const (.int .i64 1)), none⟩,
    ⟨(some 7), .mov (.tmp 15), none⟩] [0, 5, 6, 7])))
def slices_Values_uint32_uint32_1.body : ACode := .seq (.region [⟨(some 5), .load none (.tmp 1), none⟩,
    ⟨(some 6), .len .slice (.tmp 5), none⟩,
    ⟨(some 7), .mov (.const (.int .i64 0)), none⟩] [0, 5, 6, 7])
  (.block 0 (.loop slices_Values_uint32_uint32_1.b0))
def slices_Values_uint32_uint32_1 : AFun := ⟨16, 2, [], slices_Values_uint32_uint32_1.body⟩
def ldel0_ren : Go.Shelf.Ren := ⟨(fun | 45 => 33 | n => n), (fun | 22 => 45 | 23 => 23 | 3 => 3 | 4 => 4 | 0 => 0 | n => n), (fun n => n)⟩
set_option maxRecDepth 10000 in
theorem ldel0 : Go.Proofs.SlLaysE.n45 Try.prog ldel0_ren := { mixed := by kernel_rfl, f45 := ⟨Try.f33.name, by decide, Try.func33.trans (congrArg some (by kernel_rfl))⟩, t0 := Try.underlying0, a0 := Try.isAgg0, z0 := Try.sizeOf0, v0 := Try.zeroValue0, t3 := Try.underlying3, a3 := Try.isAgg3, z3 := Try.sizeOf3, v3 := Try.zeroValue3, t4 := Try.underlying4, a4 := Try.isAgg4, z4 := Try.sizeOf4, v4 := Try.zeroValue4, t22 := Try.underlying45, a22 := Try.isAgg45, z22 := Try.sizeOf45, v22 := Try.zeroValue45, a23 := Try.isAgg23, z23 := Try.sizeOf23 }
set_option maxRecDepth 10000 in
theorem slices_Delete_uint32_uint32_nat : NatOk Try.prog F.slices_Delete_uint32_uint32 .del := delete_nat ldel0 Try.zeroValue23 (by kernel_rfl)
def lclo0_ren : Go.Shelf.Ren := ⟨(fun | 5 => 58 | 7 => 70 | n => n), (fun | 23 => 114 | 25 => 3 | 3 => 26 | 4 => 4 | 20 => 20 | n => n), (fun n => n)⟩
set_option maxRecDepth 10000 in
theorem lclo0 : Go.Proofs.SlLaysW.n5 Try.prog lclo0_ren := { mixed := by kernel_rfl, f5 := ⟨Try.f58.name, by decide, Try.func58.trans (congrArg some (by kernel_rfl))⟩, f7 := Try.func70.trans (congrArg some (by kernel_rfl)), t4 := Try.underlying4, a4 := Try.isAgg4, z4 := Try.sizeOf4, v4 := Try.zeroValue4, t20 := Try.underlying20, a20 := Try.isAgg20, z20 := Try.sizeOf20, v20 := Try.zeroValue20, t23 := Try.underlying114, a23 := Try.isAgg114, z23 := Try.sizeOf114, v23 := Try.zeroValue114 }
set_option maxRecDepth 10000 in
theorem maps_Clone_map_int_byte_int_byte_nat : NatOk Try.prog F.maps_Clone_map_int_byte_int_byte .clone := clone_nat lclo0
theorem cuneiformlaw14_TableNext_code : okFun Try.prog F.cuneiformlaw14_TableNext cuneiformlaw14_TableNext = true := by kernel_rfl
theorem cuneiformlaw14_TableBounds_code : okFun Try.prog F.cuneiformlaw14_TableBounds cuneiformlaw14_TableBounds = true := by kernel_rfl
theorem cuneiformlaw14_TablePlays_code : okFun Try.prog F.cuneiformlaw14_TablePlays cuneiformlaw14_TablePlays = true := by kernel_rfl
theorem table_New_code : okFun Try.prog F.table_New table_New = true := by kernel_rfl
theorem cuneiformlaw08_Cut_code : okFun Try.prog F.cuneiformlaw08_Cut cuneiformlaw08_Cut = true := by kernel_rfl
theorem table_Table_Put_code : okFun Try.prog F.table_Table_Put table_Table_Put = true := by kernel_rfl
theorem cut_Frames_code : okFun Try.prog F.cut_Frames cut_Frames = true := by kernel_rfl
theorem cuneiformlaw14_known_code : okFun Try.prog F.cuneiformlaw14_known cuneiformlaw14_known = true := by kernel_rfl
theorem cuneiformref01_Same_code : okFun Try.prog F.cuneiformref01_Same cuneiformref01_Same = true := by kernel_rfl
theorem table_Table_Drop_code : okFun Try.prog F.table_Table_Drop table_Table_Drop = true := by kernel_rfl
theorem table_Table_Seqs_code : okFun Try.prog F.table_Table_Seqs table_Table_Seqs = true := by kernel_rfl
theorem table_Table_Held_code : okFun Try.prog F.table_Table_Held table_Table_Held = true := by kernel_rfl
theorem table_Table_Len_code : okFun Try.prog F.table_Table_Len table_Table_Len = true := by kernel_rfl
theorem cuneiformlaw14_seqs_code : okFun Try.prog F.cuneiformlaw14_seqs cuneiformlaw14_seqs = true := by kernel_rfl
theorem table_Table_All_code : okFun Try.prog F.table_Table_All table_Table_All = true := by kernel_rfl
theorem cuneiformlaw14_Outs_code : okFun Try.prog F.cuneiformlaw14_Outs cuneiformlaw14_Outs = true := by kernel_rfl
theorem table_Table_Room_code : okFun Try.prog F.table_Table_Room table_Table_Room = true := by kernel_rfl
theorem table_Table_Copy_code : okFun Try.prog F.table_Table_Copy table_Table_Copy = true := by kernel_rfl
theorem cuneiformref14_Put_code : okFun Try.prog F.cuneiformref14_Put cuneiformref14_Put = true := by kernel_rfl
theorem cuneiformlaw08_Of_code : okFun Try.prog F.cuneiformlaw08_Of cuneiformlaw08_Of = true := by kernel_rfl
theorem cuneiformref14_Drop_code : okFun Try.prog F.cuneiformref14_Drop cuneiformref14_Drop = true := by kernel_rfl
theorem cuneiformlaw14_Alike_code : okFun Try.prog F.cuneiformlaw14_Alike cuneiformlaw14_Alike = true := by kernel_rfl
theorem head_Check_code : okFun Try.prog F.head_Check head_Check = true := by kernel_rfl
theorem table_Table_fresh_code : okFun Try.prog F.table_Table_fresh table_Table_fresh = true := by kernel_rfl
theorem slot_Slot_Put_code : okFun Try.prog F.slot_Slot_Put slot_Slot_Put = true := by kernel_rfl
theorem slot_Slot_Bytes_code : okFun Try.prog F.slot_Slot_Bytes slot_Slot_Bytes = true := by kernel_rfl
theorem cut_Count_code : okFun Try.prog F.cut_Count cut_Count = true := by kernel_rfl
theorem cut_Parts_code : okFun Try.prog F.cut_Parts cut_Parts = true := by kernel_rfl
theorem slices_Index_uint32_uint32_code : okFun Try.prog F.slices_Index_uint32_uint32 slices_Index_uint32_uint32 = true := by kernel_rfl
theorem slices_Clone_uint32_uint32_code : okFun Try.prog F.slices_Clone_uint32_uint32 slices_Clone_uint32_uint32 = true := by kernel_rfl
theorem table_Table_each_code : okFun Try.prog F.table_Table_each table_Table_each = true := by kernel_rfl
theorem slot_Slot_Size_code : okFun Try.prog F.slot_Slot_Size slot_Slot_Size = true := by kernel_rfl
theorem table_Table_All_1_code : okFun Try.prog F.table_Table_All_1 table_Table_All_1 = true := by kernel_rfl
theorem slot_Slot_Copy_code : okFun Try.prog F.slot_Slot_Copy slot_Slot_Copy = true := by kernel_rfl
theorem cuneiformref07_Check_code : okFun Try.prog F.cuneiformref07_Check cuneiformref07_Check = true := by kernel_rfl
theorem cuneiformref14_find_code : okFun Try.prog F.cuneiformref14_find cuneiformref14_find = true := by kernel_rfl
theorem cuneiformref10_Best_code : okFun Try.prog F.cuneiformref10_Best cuneiformref10_Best = true := by kernel_rfl
theorem cuneiformref14_Seqs_code : okFun Try.prog F.cuneiformref14_Seqs cuneiformref14_Seqs = true := by kernel_rfl
theorem cuneiformref10_After_code : okFun Try.prog F.cuneiformref10_After cuneiformref10_After = true := by kernel_rfl
theorem cuneiformref13_New_code : okFun Try.prog F.cuneiformref13_New cuneiformref13_New = true := by kernel_rfl
theorem cuneiformref13_Put_code : okFun Try.prog F.cuneiformref13_Put cuneiformref13_Put = true := by kernel_rfl
theorem cuneiformref13_Full_code : okFun Try.prog F.cuneiformref13_Full cuneiformref13_Full = true := by kernel_rfl
theorem cuneiformref13_Bytes_code : okFun Try.prog F.cuneiformref13_Bytes cuneiformref13_Bytes = true := by kernel_rfl
theorem cuneiformref14_Held_code : okFun Try.prog F.cuneiformref14_Held cuneiformref14_Held = true := by kernel_rfl
theorem cuneiformlaw13_Alike_code : okFun Try.prog F.cuneiformlaw13_Alike cuneiformlaw13_Alike = true := by kernel_rfl
theorem head_wrong_code : okFun Try.prog F.head_wrong head_wrong = true := by kernel_rfl
theorem serial_Oldest_code : okFun Try.prog F.serial_Oldest serial_Oldest = true := by kernel_rfl
theorem serial_After_code : okFun Try.prog F.serial_After serial_After = true := by kernel_rfl
theorem slot_New_code : okFun Try.prog F.slot_New slot_New = true := by kernel_rfl
theorem head_Mates_code : okFun Try.prog F.head_Mates head_Mates = true := by kernel_rfl
theorem slot_Slot_Full_code : okFun Try.prog F.slot_Slot_Full slot_Slot_Full = true := by kernel_rfl
theorem cut_Parts_1_code : okFun Try.prog F.cut_Parts_1 cut_Parts_1 = true := by kernel_rfl
theorem table_Table_each_1_code : okFun Try.prog F.table_Table_each_1 table_Table_each_1 = true := by kernel_rfl
theorem cuneiformref10_Way_code : okFun Try.prog F.cuneiformref10_Way cuneiformref10_Way = true := by kernel_rfl
theorem cuneiformref12_Mates_code : okFun Try.prog F.cuneiformref12_Mates cuneiformref12_Mates = true := by kernel_rfl
theorem cuneiformref13_Has_code : okFun Try.prog F.cuneiformref13_Has cuneiformref13_Has = true := by kernel_rfl
theorem cuneiformref13_Size_code : okFun Try.prog F.cuneiformref13_Size cuneiformref13_Size = true := by kernel_rfl
theorem slot_Slot_Head_code : okFun Try.prog F.slot_Slot_Head slot_Slot_Head = true := by kernel_rfl
theorem slot_Slot_Have_code : okFun Try.prog F.slot_Slot_Have slot_Slot_Have = true := by kernel_rfl
theorem slot_Slot_Missing_code : okFun Try.prog F.slot_Slot_Missing slot_Slot_Missing = true := by kernel_rfl
theorem head_wrong_1_code : okFun Try.prog F.head_wrong_1 head_wrong_1 = true := by kernel_rfl
theorem serial_taken_code : okFun Try.prog F.serial_taken serial_taken = true := by kernel_rfl
theorem serial_Oldest_1_code : okFun Try.prog F.serial_Oldest_1 serial_Oldest_1 = true := by kernel_rfl
theorem serial_Diff_code : okFun Try.prog F.serial_Diff serial_Diff = true := by kernel_rfl
theorem slot_Slot_Missing_1_code : okFun Try.prog F.slot_Slot_Missing_1 slot_Slot_Missing_1 = true := by kernel_rfl
theorem slices_Values_uint32_uint32_code : okFun Try.prog F.slices_Values_uint32_uint32 slices_Values_uint32_uint32 = true := by kernel_rfl
theorem slices_Values_uint32_uint32_1_code : okFun Try.prog F.slices_Values_uint32_uint32_1 slices_Values_uint32_uint32_1 = true := by kernel_rfl
def codes : CT := [(F.cuneiformlaw14_TableNext, cuneiformlaw14_TableNext), (F.cuneiformlaw14_TableBounds, cuneiformlaw14_TableBounds), (F.cuneiformlaw14_TablePlays, cuneiformlaw14_TablePlays), (F.table_New, table_New), (F.cuneiformlaw08_Cut, cuneiformlaw08_Cut), (F.table_Table_Put, table_Table_Put), (F.cut_Frames, cut_Frames), (F.cuneiformlaw14_known, cuneiformlaw14_known), (F.cuneiformref01_Same, cuneiformref01_Same), (F.table_Table_Drop, table_Table_Drop), (F.table_Table_Seqs, table_Table_Seqs), (F.table_Table_Held, table_Table_Held), (F.table_Table_Len, table_Table_Len), (F.cuneiformlaw14_seqs, cuneiformlaw14_seqs), (F.table_Table_All, table_Table_All), (F.cuneiformlaw14_Outs, cuneiformlaw14_Outs), (F.table_Table_Room, table_Table_Room), (F.table_Table_Copy, table_Table_Copy), (F.cuneiformref14_Put, cuneiformref14_Put), (F.cuneiformlaw08_Of, cuneiformlaw08_Of), (F.cuneiformref14_Drop, cuneiformref14_Drop), (F.cuneiformlaw14_Alike, cuneiformlaw14_Alike), (F.head_Check, head_Check), (F.table_Table_fresh, table_Table_fresh), (F.slot_Slot_Put, slot_Slot_Put), (F.slot_Slot_Bytes, slot_Slot_Bytes), (F.cut_Count, cut_Count), (F.cut_Parts, cut_Parts), (F.slices_Index_uint32_uint32, slices_Index_uint32_uint32), (F.slices_Delete_uint32_uint32, natF .del), (F.slices_Clone_uint32_uint32, slices_Clone_uint32_uint32), (F.table_Table_each, table_Table_each), (F.slot_Slot_Size, slot_Slot_Size), (F.table_Table_All_1, table_Table_All_1), (F.slot_Slot_Copy, slot_Slot_Copy), (F.cuneiformref07_Check, cuneiformref07_Check), (F.cuneiformref14_find, cuneiformref14_find), (F.cuneiformref10_Best, cuneiformref10_Best), (F.cuneiformref14_Seqs, cuneiformref14_Seqs), (F.cuneiformref10_After, cuneiformref10_After), (F.cuneiformref13_New, cuneiformref13_New), (F.cuneiformref13_Put, cuneiformref13_Put), (F.cuneiformref13_Full, cuneiformref13_Full), (F.cuneiformref13_Bytes, cuneiformref13_Bytes), (F.cuneiformref14_Held, cuneiformref14_Held), (F.cuneiformlaw13_Alike, cuneiformlaw13_Alike), (F.head_wrong, head_wrong), (F.serial_Oldest, serial_Oldest), (F.serial_After, serial_After), (F.slot_New, slot_New), (F.head_Mates, head_Mates), (F.slot_Slot_Full, slot_Slot_Full), (F.cut_Parts_1, cut_Parts_1), (F.table_Table_each_1, table_Table_each_1), (F.maps_Clone_map_int_byte_int_byte, natF .clone), (F.cuneiformref10_Way, cuneiformref10_Way), (F.cuneiformref12_Mates, cuneiformref12_Mates), (F.cuneiformref13_Has, cuneiformref13_Has), (F.cuneiformref13_Size, cuneiformref13_Size), (F.slot_Slot_Head, slot_Slot_Head), (F.slot_Slot_Have, slot_Slot_Have), (F.slot_Slot_Missing, slot_Slot_Missing), (F.head_wrong_1, head_wrong_1), (F.serial_taken, serial_taken), (F.serial_Oldest_1, serial_Oldest_1), (F.serial_Diff, serial_Diff), (F.slot_Slot_Missing_1, slot_Slot_Missing_1), (F.slices_Values_uint32_uint32, slices_Values_uint32_uint32), (F.slices_Values_uint32_uint32_1, slices_Values_uint32_uint32_1)]
theorem codes_ok : AllOk Try.prog codes := ⟨cuneiformlaw14_TableNext_code, cuneiformlaw14_TableBounds_code, cuneiformlaw14_TablePlays_code, table_New_code, cuneiformlaw08_Cut_code, table_Table_Put_code, cut_Frames_code, cuneiformlaw14_known_code, cuneiformref01_Same_code, table_Table_Drop_code, table_Table_Seqs_code, table_Table_Held_code, table_Table_Len_code, cuneiformlaw14_seqs_code, table_Table_All_code, cuneiformlaw14_Outs_code, table_Table_Room_code, table_Table_Copy_code, cuneiformref14_Put_code, cuneiformlaw08_Of_code, cuneiformref14_Drop_code, cuneiformlaw14_Alike_code, head_Check_code, table_Table_fresh_code, slot_Slot_Put_code, slot_Slot_Bytes_code, cut_Count_code, cut_Parts_code, slices_Index_uint32_uint32_code, slices_Delete_uint32_uint32_nat, slices_Clone_uint32_uint32_code, table_Table_each_code, slot_Slot_Size_code, table_Table_All_1_code, slot_Slot_Copy_code, cuneiformref07_Check_code, cuneiformref14_find_code, cuneiformref10_Best_code, cuneiformref14_Seqs_code, cuneiformref10_After_code, cuneiformref13_New_code, cuneiformref13_Put_code, cuneiformref13_Full_code, cuneiformref13_Bytes_code, cuneiformref14_Held_code, cuneiformlaw13_Alike_code, head_wrong_code, serial_Oldest_code, serial_After_code, slot_New_code, head_Mates_code, slot_Slot_Full_code, cut_Parts_1_code, table_Table_each_1_code, maps_Clone_map_int_byte_int_byte_nat, cuneiformref10_Way_code, cuneiformref12_Mates_code, cuneiformref13_Has_code, cuneiformref13_Size_code, slot_Slot_Head_code, slot_Slot_Have_code, slot_Slot_Missing_code, head_wrong_1_code, serial_taken_code, serial_Oldest_1_code, serial_Diff_code, slot_Slot_Missing_1_code, slices_Values_uint32_uint32_code, slices_Values_uint32_uint32_1_code, trivial⟩
end Go.Proofs.Ytamcfgdnhgmkpaa
