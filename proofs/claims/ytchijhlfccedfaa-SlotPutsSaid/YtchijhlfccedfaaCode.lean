/-
  The code that the statements of this seat reach, in the form of that machine, and that it is the program's. By an AI agent. No person has read it.
-/
import Derived.Test.YtchijhlfccedfaaProg
import Derived.Test.YtchijhlfccedfaaAm8
import Derived.KernelRfl
set_option linter.unusedSimpArgs false
set_option linter.unusedVariables false

/-
  The code of this seat in the form of the abstract machine, and that it is the program's. Printed by a program (wip/am/gen.py, code.py). By an AI agent.
-/
namespace Go.Proofs.Ytchijhlfccedfaa
open Go Go.Am
namespace F
def cuneiformlaw13_SlotPuts : FuncId := 3
def slot_New : FuncId := 6
def cuneiformref07_Check : FuncId := 7
def cuneiformlaw13_known : FuncId := 8
def cuneiformref13_New : FuncId := 9
def cuneiformlaw08_Cut : FuncId := 10
def slot_Slot_Copy : FuncId := 11
def cuneiformref13_Put : FuncId := 12
def cuneiformlaw08_Of : FuncId := 13
def slot_Slot_Put : FuncId := 14
def cuneiformlaw13_Alike : FuncId := 15
def slot_Slot_Bytes : FuncId := 16
def slot_Slot_Missing : FuncId := 17
def slot_Slot_Head : FuncId := 18
def slot_Slot_Have : FuncId := 19
def slot_Slot_Size : FuncId := 20
def slot_Slot_Full : FuncId := 21
def cuneiformref01_Same : FuncId := 23
def head_Check : FuncId := 24
def maps_Clone_map_int_byte_int_byte : FuncId := 25
def cuneiformref12_Mates : FuncId := 26
def cuneiformref13_Has : FuncId := 27
def cuneiformref13_Size : FuncId := 28
def head_Mates : FuncId := 29
def cuneiformref13_Full : FuncId := 30
def cuneiformref13_Bytes : FuncId := 31
def slot_Slot_Missing_1 : FuncId := 32
def head_wrong : FuncId := 35
def head_wrong_1 : FuncId := 38
end F
namespace T
def int : TypeId := 3
def bool : TypeId := 4
def uint8 : TypeId := 5
def head_Head : TypeId := 24
def p_slot_Slot : TypeId := 26
def api_Errno : TypeId := 27
def cuneiformref07_H : TypeId := 31
def cuneiformref13_S : TypeId := 35
def frame_Frame : TypeId := 39
def cuneiformref08_F : TypeId := 45
def slot_Slot : TypeId := 70
end T
def cuneiformlaw13_SlotPuts.d0 : List AOper := [⟨(some 59), .load (some 6) (.tmp 8), none⟩,
    ⟨(some 60), .load (some 6) (.tmp 10), none⟩,
    ⟨(some 61), .call (.const (.fn F.cuneiformlaw08_Of [] [])) [(.tmp 60)], none⟩,
    ⟨(some 62), .call (.const (.fn F.cuneiformref13_Put [] [])) [(.tmp 59), (.tmp 61)], none⟩,
    ⟨(some 58), .mov (.tmp 62), none⟩,
    ⟨(some 63), .extract (.tmp 58) 0, none⟩,
    ⟨(some 64), .extract (.tmp 58) 1, none⟩,
    ⟨(some 12), .alloc T.cuneiformref13_S [(.int .i64 0), (.int .i64 0), (.int .u32 0), (.int .i64 0), (.int .i64 0), .nils], none⟩,
    ⟨none, .store 6 (.tmp 12) (.tmp 63), none⟩,
    ⟨(some 13), .mov (.tmp 64), none⟩]
def cuneiformlaw13_SlotPuts.d0b : List (List Nat) := [[], [], [1], [0, 1, 2], [0, 1, 2, 3], [0, 1, 2, 3, 4], [0, 1, 2, 3, 4], [], [0, 1, 2, 3, 4, 5, 7], [0, 1, 2, 3, 4, 5, 6, 7, 8]]
def cuneiformlaw13_SlotPuts.b1 : ACode := .seq (.seq (.region [⟨(some 41), .mov (.tmp 9), none⟩,
    ⟨(some 42), .mov (.tmp 1), none⟩,
    ⟨(some 43), .len .slice (.tmp 42), none⟩,
    ⟨(some 44), .bin .lss (.tmp 41) (.tmp 43), none⟩,
    ⟨(some 45), .mov (.tmp 44), none⟩,
    ⟨(some 46), .mov (.tmp 9), some (45, true)⟩,
    ⟨(some 47), .bin .lss (.tmp 46) (.const (.int .i64 40)), some (45, true)⟩,
    ⟨(some 48), .pick (.tmp 45) (.tmp 47) (.const (.bool false)), none⟩] [1, 5, 8, 9, 48])
  (.cond (.tmp 48) (.skip) (.exit 0)))
  (.seq (.block 1 (.seq (.region [⟨(some 51), .mov (.tmp 1), none⟩,
    ⟨(some 52), .mov (.tmp 9), none⟩,
    ⟨(some 53), .idx 6 none (.tmp 51) (.tmp 52), none⟩,
    ⟨(some 54), .load (some 6) (.tmp 53), none⟩,
    ⟨(some 55), .call (.const (.fn F.cuneiformlaw08_Cut [] [])) [(.tmp 54)], none⟩,
    ⟨(some 10), .alloc T.frame_Frame [(.int .i64 0), (.int .i64 0), (.int .u32 0), (.int .i64 0), (.int .i64 0), .nils], none⟩,
    ⟨none, .store 6 (.tmp 10) (.tmp 55), none⟩] [1, 5, 8, 9, 10])
  (.seq (.region [⟨(some 56), .mov (.tmp 5), none⟩,
    ⟨(some 57), .call (.const (.fn F.slot_Slot_Copy [] [])) [(.tmp 56)], none⟩,
    ⟨(some 11), .mov (.tmp 57), none⟩] [1, 5, 8, 9, 10, 11])
  (.seq (.draw cuneiformlaw13_SlotPuts.d0 cuneiformlaw13_SlotPuts.d0b [[0, 1, 2, 3, 4, 5, 6, 7, 8, 9], [0, 1, 2, 7, 3, 4, 5, 6, 8, 9], [0, 1, 7, 2, 3, 4, 5, 6, 8, 9]] [(2, 0), (7, 0), (7, 1)] [1, 5, 8, 9, 10, 11, 12, 13])
  (.seq (.seq (.region [⟨(some 65), .mov (.tmp 11), none⟩,
    ⟨(some 66), .eq false .ptr (.tmp 65) (.const .nilp), none⟩,
    ⟨(some 67), .mov (.tmp 66), none⟩,
    ⟨(some 68), .mov (.tmp 5), some (67, false)⟩,
    ⟨(some 69), .load (some 6) (.tmp 10), some (67, false)⟩,
    ⟨(some 70), .call (.const (.fn F.slot_Slot_Put [] [])) [(.tmp 68), (.tmp 69)], some (67, false)⟩,
    ⟨(some 71), .mov (.tmp 13), some (67, false)⟩,
    ⟨(some 72), .bin .neq (.tmp 70) (.tmp 71), some (67, false)⟩,
    ⟨(some 73), .pick (.tmp 67) (.const (.bool true)) (.tmp 72), none⟩,
    ⟨(some 74), .mov (.tmp 73), none⟩,
    ⟨(some 75), .mov (.tmp 11), some (74, false)⟩,
    ⟨(some 76), .load (some 6) (.tmp 8), some (74, false)⟩,
    ⟨(some 77), .call (.const (.fn F.cuneiformlaw13_Alike [] [])) [(.tmp 75), (.tmp 76)], some (74, false)⟩,
    ⟨(some 78), .un .not (.tmp 77), some (74, false)⟩,
    ⟨(some 79), .pick (.tmp 74) (.const (.bool true)) (.tmp 78), none⟩] [1, 5, 8, 9, 12, 79])
  (.cond (.tmp 79) (.seq (.region [⟨(some 4), .mov (.const (.bool false)), none⟩] [4])
  (.ret)) (.skip)))
  (.seq (.region [⟨(some 80), .load (some 6) (.tmp 12), none⟩,
    ⟨none, .store 6 (.tmp 8) (.tmp 80), none⟩] [1, 5, 8, 9])
  (.seq (.region [⟨(some 81), .mov (.tmp 5), none⟩,
    ⟨(some 82), .load (some 6) (.tmp 8), none⟩,
    ⟨(some 83), .call (.const (.fn F.cuneiformlaw13_Alike [] [])) [(.tmp 81), (.tmp 82)], none⟩,
    ⟨(some 84), .un .not (.tmp 83), none⟩] [1, 5, 8, 9, 84])
  (.cond (.tmp 84) (.seq (.region [⟨(some 4), .mov (.const (.bool false)), none⟩] [4])
  (.ret)) (.skip)))))))))
  (.region [⟨(some 49), .mov (.tmp 9), none⟩,
    ⟨(some 50), .bin .add (.tmp 49) (.const (.int .i64 1)), none⟩,
    ⟨(some 9), .mov (.tmp 50), none⟩] [1, 5, 8, 9]))
def cuneiformlaw13_SlotPuts.body : ACode := .seq (.region [⟨(some 2), .box T.head_Head (.tmp 0), none⟩,
    ⟨(some 4), .mov (.const (.bool false)), none⟩] [1, 2])
  (.seq (.region [⟨(some 15), .load (some 5) (.tmp 2), none⟩,
    ⟨(some 16), .call (.const (.fn F.slot_New [] [])) [(.tmp 15)], none⟩,
    ⟨(some 14), .mov (.tmp 16), none⟩,
    ⟨(some 17), .extract (.tmp 14) 0, none⟩,
    ⟨(some 18), .extract (.tmp 14) 1, none⟩,
    ⟨(some 5), .mov (.tmp 17), none⟩,
    ⟨(some 6), .mov (.tmp 18), none⟩] [1, 2, 5, 6])
  (.seq (.region [⟨(some 19), .load (some 5) (.tmp 2), none⟩,
    ⟨(some 20), .call (.const (.fn F.cuneiformref07_Check [] [])) [(.tmp 19)], none⟩,
    ⟨(some 7), .mov (.tmp 20), none⟩] [1, 2, 5, 6, 7])
  (.seq (.seq (.region [⟨(some 21), .mov (.tmp 7), none⟩,
    ⟨(some 22), .bin .neq (.tmp 21) (.const (.int .i64 0)), none⟩] [1, 2, 5, 6, 7, 22])
  (.cond (.tmp 22) (.seq (.region [⟨(some 23), .call (.const (.fn F.cuneiformlaw13_known [] [])) [], none⟩,
    ⟨(some 24), .mov (.tmp 23), none⟩,
    ⟨(some 25), .mov (.tmp 5), some (24, true)⟩,
    ⟨(some 26), .eq false .ptr (.tmp 25) (.const .nilp), some (24, true)⟩,
    ⟨(some 27), .pick (.tmp 24) (.tmp 26) (.const (.bool false)), none⟩,
    ⟨(some 28), .mov (.tmp 27), none⟩,
    ⟨(some 29), .mov (.tmp 6), some (28, true)⟩,
    ⟨(some 30), .mov (.tmp 7), some (28, true)⟩,
    ⟨(some 31), .bin .eql (.tmp 29) (.tmp 30), some (28, true)⟩,
    ⟨(some 32), .pick (.tmp 28) (.tmp 31) (.const (.bool false)), none⟩,
    ⟨(some 4), .mov (.tmp 32), none⟩] [4])
  (.ret)) (.skip)))
  (.seq (.seq (.region [⟨(some 33), .mov (.tmp 6), none⟩,
    ⟨(some 34), .bin .neq (.tmp 33) (.const (.int .i64 0)), none⟩,
    ⟨(some 35), .mov (.tmp 34), none⟩,
    ⟨(some 36), .mov (.tmp 5), some (35, false)⟩,
    ⟨(some 37), .eq false .ptr (.tmp 36) (.const .nilp), some (35, false)⟩,
    ⟨(some 38), .pick (.tmp 35) (.const (.bool true)) (.tmp 37), none⟩] [1, 2, 5, 38])
  (.cond (.tmp 38) (.seq (.region [⟨(some 4), .mov (.const (.bool false)), none⟩] [4])
  (.ret)) (.skip)))
  (.seq (.region [⟨(some 39), .load (some 5) (.tmp 2), none⟩,
    ⟨(some 40), .call (.const (.fn F.cuneiformref13_New [] [])) [(.tmp 39)], none⟩,
    ⟨(some 8), .alloc T.cuneiformref13_S [(.int .i64 0), (.int .i64 0), (.int .u32 0), (.int .i64 0), (.int .i64 0), .nils], none⟩,
    ⟨none, .store 6 (.tmp 8) (.tmp 40), none⟩] [1, 5, 8])
  (.seq (.seq (.region [⟨(some 9), .mov (.const (.int .i64 0)), none⟩] [1, 5, 8, 9])
  (.block 0 (.loop cuneiformlaw13_SlotPuts.b1)))
  (.seq (.region [⟨(some 85), .call (.const (.fn F.cuneiformlaw13_known [] [])) [], none⟩,
    ⟨(some 4), .mov (.tmp 85), none⟩] [4])
  (.ret))))))))
def cuneiformlaw13_SlotPuts : AFun := ⟨86, 2, [.tmp 4], cuneiformlaw13_SlotPuts.body⟩
def slot_New.body : ACode := .seq (.region [⟨(some 1), .box T.head_Head (.tmp 0), none⟩,
    ⟨(some 2), .mov (.const .nilp), none⟩,
    ⟨(some 3), .mov (.const (.int .i64 0)), none⟩] [1])
  (.seq (.seq (.region [⟨(some 5), .load (some 5) (.tmp 1), none⟩,
    ⟨(some 6), .call (.const (.fn F.head_Check [] [])) [(.tmp 5)], none⟩,
    ⟨(some 4), .mov (.tmp 6), none⟩] [1, 4])
  (.seq (.region [⟨(some 7), .mov (.tmp 4), none⟩,
    ⟨(some 8), .bin .neq (.tmp 7) (.const (.int .i64 0)), none⟩] [1, 4, 8])
  (.cond (.tmp 8) (.seq (.region [⟨(some 9), .mov (.tmp 4), none⟩,
    ⟨(some 2), .mov (.const .nilp), none⟩,
    ⟨(some 3), .mov (.tmp 9), none⟩] [2, 3])
  (.ret)) (.skip))))
  (.seq (.region [⟨(some 10), .field 3 (.tmp 1), none⟩,
    ⟨none, .store 1 (.tmp 10) (.const (.int .i64 0)), none⟩] [1])
  (.seq (.region [⟨(some 11), .load (some 5) (.tmp 1), none⟩,
    ⟨(some 12), .build [(.int .i64 0), (.int .i64 0), (.int .u32 0), (.int .i64 0), (.int .i64 0)] [(0, 5, (.tmp 11))], none⟩,
    ⟨(some 13), .mkmap, none⟩,
    ⟨(some 14), .build [(.int .i64 0), (.int .i64 0), (.int .u32 0), (.int .i64 0), (.int .i64 0), .nilm, (.int .i64 0)] [(0, 5, (.tmp 12)), (5, 1, (.tmp 13)), (6, 1, (.const (.int .i64 0)))], none⟩,
    ⟨(some 15), .box T.slot_Slot (.tmp 14), none⟩,
    ⟨(some 2), .mov (.tmp 15), none⟩,
    ⟨(some 3), .mov (.const (.int .i64 0)), none⟩] [2, 3])
  (.ret))))
def slot_New : AFun := ⟨16, 1, [.tmp 2, .tmp 3], slot_New.body⟩
def cuneiformref07_Check.body : ACode := .seq (.region [⟨(some 1), .box T.cuneiformref07_H (.tmp 0), none⟩,
    ⟨(some 2), .mov (.const (.int .i64 0)), none⟩] [1])
  (.seq (.seq (.region [⟨(some 3), .field 0 (.tmp 1), none⟩,
    ⟨(some 4), .load none (.tmp 3), none⟩,
    ⟨(some 5), .bin .neq (.tmp 4) (.const (.int .i64 1)), none⟩,
    ⟨(some 6), .mov (.tmp 5), none⟩,
    ⟨(some 7), .field 0 (.tmp 1), some (6, true)⟩,
    ⟨(some 8), .load none (.tmp 7), some (6, true)⟩,
    ⟨(some 9), .bin .neq (.tmp 8) (.const (.int .i64 2)), some (6, true)⟩,
    ⟨(some 10), .pick (.tmp 6) (.tmp 9) (.const (.bool false)), none⟩] [1, 10])
  (.cond (.tmp 10) (.seq (.region [⟨(some 2), .mov (.const (.int .i64 10)), none⟩] [2])
  (.ret)) (.skip)))
  (.seq (.seq (.region [⟨(some 11), .field 1 (.tmp 1), none⟩,
    ⟨(some 12), .load none (.tmp 11), none⟩,
    ⟨(some 13), .bin .lss (.tmp 12) (.const (.int .i64 1)), none⟩,
    ⟨(some 14), .mov (.tmp 13), none⟩,
    ⟨(some 15), .field 1 (.tmp 1), some (14, false)⟩,
    ⟨(some 16), .load none (.tmp 15), some (14, false)⟩,
    ⟨(some 17), .bin .gtr (.tmp 16) (.const (.int .i64 5)), some (14, false)⟩,
    ⟨(some 18), .pick (.tmp 14) (.const (.bool true)) (.tmp 17), none⟩] [1, 18])
  (.cond (.tmp 18) (.seq (.region [⟨(some 2), .mov (.const (.int .i64 9)), none⟩] [2])
  (.ret)) (.skip)))
  (.seq (.seq (.region [⟨(some 19), .field 4 (.tmp 1), none⟩,
    ⟨(some 20), .load none (.tmp 19), none⟩,
    ⟨(some 21), .bin .lss (.tmp 20) (.const (.int .i64 1)), none⟩,
    ⟨(some 22), .mov (.tmp 21), none⟩,
    ⟨(some 23), .field 4 (.tmp 1), some (22, false)⟩,
    ⟨(some 24), .load none (.tmp 23), some (22, false)⟩,
    ⟨(some 25), .bin .gtr (.tmp 24) (.const (.int .i64 255)), some (22, false)⟩,
    ⟨(some 26), .pick (.tmp 22) (.const (.bool true)) (.tmp 25), none⟩,
    ⟨(some 27), .mov (.tmp 26), none⟩,
    ⟨(some 28), .field 3 (.tmp 1), some (27, false)⟩,
    ⟨(some 29), .load none (.tmp 28), some (27, false)⟩,
    ⟨(some 30), .bin .lss (.tmp 29) (.const (.int .i64 0)), some (27, false)⟩,
    ⟨(some 31), .pick (.tmp 27) (.const (.bool true)) (.tmp 30), none⟩,
    ⟨(some 32), .mov (.tmp 31), none⟩,
    ⟨(some 33), .field 3 (.tmp 1), some (32, false)⟩,
    ⟨(some 34), .load none (.tmp 33), some (32, false)⟩,
    ⟨(some 35), .field 4 (.tmp 1), some (32, false)⟩,
    ⟨(some 36), .load none (.tmp 35), some (32, false)⟩,
    ⟨(some 37), .bin .geq (.tmp 34) (.tmp 36), some (32, false)⟩,
    ⟨(some 38), .pick (.tmp 32) (.const (.bool true)) (.tmp 37), none⟩] [38])
  (.cond (.tmp 38) (.seq (.region [⟨(some 2), .mov (.const (.int .i64 3)), none⟩] [2])
  (.ret)) (.skip)))
  (.seq (.region [⟨(some 2), .mov (.const (.int .i64 0)), none⟩] [2])
  (.ret)))))
def cuneiformref07_Check : AFun := ⟨39, 1, [.tmp 2], cuneiformref07_Check.body⟩
def cuneiformlaw13_known.body : ACode := .seq (.region [⟨(some 0), .mov (.const (.bool false)), none⟩] [])
  (.seq (.region [⟨(some 7), .build [(.int .i64 0), (.int .i64 0), (.int .u32 0), (.int .i64 0), (.int .i64 0)] [(0, 1, (.const (.int .i64 1))), (1, 1, (.const (.int .i64 1))), (4, 1, (.const (.int .i64 2)))], none⟩,
    ⟨(some 1), .alloc T.head_Head [(.int .i64 0), (.int .i64 0), (.int .u32 0), (.int .i64 0), (.int .i64 0)], none⟩,
    ⟨none, .store 5 (.tmp 1) (.tmp 7), none⟩] [1])
  (.seq (.region [⟨(some 8), .load (some 5) (.tmp 1), none⟩,
    ⟨(some 2), .alloc T.head_Head [(.int .i64 0), (.int .i64 0), (.int .u32 0), (.int .i64 0), (.int .i64 0)], none⟩,
    ⟨none, .store 5 (.tmp 2) (.tmp 8), none⟩] [1, 2])
  (.seq (.region [⟨(some 9), .field 3 (.tmp 2), none⟩,
    ⟨none, .store 1 (.tmp 9) (.const (.int .i64 1)), none⟩] [1, 2])
  (.seq (.region [⟨(some 11), .load (some 5) (.tmp 1), none⟩,
    ⟨(some 12), .call (.const (.fn F.slot_New [] [])) [(.tmp 11)], none⟩,
    ⟨(some 10), .mov (.tmp 12), none⟩,
    ⟨(some 13), .extract (.tmp 10) 0, none⟩,
    ⟨(some 14), .extract (.tmp 10) 1, none⟩,
    ⟨(some 3), .mov (.tmp 13), none⟩,
    ⟨(some 4), .mov (.tmp 14), none⟩] [1, 2, 3, 4])
  (.seq (.seq (.region [⟨(some 15), .mov (.tmp 4), none⟩,
    ⟨(some 16), .bin .neq (.tmp 15) (.const (.int .i64 0)), none⟩,
    ⟨(some 17), .mov (.tmp 16), none⟩,
    ⟨(some 18), .mov (.tmp 3), some (17, false)⟩,
    ⟨(some 19), .eq false .ptr (.tmp 18) (.const .nilp), some (17, false)⟩,
    ⟨(some 20), .pick (.tmp 17) (.const (.bool true)) (.tmp 19), none⟩,
    ⟨(some 21), .mov (.tmp 20), none⟩,
    ⟨(some 22), .mov (.tmp 3), some (21, false)⟩,
    ⟨(some 23), .load (some 5) (.tmp 2), some (21, false)⟩,
    ⟨(some 24), .lit T.uint8 1 2 [(.int .u8 0), (.int .u8 0)] [(0, 1, (.const (.int .u8 8))), (1, 1, (.const (.int .u8 9)))], some (21, false)⟩,
    ⟨(some 25), .build [(.int .i64 0), (.int .i64 0), (.int .u32 0), (.int .i64 0), (.int .i64 0), .nils] [(0, 5, (.tmp 23)), (5, 1, (.tmp 24))], some (21, false)⟩,
    ⟨(some 26), .call (.const (.fn F.slot_Slot_Put [] [])) [(.tmp 22), (.tmp 25)], some (21, false)⟩,
    ⟨(some 27), .bin .neq (.tmp 26) (.const (.int .i64 0)), some (21, false)⟩,
    ⟨(some 28), .pick (.tmp 21) (.const (.bool true)) (.tmp 27), none⟩,
    ⟨(some 29), .mov (.tmp 28), none⟩,
    ⟨(some 30), .mov (.tmp 3), some (29, false)⟩,
    ⟨(some 31), .load (some 5) (.tmp 1), some (29, false)⟩,
    ⟨(some 32), .lit T.uint8 1 1 [(.int .u8 0)] [(0, 1, (.const (.int .u8 7)))], some (29, false)⟩,
    ⟨(some 33), .build [(.int .i64 0), (.int .i64 0), (.int .u32 0), (.int .i64 0), (.int .i64 0), .nils] [(0, 5, (.tmp 31)), (5, 1, (.tmp 32))], some (29, false)⟩,
    ⟨(some 34), .call (.const (.fn F.slot_Slot_Put [] [])) [(.tmp 30), (.tmp 33)], some (29, false)⟩,
    ⟨(some 35), .bin .neq (.tmp 34) (.const (.int .i64 0)), some (29, false)⟩,
    ⟨(some 36), .pick (.tmp 29) (.const (.bool true)) (.tmp 35), none⟩,
    ⟨(some 37), .mov (.tmp 36), none⟩,
    ⟨(some 38), .mov (.tmp 3), some (37, false)⟩,
    ⟨(some 39), .load (some 5) (.tmp 2), some (37, false)⟩,
    ⟨(some 40), .lit T.uint8 1 2 [(.int .u8 0), (.int .u8 0)] [(0, 1, (.const (.int .u8 8))), (1, 1, (.const (.int .u8 9)))], some (37, false)⟩,
    ⟨(some 41), .build [(.int .i64 0), (.int .i64 0), (.int .u32 0), (.int .i64 0), (.int .i64 0), .nils] [(0, 5, (.tmp 39)), (5, 1, (.tmp 40))], some (37, false)⟩,
    ⟨(some 42), .call (.const (.fn F.slot_Slot_Put [] [])) [(.tmp 38), (.tmp 41)], some (37, false)⟩,
    ⟨(some 43), .bin .neq (.tmp 42) (.const (.int .i64 16)), some (37, false)⟩,
    ⟨(some 44), .pick (.tmp 37) (.const (.bool true)) (.tmp 43), none⟩] [3, 44])
  (.cond (.tmp 44) (.seq (.region [⟨(some 0), .mov (.const (.bool false)), none⟩] [0])
  (.ret)) (.skip)))
  (.seq (.region [⟨(some 46), .mov (.tmp 3), none⟩,
    ⟨(some 47), .call (.const (.fn F.slot_Slot_Bytes [] [])) [(.tmp 46)], none⟩,
    ⟨(some 45), .mov (.tmp 47), none⟩,
    ⟨(some 48), .extract (.tmp 45) 0, none⟩,
    ⟨(some 49), .extract (.tmp 45) 1, none⟩,
    ⟨(some 5), .mov (.tmp 48), none⟩,
    ⟨(some 6), .mov (.tmp 49), none⟩] [5, 6])
  (.seq (.region [⟨(some 50), .mov (.tmp 6), none⟩,
    ⟨(some 51), .mov (.tmp 50), none⟩,
    ⟨(some 52), .mov (.tmp 5), some (51, true)⟩,
    ⟨(some 53), .lit T.uint8 1 3 [(.int .u8 0), (.int .u8 0), (.int .u8 0)] [(0, 1, (.const (.int .u8 7))), (1, 1, (.const (.int .u8 8))), (2, 1, (.const (.int .u8 9)))], some (51, true)⟩,
    ⟨(some 54), .call (.const (.fn F.cuneiformref01_Same [] [])) [(.tmp 52), (.tmp 53)], some (51, true)⟩,
    ⟨(some 55), .pick (.tmp 51) (.tmp 54) (.const (.bool false)), none⟩,
    ⟨(some 0), .mov (.tmp 55), none⟩] [0])
  (.ret))))))))
def cuneiformlaw13_known : AFun := ⟨56, 0, [.tmp 0], cuneiformlaw13_known.body⟩
def cuneiformref13_New.body : ACode := .seq (.region [⟨(some 1), .box T.cuneiformref07_H (.tmp 0), none⟩,
    ⟨(some 2), .alloc T.cuneiformref13_S [(.int .i64 0), (.int .i64 0), (.int .u32 0), (.int .i64 0), (.int .i64 0), .nils], none⟩] [1, 2])
  (.seq (.region [⟨(some 3), .field 3 (.tmp 1), none⟩,
    ⟨none, .store 1 (.tmp 3) (.const (.int .i64 0)), none⟩] [1, 2])
  (.seq (.region [⟨(some 4), .load (some 5) (.tmp 1), none⟩,
    ⟨(some 5), .build [(.int .i64 0), (.int .i64 0), (.int .u32 0), (.int .i64 0), (.int .i64 0), .nils] [(0, 5, (.tmp 4))], none⟩,
    ⟨none, .store 6 (.tmp 2) (.tmp 5), none⟩] [2])
  (.ret)))
def cuneiformref13_New : AFun := ⟨6, 1, [.cell 2 (some 6)], cuneiformref13_New.body⟩
def cuneiformlaw08_Cut.body : ACode := .seq (.region [⟨(some 1), .box T.frame_Frame (.tmp 0), none⟩,
    ⟨(some 2), .alloc T.frame_Frame [(.int .i64 0), (.int .i64 0), (.int .u32 0), (.int .i64 0), (.int .i64 0), .nils], none⟩] [1, 2])
  (.seq (.region [⟨(some 3), .field 5 (.tmp 1), none⟩,
    ⟨(some 4), .load none (.tmp 3), none⟩,
    ⟨(some 5), .field 5 (.tmp 1), none⟩,
    ⟨(some 6), .load none (.tmp 5), none⟩,
    ⟨(some 7), .len .slice (.tmp 6), none⟩,
    ⟨(some 8), .maxmin false (.tmp 7) (.const (.int .i64 250)), none⟩,
    ⟨(some 9), .slice 1 .slice (.tmp 4) none (some (.tmp 8)) none, none⟩,
    ⟨(some 10), .field 5 (.tmp 1), none⟩,
    ⟨none, .store 1 (.tmp 10) (.tmp 9), none⟩] [1, 2])
  (.seq (.region [⟨(some 11), .load (some 6) (.tmp 1), none⟩,
    ⟨none, .store 6 (.tmp 2) (.tmp 11), none⟩] [2])
  (.ret)))
def cuneiformlaw08_Cut : AFun := ⟨12, 1, [.cell 2 (some 6)], cuneiformlaw08_Cut.body⟩
def slot_Slot_Copy.d0 : List AOper := [⟨(some 5), .mov (.tmp 0), none⟩,
    ⟨(some 6), .nilc (.tmp 5), none⟩,
    ⟨(some 7), .field 0 (.tmp 6), none⟩,
    ⟨(some 8), .load (some 5) (.tmp 7), none⟩,
    ⟨(some 9), .mov (.tmp 0), none⟩,
    ⟨(some 10), .nilc (.tmp 9), none⟩,
    ⟨(some 11), .field 5 (.tmp 10), none⟩,
    ⟨(some 12), .load none (.tmp 11), none⟩,
    ⟨(some 13), .call (.const (.fn F.maps_Clone_map_int_byte_int_byte [] [])) [(.tmp 12)], none⟩,
    ⟨(some 14), .mov (.tmp 0), none⟩,
    ⟨(some 15), .nilc (.tmp 14), none⟩,
    ⟨(some 16), .field 6 (.tmp 15), none⟩,
    ⟨(some 17), .load none (.tmp 16), none⟩,
    ⟨(some 18), .build [(.int .i64 0), (.int .i64 0), (.int .u32 0), (.int .i64 0), (.int .i64 0), .nilm, (.int .i64 0)] [(0, 5, (.tmp 8)), (5, 1, (.tmp 13)), (6, 1, (.tmp 17))], none⟩,
    ⟨(some 19), .box T.slot_Slot (.tmp 18), none⟩,
    ⟨(some 2), .mov (.tmp 19), none⟩]
def slot_Slot_Copy.d0b : List (List Nat) := [[], [0], [0, 1], [0, 1, 2], [], [4], [4, 5], [4, 5, 6], [4, 5, 6, 7], [], [9], [9, 10], [9, 10, 11], [0, 1, 2, 3, 4, 5, 6, 7, 8, 9, 10, 11, 12], [0, 1, 2, 3, 4, 5, 6, 7, 8, 9, 10, 11, 12, 13], [0, 1, 2, 3, 4, 5, 6, 7, 8, 9, 10, 11, 12, 13, 14]]
def slot_Slot_Copy.body : ACode := .seq (.region [⟨(some 2), .mov (.const .nilp), none⟩] [0])
  (.seq (.seq (.region [⟨(some 3), .mov (.tmp 0), none⟩,
    ⟨(some 4), .eq false .ptr (.tmp 3) (.const .nilp), none⟩] [0, 4])
  (.cond (.tmp 4) (.seq (.region [⟨(some 2), .mov (.const .nilp), none⟩] [2])
  (.ret)) (.skip)))
  (.seq (.draw slot_Slot_Copy.d0 slot_Slot_Copy.d0b [[0, 1, 2, 3, 4, 5, 6, 7, 9, 10, 11, 12, 8, 13, 14, 15]] [(8, 3), (8, 12)] [2])
  (.ret)))
def slot_Slot_Copy : AFun := ⟨20, 1, [.tmp 2], slot_Slot_Copy.body⟩
def cuneiformref13_Put.d0 : List AOper := [⟨(some 39), .load (some 6) (.tmp 2), none⟩,
    ⟨(some 40), .call (.const (.fn F.cuneiformref13_Size [] [])) [(.tmp 39)], none⟩,
    ⟨(some 41), .field 5 (.tmp 3), none⟩,
    ⟨(some 42), .load none (.tmp 41), none⟩,
    ⟨(some 43), .len .slice (.tmp 42), none⟩,
    ⟨(some 44), .bin .add (.tmp 40) (.tmp 43), none⟩,
    ⟨(some 45), .bin .gtr (.tmp 44) (.const (.int .i64 192)), none⟩]
def cuneiformref13_Put.d0b : List (List Nat) := [[], [0], [], [2], [2, 3], [0, 1, 2, 3, 4], [0, 1, 2, 3, 4, 5]]
def cuneiformref13_Put.d1 : List AOper := [⟨(some 47), .lit T.cuneiformref08_F 6 0 [] [], none⟩,
    ⟨(some 48), .field 5 (.tmp 2), none⟩,
    ⟨(some 49), .load none (.tmp 48), none⟩,
    ⟨(some 50), .append T.cuneiformref08_F 6 64 (.tmp 47) (.tmp 49), none⟩,
    ⟨(some 51), .load (some 6) (.tmp 3), none⟩,
    ⟨(some 52), .lit T.cuneiformref08_F 6 1 [(.int .i64 0), (.int .i64 0), (.int .u32 0), (.int .i64 0), (.int .i64 0), .nils] [(0, 6, (.tmp 51))], none⟩,
    ⟨(some 53), .append T.cuneiformref08_F 6 64 (.tmp 50) (.tmp 52), none⟩,
    ⟨(some 54), .field 5 (.tmp 2), none⟩,
    ⟨none, .store 1 (.tmp 54) (.tmp 53), none⟩]
def cuneiformref13_Put.d1b : List (List Nat) := [[], [], [1], [0, 1, 2], [], [4], [0, 1, 2, 3, 4, 5], [0, 1, 2, 3, 4, 5, 6], [0, 1, 2, 3, 4, 5, 6, 7]]
def cuneiformref13_Put.body : ACode := .seq (.region [⟨(some 2), .box T.cuneiformref13_S (.tmp 0), none⟩,
    ⟨(some 3), .box T.cuneiformref08_F (.tmp 1), none⟩,
    ⟨(some 4), .alloc T.cuneiformref13_S [(.int .i64 0), (.int .i64 0), (.int .u32 0), (.int .i64 0), (.int .i64 0), .nils], none⟩,
    ⟨(some 5), .mov (.const (.int .i64 0)), none⟩] [2, 3, 4])
  (.seq (.seq (.region [⟨(some 6), .field 0 (.tmp 3), none⟩,
    ⟨(some 7), .load (some 5) (.tmp 6), none⟩,
    ⟨(some 8), .field 0 (.tmp 2), none⟩,
    ⟨(some 9), .load (some 5) (.tmp 8), none⟩,
    ⟨(some 10), .call (.const (.fn F.cuneiformref12_Mates [] [])) [(.tmp 7), (.tmp 9)], none⟩,
    ⟨(some 11), .un .not (.tmp 10), none⟩] [2, 3, 4, 11])
  (.cond (.tmp 11) (.seq (.region [⟨(some 12), .load (some 6) (.tmp 2), none⟩,
    ⟨none, .store 6 (.tmp 4) (.tmp 12), none⟩,
    ⟨(some 5), .mov (.const (.int .i64 17)), none⟩] [4, 5])
  (.ret)) (.skip)))
  (.seq (.seq (.region [⟨(some 13), .field 0 (.tmp 3), none⟩,
    ⟨(some 14), .field 3 (.tmp 13), none⟩,
    ⟨(some 15), .load none (.tmp 14), none⟩,
    ⟨(some 16), .bin .lss (.tmp 15) (.const (.int .i64 0)), none⟩,
    ⟨(some 17), .mov (.tmp 16), none⟩,
    ⟨(some 18), .field 0 (.tmp 3), some (17, false)⟩,
    ⟨(some 19), .field 3 (.tmp 18), some (17, false)⟩,
    ⟨(some 20), .load none (.tmp 19), some (17, false)⟩,
    ⟨(some 21), .field 0 (.tmp 2), some (17, false)⟩,
    ⟨(some 22), .field 4 (.tmp 21), some (17, false)⟩,
    ⟨(some 23), .load none (.tmp 22), some (17, false)⟩,
    ⟨(some 24), .bin .geq (.tmp 20) (.tmp 23), some (17, false)⟩,
    ⟨(some 25), .pick (.tmp 17) (.const (.bool true)) (.tmp 24), none⟩] [2, 3, 4, 25])
  (.cond (.tmp 25) (.seq (.region [⟨(some 26), .load (some 6) (.tmp 2), none⟩,
    ⟨none, .store 6 (.tmp 4) (.tmp 26), none⟩,
    ⟨(some 5), .mov (.const (.int .i64 3)), none⟩] [4, 5])
  (.ret)) (.skip)))
  (.seq (.seq (.region [⟨(some 27), .field 5 (.tmp 3), none⟩,
    ⟨(some 28), .load none (.tmp 27), none⟩,
    ⟨(some 29), .len .slice (.tmp 28), none⟩,
    ⟨(some 30), .bin .eql (.tmp 29) (.const (.int .i64 0)), none⟩] [2, 3, 4, 30])
  (.cond (.tmp 30) (.seq (.region [⟨(some 31), .load (some 6) (.tmp 2), none⟩,
    ⟨none, .store 6 (.tmp 4) (.tmp 31), none⟩,
    ⟨(some 5), .mov (.const (.int .i64 13)), none⟩] [4, 5])
  (.ret)) (.skip)))
  (.seq (.seq (.region [⟨(some 32), .load (some 6) (.tmp 2), none⟩,
    ⟨(some 33), .field 0 (.tmp 3), none⟩,
    ⟨(some 34), .field 3 (.tmp 33), none⟩,
    ⟨(some 35), .load none (.tmp 34), none⟩,
    ⟨(some 36), .call (.const (.fn F.cuneiformref13_Has [] [])) [(.tmp 32), (.tmp 35)], none⟩,
    ⟨(some 37), .bin .geq (.tmp 36) (.const (.int .i64 0)), none⟩] [2, 3, 4, 37])
  (.cond (.tmp 37) (.seq (.region [⟨(some 38), .load (some 6) (.tmp 2), none⟩,
    ⟨none, .store 6 (.tmp 4) (.tmp 38), none⟩,
    ⟨(some 5), .mov (.const (.int .i64 16)), none⟩] [4, 5])
  (.ret)) (.skip)))
  (.seq (.seq (.draw cuneiformref13_Put.d0 cuneiformref13_Put.d0b [[0, 2, 3, 4, 1, 5, 6]] [(1, 3)] [2, 3, 4, 45])
  (.cond (.tmp 45) (.seq (.region [⟨(some 46), .load (some 6) (.tmp 2), none⟩,
    ⟨none, .store 6 (.tmp 4) (.tmp 46), none⟩,
    ⟨(some 5), .mov (.const (.int .i64 6)), none⟩] [4, 5])
  (.ret)) (.skip)))
  (.seq (.draw cuneiformref13_Put.d1 cuneiformref13_Put.d1b [[1, 2, 4, 0, 3, 5, 6, 7, 8], [1, 2, 4, 0, 5, 3, 6, 7, 8], [1, 2, 4, 5, 0, 3, 6, 7, 8]] [(0, 2), (0, 4), (3, 4), (5, 2)] [2, 4])
  (.seq (.region [⟨(some 55), .load (some 6) (.tmp 2), none⟩,
    ⟨none, .store 6 (.tmp 4) (.tmp 55), none⟩,
    ⟨(some 5), .mov (.const (.int .i64 0)), none⟩] [4, 5])
  (.ret))))))))
def cuneiformref13_Put : AFun := ⟨56, 2, [.cell 4 (some 6), .tmp 5], cuneiformref13_Put.body⟩
def cuneiformlaw08_Of.body : ACode := .seq (.region [⟨(some 1), .box T.frame_Frame (.tmp 0), none⟩,
    ⟨(some 2), .alloc T.cuneiformref08_F [(.int .i64 0), (.int .i64 0), (.int .u32 0), (.int .i64 0), (.int .i64 0), .nils], none⟩] [1, 2])
  (.seq (.region [⟨(some 3), .field 0 (.tmp 1), none⟩,
    ⟨(some 4), .load (some 5) (.tmp 3), none⟩,
    ⟨(some 5), .field 5 (.tmp 1), none⟩,
    ⟨(some 6), .load none (.tmp 5), none⟩,
    ⟨(some 7), .build [(.int .i64 0), (.int .i64 0), (.int .u32 0), (.int .i64 0), (.int .i64 0), .nils] [(0, 5, (.tmp 4)), (5, 1, (.tmp 6))], none⟩,
    ⟨none, .store 6 (.tmp 2) (.tmp 7), none⟩] [2])
  (.ret))
def cuneiformlaw08_Of : AFun := ⟨8, 1, [.cell 2 (some 6)], cuneiformlaw08_Of.body⟩
def slot_Slot_Put.d0 : List AOper := [⟨(some 10), .mov (.tmp 0), none⟩,
    ⟨(some 11), .nilc (.tmp 10), none⟩,
    ⟨(some 12), .field 5 (.tmp 11), none⟩,
    ⟨(some 13), .load none (.tmp 12), none⟩,
    ⟨(some 14), .field 0 (.tmp 3), none⟩,
    ⟨(some 15), .field 3 (.tmp 14), none⟩,
    ⟨(some 16), .load none (.tmp 15), none⟩,
    ⟨(some 17), .lookup .int .nils true (.tmp 13) (.tmp 16), none⟩,
    ⟨(some 9), .mov (.tmp 17), none⟩,
    ⟨(some 18), .extract (.tmp 9) 0, none⟩,
    ⟨(some 19), .extract (.tmp 9) 1, none⟩,
    ⟨(some 5), .mov (.tmp 18), none⟩,
    ⟨(some 6), .mov (.tmp 19), none⟩]
def slot_Slot_Put.d0b : List (List Nat) := [[], [0], [0, 1], [0, 1, 2], [], [4], [4, 5], [0, 1, 2, 3, 4, 5, 6], [0, 1, 2, 3, 4, 5, 6, 7], [0, 1, 2, 3, 4, 5, 6, 7, 8], [0, 1, 2, 3, 4, 5, 6, 7, 8], [0, 1, 2, 3, 4, 5, 6, 7, 8, 9], [0, 1, 2, 3, 4, 5, 6, 7, 8, 9, 10, 11]]
def slot_Slot_Put.d1 : List AOper := [⟨(some 21), .field 0 (.tmp 3), none⟩,
    ⟨(some 22), .load (some 5) (.tmp 21), none⟩,
    ⟨(some 23), .mov (.tmp 0), none⟩,
    ⟨(some 24), .nilc (.tmp 23), none⟩,
    ⟨(some 25), .field 0 (.tmp 24), none⟩,
    ⟨(some 26), .field 0 (.tmp 25), none⟩,
    ⟨(some 27), .load (some 5) (.tmp 26), none⟩,
    ⟨(some 28), .call (.const (.fn F.head_Mates [] [])) [(.tmp 22), (.tmp 27)], none⟩,
    ⟨(some 29), .un .not (.tmp 28), none⟩,
    ⟨(some 20), .mov (.tmp 29), none⟩]
def slot_Slot_Put.d1b : List (List Nat) := [[], [0], [], [2], [2, 3], [2, 3, 4], [2, 3, 4, 5], [0, 1, 2, 3, 4, 5, 6], [0, 1, 2, 3, 4, 5, 6, 7], [0, 1, 2, 3, 4, 5, 6, 7, 8]]
def slot_Slot_Put.d2 : List AOper := [⟨(some 31), .field 0 (.tmp 3), none⟩,
    ⟨(some 32), .field 3 (.tmp 31), none⟩,
    ⟨(some 33), .load none (.tmp 32), none⟩,
    ⟨(some 34), .bin .lss (.tmp 33) (.const (.int .i64 0)), none⟩,
    ⟨(some 35), .mov (.tmp 34), none⟩,
    ⟨(some 36), .field 0 (.tmp 3), some (35, false)⟩,
    ⟨(some 37), .field 3 (.tmp 36), some (35, false)⟩,
    ⟨(some 38), .load none (.tmp 37), some (35, false)⟩,
    ⟨(some 39), .mov (.tmp 0), some (35, false)⟩,
    ⟨(some 40), .nilc (.tmp 39), some (35, false)⟩,
    ⟨(some 41), .field 0 (.tmp 40), some (35, false)⟩,
    ⟨(some 42), .field 0 (.tmp 41), some (35, false)⟩,
    ⟨(some 43), .field 4 (.tmp 42), some (35, false)⟩,
    ⟨(some 44), .load none (.tmp 43), some (35, false)⟩,
    ⟨(some 45), .bin .geq (.tmp 38) (.tmp 44), some (35, false)⟩,
    ⟨(some 46), .pick (.tmp 35) (.const (.bool true)) (.tmp 45), none⟩,
    ⟨(some 30), .mov (.tmp 46), none⟩]
def slot_Slot_Put.d2b : List (List Nat) := [[], [0], [0, 1], [0, 1, 2], [0, 1, 2, 3], [0, 1, 2, 3, 4], [0, 1, 2, 3, 4, 5], [0, 1, 2, 3, 4, 5, 6], [0, 1, 2, 3, 4], [0, 1, 2, 3, 4, 8], [0, 1, 2, 3, 4, 8, 9], [0, 1, 2, 3, 4, 8, 9, 10], [0, 1, 2, 3, 4, 8, 9, 10, 11], [0, 1, 2, 3, 4, 8, 9, 10, 11, 12], [0, 1, 2, 3, 4, 5, 6, 7, 8, 9, 10, 11, 12, 13], [0, 1, 2, 3, 4, 5, 6, 7, 8, 9, 10, 11, 12, 13, 14], [0, 1, 2, 3, 4, 5, 6, 7, 8, 9, 10, 11, 12, 13, 14, 15]]
def slot_Slot_Put.d3 : List AOper := [⟨(some 55), .field 5 (.tmp 3), none⟩,
    ⟨(some 56), .load none (.tmp 55), none⟩,
    ⟨(some 57), .len .slice (.tmp 56), none⟩,
    ⟨(some 58), .mov (.tmp 0), none⟩,
    ⟨(some 59), .nilc (.tmp 58), none⟩,
    ⟨(some 60), .field 6 (.tmp 59), none⟩,
    ⟨(some 61), .load none (.tmp 60), none⟩,
    ⟨(some 62), .bin .sub (.const (.int .i64 192)) (.tmp 61), none⟩,
    ⟨(some 63), .bin .gtr (.tmp 57) (.tmp 62), none⟩,
    ⟨(some 54), .mov (.tmp 63), none⟩]
def slot_Slot_Put.d3b : List (List Nat) := [[], [0], [0, 1], [], [3], [3, 4], [3, 4, 5], [3, 4, 5, 6], [0, 1, 2, 3, 4, 5, 6, 7], [0, 1, 2, 3, 4, 5, 6, 7, 8]]
def slot_Slot_Put.d4 : List AOper := [⟨(some 64), .mov (.tmp 0), none⟩,
    ⟨(some 65), .nilc (.tmp 64), none⟩,
    ⟨(some 66), .field 5 (.tmp 65), none⟩,
    ⟨(some 67), .load none (.tmp 66), none⟩,
    ⟨(some 68), .field 0 (.tmp 3), none⟩,
    ⟨(some 69), .field 3 (.tmp 68), none⟩,
    ⟨(some 70), .load none (.tmp 69), none⟩,
    ⟨(some 71), .lit T.uint8 1 0 [] [], none⟩,
    ⟨(some 72), .field 5 (.tmp 3), none⟩,
    ⟨(some 73), .load none (.tmp 72), none⟩,
    ⟨(some 74), .append T.uint8 1 1 (.tmp 71) (.tmp 73), none⟩,
    ⟨none, .mapset .int (.tmp 67) (.tmp 70) (.tmp 74), none⟩]
def slot_Slot_Put.d4b : List (List Nat) := [[], [0], [0, 1], [0, 1, 2], [], [4], [4, 5], [], [], [8], [7, 8, 9], [0, 1, 2, 3, 4, 5, 6, 7, 8, 9, 10]]
def slot_Slot_Put.d5 : List AOper := [⟨(some 75), .mov (.tmp 0), none⟩,
    ⟨(some 76), .nilc (.tmp 75), none⟩,
    ⟨(some 77), .field 6 (.tmp 76), none⟩,
    ⟨(some 78), .load none (.tmp 77), none⟩,
    ⟨(some 79), .field 5 (.tmp 3), none⟩,
    ⟨(some 80), .load none (.tmp 79), none⟩,
    ⟨(some 81), .len .slice (.tmp 80), none⟩,
    ⟨(some 82), .bin .add (.tmp 78) (.tmp 81), none⟩,
    ⟨(some 83), .nilc (.tmp 75), none⟩,
    ⟨(some 84), .field 6 (.tmp 83), none⟩,
    ⟨none, .store 1 (.tmp 84) (.tmp 82), none⟩]
def slot_Slot_Put.d5b : List (List Nat) := [[], [0], [0, 1], [0, 1, 2], [], [4], [4, 5], [0, 1, 2, 3, 4, 5, 6], [0, 1, 2, 3, 4, 5, 6, 7], [0, 1, 2, 3, 4, 5, 6, 7, 8], [0, 1, 2, 3, 4, 5, 6, 7, 8, 9]]
def slot_Slot_Put.body : ACode := .seq (.region [⟨(some 3), .box T.frame_Frame (.tmp 1), none⟩,
    ⟨(some 4), .mov (.const (.int .i64 0)), none⟩] [0, 3])
  (.seq (.seq (.region [⟨(some 7), .mov (.tmp 0), none⟩,
    ⟨(some 8), .eq false .ptr (.tmp 7) (.const .nilp), none⟩] [0, 3, 8])
  (.cond (.tmp 8) (.seq (.region [⟨(some 4), .mov (.const (.int .i64 1)), none⟩] [4])
  (.ret)) (.skip)))
  (.seq (.draw slot_Slot_Put.d0 slot_Slot_Put.d0b [[0, 1, 2, 3, 4, 5, 6, 7, 8, 9, 10, 11, 12]] [] [0, 3, 6])
  (.seq (.block 0 (.seq (.draw slot_Slot_Put.d1 slot_Slot_Put.d1b [[0, 1, 2, 3, 4, 5, 6, 7, 8, 9]] [] [0, 3, 6, 20])
  (.cond (.tmp 20) (.seq (.region [⟨(some 4), .mov (.const (.int .i64 17)), none⟩] [4])
  (.ret)) (.seq (.draw slot_Slot_Put.d2 slot_Slot_Put.d2b [[0, 1, 2, 3, 4, 5, 6, 7, 8, 9, 10, 11, 12, 13, 14, 15, 16]] [] [0, 3, 6, 30])
  (.cond (.tmp 30) (.seq (.region [⟨(some 4), .mov (.const (.int .i64 3)), none⟩] [4])
  (.ret)) (.seq (.region [⟨(some 48), .field 5 (.tmp 3), none⟩,
    ⟨(some 49), .load none (.tmp 48), none⟩,
    ⟨(some 50), .len .slice (.tmp 49), none⟩,
    ⟨(some 51), .bin .eql (.tmp 50) (.const (.int .i64 0)), none⟩,
    ⟨(some 47), .mov (.tmp 51), none⟩] [0, 3, 6, 47])
  (.cond (.tmp 47) (.seq (.region [⟨(some 4), .mov (.const (.int .i64 13)), none⟩] [4])
  (.ret)) (.seq (.region [⟨(some 53), .mov (.tmp 6), none⟩,
    ⟨(some 52), .mov (.tmp 53), none⟩] [0, 3, 52])
  (.cond (.tmp 52) (.seq (.region [⟨(some 4), .mov (.const (.int .i64 16)), none⟩] [4])
  (.ret)) (.seq (.draw slot_Slot_Put.d3 slot_Slot_Put.d3b [[0, 1, 2, 3, 4, 5, 6, 7, 8, 9]] [] [0, 3, 54])
  (.cond (.tmp 54) (.seq (.region [⟨(some 4), .mov (.const (.int .i64 6)), none⟩] [4])
  (.ret)) (.skip))))))))))))
  (.seq (.draw slot_Slot_Put.d4 slot_Slot_Put.d4b [[0, 1, 2, 3, 4, 5, 6, 8, 9, 7, 10, 11]] [(7, 3), (7, 6), (7, 9), (10, 3), (10, 6)] [0, 3])
  (.seq (.draw slot_Slot_Put.d5 slot_Slot_Put.d5b [[0, 1, 2, 3, 4, 5, 6, 7, 8, 9, 10]] [] [])
  (.seq (.region [⟨(some 4), .mov (.const (.int .i64 0)), none⟩] [4])
  (.ret)))))))
def slot_Slot_Put : AFun := ⟨85, 2, [.tmp 4], slot_Slot_Put.body⟩
def cuneiformlaw13_Alike.d0 : List AOper := [⟨(some 19), .mov (.tmp 0), none⟩,
    ⟨(some 20), .call (.const (.fn F.slot_Slot_Head [] [])) [(.tmp 19)], none⟩,
    ⟨(some 21), .field 0 (.tmp 3), none⟩,
    ⟨(some 22), .load (some 5) (.tmp 21), none⟩,
    ⟨(some 23), .eq true (.cells [.int, .int, .int, .int, .int]) (.tmp 20) (.tmp 22), none⟩,
    ⟨(some 24), .mov (.tmp 23), none⟩,
    ⟨(some 25), .mov (.tmp 0), some (24, false)⟩,
    ⟨(some 26), .call (.const (.fn F.slot_Slot_Have [] [])) [(.tmp 25)], some (24, false)⟩,
    ⟨(some 27), .field 5 (.tmp 3), some (24, false)⟩,
    ⟨(some 28), .load none (.tmp 27), some (24, false)⟩,
    ⟨(some 29), .len .slice (.tmp 28), some (24, false)⟩,
    ⟨(some 30), .bin .neq (.tmp 26) (.tmp 29), some (24, false)⟩,
    ⟨(some 31), .pick (.tmp 24) (.const (.bool true)) (.tmp 30), none⟩,
    ⟨(some 32), .mov (.tmp 31), none⟩,
    ⟨(some 33), .mov (.tmp 0), some (32, false)⟩,
    ⟨(some 34), .call (.const (.fn F.slot_Slot_Size [] [])) [(.tmp 33)], some (32, false)⟩,
    ⟨(some 35), .load (some 6) (.tmp 3), some (32, false)⟩,
    ⟨(some 36), .call (.const (.fn F.cuneiformref13_Size [] [])) [(.tmp 35)], some (32, false)⟩,
    ⟨(some 37), .bin .neq (.tmp 34) (.tmp 36), some (32, false)⟩,
    ⟨(some 38), .pick (.tmp 32) (.const (.bool true)) (.tmp 37), none⟩,
    ⟨(some 39), .mov (.tmp 38), none⟩,
    ⟨(some 40), .mov (.tmp 0), some (39, false)⟩,
    ⟨(some 41), .call (.const (.fn F.slot_Slot_Full [] [])) [(.tmp 40)], some (39, false)⟩,
    ⟨(some 42), .mov (.tmp 7), some (39, false)⟩,
    ⟨(some 43), .eq true .bool (.tmp 41) (.tmp 42), some (39, false)⟩,
    ⟨(some 44), .pick (.tmp 39) (.const (.bool true)) (.tmp 43), none⟩,
    ⟨(some 45), .mov (.tmp 44), none⟩,
    ⟨(some 46), .mov (.tmp 6), some (45, false)⟩,
    ⟨(some 47), .mov (.tmp 7), some (45, false)⟩,
    ⟨(some 48), .eq true .bool (.tmp 46) (.tmp 47), some (45, false)⟩,
    ⟨(some 49), .pick (.tmp 45) (.const (.bool true)) (.tmp 48), none⟩,
    ⟨(some 50), .mov (.tmp 49), none⟩,
    ⟨(some 51), .mov (.tmp 7), some (50, false)⟩,
    ⟨(some 52), .mov (.tmp 51), some (50, false)⟩,
    ⟨(some 53), .mov (.tmp 5), some (52, true)⟩,
    ⟨(some 54), .load (some 6) (.tmp 3), some (52, true)⟩,
    ⟨(some 55), .call (.const (.fn F.cuneiformref13_Bytes [] [])) [(.tmp 54)], some (52, true)⟩,
    ⟨(some 56), .call (.const (.fn F.cuneiformref01_Same [] [])) [(.tmp 53), (.tmp 55)], some (52, true)⟩,
    ⟨(some 57), .un .not (.tmp 56), some (52, true)⟩,
    ⟨(some 58), .pick (.tmp 52) (.tmp 57) (.const (.bool false)), some (50, false)⟩,
    ⟨(some 59), .pick (.tmp 50) (.const (.bool true)) (.tmp 58), none⟩,
    ⟨(some 60), .mov (.tmp 59), none⟩,
    ⟨(some 61), .mov (.tmp 7), some (60, false)⟩,
    ⟨(some 62), .un .not (.tmp 61), some (60, false)⟩,
    ⟨(some 63), .mov (.tmp 62), some (60, false)⟩,
    ⟨(some 64), .mov (.tmp 5), some (63, true)⟩,
    ⟨(some 65), .len .slice (.tmp 64), some (63, true)⟩,
    ⟨(some 66), .bin .neq (.tmp 65) (.const (.int .i64 0)), some (63, true)⟩,
    ⟨(some 67), .pick (.tmp 63) (.tmp 66) (.const (.bool false)), some (60, false)⟩,
    ⟨(some 68), .pick (.tmp 60) (.const (.bool true)) (.tmp 67), none⟩]
def cuneiformlaw13_Alike.d0b : List (List Nat) := [[], [0], [], [2], [0, 1, 2, 3], [0, 1, 2, 3, 4], [0, 1, 2, 3, 4, 5], [0, 1, 2, 3, 4, 5, 6], [0, 1, 2, 3, 4, 5], [0, 1, 2, 3, 4, 5, 8], [0, 1, 2, 3, 4, 5, 8, 9], [0, 1, 2, 3, 4, 5, 6, 7, 8, 9, 10], [0, 1, 2, 3, 4, 5, 6, 7, 8, 9, 10, 11], [0, 1, 2, 3, 4, 5, 6, 7, 8, 9, 10, 11, 12], [0, 1, 2, 3, 4, 5, 6, 7, 8, 9, 10, 11, 12, 13], [0, 1, 2, 3, 4, 5, 6, 7, 8, 9, 10, 11, 12, 13, 14], [0, 1, 2, 3, 4, 5, 6, 7, 8, 9, 10, 11, 12, 13], [0, 1, 2, 3, 4, 5, 6, 7, 8, 9, 10, 11, 12, 13, 14, 15, 16], [0, 1, 2, 3, 4, 5, 6, 7, 8, 9, 10, 11, 12, 13, 14, 15, 16, 17], [0, 1, 2, 3, 4, 5, 6, 7, 8, 9, 10, 11, 12, 13, 14, 15, 16, 17, 18], [0, 1, 2, 3, 4, 5, 6, 7, 8, 9, 10, 11, 12, 13, 14, 15, 16, 17, 18, 19], [0, 1, 2, 3, 4, 5, 6, 7, 8, 9, 10, 11, 12, 13, 14, 15, 16, 17, 18, 19, 20], [0, 1, 2, 3, 4, 5, 6, 7, 8, 9, 10, 11, 12, 13, 14, 15, 16, 17, 18, 19, 20, 21], [0, 1, 2, 3, 4, 5, 6, 7, 8, 9, 10, 11, 12, 13, 14, 15, 16, 17, 18, 19, 20], [0, 1, 2, 3, 4, 5, 6, 7, 8, 9, 10, 11, 12, 13, 14, 15, 16, 17, 18, 19, 20, 21, 22, 23], [0, 1, 2, 3, 4, 5, 6, 7, 8, 9, 10, 11, 12, 13, 14, 15, 16, 17, 18, 19, 20, 21, 22, 23, 24], [0, 1, 2, 3, 4, 5, 6, 7, 8, 9, 10, 11, 12, 13, 14, 15, 16, 17, 18, 19, 20, 21, 22, 23, 24, 25], [0, 1, 2, 3, 4, 5, 6, 7, 8, 9, 10, 11, 12, 13, 14, 15, 16, 17, 18, 19, 20, 21, 22, 23, 24, 25, 26], [0, 1, 2, 3, 4, 5, 6, 7, 8, 9, 10, 11, 12, 13, 14, 15, 16, 17, 18, 19, 20, 21, 22, 23, 24, 25, 26], [0, 1, 2, 3, 4, 5, 6, 7, 8, 9, 10, 11, 12, 13, 14, 15, 16, 17, 18, 19, 20, 21, 22, 23, 24, 25, 26, 27, 28], [0, 1, 2, 3, 4, 5, 6, 7, 8, 9, 10, 11, 12, 13, 14, 15, 16, 17, 18, 19, 20, 21, 22, 23, 24, 25, 26, 27, 28, 29], [0, 1, 2, 3, 4, 5, 6, 7, 8, 9, 10, 11, 12, 13, 14, 15, 16, 17, 18, 19, 20, 21, 22, 23, 24, 25, 26, 27, 28, 29, 30], [0, 1, 2, 3, 4, 5, 6, 7, 8, 9, 10, 11, 12, 13, 14, 15, 16, 17, 18, 19, 20, 21, 22, 23, 24, 25, 26, 27, 28, 29, 30, 31], [0, 1, 2, 3, 4, 5, 6, 7, 8, 9, 10, 11, 12, 13, 14, 15, 16, 17, 18, 19, 20, 21, 22, 23, 24, 25, 26, 27, 28, 29, 30, 31, 32], [0, 1, 2, 3, 4, 5, 6, 7, 8, 9, 10, 11, 12, 13, 14, 15, 16, 17, 18, 19, 20, 21, 22, 23, 24, 25, 26, 27, 28, 29, 30, 31, 32, 33], [0, 1, 2, 3, 4, 5, 6, 7, 8, 9, 10, 11, 12, 13, 14, 15, 16, 17, 18, 19, 20, 21, 22, 23, 24, 25, 26, 27, 28, 29, 30, 31, 32, 33], [0, 1, 2, 3, 4, 5, 6, 7, 8, 9, 10, 11, 12, 13, 14, 15, 16, 17, 18, 19, 20, 21, 22, 23, 24, 25, 26, 27, 28, 29, 30, 31, 32, 33, 35], [0, 1, 2, 3, 4, 5, 6, 7, 8, 9, 10, 11, 12, 13, 14, 15, 16, 17, 18, 19, 20, 21, 22, 23, 24, 25, 26, 27, 28, 29, 30, 31, 32, 33, 34, 35, 36], [0, 1, 2, 3, 4, 5, 6, 7, 8, 9, 10, 11, 12, 13, 14, 15, 16, 17, 18, 19, 20, 21, 22, 23, 24, 25, 26, 27, 28, 29, 30, 31, 32, 33, 34, 35, 36, 37], [0, 1, 2, 3, 4, 5, 6, 7, 8, 9, 10, 11, 12, 13, 14, 15, 16, 17, 18, 19, 20, 21, 22, 23, 24, 25, 26, 27, 28, 29, 30, 31, 32, 33, 34, 35, 36, 37, 38], [0, 1, 2, 3, 4, 5, 6, 7, 8, 9, 10, 11, 12, 13, 14, 15, 16, 17, 18, 19, 20, 21, 22, 23, 24, 25, 26, 27, 28, 29, 30, 31, 32, 33, 34, 35, 36, 37, 38, 39], [0, 1, 2, 3, 4, 5, 6, 7, 8, 9, 10, 11, 12, 13, 14, 15, 16, 17, 18, 19, 20, 21, 22, 23, 24, 25, 26, 27, 28, 29, 30, 31, 32, 33, 34, 35, 36, 37, 38, 39, 40], [0, 1, 2, 3, 4, 5, 6, 7, 8, 9, 10, 11, 12, 13, 14, 15, 16, 17, 18, 19, 20, 21, 22, 23, 24, 25, 26, 27, 28, 29, 30, 31, 32, 33, 34, 35, 36, 37, 38, 39, 40, 41], [0, 1, 2, 3, 4, 5, 6, 7, 8, 9, 10, 11, 12, 13, 14, 15, 16, 17, 18, 19, 20, 21, 22, 23, 24, 25, 26, 27, 28, 29, 30, 31, 32, 33, 34, 35, 36, 37, 38, 39, 40, 41, 42], [0, 1, 2, 3, 4, 5, 6, 7, 8, 9, 10, 11, 12, 13, 14, 15, 16, 17, 18, 19, 20, 21, 22, 23, 24, 25, 26, 27, 28, 29, 30, 31, 32, 33, 34, 35, 36, 37, 38, 39, 40, 41, 42, 43], [0, 1, 2, 3, 4, 5, 6, 7, 8, 9, 10, 11, 12, 13, 14, 15, 16, 17, 18, 19, 20, 21, 22, 23, 24, 25, 26, 27, 28, 29, 30, 31, 32, 33, 34, 35, 36, 37, 38, 39, 40, 41, 42, 43, 44], [0, 1, 2, 3, 4, 5, 6, 7, 8, 9, 10, 11, 12, 13, 14, 15, 16, 17, 18, 19, 20, 21, 22, 23, 24, 25, 26, 27, 28, 29, 30, 31, 32, 33, 34, 35, 36, 37, 38, 39, 40, 41, 42, 43, 44, 45], [0, 1, 2, 3, 4, 5, 6, 7, 8, 9, 10, 11, 12, 13, 14, 15, 16, 17, 18, 19, 20, 21, 22, 23, 24, 25, 26, 27, 28, 29, 30, 31, 32, 33, 34, 35, 36, 37, 38, 39, 40, 41, 42, 43, 44, 45, 46], [0, 1, 2, 3, 4, 5, 6, 7, 8, 9, 10, 11, 12, 13, 14, 15, 16, 17, 18, 19, 20, 21, 22, 23, 24, 25, 26, 27, 28, 29, 30, 31, 32, 33, 34, 35, 36, 37, 38, 39, 40, 41, 42, 43, 44, 45, 46, 47], [0, 1, 2, 3, 4, 5, 6, 7, 8, 9, 10, 11, 12, 13, 14, 15, 16, 17, 18, 19, 20, 21, 22, 23, 24, 25, 26, 27, 28, 29, 30, 31, 32, 33, 34, 35, 36, 37, 38, 39, 40, 41, 42, 43, 44, 45, 46, 47, 48]]
def cuneiformlaw13_Alike.b1 : ACode := .seq (.seq (.region [⟨(some 75), .load none (.tmp 8), none⟩,
    ⟨(some 76), .field 0 (.tmp 3), none⟩,
    ⟨(some 77), .field 4 (.tmp 76), none⟩,
    ⟨(some 78), .load none (.tmp 77), none⟩,
    ⟨(some 79), .bin .lss (.tmp 75) (.tmp 78), none⟩,
    ⟨(some 80), .mov (.tmp 79), none⟩,
    ⟨(some 81), .load (some 6) (.tmp 3), some (80, true)⟩,
    ⟨(some 82), .load none (.tmp 8), some (80, true)⟩,
    ⟨(some 83), .call (.const (.fn F.cuneiformref13_Has [] [])) [(.tmp 81), (.tmp 82)], some (80, true)⟩,
    ⟨(some 84), .bin .geq (.tmp 83) (.const (.int .i64 0)), some (80, true)⟩,
    ⟨(some 85), .pick (.tmp 80) (.tmp 84) (.const (.bool false)), none⟩] [3, 8, 9, 11, 85])
  (.cond (.tmp 85) (.skip) (.exit 2)))
  (.block 3 (.region [⟨(some 86), .load none (.tmp 8), none⟩,
    ⟨(some 87), .bin .add (.tmp 86) (.const (.int .i64 1)), none⟩,
    ⟨none, .store 1 (.tmp 8) (.tmp 87), none⟩] [3, 8, 9, 11]))
def cuneiformlaw13_Alike.a2 : ACode := .region [⟨(some 11), .mov (.tmp 74), none⟩] [3, 8, 9, 11]
def cuneiformlaw13_Alike.b2 : ACode := .block 1 (.seq (.block 2 (.loop cuneiformlaw13_Alike.b1))
  (.seq (.region [⟨(some 88), .load none (.tmp 9), none⟩,
    ⟨(some 89), .mov (.tmp 88), none⟩,
    ⟨(some 90), .load none (.tmp 8), some (89, true)⟩,
    ⟨(some 91), .field 0 (.tmp 3), some (89, true)⟩,
    ⟨(some 92), .field 4 (.tmp 91), some (89, true)⟩,
    ⟨(some 93), .load none (.tmp 92), some (89, true)⟩,
    ⟨(some 94), .bin .lss (.tmp 90) (.tmp 93), some (89, true)⟩,
    ⟨(some 95), .pick (.tmp 89) (.tmp 94) (.const (.bool false)), none⟩,
    ⟨(some 96), .mov (.tmp 95), none⟩,
    ⟨(some 97), .mov (.tmp 11), some (96, true)⟩,
    ⟨(some 98), .load none (.tmp 8), some (96, true)⟩,
    ⟨(some 99), .bin .eql (.tmp 97) (.tmp 98), some (96, true)⟩,
    ⟨(some 100), .pick (.tmp 96) (.tmp 99) (.const (.bool false)), none⟩,
    ⟨none, .store 1 (.tmp 9) (.tmp 100), none⟩] [8])
  (.region [⟨(some 101), .load none (.tmp 8), none⟩,
    ⟨(some 102), .bin .add (.tmp 101) (.const (.int .i64 1)), none⟩,
    ⟨none, .store 1 (.tmp 8) (.tmp 102), none⟩] [])))
def cuneiformlaw13_Alike.b3 : ACode := .seq (.seq (.region [⟨(some 103), .load none (.tmp 8), none⟩,
    ⟨(some 104), .field 0 (.tmp 3), none⟩,
    ⟨(some 105), .field 4 (.tmp 104), none⟩,
    ⟨(some 106), .load none (.tmp 105), none⟩,
    ⟨(some 107), .bin .lss (.tmp 103) (.tmp 106), none⟩] [3, 8, 9, 107])
  (.cond (.tmp 107) (.skip) (.exit 4)))
  (.block 5 (.seq (.region [⟨(some 108), .load none (.tmp 9), none⟩,
    ⟨(some 109), .mov (.tmp 108), none⟩,
    ⟨(some 110), .load (some 6) (.tmp 3), some (109, true)⟩,
    ⟨(some 111), .load none (.tmp 8), some (109, true)⟩,
    ⟨(some 112), .call (.const (.fn F.cuneiformref13_Has [] [])) [(.tmp 110), (.tmp 111)], some (109, true)⟩,
    ⟨(some 113), .bin .geq (.tmp 112) (.const (.int .i64 0)), some (109, true)⟩,
    ⟨(some 114), .pick (.tmp 109) (.tmp 113) (.const (.bool false)), none⟩,
    ⟨none, .store 1 (.tmp 9) (.tmp 114), none⟩] [3, 8, 9])
  (.region [⟨(some 115), .load none (.tmp 8), none⟩,
    ⟨(some 116), .bin .add (.tmp 115) (.const (.int .i64 1)), none⟩,
    ⟨none, .store 1 (.tmp 8) (.tmp 116), none⟩] [3, 8, 9])))
def cuneiformlaw13_Alike.body : ACode := .seq (.region [⟨(some 3), .box T.cuneiformref13_S (.tmp 1), none⟩,
    ⟨(some 4), .mov (.const (.bool false)), none⟩] [0, 3, 4])
  (.seq (.region [⟨(some 13), .mov (.tmp 0), none⟩,
    ⟨(some 14), .call (.const (.fn F.slot_Slot_Bytes [] [])) [(.tmp 13)], none⟩,
    ⟨(some 12), .mov (.tmp 14), none⟩,
    ⟨(some 15), .extract (.tmp 12) 0, none⟩,
    ⟨(some 16), .extract (.tmp 12) 1, none⟩,
    ⟨(some 5), .mov (.tmp 15), none⟩,
    ⟨(some 6), .mov (.tmp 16), none⟩] [0, 3, 4, 5, 6])
  (.seq (.region [⟨(some 17), .load (some 6) (.tmp 3), none⟩,
    ⟨(some 18), .call (.const (.fn F.cuneiformref13_Full [] [])) [(.tmp 17)], none⟩,
    ⟨(some 7), .mov (.tmp 18), none⟩] [0, 3, 4, 5, 6, 7])
  (.seq (.seq (.draw cuneiformlaw13_Alike.d0 cuneiformlaw13_Alike.d0b [[0, 2, 3, 1, 4, 5, 6, 8, 9, 10, 7, 11, 12, 13, 14, 16, 15, 17, 18, 19, 20, 21, 23, 22, 24, 25, 26, 27, 28, 29, 30, 31, 32, 33, 34, 35, 36, 37, 38, 39, 40, 41, 42, 43, 44, 45, 46, 47, 48, 49]] [(1, 3), (7, 9), (15, 16)] [0, 3, 4, 68])
  (.cond (.tmp 68) (.seq (.region [⟨(some 4), .mov (.const (.bool false)), none⟩] [4])
  (.ret)) (.skip)))
  (.seq (.region [⟨(some 8), .alloc T.int [(.int .i64 0)], none⟩,
    ⟨(some 9), .alloc T.bool [(.bool false)], none⟩,
    ⟨none, .store 1 (.tmp 8) (.const (.int .i64 0)), none⟩,
    ⟨none, .store 1 (.tmp 9) (.const (.bool true)), none⟩] [0, 3, 4, 8, 9])
  (.seq (.region [⟨(some 69), .mov (.tmp 0), none⟩,
    ⟨(some 70), .call (.const (.fn F.slot_Slot_Missing [] [])) [(.tmp 69)], none⟩,
    ⟨(some 10), .mov (.tmp 70), none⟩] [3, 4, 8, 9, 10])
  (.seq (.seq (.region [⟨(some 71), .mov (.tmp 10), none⟩,
    ⟨(some 72), .eq false .func (.tmp 71) (.const .nilf), none⟩] [3, 4, 8, 9, 10, 72])
  (.cond (.tmp 72) (.seq (.region [⟨(some 4), .mov (.const (.bool false)), none⟩] [4])
  (.ret)) (.skip)))
  (.seq (.seq (.region [⟨(some 73), .mov (.tmp 10), none⟩] [3, 4, 8, 9, 73])
  (.block 0 (.range (.tmp 73) [74] cuneiformlaw13_Alike.a2 cuneiformlaw13_Alike.b2)))
  (.seq (.block 4 (.loop cuneiformlaw13_Alike.b3))
  (.seq (.region [⟨(some 117), .load none (.tmp 9), none⟩,
    ⟨(some 4), .mov (.tmp 117), none⟩] [4])
  (.ret))))))))))
def cuneiformlaw13_Alike : AFun := ⟨118, 2, [.tmp 4], cuneiformlaw13_Alike.body⟩
def slot_Slot_Bytes.b0 : ACode := .seq (.region [⟨(some 16), .bin .lss (.tmp 15) (.tmp 14), none⟩] [0, 4, 14, 15, 16])
  (.seq (.cond (.tmp 16) (.skip) (.exit 0))
  (.seq (.block 1 (.seq (.region [⟨(some 17), .mov (.tmp 15), none⟩,
    ⟨(some 5), .mov (.tmp 17), none⟩] [0, 4, 5, 14, 15])
  (.region [⟨(some 18), .mov (.tmp 4), none⟩,
    ⟨(some 19), .mov (.tmp 0), none⟩,
    ⟨(some 20), .nilc (.tmp 19), none⟩,
    ⟨(some 21), .field 5 (.tmp 20), none⟩,
    ⟨(some 22), .load none (.tmp 21), none⟩,
    ⟨(some 23), .mov (.tmp 5), none⟩,
    ⟨(some 24), .lookup .int .nils false (.tmp 22) (.tmp 23), none⟩,
    ⟨(some 25), .append T.uint8 1 1 (.tmp 18) (.tmp 24), none⟩,
    ⟨(some 4), .mov (.tmp 25), none⟩] [0, 4, 14, 15])))
  (.region [⟨(some 26), .bin .add (.tmp 15) (.const (.int .i64 1)), none⟩,
    ⟨(some 15), .mov (.tmp 26), none⟩] [0, 4, 14, 15])))
def slot_Slot_Bytes.body : ACode := .seq (.region [⟨(some 2), .mov (.const .nils), none⟩,
    ⟨(some 3), .mov (.const (.bool false)), none⟩] [0])
  (.seq (.seq (.region [⟨(some 6), .mov (.tmp 0), none⟩,
    ⟨(some 7), .call (.const (.fn F.slot_Slot_Full [] [])) [(.tmp 6)], none⟩,
    ⟨(some 8), .un .not (.tmp 7), none⟩] [0, 8])
  (.cond (.tmp 8) (.seq (.region [⟨(some 2), .mov (.const .nils), none⟩,
    ⟨(some 3), .mov (.const (.bool false)), none⟩] [2, 3])
  (.ret)) (.skip)))
  (.seq (.region [⟨(some 4), .mov (.const .nils), none⟩] [0, 4])
  (.seq (.seq (.region [⟨(some 9), .mov (.tmp 0), none⟩,
    ⟨(some 10), .nilc (.tmp 9), none⟩,
    ⟨(some 11), .field 0 (.tmp 10), none⟩,
    ⟨(some 12), .field 0 (.tmp 11), none⟩,
    ⟨(some 13), .field 4 (.tmp 12), none⟩,
    ⟨(some 14), .load none (.tmp 13), none⟩,
    ⟨(some 15), .mov (.const (.int .i64 0)), none⟩] [0, 4, 14, 15])
  (.block 0 (.loop slot_Slot_Bytes.b0)))
  (.seq (.region [⟨(some 27), .mov (.tmp 4), none⟩,
    ⟨(some 2), .mov (.tmp 27), none⟩,
    ⟨(some 3), .mov (.const (.bool true)), none⟩] [2, 3])
  (.ret)))))
def slot_Slot_Bytes : AFun := ⟨28, 1, [.tmp 2, .tmp 3], slot_Slot_Bytes.body⟩
def slot_Slot_Missing.body : ACode := .seq (.region [⟨(some 1), .box T.p_slot_Slot (.tmp 0), none⟩,
    ⟨(some 2), .mov (.const .nilf), none⟩] [1])
  (.seq (.region [⟨(some 3), .mkfn F.slot_Slot_Missing_1 [] [(.tmp 1)], none⟩,
    ⟨(some 2), .mov (.tmp 3), none⟩] [2])
  (.ret))
def slot_Slot_Missing : AFun := ⟨4, 1, [.tmp 2], slot_Slot_Missing.body⟩
def slot_Slot_Head.body : ACode := .seq (.region [⟨(some 2), .alloc T.head_Head [(.int .i64 0), (.int .i64 0), (.int .u32 0), (.int .i64 0), (.int .i64 0)], none⟩] [0, 2])
  (.seq (.seq (.region [⟨(some 3), .mov (.tmp 0), none⟩,
    ⟨(some 4), .eq false .ptr (.tmp 3) (.const .nilp), none⟩] [0, 2, 4])
  (.cond (.tmp 4) (.seq (.region [⟨(some 5), .build [(.int .i64 0), (.int .i64 0), (.int .u32 0), (.int .i64 0), (.int .i64 0)] [], none⟩,
    ⟨none, .store 5 (.tmp 2) (.tmp 5), none⟩] [2])
  (.ret)) (.skip)))
  (.seq (.region [⟨(some 6), .mov (.tmp 0), none⟩,
    ⟨(some 7), .nilc (.tmp 6), none⟩,
    ⟨(some 8), .field 0 (.tmp 7), none⟩,
    ⟨(some 9), .field 0 (.tmp 8), none⟩,
    ⟨(some 10), .load (some 5) (.tmp 9), none⟩,
    ⟨none, .store 5 (.tmp 2) (.tmp 10), none⟩] [2])
  (.ret)))
def slot_Slot_Head : AFun := ⟨11, 1, [.cell 2 (some 5)], slot_Slot_Head.body⟩
def slot_Slot_Have.body : ACode := .seq (.region [⟨(some 2), .mov (.const (.int .i64 0)), none⟩] [0])
  (.seq (.seq (.region [⟨(some 3), .mov (.tmp 0), none⟩,
    ⟨(some 4), .eq false .ptr (.tmp 3) (.const .nilp), none⟩] [0, 4])
  (.cond (.tmp 4) (.seq (.region [⟨(some 2), .mov (.const (.int .i64 0)), none⟩] [2])
  (.ret)) (.skip)))
  (.seq (.region [⟨(some 5), .mov (.tmp 0), none⟩,
    ⟨(some 6), .nilc (.tmp 5), none⟩,
    ⟨(some 7), .field 5 (.tmp 6), none⟩,
    ⟨(some 8), .load none (.tmp 7), none⟩,
    ⟨(some 9), .len .map (.tmp 8), none⟩,
    ⟨(some 2), .mov (.tmp 9), none⟩] [2])
  (.ret)))
def slot_Slot_Have : AFun := ⟨10, 1, [.tmp 2], slot_Slot_Have.body⟩
def slot_Slot_Size.body : ACode := .seq (.region [⟨(some 2), .mov (.const (.int .i64 0)), none⟩] [0])
  (.seq (.seq (.region [⟨(some 3), .mov (.tmp 0), none⟩,
    ⟨(some 4), .eq false .ptr (.tmp 3) (.const .nilp), none⟩] [0, 4])
  (.cond (.tmp 4) (.seq (.region [⟨(some 2), .mov (.const (.int .i64 0)), none⟩] [2])
  (.ret)) (.skip)))
  (.seq (.region [⟨(some 5), .mov (.tmp 0), none⟩,
    ⟨(some 6), .nilc (.tmp 5), none⟩,
    ⟨(some 7), .field 6 (.tmp 6), none⟩,
    ⟨(some 8), .load none (.tmp 7), none⟩,
    ⟨(some 2), .mov (.tmp 8), none⟩] [2])
  (.ret)))
def slot_Slot_Size : AFun := ⟨9, 1, [.tmp 2], slot_Slot_Size.body⟩
def slot_Slot_Full.d0 : List AOper := [⟨(some 3), .mov (.tmp 0), none⟩,
    ⟨(some 4), .eq true .ptr (.tmp 3) (.const .nilp), none⟩,
    ⟨(some 5), .mov (.tmp 4), none⟩,
    ⟨(some 6), .mov (.tmp 0), some (5, true)⟩,
    ⟨(some 7), .nilc (.tmp 6), some (5, true)⟩,
    ⟨(some 8), .field 5 (.tmp 7), some (5, true)⟩,
    ⟨(some 9), .load none (.tmp 8), some (5, true)⟩,
    ⟨(some 10), .len .map (.tmp 9), some (5, true)⟩,
    ⟨(some 11), .mov (.tmp 0), some (5, true)⟩,
    ⟨(some 12), .nilc (.tmp 11), some (5, true)⟩,
    ⟨(some 13), .field 0 (.tmp 12), some (5, true)⟩,
    ⟨(some 14), .field 0 (.tmp 13), some (5, true)⟩,
    ⟨(some 15), .field 4 (.tmp 14), some (5, true)⟩,
    ⟨(some 16), .load none (.tmp 15), some (5, true)⟩,
    ⟨(some 17), .bin .eql (.tmp 10) (.tmp 16), some (5, true)⟩,
    ⟨(some 18), .pick (.tmp 5) (.tmp 17) (.const (.bool false)), none⟩,
    ⟨(some 2), .mov (.tmp 18), none⟩]
def slot_Slot_Full.d0b : List (List Nat) := [[], [0], [0, 1], [0, 1, 2], [0, 1, 2, 3], [0, 1, 2, 3, 4], [0, 1, 2, 3, 4, 5], [0, 1, 2, 3, 4, 5, 6], [0, 1, 2], [0, 1, 2, 8], [0, 1, 2, 8, 9], [0, 1, 2, 8, 9, 10], [0, 1, 2, 8, 9, 10, 11], [0, 1, 2, 8, 9, 10, 11, 12], [0, 1, 2, 3, 4, 5, 6, 7, 8, 9, 10, 11, 12, 13], [0, 1, 2, 3, 4, 5, 6, 7, 8, 9, 10, 11, 12, 13, 14], [0, 1, 2, 3, 4, 5, 6, 7, 8, 9, 10, 11, 12, 13, 14, 15]]
def slot_Slot_Full.body : ACode := .seq (.region [⟨(some 2), .mov (.const (.bool false)), none⟩] [0])
  (.seq (.draw slot_Slot_Full.d0 slot_Slot_Full.d0b [[0, 1, 2, 3, 4, 5, 6, 7, 8, 9, 10, 11, 12, 13, 14, 15, 16]] [] [2])
  (.ret))
def slot_Slot_Full : AFun := ⟨19, 1, [.tmp 2], slot_Slot_Full.body⟩
def cuneiformref01_Same.d0 : List AOper := [⟨(some 17), .mov (.tmp 0), none⟩,
    ⟨(some 18), .mov (.tmp 5), none⟩,
    ⟨(some 19), .idx 1 none (.tmp 17) (.tmp 18), none⟩,
    ⟨(some 20), .load none (.tmp 19), none⟩,
    ⟨(some 21), .mov (.tmp 1), none⟩,
    ⟨(some 22), .mov (.tmp 5), none⟩,
    ⟨(some 23), .idx 1 none (.tmp 21) (.tmp 22), none⟩,
    ⟨(some 24), .load none (.tmp 23), none⟩,
    ⟨(some 25), .bin .neq (.tmp 20) (.tmp 24), none⟩]
def cuneiformref01_Same.d0b : List (List Nat) := [[], [], [0, 1], [0, 1, 2], [], [], [4, 5], [4, 5, 6], [0, 1, 2, 3, 4, 5, 6, 7]]
def cuneiformref01_Same.b1 : ACode := .seq (.seq (.region [⟨(some 11), .mov (.tmp 5), none⟩,
    ⟨(some 12), .mov (.tmp 0), none⟩,
    ⟨(some 13), .len .slice (.tmp 12), none⟩,
    ⟨(some 14), .bin .lss (.tmp 11) (.tmp 13), none⟩] [0, 1, 5, 14])
  (.cond (.tmp 14) (.skip) (.exit 0)))
  (.seq (.block 1 (.seq (.draw cuneiformref01_Same.d0 cuneiformref01_Same.d0b [[0, 1, 2, 3, 4, 5, 6, 7, 8]] [] [0, 1, 5, 25])
  (.cond (.tmp 25) (.seq (.region [⟨(some 4), .mov (.const (.bool false)), none⟩] [4])
  (.ret)) (.skip))))
  (.region [⟨(some 15), .mov (.tmp 5), none⟩,
    ⟨(some 16), .bin .add (.tmp 15) (.const (.int .i64 1)), none⟩,
    ⟨(some 5), .mov (.tmp 16), none⟩] [0, 1, 5]))
def cuneiformref01_Same.body : ACode := .seq (.region [⟨(some 4), .mov (.const (.bool false)), none⟩] [0, 1])
  (.seq (.seq (.region [⟨(some 6), .mov (.tmp 0), none⟩,
    ⟨(some 7), .len .slice (.tmp 6), none⟩,
    ⟨(some 8), .mov (.tmp 1), none⟩,
    ⟨(some 9), .len .slice (.tmp 8), none⟩,
    ⟨(some 10), .bin .neq (.tmp 7) (.tmp 9), none⟩] [0, 1, 10])
  (.cond (.tmp 10) (.seq (.region [⟨(some 4), .mov (.const (.bool false)), none⟩] [4])
  (.ret)) (.skip)))
  (.seq (.seq (.region [⟨(some 5), .mov (.const (.int .i64 0)), none⟩] [0, 1, 5])
  (.block 0 (.loop cuneiformref01_Same.b1)))
  (.seq (.region [⟨(some 4), .mov (.const (.bool true)), none⟩] [4])
  (.ret))))
def cuneiformref01_Same : AFun := ⟨26, 2, [.tmp 4], cuneiformref01_Same.body⟩
def head_Check.a0 : ACode := .seq (.region [⟨(some 4), .mov (.tmp 8), none⟩] [3, 4, 9])
  (.region [⟨(some 5), .mov (.tmp 9), none⟩] [3, 4, 5])
def head_Check.b0 : ACode := .block 1 (.seq (.region [⟨(some 10), .mov (.tmp 5), none⟩] [3, 4, 10])
  (.cond (.tmp 10) (.seq (.region [⟨(some 11), .mov (.tmp 4), none⟩,
    ⟨none, .store 1 (.tmp 3) (.tmp 11), none⟩] [])
  (.exit 0)) (.skip)))
def head_Check.body : ACode := .seq (.region [⟨(some 1), .box T.head_Head (.tmp 0), none⟩,
    ⟨(some 2), .mov (.const (.int .i64 0)), none⟩] [1, 2])
  (.scope (.seq (.region [⟨(some 3), .alloc T.api_Errno [(.int .i64 0)], none⟩,
    ⟨none, .store 1 (.tmp 3) (.const (.int .i64 0)), none⟩] [1, 2, 3])
  (.seq (.skip)
  (.seq (.seq (.region [⟨(some 6), .load (some 5) (.tmp 1), none⟩,
    ⟨(some 7), .call (.const (.fn F.head_wrong [] [])) [(.tmp 6)], none⟩] [2, 3, 7])
  (.block 0 (.range (.tmp 7) [8, 9] head_Check.a0 head_Check.b0)))
  (.seq (.region [⟨(some 12), .load none (.tmp 3), none⟩,
    ⟨(some 2), .mov (.tmp 12), none⟩] [2])
  (.ret))))))
def head_Check : AFun := ⟨13, 1, [.tmp 2], head_Check.body⟩
def cuneiformref12_Mates.body : ACode := .seq (.region [⟨(some 2), .box T.cuneiformref07_H (.tmp 0), none⟩,
    ⟨(some 3), .box T.cuneiformref07_H (.tmp 1), none⟩,
    ⟨(some 4), .mov (.const (.bool false)), none⟩] [2, 3])
  (.seq (.region [⟨(some 5), .field 0 (.tmp 2), none⟩,
    ⟨(some 6), .load none (.tmp 5), none⟩,
    ⟨(some 7), .field 0 (.tmp 3), none⟩,
    ⟨(some 8), .load none (.tmp 7), none⟩,
    ⟨(some 9), .bin .eql (.tmp 6) (.tmp 8), none⟩,
    ⟨(some 10), .mov (.tmp 9), none⟩,
    ⟨(some 11), .field 1 (.tmp 2), some (10, true)⟩,
    ⟨(some 12), .load none (.tmp 11), some (10, true)⟩,
    ⟨(some 13), .field 1 (.tmp 3), some (10, true)⟩,
    ⟨(some 14), .load none (.tmp 13), some (10, true)⟩,
    ⟨(some 15), .bin .eql (.tmp 12) (.tmp 14), some (10, true)⟩,
    ⟨(some 16), .pick (.tmp 10) (.tmp 15) (.const (.bool false)), none⟩,
    ⟨(some 17), .mov (.tmp 16), none⟩,
    ⟨(some 18), .field 2 (.tmp 2), some (17, true)⟩,
    ⟨(some 19), .load none (.tmp 18), some (17, true)⟩,
    ⟨(some 20), .field 2 (.tmp 3), some (17, true)⟩,
    ⟨(some 21), .load none (.tmp 20), some (17, true)⟩,
    ⟨(some 22), .bin .eql (.tmp 19) (.tmp 21), some (17, true)⟩,
    ⟨(some 23), .pick (.tmp 17) (.tmp 22) (.const (.bool false)), none⟩,
    ⟨(some 24), .mov (.tmp 23), none⟩,
    ⟨(some 25), .field 4 (.tmp 2), some (24, true)⟩,
    ⟨(some 26), .load none (.tmp 25), some (24, true)⟩,
    ⟨(some 27), .field 4 (.tmp 3), some (24, true)⟩,
    ⟨(some 28), .load none (.tmp 27), some (24, true)⟩,
    ⟨(some 29), .bin .eql (.tmp 26) (.tmp 28), some (24, true)⟩,
    ⟨(some 30), .pick (.tmp 24) (.tmp 29) (.const (.bool false)), none⟩,
    ⟨(some 4), .mov (.tmp 30), none⟩] [4])
  (.ret))
def cuneiformref12_Mates : AFun := ⟨31, 2, [.tmp 4], cuneiformref12_Mates.body⟩
def cuneiformref13_Has.b0 : ACode := .seq (.seq (.region [⟨(some 6), .mov (.tmp 5), none⟩,
    ⟨(some 7), .field 5 (.tmp 2), none⟩,
    ⟨(some 8), .load none (.tmp 7), none⟩,
    ⟨(some 9), .len .slice (.tmp 8), none⟩,
    ⟨(some 10), .bin .lss (.tmp 6) (.tmp 9), none⟩] [1, 2, 5, 10])
  (.cond (.tmp 10) (.skip) (.exit 0)))
  (.seq (.block 1 (.seq (.region [⟨(some 13), .field 5 (.tmp 2), none⟩,
    ⟨(some 14), .load none (.tmp 13), none⟩,
    ⟨(some 15), .mov (.tmp 5), none⟩,
    ⟨(some 16), .idx 6 none (.tmp 14) (.tmp 15), none⟩,
    ⟨(some 17), .field 0 (.tmp 16), none⟩,
    ⟨(some 18), .field 3 (.tmp 17), none⟩,
    ⟨(some 19), .load none (.tmp 18), none⟩,
    ⟨(some 20), .mov (.tmp 1), none⟩,
    ⟨(some 21), .bin .eql (.tmp 19) (.tmp 20), none⟩] [1, 2, 5, 21])
  (.cond (.tmp 21) (.seq (.region [⟨(some 22), .mov (.tmp 5), none⟩,
    ⟨(some 4), .mov (.tmp 22), none⟩] [4])
  (.ret)) (.skip))))
  (.region [⟨(some 11), .mov (.tmp 5), none⟩,
    ⟨(some 12), .bin .add (.tmp 11) (.const (.int .i64 1)), none⟩,
    ⟨(some 5), .mov (.tmp 12), none⟩] [1, 2, 5]))
def cuneiformref13_Has.body : ACode := .seq (.region [⟨(some 2), .box T.cuneiformref13_S (.tmp 0), none⟩,
    ⟨(some 4), .mov (.const (.int .i64 0)), none⟩] [1, 2])
  (.seq (.seq (.region [⟨(some 5), .mov (.const (.int .i64 0)), none⟩] [1, 2, 5])
  (.block 0 (.loop cuneiformref13_Has.b0)))
  (.seq (.region [⟨(some 4), .mov (.const (.int .i64 (-1))), none⟩] [4])
  (.ret)))
def cuneiformref13_Has : AFun := ⟨23, 2, [.tmp 4], cuneiformref13_Has.body⟩
def cuneiformref13_Size.b0 : ACode := .seq (.seq (.region [⟨(some 5), .mov (.tmp 4), none⟩,
    ⟨(some 6), .field 5 (.tmp 1), none⟩,
    ⟨(some 7), .load none (.tmp 6), none⟩,
    ⟨(some 8), .len .slice (.tmp 7), none⟩,
    ⟨(some 9), .bin .lss (.tmp 5) (.tmp 8), none⟩] [1, 3, 4, 9])
  (.cond (.tmp 9) (.skip) (.exit 0)))
  (.seq (.block 1 (.region [⟨(some 12), .mov (.tmp 3), none⟩,
    ⟨(some 13), .field 5 (.tmp 1), none⟩,
    ⟨(some 14), .load none (.tmp 13), none⟩,
    ⟨(some 15), .mov (.tmp 4), none⟩,
    ⟨(some 16), .idx 6 none (.tmp 14) (.tmp 15), none⟩,
    ⟨(some 17), .field 5 (.tmp 16), none⟩,
    ⟨(some 18), .load none (.tmp 17), none⟩,
    ⟨(some 19), .len .slice (.tmp 18), none⟩,
    ⟨(some 20), .bin .add (.tmp 12) (.tmp 19), none⟩,
    ⟨(some 3), .mov (.tmp 20), none⟩] [1, 3, 4]))
  (.region [⟨(some 10), .mov (.tmp 4), none⟩,
    ⟨(some 11), .bin .add (.tmp 10) (.const (.int .i64 1)), none⟩,
    ⟨(some 4), .mov (.tmp 11), none⟩] [1, 3, 4]))
def cuneiformref13_Size.body : ACode := .seq (.region [⟨(some 1), .box T.cuneiformref13_S (.tmp 0), none⟩,
    ⟨(some 2), .mov (.const (.int .i64 0)), none⟩] [1])
  (.seq (.region [⟨(some 3), .mov (.const (.int .i64 0)), none⟩] [1, 3])
  (.seq (.seq (.region [⟨(some 4), .mov (.const (.int .i64 0)), none⟩] [1, 3, 4])
  (.block 0 (.loop cuneiformref13_Size.b0)))
  (.seq (.region [⟨(some 21), .mov (.tmp 3), none⟩,
    ⟨(some 2), .mov (.tmp 21), none⟩] [2])
  (.ret))))
def cuneiformref13_Size : AFun := ⟨22, 1, [.tmp 2], cuneiformref13_Size.body⟩
def head_Mates.body : ACode := .seq (.region [⟨(some 2), .box T.head_Head (.tmp 0), none⟩,
    ⟨(some 3), .box T.head_Head (.tmp 1), none⟩,
    ⟨(some 4), .mov (.const (.bool false)), none⟩] [2, 3])
  (.seq (.region [⟨(some 5), .field 3 (.tmp 3), none⟩,
    ⟨(some 6), .load none (.tmp 5), none⟩,
    ⟨(some 7), .field 3 (.tmp 2), none⟩,
    ⟨none, .store 1 (.tmp 7) (.tmp 6), none⟩] [2, 3])
  (.seq (.region [⟨(some 8), .load (some 5) (.tmp 2), none⟩,
    ⟨(some 9), .load (some 5) (.tmp 3), none⟩,
    ⟨(some 10), .eq false (.cells [.int, .int, .int, .int, .int]) (.tmp 8) (.tmp 9), none⟩,
    ⟨(some 4), .mov (.tmp 10), none⟩] [4])
  (.ret)))
def head_Mates : AFun := ⟨11, 2, [.tmp 4], head_Mates.body⟩
def cuneiformref13_Full.body : ACode := .seq (.region [⟨(some 1), .box T.cuneiformref13_S (.tmp 0), none⟩,
    ⟨(some 2), .mov (.const (.bool false)), none⟩] [1])
  (.seq (.region [⟨(some 3), .field 0 (.tmp 1), none⟩,
    ⟨(some 4), .field 4 (.tmp 3), none⟩,
    ⟨(some 5), .load none (.tmp 4), none⟩,
    ⟨(some 6), .bin .gtr (.tmp 5) (.const (.int .i64 0)), none⟩,
    ⟨(some 7), .mov (.tmp 6), none⟩,
    ⟨(some 8), .field 5 (.tmp 1), some (7, true)⟩,
    ⟨(some 9), .load none (.tmp 8), some (7, true)⟩,
    ⟨(some 10), .len .slice (.tmp 9), some (7, true)⟩,
    ⟨(some 11), .field 0 (.tmp 1), some (7, true)⟩,
    ⟨(some 12), .field 4 (.tmp 11), some (7, true)⟩,
    ⟨(some 13), .load none (.tmp 12), some (7, true)⟩,
    ⟨(some 14), .bin .eql (.tmp 10) (.tmp 13), some (7, true)⟩,
    ⟨(some 15), .pick (.tmp 7) (.tmp 14) (.const (.bool false)), none⟩,
    ⟨(some 2), .mov (.tmp 15), none⟩] [2])
  (.ret))
def cuneiformref13_Full : AFun := ⟨16, 1, [.tmp 2], cuneiformref13_Full.body⟩
def cuneiformref13_Bytes.b0 : ACode := .seq (.seq (.region [⟨(some 6), .mov (.tmp 4), none⟩,
    ⟨(some 7), .field 0 (.tmp 1), none⟩,
    ⟨(some 8), .field 4 (.tmp 7), none⟩,
    ⟨(some 9), .load none (.tmp 8), none⟩,
    ⟨(some 10), .bin .lss (.tmp 6) (.tmp 9), none⟩] [1, 3, 4, 10])
  (.cond (.tmp 10) (.skip) (.exit 0)))
  (.seq (.block 1 (.seq (.region [⟨(some 13), .load (some 6) (.tmp 1), none⟩,
    ⟨(some 14), .mov (.tmp 4), none⟩,
    ⟨(some 15), .call (.const (.fn F.cuneiformref13_Has [] [])) [(.tmp 13), (.tmp 14)], none⟩,
    ⟨(some 5), .mov (.tmp 15), none⟩] [1, 3, 4, 5])
  (.seq (.region [⟨(some 16), .mov (.tmp 5), none⟩,
    ⟨(some 17), .bin .geq (.tmp 16) (.const (.int .i64 0)), none⟩] [1, 3, 4, 5, 17])
  (.cond (.tmp 17) (.region [⟨(some 18), .mov (.tmp 3), none⟩,
    ⟨(some 19), .field 5 (.tmp 1), none⟩,
    ⟨(some 20), .load none (.tmp 19), none⟩,
    ⟨(some 21), .mov (.tmp 5), none⟩,
    ⟨(some 22), .idx 6 none (.tmp 20) (.tmp 21), none⟩,
    ⟨(some 23), .field 5 (.tmp 22), none⟩,
    ⟨(some 24), .load none (.tmp 23), none⟩,
    ⟨(some 25), .append T.uint8 1 1 (.tmp 18) (.tmp 24), none⟩,
    ⟨(some 3), .mov (.tmp 25), none⟩] [1, 3, 4]) (.skip)))))
  (.region [⟨(some 11), .mov (.tmp 4), none⟩,
    ⟨(some 12), .bin .add (.tmp 11) (.const (.int .i64 1)), none⟩,
    ⟨(some 4), .mov (.tmp 12), none⟩] [1, 3, 4]))
def cuneiformref13_Bytes.body : ACode := .seq (.region [⟨(some 1), .box T.cuneiformref13_S (.tmp 0), none⟩,
    ⟨(some 2), .mov (.const .nils), none⟩] [1])
  (.seq (.region [⟨(some 3), .mov (.const .nils), none⟩] [1, 3])
  (.seq (.seq (.region [⟨(some 4), .mov (.const (.int .i64 0)), none⟩] [1, 3, 4])
  (.block 0 (.loop cuneiformref13_Bytes.b0)))
  (.seq (.region [⟨(some 26), .mov (.tmp 3), none⟩,
    ⟨(some 2), .mov (.tmp 26), none⟩] [2])
  (.ret))))
def cuneiformref13_Bytes : AFun := ⟨27, 1, [.tmp 2], cuneiformref13_Bytes.body⟩
def slot_Slot_Missing_1.b0 : ACode := .seq (.seq (.region [⟨(some 6), .load none (.tmp 1), none⟩,
    ⟨(some 7), .eq true .ptr (.tmp 6) (.const .nilp), none⟩,
    ⟨(some 8), .mov (.tmp 7), none⟩,
    ⟨(some 9), .mov (.tmp 3), some (8, true)⟩,
    ⟨(some 10), .load none (.tmp 1), some (8, true)⟩,
    ⟨(some 11), .nilc (.tmp 10), some (8, true)⟩,
    ⟨(some 12), .field 0 (.tmp 11), some (8, true)⟩,
    ⟨(some 13), .field 0 (.tmp 12), some (8, true)⟩,
    ⟨(some 14), .field 4 (.tmp 13), some (8, true)⟩,
    ⟨(some 15), .load none (.tmp 14), some (8, true)⟩,
    ⟨(some 16), .bin .lss (.tmp 9) (.tmp 15), some (8, true)⟩,
    ⟨(some 17), .pick (.tmp 8) (.tmp 16) (.const (.bool false)), none⟩] [0, 1, 3, 17])
  (.cond (.tmp 17) (.skip) (.exit 0)))
  (.seq (.block 1 (.seq (.seq (.region [⟨(some 21), .load none (.tmp 1), none⟩,
    ⟨(some 22), .nilc (.tmp 21), none⟩,
    ⟨(some 23), .field 5 (.tmp 22), none⟩,
    ⟨(some 24), .load none (.tmp 23), none⟩,
    ⟨(some 25), .mov (.tmp 3), none⟩,
    ⟨(some 26), .lookup .int .nils true (.tmp 24) (.tmp 25), none⟩,
    ⟨(some 20), .mov (.tmp 26), none⟩,
    ⟨(some 27), .extract (.tmp 20) 0, none⟩,
    ⟨(some 28), .extract (.tmp 20) 1, none⟩,
    ⟨(some 4), .mov (.tmp 27), none⟩,
    ⟨(some 5), .mov (.tmp 28), none⟩] [0, 1, 3, 5])
  (.seq (.region [⟨(some 29), .mov (.tmp 5), none⟩] [0, 1, 3, 29])
  (.cond (.tmp 29) (.exit 1) (.skip))))
  (.seq (.region [⟨(some 30), .mov (.tmp 0), none⟩,
    ⟨(some 31), .mov (.tmp 3), none⟩,
    ⟨(some 32), .call (.tmp 30) [(.tmp 31)], none⟩,
    ⟨(some 33), .un .not (.tmp 32), none⟩] [0, 1, 3, 33])
  (.cond (.tmp 33) (.exit 0) (.skip)))))
  (.region [⟨(some 18), .mov (.tmp 3), none⟩,
    ⟨(some 19), .bin .add (.tmp 18) (.const (.int .i64 1)), none⟩,
    ⟨(some 3), .mov (.tmp 19), none⟩] [0, 1, 3]))
def slot_Slot_Missing_1.body : ACode := .scope (.seq (.skip)
  (.seq (.region [⟨(some 3), .mov (.const (.int .i64 0)), none⟩] [0, 1, 3])
  (.block 0 (.loop slot_Slot_Missing_1.b0))))
def slot_Slot_Missing_1 : AFun := ⟨34, 2, [], slot_Slot_Missing_1.body⟩
def head_wrong.body : ACode := .seq (.region [⟨(some 1), .box T.head_Head (.tmp 0), none⟩,
    ⟨(some 2), .mov (.const .nilf), none⟩] [1])
  (.seq (.region [⟨(some 3), .mkfn F.head_wrong_1 [] [(.tmp 1)], none⟩,
    ⟨(some 2), .mov (.tmp 3), none⟩] [2])
  (.ret))
def head_wrong : AFun := ⟨4, 1, [.tmp 2], head_wrong.body⟩
def head_wrong_1.body : ACode := .region [⟨(some 3), .mov (.tmp 0), none⟩,
    ⟨(some 4), .field 0 (.tmp 1), none⟩,
    ⟨(some 5), .load none (.tmp 4), none⟩,
    ⟨(some 6), .bin .lss (.tmp 5) (.const (.int .i64 1)), none⟩,
    ⟨(some 7), .mov (.tmp 6), none⟩,
    ⟨(some 8), .field 0 (.tmp 1), some (7, false)⟩,
    ⟨(some 9), .load none (.tmp 8), some (7, false)⟩,
    ⟨(some 10), .bin .gtr (.tmp 9) (.const (.int .i64 2)), some (7, false)⟩,
    ⟨(some 11), .pick (.tmp 7) (.const (.bool true)) (.tmp 10), none⟩,
    ⟨(some 12), .call (.tmp 3) [(.const (.int .i64 10)), (.tmp 11)], none⟩,
    ⟨(some 13), .mov (.tmp 12), none⟩,
    ⟨(some 14), .mov (.tmp 0), some (13, true)⟩,
    ⟨(some 15), .field 1 (.tmp 1), some (13, true)⟩,
    ⟨(some 16), .load none (.tmp 15), some (13, true)⟩,
    ⟨(some 17), .bin .lss (.tmp 16) (.const (.int .i64 1)), some (13, true)⟩,
    ⟨(some 18), .mov (.tmp 17), some (13, true)⟩,
    ⟨(some 19), .field 1 (.tmp 1), some (18, false)⟩,
    ⟨(some 20), .load none (.tmp 19), some (18, false)⟩,
    ⟨(some 21), .bin .gtr (.tmp 20) (.const (.int .i64 5)), some (18, false)⟩,
    ⟨(some 22), .pick (.tmp 18) (.const (.bool true)) (.tmp 21), some (13, true)⟩,
    ⟨(some 23), .call (.tmp 14) [(.const (.int .i64 9)), (.tmp 22)], some (13, true)⟩,
    ⟨(some 24), .pick (.tmp 13) (.tmp 23) (.const (.bool false)), none⟩,
    ⟨(some 25), .mov (.tmp 24), none⟩,
    ⟨(some 26), .mov (.tmp 0), some (25, true)⟩,
    ⟨(some 27), .field 4 (.tmp 1), some (25, true)⟩,
    ⟨(some 28), .load none (.tmp 27), some (25, true)⟩,
    ⟨(some 29), .bin .lss (.tmp 28) (.const (.int .i64 1)), some (25, true)⟩,
    ⟨(some 30), .mov (.tmp 29), some (25, true)⟩,
    ⟨(some 31), .field 4 (.tmp 1), some (30, false)⟩,
    ⟨(some 32), .load none (.tmp 31), some (30, false)⟩,
    ⟨(some 33), .bin .gtr (.tmp 32) (.const (.int .i64 255)), some (30, false)⟩,
    ⟨(some 34), .pick (.tmp 30) (.const (.bool true)) (.tmp 33), some (25, true)⟩,
    ⟨(some 35), .mov (.tmp 34), some (25, true)⟩,
    ⟨(some 36), .field 3 (.tmp 1), some (35, false)⟩,
    ⟨(some 37), .load none (.tmp 36), some (35, false)⟩,
    ⟨(some 38), .bin .lss (.tmp 37) (.const (.int .i64 0)), some (35, false)⟩,
    ⟨(some 39), .pick (.tmp 35) (.const (.bool true)) (.tmp 38), some (25, true)⟩,
    ⟨(some 40), .mov (.tmp 39), some (25, true)⟩,
    ⟨(some 41), .field 3 (.tmp 1), some (40, false)⟩,
    ⟨(some 42), .load none (.tmp 41), some (40, false)⟩,
    ⟨(some 43), .field 4 (.tmp 1), some (40, false)⟩,
    ⟨(some 44), .load none (.tmp 43), some (40, false)⟩,
    ⟨(some 45), .bin .geq (.tmp 42) (.tmp 44), some (40, false)⟩,
    ⟨(some 46), .pick (.tmp 40) (.const (.bool true)) (.tmp 45), some (25, true)⟩,
    ⟨(some 47), .call (.tmp 26) [(.const (.int .i64 3)), (.tmp 46)], some (25, true)⟩,
    ⟨(some 48), .pick (.tmp 25) (.tmp 47) (.const (.bool false)), none⟩] []
def head_wrong_1 : AFun := ⟨49, 2, [], head_wrong_1.body⟩
def lclo0_ren : Go.Shelf.Ren := ⟨(fun | 5 => 25 | 7 => 36 | n => n), (fun | 23 => 68 | 25 => 3 | 3 => 37 | 4 => 4 | 20 => 20 | n => n), (fun n => n)⟩
set_option maxRecDepth 10000 in
theorem lclo0 : Go.Proofs.SlLaysW.n5 Try.prog lclo0_ren := { mixed := by kernel_rfl, f5 := ⟨Try.f25.name, by decide, Try.func25.trans (congrArg some (by kernel_rfl))⟩, f7 := Try.func36.trans (congrArg some (by kernel_rfl)), t4 := Try.underlying4, a4 := Try.isAgg4, z4 := Try.sizeOf4, v4 := Try.zeroValue4, t20 := Try.underlying20, a20 := Try.isAgg20, z20 := Try.sizeOf20, v20 := Try.zeroValue20, t23 := Try.underlying68, a23 := Try.isAgg68, z23 := Try.sizeOf68, v23 := Try.zeroValue68 }
set_option maxRecDepth 10000 in
theorem maps_Clone_map_int_byte_int_byte_nat : NatOk Try.prog F.maps_Clone_map_int_byte_int_byte .clone := clone_nat lclo0
theorem cuneiformlaw13_SlotPuts_code : okFun Try.prog F.cuneiformlaw13_SlotPuts cuneiformlaw13_SlotPuts = true := by kernel_rfl
theorem slot_New_code : okFun Try.prog F.slot_New slot_New = true := by kernel_rfl
theorem cuneiformref07_Check_code : okFun Try.prog F.cuneiformref07_Check cuneiformref07_Check = true := by kernel_rfl
theorem cuneiformlaw13_known_code : okFun Try.prog F.cuneiformlaw13_known cuneiformlaw13_known = true := by kernel_rfl
theorem cuneiformref13_New_code : okFun Try.prog F.cuneiformref13_New cuneiformref13_New = true := by kernel_rfl
theorem cuneiformlaw08_Cut_code : okFun Try.prog F.cuneiformlaw08_Cut cuneiformlaw08_Cut = true := by kernel_rfl
theorem slot_Slot_Copy_code : okFun Try.prog F.slot_Slot_Copy slot_Slot_Copy = true := by kernel_rfl
theorem cuneiformref13_Put_code : okFun Try.prog F.cuneiformref13_Put cuneiformref13_Put = true := by kernel_rfl
theorem cuneiformlaw08_Of_code : okFun Try.prog F.cuneiformlaw08_Of cuneiformlaw08_Of = true := by kernel_rfl
theorem slot_Slot_Put_code : okFun Try.prog F.slot_Slot_Put slot_Slot_Put = true := by kernel_rfl
theorem cuneiformlaw13_Alike_code : okFun Try.prog F.cuneiformlaw13_Alike cuneiformlaw13_Alike = true := by kernel_rfl
theorem slot_Slot_Bytes_code : okFun Try.prog F.slot_Slot_Bytes slot_Slot_Bytes = true := by kernel_rfl
theorem slot_Slot_Missing_code : okFun Try.prog F.slot_Slot_Missing slot_Slot_Missing = true := by kernel_rfl
theorem slot_Slot_Head_code : okFun Try.prog F.slot_Slot_Head slot_Slot_Head = true := by kernel_rfl
theorem slot_Slot_Have_code : okFun Try.prog F.slot_Slot_Have slot_Slot_Have = true := by kernel_rfl
theorem slot_Slot_Size_code : okFun Try.prog F.slot_Slot_Size slot_Slot_Size = true := by kernel_rfl
theorem slot_Slot_Full_code : okFun Try.prog F.slot_Slot_Full slot_Slot_Full = true := by kernel_rfl
theorem cuneiformref01_Same_code : okFun Try.prog F.cuneiformref01_Same cuneiformref01_Same = true := by kernel_rfl
theorem head_Check_code : okFun Try.prog F.head_Check head_Check = true := by kernel_rfl
theorem cuneiformref12_Mates_code : okFun Try.prog F.cuneiformref12_Mates cuneiformref12_Mates = true := by kernel_rfl
theorem cuneiformref13_Has_code : okFun Try.prog F.cuneiformref13_Has cuneiformref13_Has = true := by kernel_rfl
theorem cuneiformref13_Size_code : okFun Try.prog F.cuneiformref13_Size cuneiformref13_Size = true := by kernel_rfl
theorem head_Mates_code : okFun Try.prog F.head_Mates head_Mates = true := by kernel_rfl
theorem cuneiformref13_Full_code : okFun Try.prog F.cuneiformref13_Full cuneiformref13_Full = true := by kernel_rfl
theorem cuneiformref13_Bytes_code : okFun Try.prog F.cuneiformref13_Bytes cuneiformref13_Bytes = true := by kernel_rfl
theorem slot_Slot_Missing_1_code : okFun Try.prog F.slot_Slot_Missing_1 slot_Slot_Missing_1 = true := by kernel_rfl
theorem head_wrong_code : okFun Try.prog F.head_wrong head_wrong = true := by kernel_rfl
theorem head_wrong_1_code : okFun Try.prog F.head_wrong_1 head_wrong_1 = true := by kernel_rfl
def codes : CT := [(F.cuneiformlaw13_SlotPuts, cuneiformlaw13_SlotPuts), (F.slot_New, slot_New), (F.cuneiformref07_Check, cuneiformref07_Check), (F.cuneiformlaw13_known, cuneiformlaw13_known), (F.cuneiformref13_New, cuneiformref13_New), (F.cuneiformlaw08_Cut, cuneiformlaw08_Cut), (F.slot_Slot_Copy, slot_Slot_Copy), (F.cuneiformref13_Put, cuneiformref13_Put), (F.cuneiformlaw08_Of, cuneiformlaw08_Of), (F.slot_Slot_Put, slot_Slot_Put), (F.cuneiformlaw13_Alike, cuneiformlaw13_Alike), (F.slot_Slot_Bytes, slot_Slot_Bytes), (F.slot_Slot_Missing, slot_Slot_Missing), (F.slot_Slot_Head, slot_Slot_Head), (F.slot_Slot_Have, slot_Slot_Have), (F.slot_Slot_Size, slot_Slot_Size), (F.slot_Slot_Full, slot_Slot_Full), (F.cuneiformref01_Same, cuneiformref01_Same), (F.head_Check, head_Check), (F.maps_Clone_map_int_byte_int_byte, natF .clone), (F.cuneiformref12_Mates, cuneiformref12_Mates), (F.cuneiformref13_Has, cuneiformref13_Has), (F.cuneiformref13_Size, cuneiformref13_Size), (F.head_Mates, head_Mates), (F.cuneiformref13_Full, cuneiformref13_Full), (F.cuneiformref13_Bytes, cuneiformref13_Bytes), (F.slot_Slot_Missing_1, slot_Slot_Missing_1), (F.head_wrong, head_wrong), (F.head_wrong_1, head_wrong_1)]
theorem codes_ok : AllOk Try.prog codes := ⟨cuneiformlaw13_SlotPuts_code, slot_New_code, cuneiformref07_Check_code, cuneiformlaw13_known_code, cuneiformref13_New_code, cuneiformlaw08_Cut_code, slot_Slot_Copy_code, cuneiformref13_Put_code, cuneiformlaw08_Of_code, slot_Slot_Put_code, cuneiformlaw13_Alike_code, slot_Slot_Bytes_code, slot_Slot_Missing_code, slot_Slot_Head_code, slot_Slot_Have_code, slot_Slot_Size_code, slot_Slot_Full_code, cuneiformref01_Same_code, head_Check_code, maps_Clone_map_int_byte_int_byte_nat, cuneiformref12_Mates_code, cuneiformref13_Has_code, cuneiformref13_Size_code, head_Mates_code, cuneiformref13_Full_code, cuneiformref13_Bytes_code, slot_Slot_Missing_1_code, head_wrong_code, head_wrong_1_code, trivial⟩
end Go.Proofs.Ytchijhlfccedfaa
