/-
  The code that the statements of this seat reach, in the form of that machine, and that it is the program's. By an AI agent. No person has read it.
-/
import Derived.Test.YtiklfnjmadcgfaaProg
import Derived.Test.YtiklfnjmadcgfaaAm6
import Derived.KernelRfl

/-
  The code of this seat in the form of the abstract machine, and that it is the program's. Printed by a program (wip/am/gen.py, code.py). By an AI agent.
-/
namespace Go.Proofs.Ytiklfnjmadcgfaa
open Go Go.Am
namespace F
def cuneiformlaw11_WindowOnce : FuncId := 3
def cuneiformlaw11_WindowOrder : FuncId := 4
def cuneiformlaw11_WindowPlays : FuncId := 5
def cuneiformlaw11_WindowNil : FuncId := 6
def window_New : FuncId := 7
def window_Window_Top : FuncId := 8
def window_Window_Bits : FuncId := 9
def window_Window_Mark : FuncId := 10
def window_Window_Look : FuncId := 11
def cuneiformlaw11_known : FuncId := 12
def window_Window_Missing : FuncId := 13
def cuneiformref11_New : FuncId := 14
def cuneiformlaw11_Alike : FuncId := 15
def window_Window_Copy : FuncId := 16
def cuneiformref11_Mark : FuncId := 17
def cuneiformref11_Look : FuncId := 18
def window_Window_Come : FuncId := 19
def serial_Add : FuncId := 20
def serial_After : FuncId := 21
def serial_Way : FuncId := 22
def window_state_bit : FuncId := 23
def window_Window_all : FuncId := 24
def slices_Reverse_uint32_uint32 : FuncId := 25
def cuneiformref10_Add : FuncId := 26
def cuneiformref11_Bits : FuncId := 27
def cuneiformref10_After : FuncId := 28
def cuneiformref10_Way : FuncId := 29
def window_Window_Come_1 : FuncId := 30
def serial_Diff : FuncId := 31
def window_Window_all_1 : FuncId := 32
end F
namespace T
def int : TypeId := 3
def bool : TypeId := 4
def uint32 : TypeId := 22
def p_window_Window : TypeId := 24
def sl_uint32 : TypeId := 26
def n64_bool : TypeId := 38
def cuneiformref11_W : TypeId := 40
def func_uint32_bool : TypeId := 51
def window_state : TypeId := 54
def window_Window : TypeId := 56
end T
def cuneiformlaw11_WindowOnce.b0 : ACode := .seq (.seq (.region [⟨(some 36), .mov (.tmp 10), none⟩,
    ⟨(some 37), .mov (.tmp 6), none⟩,
    ⟨(some 38), .len .slice (.tmp 37), none⟩,
    ⟨(some 39), .bin .lss (.tmp 36) (.tmp 38), none⟩] [0, 1, 5, 6, 7, 8, 9, 10, 39])
  (.cond (.tmp 39) (.skip) (.exit 2)))
  (.seq (.block 3 (.region [⟨(some 42), .mov (.tmp 9), none⟩,
    ⟨(some 43), .mov (.tmp 42), none⟩,
    ⟨(some 44), .mov (.tmp 6), some (43, false)⟩,
    ⟨(some 45), .mov (.tmp 10), some (43, false)⟩,
    ⟨(some 46), .idx 1 none (.tmp 44) (.tmp 45), some (43, false)⟩,
    ⟨(some 47), .load none (.tmp 46), some (43, false)⟩,
    ⟨(some 48), .mov (.tmp 8), some (43, false)⟩,
    ⟨(some 49), .bin .eql (.tmp 47) (.tmp 48), some (43, false)⟩,
    ⟨(some 50), .pick (.tmp 43) (.const (.bool true)) (.tmp 49), none⟩,
    ⟨(some 9), .mov (.tmp 50), none⟩] [0, 1, 5, 6, 7, 8, 9, 10]))
  (.region [⟨(some 40), .mov (.tmp 10), none⟩,
    ⟨(some 41), .bin .add (.tmp 40) (.const (.int .i64 1)), none⟩,
    ⟨(some 10), .mov (.tmp 41), none⟩] [0, 1, 5, 6, 7, 8, 9, 10]))
def cuneiformlaw11_WindowOnce.b1 : ACode := .seq (.seq (.region [⟨(some 18), .mov (.tmp 7), none⟩,
    ⟨(some 19), .mov (.tmp 1), none⟩,
    ⟨(some 20), .len .slice (.tmp 19), none⟩,
    ⟨(some 21), .bin .lss (.tmp 18) (.tmp 20), none⟩,
    ⟨(some 22), .mov (.tmp 21), none⟩,
    ⟨(some 23), .mov (.tmp 7), some (22, true)⟩,
    ⟨(some 24), .bin .lss (.tmp 23) (.const (.int .i64 200)), some (22, true)⟩,
    ⟨(some 25), .pick (.tmp 22) (.tmp 24) (.const (.bool false)), none⟩] [0, 1, 5, 6, 7, 25])
  (.cond (.tmp 25) (.skip) (.exit 0)))
  (.seq (.block 1 (.seq (.region [⟨(some 28), .mov (.tmp 0), none⟩,
    ⟨(some 29), .mov (.tmp 1), none⟩,
    ⟨(some 30), .mov (.tmp 7), none⟩,
    ⟨(some 31), .idx 1 none (.tmp 29) (.tmp 30), none⟩,
    ⟨(some 32), .load none (.tmp 31), none⟩,
    ⟨(some 33), .conv .u32 (.tmp 32), none⟩,
    ⟨(some 34), .bin .add (.tmp 28) (.tmp 33), none⟩,
    ⟨(some 35), .bin .sub (.tmp 34) (.const (.int .u32 100)), none⟩,
    ⟨(some 8), .mov (.tmp 35), none⟩] [0, 1, 5, 6, 7, 8])
  (.seq (.region [⟨(some 9), .mov (.const (.bool false)), none⟩] [0, 1, 5, 6, 7, 8, 9])
  (.seq (.seq (.region [⟨(some 10), .mov (.const (.int .i64 0)), none⟩] [0, 1, 5, 6, 7, 8, 9, 10])
  (.block 2 (.loop cuneiformlaw11_WindowOnce.b0)))
  (.seq (.region [⟨(some 51), .mov (.tmp 5), none⟩,
    ⟨(some 52), .call (.const (.fn F.window_Window_Top [] [])) [(.tmp 51)], none⟩,
    ⟨(some 53), .mov (.tmp 5), none⟩,
    ⟨(some 54), .call (.const (.fn F.window_Window_Bits [] [])) [(.tmp 53)], none⟩,
    ⟨(some 11), .mov (.tmp 52), none⟩,
    ⟨(some 12), .mov (.tmp 54), none⟩] [0, 1, 5, 6, 7, 8, 9, 11, 12])
  (.seq (.region [⟨(some 55), .mov (.tmp 5), none⟩,
    ⟨(some 56), .mov (.tmp 8), none⟩,
    ⟨(some 57), .call (.const (.fn F.window_Window_Mark [] [])) [(.tmp 55), (.tmp 56)], none⟩,
    ⟨(some 13), .mov (.tmp 57), none⟩] [0, 1, 5, 6, 7, 8, 9, 11, 12, 13])
  (.seq (.seq (.region [⟨(some 58), .mov (.tmp 13), none⟩,
    ⟨(some 59), .bin .eql (.tmp 58) (.const (.int .i64 0)), none⟩,
    ⟨(some 60), .mov (.tmp 59), none⟩,
    ⟨(some 61), .mov (.tmp 9), some (60, true)⟩,
    ⟨(some 62), .pick (.tmp 60) (.tmp 61) (.const (.bool false)), none⟩,
    ⟨(some 63), .mov (.tmp 62), none⟩,
    ⟨(some 64), .mov (.tmp 13), some (63, false)⟩,
    ⟨(some 65), .bin .neq (.tmp 64) (.const (.int .i64 0)), some (63, false)⟩,
    ⟨(some 66), .mov (.tmp 65), some (63, false)⟩,
    ⟨(some 67), .mov (.tmp 5), some (66, true)⟩,
    ⟨(some 68), .call (.const (.fn F.window_Window_Top [] [])) [(.tmp 67)], some (66, true)⟩,
    ⟨(some 69), .mov (.tmp 11), some (66, true)⟩,
    ⟨(some 70), .bin .neq (.tmp 68) (.tmp 69), some (66, true)⟩,
    ⟨(some 71), .mov (.tmp 70), some (66, true)⟩,
    ⟨(some 72), .mov (.tmp 5), some (71, false)⟩,
    ⟨(some 73), .call (.const (.fn F.window_Window_Bits [] [])) [(.tmp 72)], some (71, false)⟩,
    ⟨(some 74), .mov (.tmp 12), some (71, false)⟩,
    ⟨(some 75), .bin .neq (.tmp 73) (.tmp 74), some (71, false)⟩,
    ⟨(some 76), .pick (.tmp 71) (.const (.bool true)) (.tmp 75), some (66, true)⟩,
    ⟨(some 77), .pick (.tmp 66) (.tmp 76) (.const (.bool false)), some (63, false)⟩,
    ⟨(some 78), .pick (.tmp 63) (.const (.bool true)) (.tmp 77), none⟩,
    ⟨(some 79), .mov (.tmp 78), none⟩,
    ⟨(some 80), .mov (.tmp 5), some (79, false)⟩,
    ⟨(some 81), .mov (.tmp 8), some (79, false)⟩,
    ⟨(some 82), .call (.const (.fn F.window_Window_Look [] [])) [(.tmp 80), (.tmp 81)], some (79, false)⟩,
    ⟨(some 83), .bin .eql (.tmp 82) (.const (.int .i64 0)), some (79, false)⟩,
    ⟨(some 84), .pick (.tmp 79) (.const (.bool true)) (.tmp 83), none⟩] [0, 1, 5, 6, 7, 8, 13, 84])
  (.cond (.tmp 84) (.seq (.region [⟨(some 4), .mov (.const (.bool false)), none⟩] [4])
  (.ret)) (.skip)))
  (.seq (.region [⟨(some 85), .mov (.tmp 13), none⟩,
    ⟨(some 86), .bin .eql (.tmp 85) (.const (.int .i64 0)), none⟩] [0, 1, 5, 6, 7, 8, 86])
  (.cond (.tmp 86) (.region [⟨(some 87), .mov (.tmp 6), none⟩,
    ⟨(some 88), .mov (.tmp 8), none⟩,
    ⟨(some 89), .lit T.uint32 1 1 [(.int .u32 0)] [(0, 1, (.tmp 88))], none⟩,
    ⟨(some 90), .append T.uint32 1 4 (.tmp 87) (.tmp 89), none⟩,
    ⟨(some 6), .mov (.tmp 90), none⟩] [0, 1, 5, 6, 7]) (.skip))))))))))
  (.region [⟨(some 26), .mov (.tmp 7), none⟩,
    ⟨(some 27), .bin .add (.tmp 26) (.const (.int .i64 1)), none⟩,
    ⟨(some 7), .mov (.tmp 27), none⟩] [0, 1, 5, 6, 7]))
def cuneiformlaw11_WindowOnce.body : ACode := .seq (.region [⟨(some 4), .mov (.const (.bool false)), none⟩] [0, 1])
  (.seq (.region [⟨(some 14), .mov (.tmp 0), none⟩,
    ⟨(some 15), .call (.const (.fn F.window_New [] [])) [(.tmp 14)], none⟩,
    ⟨(some 5), .mov (.tmp 15), none⟩] [0, 1, 5])
  (.seq (.seq (.region [⟨(some 16), .mov (.tmp 5), none⟩,
    ⟨(some 17), .eq false .ptr (.tmp 16) (.const .nilp), none⟩] [0, 1, 5, 17])
  (.cond (.tmp 17) (.seq (.region [⟨(some 4), .mov (.const (.bool false)), none⟩] [4])
  (.ret)) (.skip)))
  (.seq (.region [⟨(some 6), .mov (.const .nils), none⟩] [0, 1, 5, 6])
  (.seq (.seq (.region [⟨(some 7), .mov (.const (.int .i64 0)), none⟩] [0, 1, 5, 6, 7])
  (.block 0 (.loop cuneiformlaw11_WindowOnce.b1)))
  (.seq (.region [⟨(some 91), .call (.const (.fn F.cuneiformlaw11_known [] [])) [], none⟩,
    ⟨(some 4), .mov (.tmp 91), none⟩] [4])
  (.ret))))))
def cuneiformlaw11_WindowOnce : AFun := ⟨92, 2, [.tmp 4], cuneiformlaw11_WindowOnce.body⟩
def cuneiformlaw11_WindowOrder.b0 : ACode := .seq (.seq (.region [⟨(some 18), .mov (.tmp 8), none⟩,
    ⟨(some 19), .mov (.tmp 1), none⟩,
    ⟨(some 20), .bin .lss (.tmp 18) (.tmp 19), none⟩] [0, 1, 2, 7, 8, 20])
  (.cond (.tmp 20) (.skip) (.exit 0)))
  (.seq (.block 1 (.region [⟨(some 23), .mov (.tmp 7), none⟩,
    ⟨(some 24), .mov (.tmp 0), none⟩,
    ⟨(some 25), .mov (.tmp 8), none⟩,
    ⟨(some 26), .conv .u32 (.tmp 25), none⟩,
    ⟨(some 27), .bin .add (.tmp 24) (.tmp 26), none⟩,
    ⟨(some 28), .lit T.uint32 1 1 [(.int .u32 0)] [(0, 1, (.tmp 27))], none⟩,
    ⟨(some 29), .append T.uint32 1 4 (.tmp 23) (.tmp 28), none⟩,
    ⟨(some 7), .mov (.tmp 29), none⟩] [0, 1, 2, 7, 8]))
  (.region [⟨(some 21), .mov (.tmp 8), none⟩,
    ⟨(some 22), .bin .add (.tmp 21) (.const (.int .i64 1)), none⟩,
    ⟨(some 8), .mov (.tmp 22), none⟩] [0, 1, 2, 7, 8]))
def cuneiformlaw11_WindowOrder.b1 : ACode := .seq (.seq (.region [⟨(some 52), .mov (.tmp 11), none⟩,
    ⟨(some 53), .bin .lss (.tmp 52) (.const (.int .i64 32)), none⟩] [0, 1, 2, 7, 9, 10, 11, 53])
  (.cond (.tmp 53) (.skip) (.exit 4)))
  (.seq (.block 5 (.region [⟨(some 56), .mov (.tmp 7), none⟩,
    ⟨(some 57), .mov (.tmp 9), none⟩,
    ⟨(some 58), .bin .mul (.const (.int .i64 32)) (.tmp 57), none⟩,
    ⟨(some 59), .mov (.tmp 11), none⟩,
    ⟨(some 60), .bin .add (.tmp 58) (.tmp 59), none⟩,
    ⟨(some 61), .mov (.tmp 10), none⟩,
    ⟨(some 62), .mov (.tmp 11), none⟩,
    ⟨(some 63), .mov (.tmp 2), none⟩,
    ⟨(some 64), .mov (.tmp 9), none⟩,
    ⟨(some 65), .idx 1 none (.tmp 63) (.tmp 64), none⟩,
    ⟨(some 66), .load none (.tmp 65), none⟩,
    ⟨(some 67), .bin .rem (.tmp 66) (.const (.int .u8 32)), none⟩,
    ⟨(some 68), .conv .i64 (.tmp 67), none⟩,
    ⟨(some 69), .bin .add (.tmp 62) (.tmp 68), none⟩,
    ⟨(some 70), .bin .rem (.tmp 69) (.const (.int .i64 32)), none⟩,
    ⟨(some 71), .idx 1 none (.tmp 61) (.tmp 70), none⟩,
    ⟨(some 72), .load none (.tmp 71), none⟩,
    ⟨(some 73), .idx 1 none (.tmp 56) (.tmp 60), none⟩,
    ⟨none, .store 1 (.tmp 73) (.tmp 72), none⟩] [0, 1, 2, 7, 9, 10, 11]))
  (.region [⟨(some 54), .mov (.tmp 11), none⟩,
    ⟨(some 55), .bin .add (.tmp 54) (.const (.int .i64 1)), none⟩,
    ⟨(some 11), .mov (.tmp 55), none⟩] [0, 1, 2, 7, 9, 10, 11]))
def cuneiformlaw11_WindowOrder.b2 : ACode := .seq (.seq (.region [⟨(some 30), .mov (.tmp 9), none⟩,
    ⟨(some 31), .mov (.tmp 2), none⟩,
    ⟨(some 32), .len .slice (.tmp 31), none⟩,
    ⟨(some 33), .bin .lss (.tmp 30) (.tmp 32), none⟩,
    ⟨(some 34), .mov (.tmp 33), none⟩,
    ⟨(some 35), .mov (.tmp 9), some (34, true)⟩,
    ⟨(some 36), .bin .mul (.const (.int .i64 32)) (.tmp 35), some (34, true)⟩,
    ⟨(some 37), .bin .add (.tmp 36) (.const (.int .i64 32)), some (34, true)⟩,
    ⟨(some 38), .mov (.tmp 1), some (34, true)⟩,
    ⟨(some 39), .bin .leq (.tmp 37) (.tmp 38), some (34, true)⟩,
    ⟨(some 40), .pick (.tmp 34) (.tmp 39) (.const (.bool false)), none⟩] [0, 1, 2, 7, 9, 40])
  (.cond (.tmp 40) (.skip) (.exit 2)))
  (.seq (.block 3 (.seq (.region [⟨(some 43), .lit T.uint32 1 0 [] [], none⟩,
    ⟨(some 44), .mov (.tmp 7), none⟩,
    ⟨(some 45), .mov (.tmp 9), none⟩,
    ⟨(some 46), .bin .mul (.const (.int .i64 32)) (.tmp 45), none⟩,
    ⟨(some 47), .mov (.tmp 9), none⟩,
    ⟨(some 48), .bin .mul (.const (.int .i64 32)) (.tmp 47), none⟩,
    ⟨(some 49), .bin .add (.tmp 48) (.const (.int .i64 32)), none⟩,
    ⟨(some 50), .slice 1 .slice (.tmp 44) (some (.tmp 46)) (some (.tmp 49)) none, none⟩,
    ⟨(some 51), .append T.uint32 1 4 (.tmp 43) (.tmp 50), none⟩,
    ⟨(some 10), .mov (.tmp 51), none⟩] [0, 1, 2, 7, 9, 10])
  (.seq (.region [⟨(some 11), .mov (.const (.int .i64 0)), none⟩] [0, 1, 2, 7, 9, 10, 11])
  (.block 4 (.loop cuneiformlaw11_WindowOrder.b1)))))
  (.region [⟨(some 41), .mov (.tmp 9), none⟩,
    ⟨(some 42), .bin .add (.tmp 41) (.const (.int .i64 1)), none⟩,
    ⟨(some 9), .mov (.tmp 42), none⟩] [0, 1, 2, 7, 9]))
def cuneiformlaw11_WindowOrder.b3 : ACode := .seq (.seq (.region [⟨(some 78), .mov (.tmp 13), none⟩,
    ⟨(some 79), .mov (.tmp 7), none⟩,
    ⟨(some 80), .len .slice (.tmp 79), none⟩,
    ⟨(some 81), .bin .lss (.tmp 78) (.tmp 80), none⟩] [0, 1, 7, 12, 13, 81])
  (.cond (.tmp 81) (.skip) (.exit 6)))
  (.seq (.block 7 (.seq (.region [⟨(some 84), .mov (.tmp 12), none⟩,
    ⟨(some 85), .mov (.tmp 7), none⟩,
    ⟨(some 86), .mov (.tmp 13), none⟩,
    ⟨(some 87), .idx 1 none (.tmp 85) (.tmp 86), none⟩,
    ⟨(some 88), .load none (.tmp 87), none⟩,
    ⟨(some 89), .call (.const (.fn F.window_Window_Look [] [])) [(.tmp 84), (.tmp 88)], none⟩,
    ⟨(some 90), .bin .neq (.tmp 89) (.const (.int .i64 0)), none⟩,
    ⟨(some 91), .mov (.tmp 90), none⟩,
    ⟨(some 92), .mov (.tmp 12), some (91, false)⟩,
    ⟨(some 93), .mov (.tmp 7), some (91, false)⟩,
    ⟨(some 94), .mov (.tmp 13), some (91, false)⟩,
    ⟨(some 95), .idx 1 none (.tmp 93) (.tmp 94), some (91, false)⟩,
    ⟨(some 96), .load none (.tmp 95), some (91, false)⟩,
    ⟨(some 97), .call (.const (.fn F.window_Window_Mark [] [])) [(.tmp 92), (.tmp 96)], some (91, false)⟩,
    ⟨(some 98), .bin .neq (.tmp 97) (.const (.int .i64 0)), some (91, false)⟩,
    ⟨(some 99), .pick (.tmp 91) (.const (.bool true)) (.tmp 98), none⟩,
    ⟨(some 100), .mov (.tmp 99), none⟩,
    ⟨(some 101), .mov (.tmp 12), some (100, false)⟩,
    ⟨(some 102), .mov (.tmp 7), some (100, false)⟩,
    ⟨(some 103), .mov (.tmp 13), some (100, false)⟩,
    ⟨(some 104), .idx 1 none (.tmp 102) (.tmp 103), some (100, false)⟩,
    ⟨(some 105), .load none (.tmp 104), some (100, false)⟩,
    ⟨(some 106), .call (.const (.fn F.window_Window_Mark [] [])) [(.tmp 101), (.tmp 105)], some (100, false)⟩,
    ⟨(some 107), .bin .neq (.tmp 106) (.const (.int .i64 14)), some (100, false)⟩,
    ⟨(some 108), .pick (.tmp 100) (.const (.bool true)) (.tmp 107), none⟩] [0, 1, 7, 12, 13, 108])
  (.cond (.tmp 108) (.seq (.region [⟨(some 6), .mov (.const (.bool false)), none⟩] [6])
  (.ret)) (.skip))))
  (.region [⟨(some 82), .mov (.tmp 13), none⟩,
    ⟨(some 83), .bin .add (.tmp 82) (.const (.int .i64 1)), none⟩,
    ⟨(some 13), .mov (.tmp 83), none⟩] [0, 1, 7, 12, 13]))
def cuneiformlaw11_WindowOrder.body : ACode := .seq (.region [⟨(some 6), .mov (.const (.bool false)), none⟩] [0, 1, 2])
  (.seq (.region [⟨(some 14), .mov (.tmp 1), none⟩,
    ⟨(some 15), .conv .u64 (.tmp 14), none⟩,
    ⟨(some 16), .bin .rem (.tmp 15) (.const (.int .u64 300)), none⟩,
    ⟨(some 17), .conv .i64 (.tmp 16), none⟩,
    ⟨(some 1), .mov (.tmp 17), none⟩] [0, 1, 2])
  (.seq (.region [⟨(some 7), .mov (.const .nils), none⟩] [0, 1, 2, 7])
  (.seq (.seq (.region [⟨(some 8), .mov (.const (.int .i64 0)), none⟩] [0, 1, 2, 7, 8])
  (.block 0 (.loop cuneiformlaw11_WindowOrder.b0)))
  (.seq (.seq (.region [⟨(some 9), .mov (.const (.int .i64 0)), none⟩] [0, 1, 2, 7, 9])
  (.block 2 (.loop cuneiformlaw11_WindowOrder.b2)))
  (.seq (.region [⟨(some 74), .mov (.tmp 0), none⟩,
    ⟨(some 75), .call (.const (.fn F.window_New [] [])) [(.tmp 74)], none⟩,
    ⟨(some 12), .mov (.tmp 75), none⟩] [0, 1, 7, 12])
  (.seq (.seq (.region [⟨(some 76), .mov (.tmp 12), none⟩,
    ⟨(some 77), .eq false .ptr (.tmp 76) (.const .nilp), none⟩] [0, 1, 7, 12, 77])
  (.cond (.tmp 77) (.seq (.region [⟨(some 6), .mov (.const (.bool false)), none⟩] [6])
  (.ret)) (.skip)))
  (.seq (.seq (.region [⟨(some 13), .mov (.const (.int .i64 0)), none⟩] [0, 1, 7, 12, 13])
  (.block 6 (.loop cuneiformlaw11_WindowOrder.b3)))
  (.seq (.seq (.region [⟨(some 109), .mov (.tmp 1), none⟩,
    ⟨(some 110), .bin .gtr (.tmp 109) (.const (.int .i64 0)), none⟩,
    ⟨(some 111), .mov (.tmp 110), none⟩,
    ⟨(some 112), .mov (.tmp 12), some (111, true)⟩,
    ⟨(some 113), .call (.const (.fn F.window_Window_Top [] [])) [(.tmp 112)], some (111, true)⟩,
    ⟨(some 114), .mov (.tmp 0), some (111, true)⟩,
    ⟨(some 115), .mov (.tmp 1), some (111, true)⟩,
    ⟨(some 116), .bin .sub (.tmp 115) (.const (.int .i64 1)), some (111, true)⟩,
    ⟨(some 117), .conv .u32 (.tmp 116), some (111, true)⟩,
    ⟨(some 118), .bin .add (.tmp 114) (.tmp 117), some (111, true)⟩,
    ⟨(some 119), .bin .neq (.tmp 113) (.tmp 118), some (111, true)⟩,
    ⟨(some 120), .mov (.tmp 119), some (111, true)⟩,
    ⟨(some 121), .mov (.tmp 12), some (120, false)⟩,
    ⟨(some 122), .call (.const (.fn F.window_Window_Missing [] [])) [(.tmp 121)], some (120, false)⟩,
    ⟨(some 123), .len .slice (.tmp 122), some (120, false)⟩,
    ⟨(some 124), .bin .neq (.tmp 123) (.const (.int .i64 0)), some (120, false)⟩,
    ⟨(some 125), .pick (.tmp 120) (.const (.bool true)) (.tmp 124), some (111, true)⟩,
    ⟨(some 126), .pick (.tmp 111) (.tmp 125) (.const (.bool false)), none⟩] [126])
  (.cond (.tmp 126) (.seq (.region [⟨(some 6), .mov (.const (.bool false)), none⟩] [6])
  (.ret)) (.skip)))
  (.seq (.region [⟨(some 127), .call (.const (.fn F.cuneiformlaw11_known [] [])) [], none⟩,
    ⟨(some 6), .mov (.tmp 127), none⟩] [6])
  (.ret))))))))))
def cuneiformlaw11_WindowOrder : AFun := ⟨128, 3, [.tmp 6], cuneiformlaw11_WindowOrder.body⟩
def cuneiformlaw11_WindowPlays.d0 : List AOper := [⟨(some 38), .load (some 65) (.tmp 8), none⟩,
    ⟨(some 39), .mov (.tmp 1), none⟩,
    ⟨(some 40), .mov (.tmp 9), none⟩,
    ⟨(some 41), .idx 1 none (.tmp 39) (.tmp 40), none⟩,
    ⟨(some 42), .load none (.tmp 41), none⟩,
    ⟨(some 43), .call (.const (.fn F.cuneiformref11_Mark [] [])) [(.tmp 38), (.tmp 42)], none⟩,
    ⟨(some 37), .mov (.tmp 43), none⟩,
    ⟨(some 44), .extract (.tmp 37) 0, none⟩,
    ⟨(some 45), .extract (.tmp 37) 1, none⟩,
    ⟨(some 11), .alloc T.cuneiformref11_W [(.int .u32 0), (.bool false), (.bool false), (.bool false), (.bool false), (.bool false), (.bool false), (.bool false), (.bool false), (.bool false), (.bool false), (.bool false), (.bool false), (.bool false), (.bool false), (.bool false), (.bool false), (.bool false), (.bool false), (.bool false), (.bool false), (.bool false), (.bool false), (.bool false), (.bool false), (.bool false), (.bool false), (.bool false), (.bool false), (.bool false), (.bool false), (.bool false), (.bool false), (.bool false), (.bool false), (.bool false), (.bool false), (.bool false), (.bool false), (.bool false), (.bool false), (.bool false), (.bool false), (.bool false), (.bool false), (.bool false), (.bool false), (.bool false), (.bool false), (.bool false), (.bool false), (.bool false), (.bool false), (.bool false), (.bool false), (.bool false), (.bool false), (.bool false), (.bool false), (.bool false), (.bool false), (.bool false), (.bool false), (.bool false), (.bool false)], none⟩,
    ⟨none, .store 65 (.tmp 11) (.tmp 44), none⟩,
    ⟨(some 12), .mov (.tmp 45), none⟩]
def cuneiformlaw11_WindowPlays.d0b : List (List Nat) := [[], [], [], [1, 2], [1, 2, 3], [0, 1, 2, 3, 4], [0, 1, 2, 3, 4, 5], [0, 1, 2, 3, 4, 5, 6], [0, 1, 2, 3, 4, 5, 6], [], [0, 1, 2, 3, 4, 5, 6, 7, 9], [0, 1, 2, 3, 4, 5, 6, 7, 8, 9, 10]]
def cuneiformlaw11_WindowPlays.d1 : List AOper := [⟨(some 46), .mov (.tmp 10), none⟩,
    ⟨(some 47), .eq false .ptr (.tmp 46) (.const .nilp), none⟩,
    ⟨(some 48), .mov (.tmp 47), none⟩,
    ⟨(some 49), .mov (.tmp 7), some (48, false)⟩,
    ⟨(some 50), .mov (.tmp 1), some (48, false)⟩,
    ⟨(some 51), .mov (.tmp 9), some (48, false)⟩,
    ⟨(some 52), .idx 1 none (.tmp 50) (.tmp 51), some (48, false)⟩,
    ⟨(some 53), .load none (.tmp 52), some (48, false)⟩,
    ⟨(some 54), .call (.const (.fn F.window_Window_Look [] [])) [(.tmp 49), (.tmp 53)], some (48, false)⟩,
    ⟨(some 55), .mov (.tmp 12), some (48, false)⟩,
    ⟨(some 56), .bin .neq (.tmp 54) (.tmp 55), some (48, false)⟩,
    ⟨(some 57), .pick (.tmp 48) (.const (.bool true)) (.tmp 56), none⟩,
    ⟨(some 58), .mov (.tmp 57), none⟩,
    ⟨(some 59), .mov (.tmp 7), some (58, false)⟩,
    ⟨(some 60), .mov (.tmp 1), some (58, false)⟩,
    ⟨(some 61), .mov (.tmp 9), some (58, false)⟩,
    ⟨(some 62), .idx 1 none (.tmp 60) (.tmp 61), some (58, false)⟩,
    ⟨(some 63), .load none (.tmp 62), some (58, false)⟩,
    ⟨(some 64), .call (.const (.fn F.window_Window_Mark [] [])) [(.tmp 59), (.tmp 63)], some (58, false)⟩,
    ⟨(some 65), .mov (.tmp 12), some (58, false)⟩,
    ⟨(some 66), .bin .neq (.tmp 64) (.tmp 65), some (58, false)⟩,
    ⟨(some 67), .pick (.tmp 58) (.const (.bool true)) (.tmp 66), none⟩,
    ⟨(some 68), .mov (.tmp 67), none⟩,
    ⟨(some 69), .mov (.tmp 10), some (68, false)⟩,
    ⟨(some 70), .load (some 65) (.tmp 8), some (68, false)⟩,
    ⟨(some 71), .call (.const (.fn F.cuneiformlaw11_Alike [] [])) [(.tmp 69), (.tmp 70)], some (68, false)⟩,
    ⟨(some 72), .un .not (.tmp 71), some (68, false)⟩,
    ⟨(some 73), .pick (.tmp 68) (.const (.bool true)) (.tmp 72), none⟩,
    ⟨(some 74), .mov (.tmp 73), none⟩,
    ⟨(some 75), .mov (.tmp 10), some (74, false)⟩,
    ⟨(some 76), .mov (.tmp 2), some (74, false)⟩,
    ⟨(some 77), .call (.const (.fn F.window_Window_Look [] [])) [(.tmp 75), (.tmp 76)], some (74, false)⟩,
    ⟨(some 78), .load (some 65) (.tmp 8), some (74, false)⟩,
    ⟨(some 79), .mov (.tmp 2), some (74, false)⟩,
    ⟨(some 80), .call (.const (.fn F.cuneiformref11_Look [] [])) [(.tmp 78), (.tmp 79)], some (74, false)⟩,
    ⟨(some 81), .bin .neq (.tmp 77) (.tmp 80), some (74, false)⟩,
    ⟨(some 82), .pick (.tmp 74) (.const (.bool true)) (.tmp 81), none⟩]
def cuneiformlaw11_WindowPlays.d1b : List (List Nat) := [[], [0], [0, 1], [0, 1, 2], [0, 1, 2], [0, 1, 2], [0, 1, 2, 4, 5], [0, 1, 2, 4, 5, 6], [0, 1, 2, 3, 4, 5, 6, 7], [0, 1, 2], [0, 1, 2, 3, 4, 5, 6, 7, 8, 9], [0, 1, 2, 3, 4, 5, 6, 7, 8, 9, 10], [0, 1, 2, 3, 4, 5, 6, 7, 8, 9, 10, 11], [0, 1, 2, 3, 4, 5, 6, 7, 8, 9, 10, 11, 12], [0, 1, 2, 3, 4, 5, 6, 7, 8, 9, 10, 11, 12], [0, 1, 2, 3, 4, 5, 6, 7, 8, 9, 10, 11, 12], [0, 1, 2, 3, 4, 5, 6, 7, 8, 9, 10, 11, 12, 14, 15], [0, 1, 2, 3, 4, 5, 6, 7, 8, 9, 10, 11, 12, 14, 15, 16], [0, 1, 2, 3, 4, 5, 6, 7, 8, 9, 10, 11, 12, 13, 14, 15, 16, 17], [0, 1, 2, 3, 4, 5, 6, 7, 8, 9, 10, 11, 12], [0, 1, 2, 3, 4, 5, 6, 7, 8, 9, 10, 11, 12, 13, 14, 15, 16, 17, 18, 19], [0, 1, 2, 3, 4, 5, 6, 7, 8, 9, 10, 11, 12, 13, 14, 15, 16, 17, 18, 19, 20], [0, 1, 2, 3, 4, 5, 6, 7, 8, 9, 10, 11, 12, 13, 14, 15, 16, 17, 18, 19, 20, 21], [0, 1, 2, 3, 4, 5, 6, 7, 8, 9, 10, 11, 12, 13, 14, 15, 16, 17, 18, 19, 20, 21, 22], [0, 1, 2, 3, 4, 5, 6, 7, 8, 9, 10, 11, 12, 13, 14, 15, 16, 17, 18, 19, 20, 21, 22], [0, 1, 2, 3, 4, 5, 6, 7, 8, 9, 10, 11, 12, 13, 14, 15, 16, 17, 18, 19, 20, 21, 22, 23, 24], [0, 1, 2, 3, 4, 5, 6, 7, 8, 9, 10, 11, 12, 13, 14, 15, 16, 17, 18, 19, 20, 21, 22, 23, 24, 25], [0, 1, 2, 3, 4, 5, 6, 7, 8, 9, 10, 11, 12, 13, 14, 15, 16, 17, 18, 19, 20, 21, 22, 23, 24, 25, 26], [0, 1, 2, 3, 4, 5, 6, 7, 8, 9, 10, 11, 12, 13, 14, 15, 16, 17, 18, 19, 20, 21, 22, 23, 24, 25, 26, 27], [0, 1, 2, 3, 4, 5, 6, 7, 8, 9, 10, 11, 12, 13, 14, 15, 16, 17, 18, 19, 20, 21, 22, 23, 24, 25, 26, 27, 28], [0, 1, 2, 3, 4, 5, 6, 7, 8, 9, 10, 11, 12, 13, 14, 15, 16, 17, 18, 19, 20, 21, 22, 23, 24, 25, 26, 27, 28], [0, 1, 2, 3, 4, 5, 6, 7, 8, 9, 10, 11, 12, 13, 14, 15, 16, 17, 18, 19, 20, 21, 22, 23, 24, 25, 26, 27, 28, 29, 30], [0, 1, 2, 3, 4, 5, 6, 7, 8, 9, 10, 11, 12, 13, 14, 15, 16, 17, 18, 19, 20, 21, 22, 23, 24, 25, 26, 27, 28], [0, 1, 2, 3, 4, 5, 6, 7, 8, 9, 10, 11, 12, 13, 14, 15, 16, 17, 18, 19, 20, 21, 22, 23, 24, 25, 26, 27, 28], [0, 1, 2, 3, 4, 5, 6, 7, 8, 9, 10, 11, 12, 13, 14, 15, 16, 17, 18, 19, 20, 21, 22, 23, 24, 25, 26, 27, 28, 29, 30, 31, 32, 33], [0, 1, 2, 3, 4, 5, 6, 7, 8, 9, 10, 11, 12, 13, 14, 15, 16, 17, 18, 19, 20, 21, 22, 23, 24, 25, 26, 27, 28, 29, 30, 31, 32, 33, 34], [0, 1, 2, 3, 4, 5, 6, 7, 8, 9, 10, 11, 12, 13, 14, 15, 16, 17, 18, 19, 20, 21, 22, 23, 24, 25, 26, 27, 28, 29, 30, 31, 32, 33, 34, 35]]
def cuneiformlaw11_WindowPlays.b2 : ACode := .seq (.seq (.region [⟨(some 25), .mov (.tmp 9), none⟩,
    ⟨(some 26), .mov (.tmp 1), none⟩,
    ⟨(some 27), .len .slice (.tmp 26), none⟩,
    ⟨(some 28), .bin .lss (.tmp 25) (.tmp 27), none⟩,
    ⟨(some 29), .mov (.tmp 28), none⟩,
    ⟨(some 30), .mov (.tmp 9), some (29, true)⟩,
    ⟨(some 31), .bin .lss (.tmp 30) (.const (.int .i64 100)), some (29, true)⟩,
    ⟨(some 32), .pick (.tmp 29) (.tmp 31) (.const (.bool false)), none⟩] [1, 2, 7, 8, 9, 32])
  (.cond (.tmp 32) (.skip) (.exit 0)))
  (.seq (.block 1 (.seq (.region [⟨(some 35), .mov (.tmp 7), none⟩,
    ⟨(some 36), .call (.const (.fn F.window_Window_Copy [] [])) [(.tmp 35)], none⟩,
    ⟨(some 10), .mov (.tmp 36), none⟩] [1, 2, 7, 8, 9, 10])
  (.seq (.draw cuneiformlaw11_WindowPlays.d0 cuneiformlaw11_WindowPlays.d0b [[0, 1, 2, 3, 4, 5, 6, 7, 8, 9, 10, 11], [0, 1, 2, 3, 4, 9, 5, 6, 7, 8, 10, 11]] [(9, 0), (9, 3), (9, 4)] [1, 2, 7, 8, 9, 10, 11, 12])
  (.seq (.seq (.draw cuneiformlaw11_WindowPlays.d1 cuneiformlaw11_WindowPlays.d1b [[0, 1, 2, 3, 4, 5, 6, 7, 9, 8, 10, 11, 12, 13, 14, 15, 16, 17, 19, 18, 20, 21, 22, 23, 24, 25, 26, 27, 28, 29, 30, 32, 33, 31, 34, 35, 36]] [(31, 32)] [1, 2, 7, 8, 9, 11, 82])
  (.cond (.tmp 82) (.seq (.region [⟨(some 6), .mov (.const (.bool false)), none⟩] [6])
  (.ret)) (.skip)))
  (.seq (.region [⟨(some 83), .load (some 65) (.tmp 11), none⟩,
    ⟨none, .store 65 (.tmp 8) (.tmp 83), none⟩] [1, 2, 7, 8, 9])
  (.seq (.region [⟨(some 84), .mov (.tmp 7), none⟩,
    ⟨(some 85), .load (some 65) (.tmp 8), none⟩,
    ⟨(some 86), .call (.const (.fn F.cuneiformlaw11_Alike [] [])) [(.tmp 84), (.tmp 85)], none⟩,
    ⟨(some 87), .un .not (.tmp 86), none⟩] [1, 2, 7, 8, 9, 87])
  (.cond (.tmp 87) (.seq (.region [⟨(some 6), .mov (.const (.bool false)), none⟩] [6])
  (.ret)) (.skip))))))))
  (.region [⟨(some 33), .mov (.tmp 9), none⟩,
    ⟨(some 34), .bin .add (.tmp 33) (.const (.int .i64 1)), none⟩,
    ⟨(some 9), .mov (.tmp 34), none⟩] [1, 2, 7, 8, 9]))
def cuneiformlaw11_WindowPlays.body : ACode := .seq (.region [⟨(some 6), .mov (.const (.bool false)), none⟩] [0, 1, 2])
  (.seq (.region [⟨(some 13), .mov (.tmp 0), none⟩,
    ⟨(some 14), .call (.const (.fn F.window_New [] [])) [(.tmp 13)], none⟩,
    ⟨(some 15), .mov (.tmp 0), none⟩,
    ⟨(some 16), .call (.const (.fn F.cuneiformref11_New [] [])) [(.tmp 15)], none⟩,
    ⟨(some 8), .alloc T.cuneiformref11_W [(.int .u32 0), (.bool false), (.bool false), (.bool false), (.bool false), (.bool false), (.bool false), (.bool false), (.bool false), (.bool false), (.bool false), (.bool false), (.bool false), (.bool false), (.bool false), (.bool false), (.bool false), (.bool false), (.bool false), (.bool false), (.bool false), (.bool false), (.bool false), (.bool false), (.bool false), (.bool false), (.bool false), (.bool false), (.bool false), (.bool false), (.bool false), (.bool false), (.bool false), (.bool false), (.bool false), (.bool false), (.bool false), (.bool false), (.bool false), (.bool false), (.bool false), (.bool false), (.bool false), (.bool false), (.bool false), (.bool false), (.bool false), (.bool false), (.bool false), (.bool false), (.bool false), (.bool false), (.bool false), (.bool false), (.bool false), (.bool false), (.bool false), (.bool false), (.bool false), (.bool false), (.bool false), (.bool false), (.bool false), (.bool false), (.bool false)], none⟩,
    ⟨(some 7), .mov (.tmp 14), none⟩,
    ⟨none, .store 65 (.tmp 8) (.tmp 16), none⟩] [1, 2, 7, 8])
  (.seq (.seq (.region [⟨(some 17), .mov (.tmp 7), none⟩,
    ⟨(some 18), .eq false .ptr (.tmp 17) (.const .nilp), none⟩,
    ⟨(some 19), .mov (.tmp 18), none⟩,
    ⟨(some 20), .mov (.tmp 7), some (19, false)⟩,
    ⟨(some 21), .load (some 65) (.tmp 8), some (19, false)⟩,
    ⟨(some 22), .call (.const (.fn F.cuneiformlaw11_Alike [] [])) [(.tmp 20), (.tmp 21)], some (19, false)⟩,
    ⟨(some 23), .un .not (.tmp 22), some (19, false)⟩,
    ⟨(some 24), .pick (.tmp 19) (.const (.bool true)) (.tmp 23), none⟩] [1, 2, 7, 8, 24])
  (.cond (.tmp 24) (.seq (.region [⟨(some 6), .mov (.const (.bool false)), none⟩] [6])
  (.ret)) (.skip)))
  (.seq (.seq (.region [⟨(some 9), .mov (.const (.int .i64 0)), none⟩] [1, 2, 7, 8, 9])
  (.block 0 (.loop cuneiformlaw11_WindowPlays.b2)))
  (.seq (.region [⟨(some 88), .call (.const (.fn F.cuneiformlaw11_known [] [])) [], none⟩,
    ⟨(some 6), .mov (.tmp 88), none⟩] [6])
  (.ret)))))
def cuneiformlaw11_WindowPlays : AFun := ⟨89, 3, [.tmp 6], cuneiformlaw11_WindowPlays.body⟩
def cuneiformlaw11_WindowNil.a0 : ACode := .skip
def cuneiformlaw11_WindowNil.b0 : ACode := .block 1 (.region [⟨(some 12), .load none (.tmp 4), none⟩,
    ⟨(some 13), .bin .add (.tmp 12) (.const (.int .i64 1)), none⟩,
    ⟨none, .store 1 (.tmp 4) (.tmp 13), none⟩] [])
def cuneiformlaw11_WindowNil.body : ACode := .seq (.region [⟨(some 2), .mov (.const (.bool false)), none⟩] [0, 2])
  (.seq (.region [⟨(some 3), .mov (.const .nilp), none⟩] [0, 2, 3])
  (.seq (.region [⟨(some 4), .alloc T.int [(.int .i64 0)], none⟩,
    ⟨none, .store 1 (.tmp 4) (.const (.int .i64 0)), none⟩] [0, 2, 3, 4])
  (.seq (.region [⟨(some 6), .mov (.tmp 3), none⟩,
    ⟨(some 7), .call (.const (.fn F.window_Window_Come [] [])) [(.tmp 6)], none⟩,
    ⟨(some 5), .mov (.tmp 7), none⟩] [0, 2, 3, 4, 5])
  (.seq (.seq (.region [⟨(some 8), .mov (.tmp 5), none⟩,
    ⟨(some 9), .eq false .func (.tmp 8) (.const .nilf), none⟩] [0, 2, 3, 4, 5, 9])
  (.cond (.tmp 9) (.seq (.region [⟨(some 2), .mov (.const (.bool false)), none⟩] [2])
  (.ret)) (.skip)))
  (.seq (.seq (.region [⟨(some 10), .mov (.tmp 5), none⟩] [0, 2, 3, 4, 10])
  (.block 0 (.range (.tmp 10) [11] cuneiformlaw11_WindowNil.a0 cuneiformlaw11_WindowNil.b0)))
  (.seq (.region [⟨(some 14), .call (.const (.fn F.cuneiformlaw11_known [] [])) [], none⟩,
    ⟨(some 15), .mov (.tmp 14), none⟩,
    ⟨(some 16), .mov (.tmp 3), some (15, true)⟩,
    ⟨(some 17), .mov (.tmp 0), some (15, true)⟩,
    ⟨(some 18), .call (.const (.fn F.window_Window_Look [] [])) [(.tmp 16), (.tmp 17)], some (15, true)⟩,
    ⟨(some 19), .bin .eql (.tmp 18) (.const (.int .i64 1)), some (15, true)⟩,
    ⟨(some 20), .pick (.tmp 15) (.tmp 19) (.const (.bool false)), none⟩,
    ⟨(some 21), .mov (.tmp 20), none⟩,
    ⟨(some 22), .mov (.tmp 3), some (21, true)⟩,
    ⟨(some 23), .mov (.tmp 0), some (21, true)⟩,
    ⟨(some 24), .call (.const (.fn F.window_Window_Mark [] [])) [(.tmp 22), (.tmp 23)], some (21, true)⟩,
    ⟨(some 25), .bin .eql (.tmp 24) (.const (.int .i64 1)), some (21, true)⟩,
    ⟨(some 26), .pick (.tmp 21) (.tmp 25) (.const (.bool false)), none⟩,
    ⟨(some 27), .mov (.tmp 26), none⟩,
    ⟨(some 28), .mov (.tmp 3), some (27, true)⟩,
    ⟨(some 29), .call (.const (.fn F.window_Window_Top [] [])) [(.tmp 28)], some (27, true)⟩,
    ⟨(some 30), .bin .eql (.tmp 29) (.const (.int .u32 0)), some (27, true)⟩,
    ⟨(some 31), .pick (.tmp 27) (.tmp 30) (.const (.bool false)), none⟩,
    ⟨(some 32), .mov (.tmp 31), none⟩,
    ⟨(some 33), .mov (.tmp 3), some (32, true)⟩,
    ⟨(some 34), .call (.const (.fn F.window_Window_Bits [] [])) [(.tmp 33)], some (32, true)⟩,
    ⟨(some 35), .bin .eql (.tmp 34) (.const (.int .u64 0)), some (32, true)⟩,
    ⟨(some 36), .pick (.tmp 32) (.tmp 35) (.const (.bool false)), none⟩,
    ⟨(some 37), .mov (.tmp 36), none⟩,
    ⟨(some 38), .load none (.tmp 4), some (37, true)⟩,
    ⟨(some 39), .bin .eql (.tmp 38) (.const (.int .i64 0)), some (37, true)⟩,
    ⟨(some 40), .pick (.tmp 37) (.tmp 39) (.const (.bool false)), none⟩,
    ⟨(some 41), .mov (.tmp 40), none⟩,
    ⟨(some 42), .mov (.tmp 3), some (41, true)⟩,
    ⟨(some 43), .call (.const (.fn F.window_Window_Missing [] [])) [(.tmp 42)], some (41, true)⟩,
    ⟨(some 44), .len .slice (.tmp 43), some (41, true)⟩,
    ⟨(some 45), .bin .eql (.tmp 44) (.const (.int .i64 0)), some (41, true)⟩,
    ⟨(some 46), .pick (.tmp 41) (.tmp 45) (.const (.bool false)), none⟩,
    ⟨(some 47), .mov (.tmp 46), none⟩,
    ⟨(some 48), .mov (.tmp 3), some (47, true)⟩,
    ⟨(some 49), .call (.const (.fn F.window_Window_Copy [] [])) [(.tmp 48)], some (47, true)⟩,
    ⟨(some 50), .eq false .ptr (.tmp 49) (.const .nilp), some (47, true)⟩,
    ⟨(some 51), .pick (.tmp 47) (.tmp 50) (.const (.bool false)), none⟩,
    ⟨(some 2), .mov (.tmp 51), none⟩] [2])
  (.ret)))))))
def cuneiformlaw11_WindowNil : AFun := ⟨52, 1, [.tmp 2], cuneiformlaw11_WindowNil.body⟩
def window_New.body : ACode := .seq (.region [⟨(some 2), .mov (.const .nilp), none⟩] [0])
  (.seq (.region [⟨(some 3), .mov (.tmp 0), none⟩,
    ⟨(some 4), .call (.const (.fn F.serial_Add [] [])) [(.tmp 3), (.const (.int .i64 (-1)))], none⟩,
    ⟨(some 5), .build [(.int .u32 0), (.int .u64 0)] [(0, 1, (.tmp 4)), (1, 1, (.const (.int .u64 18446744073709551615)))], none⟩,
    ⟨(some 6), .build [(.int .u32 0), (.int .u64 0)] [(0, 2, (.tmp 5))], none⟩,
    ⟨(some 7), .box T.window_Window (.tmp 6), none⟩,
    ⟨(some 2), .mov (.tmp 7), none⟩] [2])
  (.ret))
def window_New : AFun := ⟨8, 1, [.tmp 2], window_New.body⟩
def window_Window_Top.body : ACode := .seq (.region [⟨(some 2), .mov (.const (.int .u32 0)), none⟩] [0])
  (.seq (.seq (.region [⟨(some 3), .mov (.tmp 0), none⟩,
    ⟨(some 4), .eq false .ptr (.tmp 3) (.const .nilp), none⟩] [0, 4])
  (.cond (.tmp 4) (.seq (.region [⟨(some 2), .mov (.const (.int .u32 0)), none⟩] [2])
  (.ret)) (.skip)))
  (.seq (.region [⟨(some 5), .mov (.tmp 0), none⟩,
    ⟨(some 6), .nilc (.tmp 5), none⟩,
    ⟨(some 7), .field 0 (.tmp 6), none⟩,
    ⟨(some 8), .field 0 (.tmp 7), none⟩,
    ⟨(some 9), .load none (.tmp 8), none⟩,
    ⟨(some 2), .mov (.tmp 9), none⟩] [2])
  (.ret)))
def window_Window_Top : AFun := ⟨10, 1, [.tmp 2], window_Window_Top.body⟩
def window_Window_Bits.body : ACode := .seq (.region [⟨(some 2), .mov (.const (.int .u64 0)), none⟩] [0])
  (.seq (.seq (.region [⟨(some 3), .mov (.tmp 0), none⟩,
    ⟨(some 4), .eq false .ptr (.tmp 3) (.const .nilp), none⟩] [0, 4])
  (.cond (.tmp 4) (.seq (.region [⟨(some 2), .mov (.const (.int .u64 0)), none⟩] [2])
  (.ret)) (.skip)))
  (.seq (.region [⟨(some 5), .mov (.tmp 0), none⟩,
    ⟨(some 6), .nilc (.tmp 5), none⟩,
    ⟨(some 7), .field 0 (.tmp 6), none⟩,
    ⟨(some 8), .field 1 (.tmp 7), none⟩,
    ⟨(some 9), .load none (.tmp 8), none⟩,
    ⟨(some 2), .mov (.tmp 9), none⟩] [2])
  (.ret)))
def window_Window_Bits : AFun := ⟨10, 1, [.tmp 2], window_Window_Bits.body⟩
def window_Window_Mark.d0 : List AOper := [⟨(some 21), .mov (.tmp 1), none⟩,
    ⟨(some 22), .field 1 (.tmp 6), none⟩,
    ⟨(some 23), .load none (.tmp 22), none⟩,
    ⟨(some 24), .field 0 (.tmp 6), none⟩,
    ⟨(some 25), .load none (.tmp 24), none⟩,
    ⟨(some 26), .mov (.tmp 1), none⟩,
    ⟨(some 27), .call (.const (.fn F.serial_Way [] [])) [(.tmp 25), (.tmp 26)], none⟩,
    ⟨(some 28), .bin .shl (.tmp 23) (.tmp 27), none⟩,
    ⟨(some 29), .build [(.int .u32 0), (.int .u64 0)] [(0, 1, (.tmp 21)), (1, 1, (.tmp 28))], none⟩,
    ⟨none, .store 2 (.tmp 6) (.tmp 29), none⟩]
def window_Window_Mark.d0b : List (List Nat) := [[], [], [1], [], [3], [], [3, 4, 5], [1, 2, 3, 4, 5, 6], [0, 1, 2, 3, 4, 5, 6, 7], [0, 1, 2, 3, 4, 5, 6, 7, 8]]
def window_Window_Mark.d1 : List AOper := [⟨(some 30), .field 1 (.tmp 6), none⟩,
    ⟨(some 31), .load none (.tmp 30), none⟩,
    ⟨(some 32), .load (some 2) (.tmp 6), none⟩,
    ⟨(some 33), .mov (.tmp 1), none⟩,
    ⟨(some 34), .call (.const (.fn F.window_state_bit [] [])) [(.tmp 32), (.tmp 33)], none⟩,
    ⟨(some 35), .bin .or (.tmp 31) (.tmp 34), none⟩,
    ⟨(some 36), .field 1 (.tmp 6), none⟩,
    ⟨none, .store 1 (.tmp 36) (.tmp 35), none⟩]
def window_Window_Mark.d1b : List (List Nat) := [[], [0], [], [], [2, 3], [0, 1, 2, 3, 4], [0, 1, 2, 3, 4, 5], [0, 1, 2, 3, 4, 5, 6]]
def window_Window_Mark.d2 : List AOper := [⟨(some 37), .load (some 2) (.tmp 6), none⟩,
    ⟨(some 38), .mov (.tmp 0), none⟩,
    ⟨(some 39), .nilc (.tmp 38), none⟩,
    ⟨(some 40), .field 0 (.tmp 39), none⟩,
    ⟨(some 41), .load (some 2) (.tmp 40), none⟩,
    ⟨(some 42), .eq true (.cells [.int, .int]) (.tmp 37) (.tmp 41), none⟩]
def window_Window_Mark.d2b : List (List Nat) := [[], [], [1], [1, 2], [1, 2, 3], [0, 1, 2, 3, 4]]
def window_Window_Mark.body : ACode := .seq (.region [⟨(some 4), .mov (.const (.int .i64 0)), none⟩] [0, 1])
  (.seq (.seq (.region [⟨(some 7), .mov (.tmp 0), none⟩,
    ⟨(some 8), .mov (.tmp 1), none⟩,
    ⟨(some 9), .call (.const (.fn F.window_Window_Look [] [])) [(.tmp 7), (.tmp 8)], none⟩,
    ⟨(some 5), .mov (.tmp 9), none⟩] [0, 1, 5])
  (.seq (.region [⟨(some 10), .mov (.tmp 5), none⟩,
    ⟨(some 11), .bin .neq (.tmp 10) (.const (.int .i64 0)), none⟩] [0, 1, 5, 11])
  (.cond (.tmp 11) (.seq (.region [⟨(some 12), .mov (.tmp 5), none⟩,
    ⟨(some 4), .mov (.tmp 12), none⟩] [4])
  (.ret)) (.skip))))
  (.seq (.region [⟨(some 13), .mov (.tmp 0), none⟩,
    ⟨(some 14), .nilc (.tmp 13), none⟩,
    ⟨(some 15), .field 0 (.tmp 14), none⟩,
    ⟨(some 16), .load (some 2) (.tmp 15), none⟩,
    ⟨(some 6), .alloc T.window_state [(.int .u32 0), (.int .u64 0)], none⟩,
    ⟨none, .store 2 (.tmp 6) (.tmp 16), none⟩] [0, 1, 6])
  (.seq (.seq (.region [⟨(some 17), .mov (.tmp 1), none⟩,
    ⟨(some 18), .field 0 (.tmp 6), none⟩,
    ⟨(some 19), .load none (.tmp 18), none⟩,
    ⟨(some 20), .call (.const (.fn F.serial_After [] [])) [(.tmp 17), (.tmp 19)], none⟩] [0, 1, 6, 20])
  (.cond (.tmp 20) (.draw window_Window_Mark.d0 window_Window_Mark.d0b [[0, 1, 2, 3, 4, 5, 6, 7, 8, 9]] [(6, 2)] [0, 1, 6]) (.skip)))
  (.seq (.draw window_Window_Mark.d1 window_Window_Mark.d1b [[0, 1, 2, 3, 4, 5, 6, 7]] [(4, 1)] [0, 6])
  (.seq (.seq (.draw window_Window_Mark.d2 window_Window_Mark.d2b [[0, 1, 2, 3, 4, 5]] [] [0, 6, 42])
  (.cond (.tmp 42) (.region [⟨(some 43), .mov (.tmp 0), none⟩,
    ⟨(some 44), .load (some 2) (.tmp 6), none⟩,
    ⟨(some 45), .nilc (.tmp 43), none⟩,
    ⟨(some 46), .field 0 (.tmp 45), none⟩,
    ⟨none, .store 2 (.tmp 46) (.tmp 44), none⟩] []) (.skip)))
  (.seq (.region [⟨(some 4), .mov (.const (.int .i64 0)), none⟩] [4])
  (.ret)))))))
def window_Window_Mark : AFun := ⟨47, 2, [.tmp 4], window_Window_Mark.body⟩
def window_Window_Look.d0 : List AOper := [⟨(some 25), .mov (.tmp 0), none⟩,
    ⟨(some 26), .nilc (.tmp 25), none⟩,
    ⟨(some 27), .field 0 (.tmp 26), none⟩,
    ⟨(some 28), .field 1 (.tmp 27), none⟩,
    ⟨(some 29), .load none (.tmp 28), none⟩,
    ⟨(some 30), .mov (.tmp 0), none⟩,
    ⟨(some 31), .nilc (.tmp 30), none⟩,
    ⟨(some 32), .field 0 (.tmp 31), none⟩,
    ⟨(some 33), .load (some 2) (.tmp 32), none⟩,
    ⟨(some 34), .mov (.tmp 1), none⟩,
    ⟨(some 35), .call (.const (.fn F.window_state_bit [] [])) [(.tmp 33), (.tmp 34)], none⟩,
    ⟨(some 36), .bin .and (.tmp 29) (.tmp 35), none⟩,
    ⟨(some 37), .bin .neq (.tmp 36) (.const (.int .u64 0)), none⟩,
    ⟨(some 24), .mov (.tmp 37), none⟩]
def window_Window_Look.d0b : List (List Nat) := [[], [0], [0, 1], [0, 1, 2], [0, 1, 2, 3], [], [5], [5, 6], [5, 6, 7], [], [5, 6, 7, 8, 9], [0, 1, 2, 3, 4, 5, 6, 7, 8, 9, 10], [0, 1, 2, 3, 4, 5, 6, 7, 8, 9, 10, 11], [0, 1, 2, 3, 4, 5, 6, 7, 8, 9, 10, 11, 12]]
def window_Window_Look.body : ACode := .seq (.region [⟨(some 4), .mov (.const (.int .i64 0)), none⟩] [0, 1])
  (.seq (.block 0 (.seq (.region [⟨(some 6), .mov (.tmp 0), none⟩,
    ⟨(some 7), .eq false .ptr (.tmp 6) (.const .nilp), none⟩,
    ⟨(some 5), .mov (.tmp 7), none⟩] [0, 1, 5])
  (.cond (.tmp 5) (.seq (.region [⟨(some 4), .mov (.const (.int .i64 1)), none⟩] [4])
  (.ret)) (.seq (.region [⟨(some 9), .mov (.tmp 1), none⟩,
    ⟨(some 10), .mov (.tmp 0), none⟩,
    ⟨(some 11), .nilc (.tmp 10), none⟩,
    ⟨(some 12), .field 0 (.tmp 11), none⟩,
    ⟨(some 13), .field 0 (.tmp 12), none⟩,
    ⟨(some 14), .load none (.tmp 13), none⟩,
    ⟨(some 15), .call (.const (.fn F.serial_After [] [])) [(.tmp 9), (.tmp 14)], none⟩,
    ⟨(some 8), .mov (.tmp 15), none⟩] [0, 1, 8])
  (.cond (.tmp 8) (.seq (.region [⟨(some 4), .mov (.const (.int .i64 0)), none⟩] [4])
  (.ret)) (.seq (.region [⟨(some 17), .mov (.tmp 0), none⟩,
    ⟨(some 18), .nilc (.tmp 17), none⟩,
    ⟨(some 19), .field 0 (.tmp 18), none⟩,
    ⟨(some 20), .load (some 2) (.tmp 19), none⟩,
    ⟨(some 21), .mov (.tmp 1), none⟩,
    ⟨(some 22), .call (.const (.fn F.window_state_bit [] [])) [(.tmp 20), (.tmp 21)], none⟩,
    ⟨(some 23), .bin .eql (.tmp 22) (.const (.int .u64 0)), none⟩,
    ⟨(some 16), .mov (.tmp 23), none⟩] [0, 1, 16])
  (.cond (.tmp 16) (.seq (.region [⟨(some 4), .mov (.const (.int .i64 15)), none⟩] [4])
  (.ret)) (.seq (.draw window_Window_Look.d0 window_Window_Look.d0b [[0, 1, 2, 3, 4, 5, 6, 7, 8, 9, 10, 11, 12, 13]] [(10, 4)] [24])
  (.cond (.tmp 24) (.seq (.region [⟨(some 4), .mov (.const (.int .i64 14)), none⟩] [4])
  (.ret)) (.skip))))))))))
  (.seq (.region [⟨(some 4), .mov (.const (.int .i64 0)), none⟩] [4])
  (.ret)))
def window_Window_Look : AFun := ⟨38, 2, [.tmp 4], window_Window_Look.body⟩
def cuneiformlaw11_known.body : ACode := .seq (.region [⟨(some 0), .mov (.const (.bool false)), none⟩] [])
  (.seq (.region [⟨(some 2), .call (.const (.fn F.window_New [] [])) [(.const (.int .u32 5))], none⟩,
    ⟨(some 1), .mov (.tmp 2), none⟩] [1])
  (.seq (.seq (.region [⟨(some 3), .mov (.tmp 1), none⟩,
    ⟨(some 4), .eq false .ptr (.tmp 3) (.const .nilp), none⟩,
    ⟨(some 5), .mov (.tmp 4), none⟩,
    ⟨(some 6), .mov (.tmp 1), some (5, false)⟩,
    ⟨(some 7), .call (.const (.fn F.window_Window_Look [] [])) [(.tmp 6), (.const (.int .u32 4))], some (5, false)⟩,
    ⟨(some 8), .bin .neq (.tmp 7) (.const (.int .i64 14)), some (5, false)⟩,
    ⟨(some 9), .pick (.tmp 5) (.const (.bool true)) (.tmp 8), none⟩,
    ⟨(some 10), .mov (.tmp 9), none⟩,
    ⟨(some 11), .mov (.tmp 1), some (10, false)⟩,
    ⟨(some 12), .call (.const (.fn F.window_Window_Mark [] [])) [(.tmp 11), (.const (.int .u32 7))], some (10, false)⟩,
    ⟨(some 13), .bin .neq (.tmp 12) (.const (.int .i64 0)), some (10, false)⟩,
    ⟨(some 14), .pick (.tmp 10) (.const (.bool true)) (.tmp 13), none⟩,
    ⟨(some 15), .mov (.tmp 14), none⟩,
    ⟨(some 16), .mov (.tmp 1), some (15, false)⟩,
    ⟨(some 17), .call (.const (.fn F.window_Window_Look [] [])) [(.tmp 16), (.const (.int .u32 5))], some (15, false)⟩,
    ⟨(some 18), .bin .neq (.tmp 17) (.const (.int .i64 0)), some (15, false)⟩,
    ⟨(some 19), .pick (.tmp 15) (.const (.bool true)) (.tmp 18), none⟩,
    ⟨(some 20), .mov (.tmp 19), none⟩,
    ⟨(some 21), .mov (.tmp 1), some (20, false)⟩,
    ⟨(some 22), .call (.const (.fn F.window_Window_Look [] [])) [(.tmp 21), (.const (.int .u32 7))], some (20, false)⟩,
    ⟨(some 23), .bin .neq (.tmp 22) (.const (.int .i64 14)), some (20, false)⟩,
    ⟨(some 24), .pick (.tmp 20) (.const (.bool true)) (.tmp 23), none⟩,
    ⟨(some 25), .mov (.tmp 24), none⟩,
    ⟨(some 26), .mov (.tmp 1), some (25, false)⟩,
    ⟨(some 27), .call (.const (.fn F.window_Window_Mark [] [])) [(.tmp 26), (.const (.int .u32 100))], some (25, false)⟩,
    ⟨(some 28), .bin .neq (.tmp 27) (.const (.int .i64 0)), some (25, false)⟩,
    ⟨(some 29), .pick (.tmp 25) (.const (.bool true)) (.tmp 28), none⟩] [1, 29])
  (.cond (.tmp 29) (.seq (.region [⟨(some 0), .mov (.const (.bool false)), none⟩] [0])
  (.ret)) (.skip)))
  (.seq (.region [⟨(some 30), .mov (.tmp 1), none⟩,
    ⟨(some 31), .call (.const (.fn F.window_Window_Look [] [])) [(.tmp 30), (.const (.int .u32 5))], none⟩,
    ⟨(some 32), .bin .eql (.tmp 31) (.const (.int .i64 15)), none⟩,
    ⟨(some 33), .mov (.tmp 32), none⟩,
    ⟨(some 34), .mov (.tmp 1), some (33, true)⟩,
    ⟨(some 35), .call (.const (.fn F.window_Window_Top [] [])) [(.tmp 34)], some (33, true)⟩,
    ⟨(some 36), .bin .eql (.tmp 35) (.const (.int .u32 100)), some (33, true)⟩,
    ⟨(some 37), .pick (.tmp 33) (.tmp 36) (.const (.bool false)), none⟩,
    ⟨(some 0), .mov (.tmp 37), none⟩] [0])
  (.ret))))
def cuneiformlaw11_known : AFun := ⟨38, 0, [.tmp 0], cuneiformlaw11_known.body⟩
def window_Window_Missing.a0 : ACode := .seq (.region [⟨(some 4), .mov (.tmp 8), none⟩] [3, 4, 9])
  (.region [⟨(some 5), .mov (.tmp 9), none⟩] [3, 4, 5])
def window_Window_Missing.b0 : ACode := .block 1 (.seq (.region [⟨(some 10), .mov (.tmp 5), none⟩,
    ⟨(some 11), .un .not (.tmp 10), none⟩] [3, 4, 11])
  (.cond (.tmp 11) (.region [⟨(some 12), .load none (.tmp 3), none⟩,
    ⟨(some 13), .mov (.tmp 4), none⟩,
    ⟨(some 14), .lit T.uint32 1 1 [(.int .u32 0)] [(0, 1, (.tmp 13))], none⟩,
    ⟨(some 15), .append T.uint32 1 4 (.tmp 12) (.tmp 14), none⟩,
    ⟨none, .store 1 (.tmp 3) (.tmp 15), none⟩] []) (.skip)))
def window_Window_Missing.body : ACode := .seq (.region [⟨(some 2), .mov (.const .nils), none⟩] [0, 2])
  (.seq (.region [⟨(some 3), .alloc T.sl_uint32 [.nils], none⟩] [0, 2, 3])
  (.seq (.seq (.region [⟨(some 6), .mov (.tmp 0), none⟩,
    ⟨(some 7), .call (.const (.fn F.window_Window_all [] [])) [(.tmp 6)], none⟩] [2, 3, 7])
  (.block 0 (.range (.tmp 7) [8, 9] window_Window_Missing.a0 window_Window_Missing.b0)))
  (.seq (.region [⟨(some 16), .load none (.tmp 3), none⟩,
    ⟨(some 17), .call (.const (.fn F.slices_Reverse_uint32_uint32 [] [])) [(.tmp 16)], none⟩] [3])
  (.seq (.region [⟨(some 18), .load none (.tmp 3), none⟩,
    ⟨(some 2), .mov (.tmp 18), none⟩] [2])
  (.ret)))))
def window_Window_Missing : AFun := ⟨19, 1, [.tmp 2], window_Window_Missing.body⟩
def cuneiformref11_New.b0 : ACode := .seq (.seq (.region [⟨(some 8), .mov (.tmp 4), none⟩,
    ⟨(some 9), .bin .lss (.tmp 8) (.const (.int .i64 64)), none⟩] [2, 3, 4, 9])
  (.cond (.tmp 9) (.skip) (.exit 0)))
  (.seq (.block 1 (.region [⟨(some 12), .mov (.tmp 4), none⟩,
    ⟨(some 13), .field 1 (.tmp 3), none⟩,
    ⟨(some 14), .idx 1 (some 64) (.tmp 13) (.tmp 12), none⟩,
    ⟨none, .store 1 (.tmp 14) (.const (.bool true)), none⟩] [2, 3, 4]))
  (.region [⟨(some 10), .mov (.tmp 4), none⟩,
    ⟨(some 11), .bin .add (.tmp 10) (.const (.int .i64 1)), none⟩,
    ⟨(some 4), .mov (.tmp 11), none⟩] [2, 3, 4]))
def cuneiformref11_New.body : ACode := .seq (.region [⟨(some 2), .alloc T.cuneiformref11_W [(.int .u32 0), (.bool false), (.bool false), (.bool false), (.bool false), (.bool false), (.bool false), (.bool false), (.bool false), (.bool false), (.bool false), (.bool false), (.bool false), (.bool false), (.bool false), (.bool false), (.bool false), (.bool false), (.bool false), (.bool false), (.bool false), (.bool false), (.bool false), (.bool false), (.bool false), (.bool false), (.bool false), (.bool false), (.bool false), (.bool false), (.bool false), (.bool false), (.bool false), (.bool false), (.bool false), (.bool false), (.bool false), (.bool false), (.bool false), (.bool false), (.bool false), (.bool false), (.bool false), (.bool false), (.bool false), (.bool false), (.bool false), (.bool false), (.bool false), (.bool false), (.bool false), (.bool false), (.bool false), (.bool false), (.bool false), (.bool false), (.bool false), (.bool false), (.bool false), (.bool false), (.bool false), (.bool false), (.bool false), (.bool false), (.bool false)], none⟩] [0, 2])
  (.seq (.region [⟨(some 5), .mov (.tmp 0), none⟩,
    ⟨(some 6), .call (.const (.fn F.cuneiformref10_Add [] [])) [(.tmp 5), (.const (.int .i64 (-1)))], none⟩,
    ⟨(some 7), .build [(.int .u32 0), (.bool false), (.bool false), (.bool false), (.bool false), (.bool false), (.bool false), (.bool false), (.bool false), (.bool false), (.bool false), (.bool false), (.bool false), (.bool false), (.bool false), (.bool false), (.bool false), (.bool false), (.bool false), (.bool false), (.bool false), (.bool false), (.bool false), (.bool false), (.bool false), (.bool false), (.bool false), (.bool false), (.bool false), (.bool false), (.bool false), (.bool false), (.bool false), (.bool false), (.bool false), (.bool false), (.bool false), (.bool false), (.bool false), (.bool false), (.bool false), (.bool false), (.bool false), (.bool false), (.bool false), (.bool false), (.bool false), (.bool false), (.bool false), (.bool false), (.bool false), (.bool false), (.bool false), (.bool false), (.bool false), (.bool false), (.bool false), (.bool false), (.bool false), (.bool false), (.bool false), (.bool false), (.bool false), (.bool false), (.bool false)] [(0, 1, (.tmp 6))], none⟩,
    ⟨(some 3), .alloc T.cuneiformref11_W [(.int .u32 0), (.bool false), (.bool false), (.bool false), (.bool false), (.bool false), (.bool false), (.bool false), (.bool false), (.bool false), (.bool false), (.bool false), (.bool false), (.bool false), (.bool false), (.bool false), (.bool false), (.bool false), (.bool false), (.bool false), (.bool false), (.bool false), (.bool false), (.bool false), (.bool false), (.bool false), (.bool false), (.bool false), (.bool false), (.bool false), (.bool false), (.bool false), (.bool false), (.bool false), (.bool false), (.bool false), (.bool false), (.bool false), (.bool false), (.bool false), (.bool false), (.bool false), (.bool false), (.bool false), (.bool false), (.bool false), (.bool false), (.bool false), (.bool false), (.bool false), (.bool false), (.bool false), (.bool false), (.bool false), (.bool false), (.bool false), (.bool false), (.bool false), (.bool false), (.bool false), (.bool false), (.bool false), (.bool false), (.bool false), (.bool false)], none⟩,
    ⟨none, .store 65 (.tmp 3) (.tmp 7), none⟩] [2, 3])
  (.seq (.seq (.region [⟨(some 4), .mov (.const (.int .i64 0)), none⟩] [2, 3, 4])
  (.block 0 (.loop cuneiformref11_New.b0)))
  (.seq (.region [⟨(some 15), .load (some 65) (.tmp 3), none⟩,
    ⟨none, .store 65 (.tmp 2) (.tmp 15), none⟩] [2])
  (.ret))))
def cuneiformref11_New : AFun := ⟨16, 1, [.cell 2 (some 65)], cuneiformref11_New.body⟩
def cuneiformlaw11_Alike.d0 : List AOper := [⟨(some 12), .mov (.tmp 0), none⟩,
    ⟨(some 13), .call (.const (.fn F.window_Window_Top [] [])) [(.tmp 12)], none⟩,
    ⟨(some 14), .field 0 (.tmp 3), none⟩,
    ⟨(some 15), .load none (.tmp 14), none⟩,
    ⟨(some 16), .bin .neq (.tmp 13) (.tmp 15), none⟩,
    ⟨(some 17), .mov (.tmp 16), none⟩,
    ⟨(some 18), .mov (.tmp 0), some (17, false)⟩,
    ⟨(some 19), .call (.const (.fn F.window_Window_Bits [] [])) [(.tmp 18)], some (17, false)⟩,
    ⟨(some 20), .load (some 65) (.tmp 3), some (17, false)⟩,
    ⟨(some 21), .call (.const (.fn F.cuneiformref11_Bits [] [])) [(.tmp 20)], some (17, false)⟩,
    ⟨(some 22), .bin .neq (.tmp 19) (.tmp 21), some (17, false)⟩,
    ⟨(some 23), .pick (.tmp 17) (.const (.bool true)) (.tmp 22), none⟩]
def cuneiformlaw11_Alike.d0b : List (List Nat) := [[], [0], [], [2], [0, 1, 2, 3], [0, 1, 2, 3, 4], [0, 1, 2, 3, 4, 5], [0, 1, 2, 3, 4, 5, 6], [0, 1, 2, 3, 4, 5], [0, 1, 2, 3, 4, 5, 6, 7, 8], [0, 1, 2, 3, 4, 5, 6, 7, 8, 9], [0, 1, 2, 3, 4, 5, 6, 7, 8, 9, 10]]
def cuneiformlaw11_Alike.b1 : ACode := .seq (.seq (.region [⟨(some 30), .load none (.tmp 5), none⟩,
    ⟨(some 31), .bin .lss (.tmp 30) (.const (.int .i64 64)), none⟩,
    ⟨(some 32), .mov (.tmp 31), none⟩,
    ⟨(some 33), .load none (.tmp 5), some (32, true)⟩,
    ⟨(some 34), .field 1 (.tmp 3), some (32, true)⟩,
    ⟨(some 35), .idx 1 (some 64) (.tmp 34) (.tmp 33), some (32, true)⟩,
    ⟨(some 36), .load none (.tmp 35), some (32, true)⟩,
    ⟨(some 37), .un .not (.tmp 36), some (32, true)⟩,
    ⟨(some 38), .pick (.tmp 32) (.tmp 37) (.const (.bool false)), none⟩] [3, 5, 6, 8, 38])
  (.cond (.tmp 38) (.skip) (.exit 2)))
  (.block 3 (.region [⟨(some 39), .load none (.tmp 5), none⟩,
    ⟨(some 40), .bin .add (.tmp 39) (.const (.int .i64 1)), none⟩,
    ⟨none, .store 1 (.tmp 5) (.tmp 40), none⟩] [3, 5, 6, 8]))
def cuneiformlaw11_Alike.a2 : ACode := .region [⟨(some 8), .mov (.tmp 29), none⟩] [3, 5, 6, 8]
def cuneiformlaw11_Alike.b2 : ACode := .block 1 (.seq (.block 2 (.loop cuneiformlaw11_Alike.b1))
  (.seq (.region [⟨(some 41), .load none (.tmp 6), none⟩,
    ⟨(some 42), .mov (.tmp 41), none⟩,
    ⟨(some 43), .load none (.tmp 5), some (42, true)⟩,
    ⟨(some 44), .bin .lss (.tmp 43) (.const (.int .i64 64)), some (42, true)⟩,
    ⟨(some 45), .pick (.tmp 42) (.tmp 44) (.const (.bool false)), none⟩,
    ⟨(some 46), .mov (.tmp 45), none⟩,
    ⟨(some 47), .mov (.tmp 8), some (46, true)⟩,
    ⟨(some 48), .field 0 (.tmp 3), some (46, true)⟩,
    ⟨(some 49), .load none (.tmp 48), some (46, true)⟩,
    ⟨(some 50), .load none (.tmp 5), some (46, true)⟩,
    ⟨(some 51), .un .neg (.tmp 50), some (46, true)⟩,
    ⟨(some 52), .call (.const (.fn F.cuneiformref10_Add [] [])) [(.tmp 49), (.tmp 51)], some (46, true)⟩,
    ⟨(some 53), .bin .eql (.tmp 47) (.tmp 52), some (46, true)⟩,
    ⟨(some 54), .pick (.tmp 46) (.tmp 53) (.const (.bool false)), none⟩,
    ⟨none, .store 1 (.tmp 6) (.tmp 54), none⟩] [5])
  (.region [⟨(some 55), .load none (.tmp 5), none⟩,
    ⟨(some 56), .bin .add (.tmp 55) (.const (.int .i64 1)), none⟩,
    ⟨none, .store 1 (.tmp 5) (.tmp 56), none⟩] [])))
def cuneiformlaw11_Alike.b3 : ACode := .seq (.seq (.region [⟨(some 57), .load none (.tmp 5), none⟩,
    ⟨(some 58), .bin .lss (.tmp 57) (.const (.int .i64 64)), none⟩] [0, 3, 5, 6, 58])
  (.cond (.tmp 58) (.skip) (.exit 4)))
  (.block 5 (.seq (.region [⟨(some 59), .load none (.tmp 6), none⟩,
    ⟨(some 60), .mov (.tmp 59), none⟩,
    ⟨(some 61), .load none (.tmp 5), some (60, true)⟩,
    ⟨(some 62), .field 1 (.tmp 3), some (60, true)⟩,
    ⟨(some 63), .idx 1 (some 64) (.tmp 62) (.tmp 61), some (60, true)⟩,
    ⟨(some 64), .load none (.tmp 63), some (60, true)⟩,
    ⟨(some 65), .un .not (.tmp 64), some (60, true)⟩,
    ⟨(some 66), .pick (.tmp 60) (.tmp 65) (.const (.bool false)), none⟩,
    ⟨none, .store 1 (.tmp 6) (.tmp 66), none⟩] [0, 3, 5, 6])
  (.region [⟨(some 67), .load none (.tmp 5), none⟩,
    ⟨(some 68), .bin .add (.tmp 67) (.const (.int .i64 1)), none⟩,
    ⟨none, .store 1 (.tmp 5) (.tmp 68), none⟩] [0, 3, 5, 6])))
def cuneiformlaw11_Alike.d4 : List AOper := [⟨(some 80), .load none (.tmp 6), none⟩,
    ⟨(some 81), .mov (.tmp 80), none⟩,
    ⟨(some 82), .mov (.tmp 10), some (81, true)⟩,
    ⟨(some 83), .mov (.tmp 9), some (81, true)⟩,
    ⟨(some 84), .len .slice (.tmp 83), some (81, true)⟩,
    ⟨(some 85), .bin .lss (.tmp 82) (.tmp 84), some (81, true)⟩,
    ⟨(some 86), .pick (.tmp 81) (.tmp 85) (.const (.bool false)), none⟩,
    ⟨(some 87), .mov (.tmp 86), none⟩,
    ⟨(some 88), .mov (.tmp 9), some (87, true)⟩,
    ⟨(some 89), .mov (.tmp 10), some (87, true)⟩,
    ⟨(some 90), .idx 1 none (.tmp 88) (.tmp 89), some (87, true)⟩,
    ⟨(some 91), .load none (.tmp 90), some (87, true)⟩,
    ⟨(some 92), .field 0 (.tmp 3), some (87, true)⟩,
    ⟨(some 93), .load none (.tmp 92), some (87, true)⟩,
    ⟨(some 94), .mov (.tmp 11), some (87, true)⟩,
    ⟨(some 95), .un .neg (.tmp 94), some (87, true)⟩,
    ⟨(some 96), .call (.const (.fn F.cuneiformref10_Add [] [])) [(.tmp 93), (.tmp 95)], some (87, true)⟩,
    ⟨(some 97), .bin .eql (.tmp 91) (.tmp 96), some (87, true)⟩,
    ⟨(some 98), .pick (.tmp 87) (.tmp 97) (.const (.bool false)), none⟩,
    ⟨none, .store 1 (.tmp 6) (.tmp 98), none⟩]
def cuneiformlaw11_Alike.d4b : List (List Nat) := [[], [0], [0, 1], [0, 1], [0, 1, 3], [0, 1, 2, 3, 4], [0, 1, 2, 3, 4, 5], [0, 1, 2, 3, 4, 5, 6], [0, 1, 2, 3, 4, 5, 6, 7], [0, 1, 2, 3, 4, 5, 6, 7], [0, 1, 2, 3, 4, 5, 6, 7, 8, 9], [0, 1, 2, 3, 4, 5, 6, 7, 8, 9, 10], [0, 1, 2, 3, 4, 5, 6, 7], [0, 1, 2, 3, 4, 5, 6, 7, 12], [0, 1, 2, 3, 4, 5, 6, 7], [0, 1, 2, 3, 4, 5, 6, 7, 14], [0, 1, 2, 3, 4, 5, 6, 7, 12, 13, 14, 15], [0, 1, 2, 3, 4, 5, 6, 7, 8, 9, 10, 11, 12, 13, 14, 15, 16], [0, 1, 2, 3, 4, 5, 6, 7, 8, 9, 10, 11, 12, 13, 14, 15, 16, 17], [0, 1, 2, 3, 4, 5, 6, 7, 8, 9, 10, 11, 12, 13, 14, 15, 16, 17, 18]]
def cuneiformlaw11_Alike.b5 : ACode := .seq (.seq (.region [⟨(some 71), .mov (.tmp 11), none⟩,
    ⟨(some 72), .bin .geq (.tmp 71) (.const (.int .i64 0)), none⟩] [3, 6, 9, 10, 11, 72])
  (.cond (.tmp 72) (.skip) (.exit 6)))
  (.seq (.block 7 (.seq (.region [⟨(some 75), .mov (.tmp 11), none⟩,
    ⟨(some 76), .field 1 (.tmp 3), none⟩,
    ⟨(some 77), .idx 1 (some 64) (.tmp 76) (.tmp 75), none⟩,
    ⟨(some 78), .load none (.tmp 77), none⟩,
    ⟨(some 79), .un .not (.tmp 78), none⟩] [3, 6, 9, 10, 11, 79])
  (.cond (.tmp 79) (.seq (.draw cuneiformlaw11_Alike.d4 cuneiformlaw11_Alike.d4b [[0, 1, 2, 3, 4, 5, 6, 7, 8, 9, 10, 11, 12, 13, 14, 15, 16, 17, 18, 19]] [(16, 10), (16, 11)] [3, 6, 9, 10, 11])
  (.region [⟨(some 99), .mov (.tmp 10), none⟩,
    ⟨(some 100), .bin .add (.tmp 99) (.const (.int .i64 1)), none⟩,
    ⟨(some 10), .mov (.tmp 100), none⟩] [3, 6, 9, 10, 11])) (.skip))))
  (.region [⟨(some 73), .mov (.tmp 11), none⟩,
    ⟨(some 74), .bin .sub (.tmp 73) (.const (.int .i64 1)), none⟩,
    ⟨(some 11), .mov (.tmp 74), none⟩] [3, 6, 9, 10, 11]))
def cuneiformlaw11_Alike.body : ACode := .seq (.region [⟨(some 3), .box T.cuneiformref11_W (.tmp 1), none⟩,
    ⟨(some 4), .mov (.const (.bool false)), none⟩] [0, 3, 4])
  (.seq (.seq (.draw cuneiformlaw11_Alike.d0 cuneiformlaw11_Alike.d0b [[0, 2, 3, 1, 4, 5, 6, 8, 7, 9, 10, 11]] [(1, 3), (7, 8)] [0, 3, 4, 23])
  (.cond (.tmp 23) (.seq (.region [⟨(some 4), .mov (.const (.bool false)), none⟩] [4])
  (.ret)) (.skip)))
  (.seq (.region [⟨(some 5), .alloc T.int [(.int .i64 0)], none⟩,
    ⟨(some 6), .alloc T.bool [(.bool false)], none⟩,
    ⟨none, .store 1 (.tmp 5) (.const (.int .i64 0)), none⟩,
    ⟨none, .store 1 (.tmp 6) (.const (.bool true)), none⟩] [0, 3, 4, 5, 6])
  (.seq (.region [⟨(some 24), .mov (.tmp 0), none⟩,
    ⟨(some 25), .call (.const (.fn F.window_Window_Come [] [])) [(.tmp 24)], none⟩,
    ⟨(some 7), .mov (.tmp 25), none⟩] [0, 3, 4, 5, 6, 7])
  (.seq (.seq (.region [⟨(some 26), .mov (.tmp 7), none⟩,
    ⟨(some 27), .eq false .func (.tmp 26) (.const .nilf), none⟩] [0, 3, 4, 5, 6, 7, 27])
  (.cond (.tmp 27) (.seq (.region [⟨(some 4), .mov (.const (.bool false)), none⟩] [4])
  (.ret)) (.skip)))
  (.seq (.seq (.region [⟨(some 28), .mov (.tmp 7), none⟩] [0, 3, 4, 5, 6, 28])
  (.block 0 (.range (.tmp 28) [29] cuneiformlaw11_Alike.a2 cuneiformlaw11_Alike.b2)))
  (.seq (.block 4 (.loop cuneiformlaw11_Alike.b3))
  (.seq (.region [⟨(some 69), .mov (.tmp 0), none⟩,
    ⟨(some 70), .call (.const (.fn F.window_Window_Missing [] [])) [(.tmp 69)], none⟩,
    ⟨(some 9), .mov (.tmp 70), none⟩] [3, 6, 9])
  (.seq (.region [⟨(some 10), .mov (.const (.int .i64 0)), none⟩] [3, 6, 9, 10])
  (.seq (.seq (.region [⟨(some 11), .mov (.const (.int .i64 63)), none⟩] [3, 6, 9, 10, 11])
  (.block 6 (.loop cuneiformlaw11_Alike.b5)))
  (.seq (.region [⟨(some 101), .load none (.tmp 6), none⟩,
    ⟨(some 102), .mov (.tmp 101), none⟩,
    ⟨(some 103), .mov (.tmp 10), some (102, true)⟩,
    ⟨(some 104), .mov (.tmp 9), some (102, true)⟩,
    ⟨(some 105), .len .slice (.tmp 104), some (102, true)⟩,
    ⟨(some 106), .bin .eql (.tmp 103) (.tmp 105), some (102, true)⟩,
    ⟨(some 107), .pick (.tmp 102) (.tmp 106) (.const (.bool false)), none⟩,
    ⟨(some 4), .mov (.tmp 107), none⟩] [4])
  (.ret)))))))))))
def cuneiformlaw11_Alike : AFun := ⟨108, 2, [.tmp 4], cuneiformlaw11_Alike.body⟩
def window_Window_Copy.body : ACode := .seq (.region [⟨(some 2), .mov (.const .nilp), none⟩] [0])
  (.seq (.seq (.region [⟨(some 3), .mov (.tmp 0), none⟩,
    ⟨(some 4), .eq false .ptr (.tmp 3) (.const .nilp), none⟩] [0, 4])
  (.cond (.tmp 4) (.seq (.region [⟨(some 2), .mov (.const .nilp), none⟩] [2])
  (.ret)) (.skip)))
  (.seq (.region [⟨(some 5), .mov (.tmp 0), none⟩,
    ⟨(some 6), .nilc (.tmp 5), none⟩,
    ⟨(some 7), .field 0 (.tmp 6), none⟩,
    ⟨(some 8), .load (some 2) (.tmp 7), none⟩,
    ⟨(some 9), .build [(.int .u32 0), (.int .u64 0)] [(0, 2, (.tmp 8))], none⟩,
    ⟨(some 10), .box T.window_Window (.tmp 9), none⟩,
    ⟨(some 2), .mov (.tmp 10), none⟩] [2])
  (.ret)))
def window_Window_Copy : AFun := ⟨11, 1, [.tmp 2], window_Window_Copy.body⟩
def cuneiformref11_Mark.b0 : ACode := .seq (.seq (.region [⟨(some 27), .mov (.tmp 9), none⟩,
    ⟨(some 28), .bin .lss (.tmp 27) (.const (.int .i64 64)), none⟩] [1, 2, 4, 7, 8, 9, 28])
  (.cond (.tmp 28) (.skip) (.exit 0)))
  (.seq (.block 1 (.region [⟨(some 31), .mov (.tmp 9), none⟩,
    ⟨(some 32), .mov (.tmp 9), none⟩,
    ⟨(some 33), .mov (.tmp 7), none⟩,
    ⟨(some 34), .bin .geq (.tmp 32) (.tmp 33), none⟩,
    ⟨(some 35), .mov (.tmp 34), none⟩,
    ⟨(some 36), .mov (.tmp 9), some (35, true)⟩,
    ⟨(some 37), .mov (.tmp 7), some (35, true)⟩,
    ⟨(some 38), .bin .sub (.tmp 36) (.tmp 37), some (35, true)⟩,
    ⟨(some 39), .field 1 (.tmp 2), some (35, true)⟩,
    ⟨(some 40), .idx 1 (some 64) (.tmp 39) (.tmp 38), some (35, true)⟩,
    ⟨(some 41), .load none (.tmp 40), some (35, true)⟩,
    ⟨(some 42), .pick (.tmp 35) (.tmp 41) (.const (.bool false)), none⟩,
    ⟨(some 43), .idx 1 (some 64) (.tmp 8) (.tmp 31), none⟩,
    ⟨none, .store 1 (.tmp 43) (.tmp 42), none⟩] [1, 2, 4, 7, 8, 9]))
  (.region [⟨(some 29), .mov (.tmp 9), none⟩,
    ⟨(some 30), .bin .add (.tmp 29) (.const (.int .i64 1)), none⟩,
    ⟨(some 9), .mov (.tmp 30), none⟩] [1, 2, 4, 7, 8, 9]))
def cuneiformref11_Mark.d1 : List AOper := [⟨(some 44), .mov (.tmp 1), none⟩,
    ⟨(some 45), .load (some 64) (.tmp 8), none⟩,
    ⟨(some 46), .field 0 (.tmp 2), none⟩,
    ⟨none, .store 1 (.tmp 46) (.tmp 44), none⟩,
    ⟨(some 47), .field 1 (.tmp 2), none⟩,
    ⟨none, .store 64 (.tmp 47) (.tmp 45), none⟩]
def cuneiformref11_Mark.d1b : List (List Nat) := [[], [], [0], [0, 2], [0, 1, 2, 3], [0, 1, 2, 3, 4]]
def cuneiformref11_Mark.b2 : ACode := .seq (.seq (.region [⟨(some 48), .mov (.tmp 10), none⟩,
    ⟨(some 49), .bin .lss (.tmp 48) (.const (.int .i64 64)), none⟩] [1, 2, 4, 10, 49])
  (.cond (.tmp 49) (.skip) (.exit 2)))
  (.seq (.block 3 (.seq (.region [⟨(some 52), .field 0 (.tmp 2), none⟩,
    ⟨(some 53), .load none (.tmp 52), none⟩,
    ⟨(some 54), .mov (.tmp 10), none⟩,
    ⟨(some 55), .un .neg (.tmp 54), none⟩,
    ⟨(some 56), .call (.const (.fn F.cuneiformref10_Add [] [])) [(.tmp 53), (.tmp 55)], none⟩,
    ⟨(some 57), .mov (.tmp 1), none⟩,
    ⟨(some 58), .bin .eql (.tmp 56) (.tmp 57), none⟩] [1, 2, 4, 10, 58])
  (.cond (.tmp 58) (.region [⟨(some 59), .mov (.tmp 10), none⟩,
    ⟨(some 60), .field 1 (.tmp 2), none⟩,
    ⟨(some 61), .idx 1 (some 64) (.tmp 60) (.tmp 59), none⟩,
    ⟨none, .store 1 (.tmp 61) (.const (.bool true)), none⟩] [1, 2, 4, 10]) (.skip))))
  (.region [⟨(some 50), .mov (.tmp 10), none⟩,
    ⟨(some 51), .bin .add (.tmp 50) (.const (.int .i64 1)), none⟩,
    ⟨(some 10), .mov (.tmp 51), none⟩] [1, 2, 4, 10]))
def cuneiformref11_Mark.body : ACode := .seq (.region [⟨(some 2), .box T.cuneiformref11_W (.tmp 0), none⟩,
    ⟨(some 4), .alloc T.cuneiformref11_W [(.int .u32 0), (.bool false), (.bool false), (.bool false), (.bool false), (.bool false), (.bool false), (.bool false), (.bool false), (.bool false), (.bool false), (.bool false), (.bool false), (.bool false), (.bool false), (.bool false), (.bool false), (.bool false), (.bool false), (.bool false), (.bool false), (.bool false), (.bool false), (.bool false), (.bool false), (.bool false), (.bool false), (.bool false), (.bool false), (.bool false), (.bool false), (.bool false), (.bool false), (.bool false), (.bool false), (.bool false), (.bool false), (.bool false), (.bool false), (.bool false), (.bool false), (.bool false), (.bool false), (.bool false), (.bool false), (.bool false), (.bool false), (.bool false), (.bool false), (.bool false), (.bool false), (.bool false), (.bool false), (.bool false), (.bool false), (.bool false), (.bool false), (.bool false), (.bool false), (.bool false), (.bool false), (.bool false), (.bool false), (.bool false), (.bool false)], none⟩,
    ⟨(some 5), .mov (.const (.int .i64 0)), none⟩] [1, 2, 4])
  (.seq (.region [⟨(some 11), .load (some 65) (.tmp 2), none⟩,
    ⟨(some 12), .mov (.tmp 1), none⟩,
    ⟨(some 13), .call (.const (.fn F.cuneiformref11_Look [] [])) [(.tmp 11), (.tmp 12)], none⟩,
    ⟨(some 6), .mov (.tmp 13), none⟩] [1, 2, 4, 6])
  (.seq (.seq (.region [⟨(some 14), .mov (.tmp 6), none⟩,
    ⟨(some 15), .bin .neq (.tmp 14) (.const (.int .i64 0)), none⟩] [1, 2, 4, 6, 15])
  (.cond (.tmp 15) (.seq (.region [⟨(some 16), .load (some 65) (.tmp 2), none⟩,
    ⟨(some 17), .mov (.tmp 6), none⟩,
    ⟨none, .store 65 (.tmp 4) (.tmp 16), none⟩,
    ⟨(some 5), .mov (.tmp 17), none⟩] [4, 5])
  (.ret)) (.skip)))
  (.seq (.seq (.region [⟨(some 18), .mov (.tmp 1), none⟩,
    ⟨(some 19), .field 0 (.tmp 2), none⟩,
    ⟨(some 20), .load none (.tmp 19), none⟩,
    ⟨(some 21), .call (.const (.fn F.cuneiformref10_After [] [])) [(.tmp 18), (.tmp 20)], none⟩] [1, 2, 4, 21])
  (.cond (.tmp 21) (.seq (.region [⟨(some 22), .field 0 (.tmp 2), none⟩,
    ⟨(some 23), .load none (.tmp 22), none⟩,
    ⟨(some 24), .mov (.tmp 1), none⟩,
    ⟨(some 25), .call (.const (.fn F.cuneiformref10_Way [] [])) [(.tmp 23), (.tmp 24)], none⟩,
    ⟨(some 26), .conv .i64 (.tmp 25), none⟩,
    ⟨(some 7), .mov (.tmp 26), none⟩] [1, 2, 4, 7])
  (.seq (.region [⟨(some 8), .alloc T.n64_bool [(.bool false), (.bool false), (.bool false), (.bool false), (.bool false), (.bool false), (.bool false), (.bool false), (.bool false), (.bool false), (.bool false), (.bool false), (.bool false), (.bool false), (.bool false), (.bool false), (.bool false), (.bool false), (.bool false), (.bool false), (.bool false), (.bool false), (.bool false), (.bool false), (.bool false), (.bool false), (.bool false), (.bool false), (.bool false), (.bool false), (.bool false), (.bool false), (.bool false), (.bool false), (.bool false), (.bool false), (.bool false), (.bool false), (.bool false), (.bool false), (.bool false), (.bool false), (.bool false), (.bool false), (.bool false), (.bool false), (.bool false), (.bool false), (.bool false), (.bool false), (.bool false), (.bool false), (.bool false), (.bool false), (.bool false), (.bool false), (.bool false), (.bool false), (.bool false), (.bool false), (.bool false), (.bool false), (.bool false), (.bool false)], none⟩] [1, 2, 4, 7, 8])
  (.seq (.seq (.region [⟨(some 9), .mov (.const (.int .i64 0)), none⟩] [1, 2, 4, 7, 8, 9])
  (.block 0 (.loop cuneiformref11_Mark.b0)))
  (.draw cuneiformref11_Mark.d1 cuneiformref11_Mark.d1b [[0, 1, 2, 3, 4, 5]] [(3, 1)] [1, 2, 4])))) (.skip)))
  (.seq (.seq (.region [⟨(some 10), .mov (.const (.int .i64 0)), none⟩] [1, 2, 4, 10])
  (.block 2 (.loop cuneiformref11_Mark.b2)))
  (.seq (.region [⟨(some 62), .load (some 65) (.tmp 2), none⟩,
    ⟨none, .store 65 (.tmp 4) (.tmp 62), none⟩,
    ⟨(some 5), .mov (.const (.int .i64 0)), none⟩] [4, 5])
  (.ret))))))
def cuneiformref11_Mark : AFun := ⟨63, 2, [.cell 4 (some 65), .tmp 5], cuneiformref11_Mark.body⟩
def cuneiformref11_Look.b0 : ACode := .seq (.seq (.region [⟨(some 10), .mov (.tmp 5), none⟩,
    ⟨(some 11), .bin .lss (.tmp 10) (.const (.int .i64 64)), none⟩] [1, 2, 5, 11])
  (.cond (.tmp 11) (.skip) (.exit 0)))
  (.seq (.block 1 (.seq (.region [⟨(some 14), .field 0 (.tmp 2), none⟩,
    ⟨(some 15), .load none (.tmp 14), none⟩,
    ⟨(some 16), .mov (.tmp 5), none⟩,
    ⟨(some 17), .un .neg (.tmp 16), none⟩,
    ⟨(some 18), .call (.const (.fn F.cuneiformref10_Add [] [])) [(.tmp 15), (.tmp 17)], none⟩,
    ⟨(some 19), .mov (.tmp 1), none⟩,
    ⟨(some 20), .bin .eql (.tmp 18) (.tmp 19), none⟩] [1, 2, 5, 20])
  (.cond (.tmp 20) (.seq (.seq (.region [⟨(some 21), .mov (.tmp 5), none⟩,
    ⟨(some 22), .field 1 (.tmp 2), none⟩,
    ⟨(some 23), .idx 1 (some 64) (.tmp 22) (.tmp 21), none⟩,
    ⟨(some 24), .load none (.tmp 23), none⟩] [24])
  (.cond (.tmp 24) (.seq (.region [⟨(some 4), .mov (.const (.int .i64 14)), none⟩] [4])
  (.ret)) (.skip)))
  (.seq (.region [⟨(some 4), .mov (.const (.int .i64 0)), none⟩] [4])
  (.ret))) (.skip))))
  (.region [⟨(some 12), .mov (.tmp 5), none⟩,
    ⟨(some 13), .bin .add (.tmp 12) (.const (.int .i64 1)), none⟩,
    ⟨(some 5), .mov (.tmp 13), none⟩] [1, 2, 5]))
def cuneiformref11_Look.body : ACode := .seq (.region [⟨(some 2), .box T.cuneiformref11_W (.tmp 0), none⟩,
    ⟨(some 4), .mov (.const (.int .i64 0)), none⟩] [1, 2])
  (.seq (.seq (.region [⟨(some 6), .mov (.tmp 1), none⟩,
    ⟨(some 7), .field 0 (.tmp 2), none⟩,
    ⟨(some 8), .load none (.tmp 7), none⟩,
    ⟨(some 9), .call (.const (.fn F.cuneiformref10_After [] [])) [(.tmp 6), (.tmp 8)], none⟩] [1, 2, 9])
  (.cond (.tmp 9) (.seq (.region [⟨(some 4), .mov (.const (.int .i64 0)), none⟩] [4])
  (.ret)) (.skip)))
  (.seq (.seq (.region [⟨(some 5), .mov (.const (.int .i64 0)), none⟩] [1, 2, 5])
  (.block 0 (.loop cuneiformref11_Look.b0)))
  (.seq (.region [⟨(some 4), .mov (.const (.int .i64 15)), none⟩] [4])
  (.ret))))
def cuneiformref11_Look : AFun := ⟨25, 2, [.tmp 4], cuneiformref11_Look.body⟩
def window_Window_Come.body : ACode := .seq (.region [⟨(some 1), .box T.p_window_Window (.tmp 0), none⟩,
    ⟨(some 2), .mov (.const .nilf), none⟩] [1])
  (.seq (.region [⟨(some 3), .mkfn F.window_Window_Come_1 [] [(.tmp 1)], none⟩,
    ⟨(some 2), .mov (.tmp 3), none⟩] [2])
  (.ret))
def window_Window_Come : AFun := ⟨4, 1, [.tmp 2], window_Window_Come.body⟩
def serial_Add.body : ACode := .seq (.region [⟨(some 4), .mov (.const (.int .u32 0)), none⟩] [0, 1])
  (.seq (.region [⟨(some 5), .mov (.tmp 0), none⟩,
    ⟨(some 6), .mov (.tmp 1), none⟩,
    ⟨(some 7), .conv .u32 (.tmp 6), none⟩,
    ⟨(some 8), .bin .add (.tmp 5) (.tmp 7), none⟩,
    ⟨(some 4), .mov (.tmp 8), none⟩] [4])
  (.ret))
def serial_Add : AFun := ⟨9, 2, [.tmp 4], serial_Add.body⟩
def serial_After.body : ACode := .seq (.region [⟨(some 4), .mov (.const (.bool false)), none⟩] [0, 1])
  (.seq (.region [⟨(some 5), .mov (.tmp 0), none⟩,
    ⟨(some 6), .mov (.tmp 1), none⟩,
    ⟨(some 7), .call (.const (.fn F.serial_Diff [] [])) [(.tmp 5), (.tmp 6)], none⟩,
    ⟨(some 8), .bin .gtr (.tmp 7) (.const (.int .i64 0)), none⟩,
    ⟨(some 4), .mov (.tmp 8), none⟩] [4])
  (.ret))
def serial_After : AFun := ⟨9, 2, [.tmp 4], serial_After.body⟩
def serial_Way.body : ACode := .seq (.region [⟨(some 4), .mov (.const (.int .u32 0)), none⟩] [0, 1])
  (.seq (.region [⟨(some 5), .mov (.tmp 1), none⟩,
    ⟨(some 6), .mov (.tmp 0), none⟩,
    ⟨(some 7), .bin .sub (.tmp 5) (.tmp 6), none⟩,
    ⟨(some 4), .mov (.tmp 7), none⟩] [4])
  (.ret))
def serial_Way : AFun := ⟨8, 2, [.tmp 4], serial_Way.body⟩
def window_state_bit.body : ACode := .seq (.region [⟨(some 2), .box T.window_state (.tmp 0), none⟩,
    ⟨(some 4), .mov (.const (.int .u64 0)), none⟩] [1, 2])
  (.seq (.seq (.region [⟨(some 6), .mov (.tmp 1), none⟩,
    ⟨(some 7), .field 0 (.tmp 2), none⟩,
    ⟨(some 8), .load none (.tmp 7), none⟩,
    ⟨(some 9), .call (.const (.fn F.serial_Way [] [])) [(.tmp 6), (.tmp 8)], none⟩,
    ⟨(some 5), .mov (.tmp 9), none⟩] [5])
  (.seq (.region [⟨(some 10), .mov (.tmp 5), none⟩,
    ⟨(some 11), .bin .lss (.tmp 10) (.const (.int .u32 64)), none⟩] [5, 11])
  (.cond (.tmp 11) (.seq (.region [⟨(some 12), .mov (.tmp 5), none⟩,
    ⟨(some 13), .bin .shl (.const (.int .u64 1)) (.tmp 12), none⟩,
    ⟨(some 4), .mov (.tmp 13), none⟩] [4])
  (.ret)) (.skip))))
  (.seq (.region [⟨(some 4), .mov (.const (.int .u64 0)), none⟩] [4])
  (.ret)))
def window_state_bit : AFun := ⟨14, 2, [.tmp 4], window_state_bit.body⟩
def window_Window_all.body : ACode := .seq (.region [⟨(some 1), .box T.p_window_Window (.tmp 0), none⟩,
    ⟨(some 2), .mov (.const .nilf), none⟩] [1])
  (.seq (.region [⟨(some 3), .mkfn F.window_Window_all_1 [] [(.tmp 1)], none⟩,
    ⟨(some 2), .mov (.tmp 3), none⟩] [2])
  (.ret))
def window_Window_all : AFun := ⟨4, 1, [.tmp 2], window_Window_all.body⟩
def slices_Reverse_uint32_uint32.d0 : List AOper := [⟨(some 14), .mov (.tmp 0), none⟩,
    ⟨(some 15), .mov (.tmp 2), none⟩,
    ⟨(some 16), .mov (.tmp 0), none⟩,
    ⟨(some 17), .mov (.tmp 3), none⟩,
    ⟨(some 18), .mov (.tmp 0), none⟩,
    ⟨(some 19), .mov (.tmp 3), none⟩,
    ⟨(some 20), .idx 1 none (.tmp 18) (.tmp 19), none⟩,
    ⟨(some 21), .load none (.tmp 20), none⟩,
    ⟨(some 22), .mov (.tmp 0), none⟩,
    ⟨(some 23), .mov (.tmp 2), none⟩,
    ⟨(some 24), .idx 1 none (.tmp 22) (.tmp 23), none⟩,
    ⟨(some 25), .load none (.tmp 24), none⟩,
    ⟨(some 26), .idx 1 none (.tmp 14) (.tmp 15), none⟩,
    ⟨none, .store 1 (.tmp 26) (.tmp 21), none⟩,
    ⟨(some 27), .idx 1 none (.tmp 16) (.tmp 17), none⟩,
    ⟨none, .store 1 (.tmp 27) (.tmp 25), none⟩]
def slices_Reverse_uint32_uint32.d0b : List (List Nat) := [[], [], [], [], [], [], [4, 5], [4, 5, 6], [], [], [8, 9], [8, 9, 10], [0, 1, 4, 5, 6, 7, 8, 9, 10, 11], [0, 1, 4, 5, 6, 7, 8, 9, 10, 11, 12], [0, 1, 2, 3, 4, 5, 6, 7, 8, 9, 10, 11, 12, 13], [0, 1, 2, 3, 4, 5, 6, 7, 8, 9, 10, 11, 12, 13, 14]]
def slices_Reverse_uint32_uint32.b1 : ACode := .seq (.seq (.region [⟨(some 7), .mov (.tmp 2), none⟩,
    ⟨(some 8), .mov (.tmp 3), none⟩,
    ⟨(some 9), .bin .lss (.tmp 7) (.tmp 8), none⟩] [0, 2, 3, 9])
  (.cond (.tmp 9) (.skip) (.exit 0)))
  (.seq (.block 1 (.draw slices_Reverse_uint32_uint32.d0 slices_Reverse_uint32_uint32.d0b [[0, 1, 2, 3, 4, 5, 6, 7, 8, 9, 10, 11, 12, 13, 14, 15]] [] [0, 2, 3]))
  (.region [⟨(some 10), .mov (.tmp 2), none⟩,
    ⟨(some 11), .bin .add (.tmp 10) (.const (.int .i64 1)), none⟩,
    ⟨(some 12), .mov (.tmp 3), none⟩,
    ⟨(some 13), .bin .sub (.tmp 12) (.const (.int .i64 1)), none⟩,
    ⟨(some 2), .mov (.tmp 11), none⟩,
    ⟨(some 3), .mov (.tmp 13), none⟩] [0, 2, 3]))
def slices_Reverse_uint32_uint32.body : ACode := .seq (.region [⟨(some 4), .mov (.tmp 0), none⟩,
    ⟨(some 5), .len .slice (.tmp 4), none⟩,
    ⟨(some 6), .bin .sub (.tmp 5) (.const (.int .i64 1)), none⟩,
    ⟨(some 2), .mov (.const (.int .i64 0)), none⟩,
    ⟨(some 3), .mov (.tmp 6), none⟩] [0, 2, 3])
  (.block 0 (.loop slices_Reverse_uint32_uint32.b1))
def slices_Reverse_uint32_uint32 : AFun := ⟨28, 1, [], slices_Reverse_uint32_uint32.body⟩
def cuneiformref10_Add.body : ACode := .seq (.region [⟨(some 4), .mov (.const (.int .u32 0)), none⟩] [0, 1])
  (.seq (.region [⟨(some 6), .mov (.tmp 1), none⟩,
    ⟨(some 7), .bin .rem (.tmp 6) (.const (.int .i64 4294967296)), none⟩,
    ⟨(some 5), .mov (.tmp 7), none⟩] [0, 5])
  (.seq (.seq (.region [⟨(some 8), .mov (.tmp 5), none⟩,
    ⟨(some 9), .bin .lss (.tmp 8) (.const (.int .i64 0)), none⟩] [0, 5, 9])
  (.cond (.tmp 9) (.region [⟨(some 10), .mov (.tmp 5), none⟩,
    ⟨(some 11), .bin .add (.tmp 10) (.const (.int .i64 4294967296)), none⟩,
    ⟨(some 5), .mov (.tmp 11), none⟩] [0, 5]) (.skip)))
  (.seq (.region [⟨(some 12), .mov (.tmp 0), none⟩,
    ⟨(some 13), .conv .u64 (.tmp 12), none⟩,
    ⟨(some 14), .mov (.tmp 5), none⟩,
    ⟨(some 15), .conv .u64 (.tmp 14), none⟩,
    ⟨(some 16), .bin .add (.tmp 13) (.tmp 15), none⟩,
    ⟨(some 17), .bin .rem (.tmp 16) (.const (.int .u64 4294967296)), none⟩,
    ⟨(some 18), .conv .u32 (.tmp 17), none⟩,
    ⟨(some 4), .mov (.tmp 18), none⟩] [4])
  (.ret))))
def cuneiformref10_Add : AFun := ⟨19, 2, [.tmp 4], cuneiformref10_Add.body⟩
def cuneiformref11_Bits.b0 : ACode := .seq (.seq (.region [⟨(some 5), .mov (.tmp 4), none⟩,
    ⟨(some 6), .bin .geq (.tmp 5) (.const (.int .i64 0)), none⟩] [1, 3, 4, 6])
  (.cond (.tmp 6) (.skip) (.exit 0)))
  (.seq (.block 1 (.seq (.region [⟨(some 9), .mov (.tmp 3), none⟩,
    ⟨(some 10), .bin .mul (.const (.int .u64 2)) (.tmp 9), none⟩,
    ⟨(some 3), .mov (.tmp 10), none⟩] [1, 3, 4])
  (.seq (.region [⟨(some 11), .mov (.tmp 4), none⟩,
    ⟨(some 12), .field 1 (.tmp 1), none⟩,
    ⟨(some 13), .idx 1 (some 64) (.tmp 12) (.tmp 11), none⟩,
    ⟨(some 14), .load none (.tmp 13), none⟩] [1, 3, 4, 14])
  (.cond (.tmp 14) (.region [⟨(some 15), .mov (.tmp 3), none⟩,
    ⟨(some 16), .bin .add (.tmp 15) (.const (.int .u64 1)), none⟩,
    ⟨(some 3), .mov (.tmp 16), none⟩] [1, 3, 4]) (.skip)))))
  (.region [⟨(some 7), .mov (.tmp 4), none⟩,
    ⟨(some 8), .bin .sub (.tmp 7) (.const (.int .i64 1)), none⟩,
    ⟨(some 4), .mov (.tmp 8), none⟩] [1, 3, 4]))
def cuneiformref11_Bits.body : ACode := .seq (.region [⟨(some 1), .box T.cuneiformref11_W (.tmp 0), none⟩,
    ⟨(some 2), .mov (.const (.int .u64 0)), none⟩] [1])
  (.seq (.region [⟨(some 3), .mov (.const (.int .u64 0)), none⟩] [1, 3])
  (.seq (.seq (.region [⟨(some 4), .mov (.const (.int .i64 63)), none⟩] [1, 3, 4])
  (.block 0 (.loop cuneiformref11_Bits.b0)))
  (.seq (.region [⟨(some 17), .mov (.tmp 3), none⟩,
    ⟨(some 2), .mov (.tmp 17), none⟩] [2])
  (.ret))))
def cuneiformref11_Bits : AFun := ⟨18, 1, [.tmp 2], cuneiformref11_Bits.body⟩
def cuneiformref10_After.body : ACode := .seq (.region [⟨(some 4), .mov (.const (.bool false)), none⟩] [0, 1])
  (.seq (.region [⟨(some 5), .mov (.tmp 1), none⟩,
    ⟨(some 6), .mov (.tmp 0), none⟩,
    ⟨(some 7), .call (.const (.fn F.cuneiformref10_Way [] [])) [(.tmp 5), (.tmp 6)], none⟩,
    ⟨(some 8), .bin .geq (.tmp 7) (.const (.int .u32 1)), none⟩,
    ⟨(some 9), .mov (.tmp 8), none⟩,
    ⟨(some 10), .mov (.tmp 1), some (9, true)⟩,
    ⟨(some 11), .mov (.tmp 0), some (9, true)⟩,
    ⟨(some 12), .call (.const (.fn F.cuneiformref10_Way [] [])) [(.tmp 10), (.tmp 11)], some (9, true)⟩,
    ⟨(some 13), .bin .lss (.tmp 12) (.const (.int .u32 2147483648)), some (9, true)⟩,
    ⟨(some 14), .pick (.tmp 9) (.tmp 13) (.const (.bool false)), none⟩,
    ⟨(some 4), .mov (.tmp 14), none⟩] [4])
  (.ret))
def cuneiformref10_After : AFun := ⟨15, 2, [.tmp 4], cuneiformref10_After.body⟩
def cuneiformref10_Way.body : ACode := .seq (.region [⟨(some 4), .mov (.const (.int .u32 0)), none⟩] [0, 1])
  (.seq (.region [⟨(some 5), .mov (.tmp 1), none⟩,
    ⟨(some 6), .conv .u64 (.tmp 5), none⟩,
    ⟨(some 7), .bin .add (.tmp 6) (.const (.int .u64 4294967296)), none⟩,
    ⟨(some 8), .mov (.tmp 0), none⟩,
    ⟨(some 9), .conv .u64 (.tmp 8), none⟩,
    ⟨(some 10), .bin .sub (.tmp 7) (.tmp 9), none⟩,
    ⟨(some 11), .bin .rem (.tmp 10) (.const (.int .u64 4294967296)), none⟩,
    ⟨(some 12), .conv .u32 (.tmp 11), none⟩,
    ⟨(some 4), .mov (.tmp 12), none⟩] [4])
  (.ret))
def cuneiformref10_Way : AFun := ⟨13, 2, [.tmp 4], cuneiformref10_Way.body⟩
def window_Window_Come_1.a0 : ACode := .seq (.region [⟨(some 3), .mov (.tmp 7), none⟩] [2, 3, 8])
  (.region [⟨(some 4), .mov (.tmp 8), none⟩] [2, 3, 4])
def window_Window_Come_1.b0 : ACode := .block 1 (.seq (.region [⟨(some 9), .mov (.tmp 4), none⟩,
    ⟨(some 10), .mov (.tmp 9), none⟩,
    ⟨(some 11), .load none (.tmp 2), some (10, true)⟩,
    ⟨(some 12), .mov (.tmp 3), some (10, true)⟩,
    ⟨(some 13), .call (.tmp 11) [(.tmp 12)], some (10, true)⟩,
    ⟨(some 14), .un .not (.tmp 13), some (10, true)⟩,
    ⟨(some 15), .pick (.tmp 10) (.tmp 14) (.const (.bool false)), none⟩] [15])
  (.cond (.tmp 15) (.exit 0) (.skip)))
def window_Window_Come_1.body : ACode := .seq (.region [⟨(some 2), .box T.func_uint32_bool (.tmp 0), none⟩] [1, 2])
  (.scope (.seq (.skip)
  (.seq (.region [⟨(some 5), .load none (.tmp 1), none⟩,
    ⟨(some 6), .call (.const (.fn F.window_Window_all [] [])) [(.tmp 5)], none⟩] [2, 6])
  (.block 0 (.range (.tmp 6) [7, 8] window_Window_Come_1.a0 window_Window_Come_1.b0)))))
def window_Window_Come_1 : AFun := ⟨16, 2, [], window_Window_Come_1.body⟩
def serial_Diff.body : ACode := .seq (.region [⟨(some 4), .mov (.const (.int .i64 0)), none⟩] [0, 1])
  (.seq (.region [⟨(some 5), .mov (.tmp 0), none⟩,
    ⟨(some 6), .mov (.tmp 1), none⟩,
    ⟨(some 7), .bin .sub (.tmp 5) (.tmp 6), none⟩,
    ⟨(some 8), .conv .i32 (.tmp 7), none⟩,
    ⟨(some 9), .conv .i64 (.tmp 8), none⟩,
    ⟨(some 4), .mov (.tmp 9), none⟩] [4])
  (.ret))
def serial_Diff : AFun := ⟨10, 2, [.tmp 4], serial_Diff.body⟩
def window_Window_all_1.d0 : List AOper := [⟨(some 7), .load none (.tmp 1), none⟩,
    ⟨(some 8), .eq false .ptr (.tmp 7) (.const .nilp), none⟩,
    ⟨(some 9), .mov (.tmp 8), none⟩,
    ⟨(some 10), .mov (.tmp 0), some (9, false)⟩,
    ⟨(some 11), .load none (.tmp 1), some (9, false)⟩,
    ⟨(some 12), .nilc (.tmp 11), some (9, false)⟩,
    ⟨(some 13), .field 0 (.tmp 12), some (9, false)⟩,
    ⟨(some 14), .field 0 (.tmp 13), some (9, false)⟩,
    ⟨(some 15), .load none (.tmp 14), some (9, false)⟩,
    ⟨(some 16), .mov (.tmp 3), some (9, false)⟩,
    ⟨(some 17), .un .neg (.tmp 16), some (9, false)⟩,
    ⟨(some 18), .call (.const (.fn F.serial_Add [] [])) [(.tmp 15), (.tmp 17)], some (9, false)⟩,
    ⟨(some 19), .load none (.tmp 1), some (9, false)⟩,
    ⟨(some 20), .nilc (.tmp 19), some (9, false)⟩,
    ⟨(some 21), .field 0 (.tmp 20), some (9, false)⟩,
    ⟨(some 22), .field 1 (.tmp 21), some (9, false)⟩,
    ⟨(some 23), .load none (.tmp 22), some (9, false)⟩,
    ⟨(some 24), .mov (.tmp 3), some (9, false)⟩,
    ⟨(some 25), .bin .shr (.tmp 23) (.tmp 24), some (9, false)⟩,
    ⟨(some 26), .bin .and (.tmp 25) (.const (.int .u64 1)), some (9, false)⟩,
    ⟨(some 27), .bin .eql (.tmp 26) (.const (.int .u64 1)), some (9, false)⟩,
    ⟨(some 28), .call (.tmp 10) [(.tmp 18), (.tmp 27)], some (9, false)⟩,
    ⟨(some 29), .un .not (.tmp 28), some (9, false)⟩,
    ⟨(some 30), .pick (.tmp 9) (.const (.bool true)) (.tmp 29), none⟩]
def window_Window_all_1.d0b : List (List Nat) := [[], [0], [0, 1], [0, 1, 2], [0, 1, 2], [0, 1, 2, 4], [0, 1, 2, 4, 5], [0, 1, 2, 4, 5, 6], [0, 1, 2, 4, 5, 6, 7], [0, 1, 2], [0, 1, 2, 9], [0, 1, 2, 4, 5, 6, 7, 8, 9, 10], [0, 1, 2], [0, 1, 2, 12], [0, 1, 2, 12, 13], [0, 1, 2, 12, 13, 14], [0, 1, 2, 12, 13, 14, 15], [0, 1, 2], [0, 1, 2, 12, 13, 14, 15, 16, 17], [0, 1, 2, 12, 13, 14, 15, 16, 17, 18], [0, 1, 2, 12, 13, 14, 15, 16, 17, 18, 19], [0, 1, 2, 3, 4, 5, 6, 7, 8, 9, 10, 11, 12, 13, 14, 15, 16, 17, 18, 19, 20], [0, 1, 2, 3, 4, 5, 6, 7, 8, 9, 10, 11, 12, 13, 14, 15, 16, 17, 18, 19, 20, 21], [0, 1, 2, 3, 4, 5, 6, 7, 8, 9, 10, 11, 12, 13, 14, 15, 16, 17, 18, 19, 20, 21, 22]]
def window_Window_all_1.b1 : ACode := .seq (.region [⟨(some 5), .bin .lss (.tmp 4) (.const (.int .i64 64)), none⟩] [0, 1, 4, 5])
  (.seq (.cond (.tmp 5) (.skip) (.exit 0))
  (.seq (.block 1 (.seq (.region [⟨(some 6), .mov (.tmp 4), none⟩,
    ⟨(some 3), .mov (.tmp 6), none⟩] [0, 1, 3, 4])
  (.seq (.draw window_Window_all_1.d0 window_Window_all_1.d0b [[0, 1, 2, 3, 4, 5, 6, 7, 8, 9, 10, 12, 13, 14, 15, 16, 17, 18, 19, 20, 11, 21, 22, 23]] [(11, 12), (11, 16)] [0, 1, 4, 30])
  (.cond (.tmp 30) (.ret) (.skip)))))
  (.region [⟨(some 31), .bin .add (.tmp 4) (.const (.int .i64 1)), none⟩,
    ⟨(some 4), .mov (.tmp 31), none⟩] [0, 1, 4])))
def window_Window_all_1.body : ACode := .seq (.region [⟨(some 4), .mov (.const (.int .i64 0)), none⟩] [0, 1, 4])
  (.block 0 (.loop window_Window_all_1.b1))
def window_Window_all_1 : AFun := ⟨32, 2, [], window_Window_all_1.body⟩
theorem cuneiformlaw11_WindowOnce_code : okFun Try.prog F.cuneiformlaw11_WindowOnce cuneiformlaw11_WindowOnce = true := by kernel_rfl
theorem cuneiformlaw11_WindowOrder_code : okFun Try.prog F.cuneiformlaw11_WindowOrder cuneiformlaw11_WindowOrder = true := by kernel_rfl
theorem cuneiformlaw11_WindowPlays_code : okFun Try.prog F.cuneiformlaw11_WindowPlays cuneiformlaw11_WindowPlays = true := by kernel_rfl
theorem cuneiformlaw11_WindowNil_code : okFun Try.prog F.cuneiformlaw11_WindowNil cuneiformlaw11_WindowNil = true := by kernel_rfl
theorem window_New_code : okFun Try.prog F.window_New window_New = true := by kernel_rfl
theorem window_Window_Top_code : okFun Try.prog F.window_Window_Top window_Window_Top = true := by kernel_rfl
theorem window_Window_Bits_code : okFun Try.prog F.window_Window_Bits window_Window_Bits = true := by kernel_rfl
theorem window_Window_Mark_code : okFun Try.prog F.window_Window_Mark window_Window_Mark = true := by kernel_rfl
theorem window_Window_Look_code : okFun Try.prog F.window_Window_Look window_Window_Look = true := by kernel_rfl
theorem cuneiformlaw11_known_code : okFun Try.prog F.cuneiformlaw11_known cuneiformlaw11_known = true := by kernel_rfl
theorem window_Window_Missing_code : okFun Try.prog F.window_Window_Missing window_Window_Missing = true := by kernel_rfl
theorem cuneiformref11_New_code : okFun Try.prog F.cuneiformref11_New cuneiformref11_New = true := by kernel_rfl
theorem cuneiformlaw11_Alike_code : okFun Try.prog F.cuneiformlaw11_Alike cuneiformlaw11_Alike = true := by kernel_rfl
theorem window_Window_Copy_code : okFun Try.prog F.window_Window_Copy window_Window_Copy = true := by kernel_rfl
theorem cuneiformref11_Mark_code : okFun Try.prog F.cuneiformref11_Mark cuneiformref11_Mark = true := by kernel_rfl
theorem cuneiformref11_Look_code : okFun Try.prog F.cuneiformref11_Look cuneiformref11_Look = true := by kernel_rfl
theorem window_Window_Come_code : okFun Try.prog F.window_Window_Come window_Window_Come = true := by kernel_rfl
theorem serial_Add_code : okFun Try.prog F.serial_Add serial_Add = true := by kernel_rfl
theorem serial_After_code : okFun Try.prog F.serial_After serial_After = true := by kernel_rfl
theorem serial_Way_code : okFun Try.prog F.serial_Way serial_Way = true := by kernel_rfl
theorem window_state_bit_code : okFun Try.prog F.window_state_bit window_state_bit = true := by kernel_rfl
theorem window_Window_all_code : okFun Try.prog F.window_Window_all window_Window_all = true := by kernel_rfl
theorem slices_Reverse_uint32_uint32_code : okFun Try.prog F.slices_Reverse_uint32_uint32 slices_Reverse_uint32_uint32 = true := by kernel_rfl
theorem cuneiformref10_Add_code : okFun Try.prog F.cuneiformref10_Add cuneiformref10_Add = true := by kernel_rfl
theorem cuneiformref11_Bits_code : okFun Try.prog F.cuneiformref11_Bits cuneiformref11_Bits = true := by kernel_rfl
theorem cuneiformref10_After_code : okFun Try.prog F.cuneiformref10_After cuneiformref10_After = true := by kernel_rfl
theorem cuneiformref10_Way_code : okFun Try.prog F.cuneiformref10_Way cuneiformref10_Way = true := by kernel_rfl
theorem window_Window_Come_1_code : okFun Try.prog F.window_Window_Come_1 window_Window_Come_1 = true := by kernel_rfl
theorem serial_Diff_code : okFun Try.prog F.serial_Diff serial_Diff = true := by kernel_rfl
theorem window_Window_all_1_code : okFun Try.prog F.window_Window_all_1 window_Window_all_1 = true := by kernel_rfl
def codes : CT := [(F.cuneiformlaw11_WindowOnce, cuneiformlaw11_WindowOnce), (F.cuneiformlaw11_WindowOrder, cuneiformlaw11_WindowOrder), (F.cuneiformlaw11_WindowPlays, cuneiformlaw11_WindowPlays), (F.cuneiformlaw11_WindowNil, cuneiformlaw11_WindowNil), (F.window_New, window_New), (F.window_Window_Top, window_Window_Top), (F.window_Window_Bits, window_Window_Bits), (F.window_Window_Mark, window_Window_Mark), (F.window_Window_Look, window_Window_Look), (F.cuneiformlaw11_known, cuneiformlaw11_known), (F.window_Window_Missing, window_Window_Missing), (F.cuneiformref11_New, cuneiformref11_New), (F.cuneiformlaw11_Alike, cuneiformlaw11_Alike), (F.window_Window_Copy, window_Window_Copy), (F.cuneiformref11_Mark, cuneiformref11_Mark), (F.cuneiformref11_Look, cuneiformref11_Look), (F.window_Window_Come, window_Window_Come), (F.serial_Add, serial_Add), (F.serial_After, serial_After), (F.serial_Way, serial_Way), (F.window_state_bit, window_state_bit), (F.window_Window_all, window_Window_all), (F.slices_Reverse_uint32_uint32, slices_Reverse_uint32_uint32), (F.cuneiformref10_Add, cuneiformref10_Add), (F.cuneiformref11_Bits, cuneiformref11_Bits), (F.cuneiformref10_After, cuneiformref10_After), (F.cuneiformref10_Way, cuneiformref10_Way), (F.window_Window_Come_1, window_Window_Come_1), (F.serial_Diff, serial_Diff), (F.window_Window_all_1, window_Window_all_1)]
theorem codes_ok : AllOk Try.prog codes := ⟨cuneiformlaw11_WindowOnce_code, cuneiformlaw11_WindowOrder_code, cuneiformlaw11_WindowPlays_code, cuneiformlaw11_WindowNil_code, window_New_code, window_Window_Top_code, window_Window_Bits_code, window_Window_Mark_code, window_Window_Look_code, cuneiformlaw11_known_code, window_Window_Missing_code, cuneiformref11_New_code, cuneiformlaw11_Alike_code, window_Window_Copy_code, cuneiformref11_Mark_code, cuneiformref11_Look_code, window_Window_Come_code, serial_Add_code, serial_After_code, serial_Way_code, window_state_bit_code, window_Window_all_code, slices_Reverse_uint32_uint32_code, cuneiformref10_Add_code, cuneiformref11_Bits_code, cuneiformref10_After_code, cuneiformref10_Way_code, window_Window_Come_1_code, serial_Diff_code, window_Window_all_1_code, trivial⟩
end Go.Proofs.Ytiklfnjmadcgfaa
