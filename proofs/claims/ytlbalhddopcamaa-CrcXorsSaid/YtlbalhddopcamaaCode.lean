/-
  The code that the statements of this seat reach, in the form of that machine, and that it is the program's. By an AI agent. No person has read it.
-/
import Derived.Test.YtlbalhddopcamaaProg
import Derived.Test.YtlbalhddopcamaaAm6
import Derived.KernelRfl

/-
  The code of this seat in the form of the abstract machine, and that it is the program's. Printed by a program (wip/am/gen.py, code.py). By an AI agent.
-/
namespace Go.Proofs.Ytlbalhddopcamaa
open Go Go.Am
namespace F
def cuneiformlaw04_CrcSums : FuncId := 3
def cuneiformlaw04_CrcXors : FuncId := 4
def cuneiformlaw04_CrcSeals : FuncId := 5
def cuneiformlaw04_CrcTurns : FuncId := 6
def cuneiformlaw04_CrcNil : FuncId := 7
def crc_New : FuncId := 8
def cuneiformref04_Sum : FuncId := 9
def cuneiformref04_Word : FuncId := 10
def cuneiformref04_Shift : FuncId := 11
def cuneiformref04_Of : FuncId := 12
def crc_Table_Add : FuncId := 13
def crc_Table_Begin : FuncId := 14
def cuneiformlaw04_known : FuncId := 15
def crc_Table_Sum : FuncId := 16
def crc_Slow : FuncId := 17
def crc_Table_End : FuncId := 18
def crc_Table_Entry : FuncId := 19
def crc_Seal : FuncId := 20
def cuneiformref01_Same : FuncId := 21
def cuneiformref04_Bytes : FuncId := 22
def crc_Open : FuncId := 23
def cuneiformref04_Open : FuncId := 24
def crc_shift : FuncId := 25
def cuneiformref04_Xor : FuncId := 26
def crc_bytes : FuncId := 27
end F
namespace T
def uint8 : TypeId := 5
def sl_uint8 : TypeId := 22
def cuneiformref04_W : TypeId := 30
def crc_Table : TypeId := 55
def n4_uint8 : TypeId := 59
end T
def cuneiformlaw04_CrcSums.d0 : List AOper := [⟨(some 39), .mov (.tmp 7), none⟩,
    ⟨(some 40), .mov (.tmp 7), none⟩,
    ⟨(some 41), .mov (.tmp 7), none⟩,
    ⟨(some 42), .call (.const (.fn F.crc_Table_Begin [] [])) [(.tmp 41)], none⟩,
    ⟨(some 43), .mov (.tmp 0), none⟩,
    ⟨(some 44), .mov (.tmp 8), none⟩,
    ⟨(some 45), .slice 1 .slice (.tmp 43) none (some (.tmp 44)) none, none⟩,
    ⟨(some 46), .call (.const (.fn F.crc_Table_Add [] [])) [(.tmp 40), (.tmp 42), (.tmp 45)], none⟩,
    ⟨(some 47), .mov (.tmp 0), none⟩,
    ⟨(some 48), .mov (.tmp 8), none⟩,
    ⟨(some 49), .slice 1 .slice (.tmp 47) (some (.tmp 48)) none none, none⟩,
    ⟨(some 50), .call (.const (.fn F.crc_Table_Add [] [])) [(.tmp 39), (.tmp 46), (.tmp 49)], none⟩,
    ⟨(some 11), .mov (.tmp 50), none⟩]
def cuneiformlaw04_CrcSums.d0b : List (List Nat) := [[], [], [], [2], [], [], [4, 5], [1, 2, 3, 4, 5, 6], [], [], [8, 9], [0, 1, 2, 3, 4, 5, 6, 7, 8, 9, 10], [0, 1, 2, 3, 4, 5, 6, 7, 8, 9, 10, 11]]
def cuneiformlaw04_CrcSums.d1 : List AOper := [⟨(some 51), .call (.const (.fn F.cuneiformlaw04_known [] [])) [], none⟩,
    ⟨(some 52), .mov (.tmp 51), none⟩,
    ⟨(some 53), .mov (.tmp 7), some (52, true)⟩,
    ⟨(some 54), .mov (.tmp 0), some (52, true)⟩,
    ⟨(some 55), .lit T.sl_uint8 1 1 [.nils] [(0, 1, (.tmp 54))], some (52, true)⟩,
    ⟨(some 56), .call (.const (.fn F.crc_Table_Sum [] [])) [(.tmp 53), (.tmp 55)], some (52, true)⟩,
    ⟨(some 57), .mov (.tmp 9), some (52, true)⟩,
    ⟨(some 58), .bin .eql (.tmp 56) (.tmp 57), some (52, true)⟩,
    ⟨(some 59), .pick (.tmp 52) (.tmp 58) (.const (.bool false)), none⟩,
    ⟨(some 60), .mov (.tmp 59), none⟩,
    ⟨(some 61), .mov (.tmp 0), some (60, true)⟩,
    ⟨(some 62), .call (.const (.fn F.crc_Slow [] [])) [(.tmp 61)], some (60, true)⟩,
    ⟨(some 63), .mov (.tmp 9), some (60, true)⟩,
    ⟨(some 64), .bin .eql (.tmp 62) (.tmp 63), some (60, true)⟩,
    ⟨(some 65), .pick (.tmp 60) (.tmp 64) (.const (.bool false)), none⟩,
    ⟨(some 66), .mov (.tmp 65), none⟩,
    ⟨(some 67), .mov (.tmp 7), some (66, true)⟩,
    ⟨(some 68), .mov (.tmp 0), some (66, true)⟩,
    ⟨(some 69), .mov (.tmp 8), some (66, true)⟩,
    ⟨(some 70), .slice 1 .slice (.tmp 68) none (some (.tmp 69)) none, some (66, true)⟩,
    ⟨(some 71), .mov (.tmp 0), some (66, true)⟩,
    ⟨(some 72), .mov (.tmp 8), some (66, true)⟩,
    ⟨(some 73), .slice 1 .slice (.tmp 71) (some (.tmp 72)) none none, some (66, true)⟩,
    ⟨(some 74), .lit T.sl_uint8 1 3 [.nils, .nils, .nils] [(0, 1, (.tmp 70)), (1, 1, (.const .nils)), (2, 1, (.tmp 73))], some (66, true)⟩,
    ⟨(some 75), .call (.const (.fn F.crc_Table_Sum [] [])) [(.tmp 67), (.tmp 74)], some (66, true)⟩,
    ⟨(some 76), .mov (.tmp 9), some (66, true)⟩,
    ⟨(some 77), .bin .eql (.tmp 75) (.tmp 76), some (66, true)⟩,
    ⟨(some 78), .pick (.tmp 66) (.tmp 77) (.const (.bool false)), none⟩,
    ⟨(some 79), .mov (.tmp 78), none⟩,
    ⟨(some 80), .mov (.tmp 7), some (79, true)⟩,
    ⟨(some 81), .mov (.tmp 11), some (79, true)⟩,
    ⟨(some 82), .call (.const (.fn F.crc_Table_End [] [])) [(.tmp 80), (.tmp 81)], some (79, true)⟩,
    ⟨(some 83), .mov (.tmp 9), some (79, true)⟩,
    ⟨(some 84), .bin .eql (.tmp 82) (.tmp 83), some (79, true)⟩,
    ⟨(some 85), .pick (.tmp 79) (.tmp 84) (.const (.bool false)), none⟩,
    ⟨(some 86), .mov (.tmp 85), none⟩,
    ⟨(some 87), .mov (.tmp 7), some (86, true)⟩,
    ⟨(some 88), .mov (.tmp 2), some (86, true)⟩,
    ⟨(some 89), .call (.const (.fn F.crc_Table_Entry [] [])) [(.tmp 87), (.tmp 88)], some (86, true)⟩,
    ⟨(some 90), .mov (.tmp 10), some (86, true)⟩,
    ⟨(some 91), .bin .eql (.tmp 89) (.tmp 90), some (86, true)⟩,
    ⟨(some 92), .pick (.tmp 86) (.tmp 91) (.const (.bool false)), none⟩,
    ⟨(some 6), .mov (.tmp 92), none⟩]
def cuneiformlaw04_CrcSums.d1b : List (List Nat) := [[], [0], [0, 1], [0, 1], [0, 1, 3], [0, 1, 2, 3, 4], [0, 1], [0, 1, 2, 3, 4, 5, 6], [0, 1, 2, 3, 4, 5, 6, 7], [0, 1, 2, 3, 4, 5, 6, 7, 8], [0, 1, 2, 3, 4, 5, 6, 7, 8, 9], [0, 1, 2, 3, 4, 5, 6, 7, 8, 9, 10], [0, 1, 2, 3, 4, 5, 6, 7, 8, 9], [0, 1, 2, 3, 4, 5, 6, 7, 8, 9, 10, 11, 12], [0, 1, 2, 3, 4, 5, 6, 7, 8, 9, 10, 11, 12, 13], [0, 1, 2, 3, 4, 5, 6, 7, 8, 9, 10, 11, 12, 13, 14], [0, 1, 2, 3, 4, 5, 6, 7, 8, 9, 10, 11, 12, 13, 14, 15], [0, 1, 2, 3, 4, 5, 6, 7, 8, 9, 10, 11, 12, 13, 14, 15], [0, 1, 2, 3, 4, 5, 6, 7, 8, 9, 10, 11, 12, 13, 14, 15], [0, 1, 2, 3, 4, 5, 6, 7, 8, 9, 10, 11, 12, 13, 14, 15, 17, 18], [0, 1, 2, 3, 4, 5, 6, 7, 8, 9, 10, 11, 12, 13, 14, 15], [0, 1, 2, 3, 4, 5, 6, 7, 8, 9, 10, 11, 12, 13, 14, 15], [0, 1, 2, 3, 4, 5, 6, 7, 8, 9, 10, 11, 12, 13, 14, 15, 20, 21], [0, 1, 2, 3, 4, 5, 6, 7, 8, 9, 10, 11, 12, 13, 14, 15, 17, 18, 19, 20, 21, 22], [0, 1, 2, 3, 4, 5, 6, 7, 8, 9, 10, 11, 12, 13, 14, 15, 16, 17, 18, 19, 20, 21, 22, 23], [0, 1, 2, 3, 4, 5, 6, 7, 8, 9, 10, 11, 12, 13, 14, 15], [0, 1, 2, 3, 4, 5, 6, 7, 8, 9, 10, 11, 12, 13, 14, 15, 16, 17, 18, 19, 20, 21, 22, 23, 24, 25], [0, 1, 2, 3, 4, 5, 6, 7, 8, 9, 10, 11, 12, 13, 14, 15, 16, 17, 18, 19, 20, 21, 22, 23, 24, 25, 26], [0, 1, 2, 3, 4, 5, 6, 7, 8, 9, 10, 11, 12, 13, 14, 15, 16, 17, 18, 19, 20, 21, 22, 23, 24, 25, 26, 27], [0, 1, 2, 3, 4, 5, 6, 7, 8, 9, 10, 11, 12, 13, 14, 15, 16, 17, 18, 19, 20, 21, 22, 23, 24, 25, 26, 27, 28], [0, 1, 2, 3, 4, 5, 6, 7, 8, 9, 10, 11, 12, 13, 14, 15, 16, 17, 18, 19, 20, 21, 22, 23, 24, 25, 26, 27, 28], [0, 1, 2, 3, 4, 5, 6, 7, 8, 9, 10, 11, 12, 13, 14, 15, 16, 17, 18, 19, 20, 21, 22, 23, 24, 25, 26, 27, 28, 29, 30], [0, 1, 2, 3, 4, 5, 6, 7, 8, 9, 10, 11, 12, 13, 14, 15, 16, 17, 18, 19, 20, 21, 22, 23, 24, 25, 26, 27, 28], [0, 1, 2, 3, 4, 5, 6, 7, 8, 9, 10, 11, 12, 13, 14, 15, 16, 17, 18, 19, 20, 21, 22, 23, 24, 25, 26, 27, 28, 29, 30, 31, 32], [0, 1, 2, 3, 4, 5, 6, 7, 8, 9, 10, 11, 12, 13, 14, 15, 16, 17, 18, 19, 20, 21, 22, 23, 24, 25, 26, 27, 28, 29, 30, 31, 32, 33], [0, 1, 2, 3, 4, 5, 6, 7, 8, 9, 10, 11, 12, 13, 14, 15, 16, 17, 18, 19, 20, 21, 22, 23, 24, 25, 26, 27, 28, 29, 30, 31, 32, 33, 34], [0, 1, 2, 3, 4, 5, 6, 7, 8, 9, 10, 11, 12, 13, 14, 15, 16, 17, 18, 19, 20, 21, 22, 23, 24, 25, 26, 27, 28, 29, 30, 31, 32, 33, 34, 35], [0, 1, 2, 3, 4, 5, 6, 7, 8, 9, 10, 11, 12, 13, 14, 15, 16, 17, 18, 19, 20, 21, 22, 23, 24, 25, 26, 27, 28, 29, 30, 31, 32, 33, 34, 35], [0, 1, 2, 3, 4, 5, 6, 7, 8, 9, 10, 11, 12, 13, 14, 15, 16, 17, 18, 19, 20, 21, 22, 23, 24, 25, 26, 27, 28, 29, 30, 31, 32, 33, 34, 35, 36, 37], [0, 1, 2, 3, 4, 5, 6, 7, 8, 9, 10, 11, 12, 13, 14, 15, 16, 17, 18, 19, 20, 21, 22, 23, 24, 25, 26, 27, 28, 29, 30, 31, 32, 33, 34, 35], [0, 1, 2, 3, 4, 5, 6, 7, 8, 9, 10, 11, 12, 13, 14, 15, 16, 17, 18, 19, 20, 21, 22, 23, 24, 25, 26, 27, 28, 29, 30, 31, 32, 33, 34, 35, 36, 37, 38, 39], [0, 1, 2, 3, 4, 5, 6, 7, 8, 9, 10, 11, 12, 13, 14, 15, 16, 17, 18, 19, 20, 21, 22, 23, 24, 25, 26, 27, 28, 29, 30, 31, 32, 33, 34, 35, 36, 37, 38, 39, 40], [0, 1, 2, 3, 4, 5, 6, 7, 8, 9, 10, 11, 12, 13, 14, 15, 16, 17, 18, 19, 20, 21, 22, 23, 24, 25, 26, 27, 28, 29, 30, 31, 32, 33, 34, 35, 36, 37, 38, 39, 40, 41]]
def cuneiformlaw04_CrcSums.body : ACode := .seq (.region [⟨(some 6), .mov (.const (.bool false)), none⟩] [0, 1, 2])
  (.seq (.region [⟨(some 12), .mov (.tmp 0), none⟩,
    ⟨(some 13), .mov (.tmp 0), none⟩,
    ⟨(some 14), .len .slice (.tmp 13), none⟩,
    ⟨(some 15), .maxmin false (.tmp 14) (.const (.int .i64 200)), none⟩,
    ⟨(some 16), .slice 1 .slice (.tmp 12) none (some (.tmp 15)) none, none⟩,
    ⟨(some 0), .mov (.tmp 16), none⟩] [0, 1, 2])
  (.seq (.region [⟨(some 17), .call (.const (.fn F.crc_New [] [])) [], none⟩,
    ⟨(some 7), .mov (.tmp 17), none⟩] [0, 1, 2, 7])
  (.seq (.region [⟨(some 18), .mov (.tmp 1), none⟩,
    ⟨(some 19), .conv .u64 (.tmp 18), none⟩,
    ⟨(some 20), .mov (.tmp 0), none⟩,
    ⟨(some 21), .len .slice (.tmp 20), none⟩,
    ⟨(some 22), .bin .add (.tmp 21) (.const (.int .i64 1)), none⟩,
    ⟨(some 23), .conv .u64 (.tmp 22), none⟩,
    ⟨(some 24), .bin .rem (.tmp 19) (.tmp 23), none⟩,
    ⟨(some 25), .conv .i64 (.tmp 24), none⟩,
    ⟨(some 8), .mov (.tmp 25), none⟩] [0, 2, 7, 8])
  (.seq (.region [⟨(some 26), .mov (.tmp 0), none⟩,
    ⟨(some 27), .call (.const (.fn F.cuneiformref04_Sum [] [])) [(.tmp 26)], none⟩,
    ⟨(some 9), .mov (.tmp 27), none⟩] [0, 2, 7, 8, 9])
  (.seq (.region [⟨(some 10), .mov (.const (.int .u32 0)), none⟩] [0, 2, 7, 8, 9, 10])
  (.seq (.seq (.region [⟨(some 28), .mov (.tmp 2), none⟩,
    ⟨(some 29), .bin .geq (.tmp 28) (.const (.int .i64 0)), none⟩,
    ⟨(some 30), .mov (.tmp 29), none⟩,
    ⟨(some 31), .mov (.tmp 2), some (30, true)⟩,
    ⟨(some 32), .bin .lss (.tmp 31) (.const (.int .i64 256)), some (30, true)⟩,
    ⟨(some 33), .pick (.tmp 30) (.tmp 32) (.const (.bool false)), none⟩] [0, 2, 7, 8, 9, 10, 33])
  (.cond (.tmp 33) (.region [⟨(some 34), .mov (.tmp 2), none⟩,
    ⟨(some 35), .conv .u32 (.tmp 34), none⟩,
    ⟨(some 36), .call (.const (.fn F.cuneiformref04_Of [] [])) [(.tmp 35)], none⟩,
    ⟨(some 37), .call (.const (.fn F.cuneiformref04_Shift [] [])) [(.tmp 36)], none⟩,
    ⟨(some 38), .call (.const (.fn F.cuneiformref04_Word [] [])) [(.tmp 37)], none⟩,
    ⟨(some 10), .mov (.tmp 38), none⟩] [0, 2, 7, 8, 9, 10]) (.skip)))
  (.seq (.draw cuneiformlaw04_CrcSums.d0 cuneiformlaw04_CrcSums.d0b [[0, 1, 2, 4, 5, 6, 8, 9, 10, 3, 7, 11, 12]] [] [0, 2, 7, 8, 9, 10, 11])
  (.seq (.draw cuneiformlaw04_CrcSums.d1 cuneiformlaw04_CrcSums.d1b [[0, 1, 2, 3, 6, 4, 5, 7, 8, 9, 10, 12, 11, 13, 14, 15, 16, 17, 18, 19, 20, 21, 22, 25, 23, 24, 26, 27, 28, 29, 30, 32, 31, 33, 34, 35, 36, 37, 39, 38, 40, 41, 42]] [] [6])
  (.ret)))))))))
def cuneiformlaw04_CrcSums : AFun := ⟨93, 3, [.tmp 6], cuneiformlaw04_CrcSums.body⟩
def cuneiformlaw04_CrcXors.d0 : List AOper := [⟨(some 24), .mov (.tmp 9), none⟩,
    ⟨(some 25), .mov (.tmp 0), none⟩,
    ⟨(some 26), .mov (.tmp 10), none⟩,
    ⟨(some 27), .idx 1 none (.tmp 25) (.tmp 26), none⟩,
    ⟨(some 28), .load none (.tmp 27), none⟩,
    ⟨(some 29), .mov (.tmp 1), none⟩,
    ⟨(some 30), .mov (.tmp 10), none⟩,
    ⟨(some 31), .idx 1 none (.tmp 29) (.tmp 30), none⟩,
    ⟨(some 32), .load none (.tmp 31), none⟩,
    ⟨(some 33), .bin .xor (.tmp 28) (.tmp 32), none⟩,
    ⟨(some 34), .mov (.tmp 2), none⟩,
    ⟨(some 35), .mov (.tmp 10), none⟩,
    ⟨(some 36), .idx 1 none (.tmp 34) (.tmp 35), none⟩,
    ⟨(some 37), .load none (.tmp 36), none⟩,
    ⟨(some 38), .bin .xor (.tmp 33) (.tmp 37), none⟩,
    ⟨(some 39), .lit T.uint8 1 1 [(.int .u8 0)] [(0, 1, (.tmp 38))], none⟩,
    ⟨(some 40), .append T.uint8 1 1 (.tmp 24) (.tmp 39), none⟩,
    ⟨(some 9), .mov (.tmp 40), none⟩]
def cuneiformlaw04_CrcXors.d0b : List (List Nat) := [[], [], [], [1, 2], [1, 2, 3], [], [], [5, 6], [5, 6, 7], [1, 2, 3, 4, 5, 6, 7, 8], [], [], [10, 11], [10, 11, 12], [1, 2, 3, 4, 5, 6, 7, 8, 9, 10, 11, 12, 13], [1, 2, 3, 4, 5, 6, 7, 8, 9, 10, 11, 12, 13, 14], [0, 1, 2, 3, 4, 5, 6, 7, 8, 9, 10, 11, 12, 13, 14, 15], [0, 1, 2, 3, 4, 5, 6, 7, 8, 9, 10, 11, 12, 13, 14, 15, 16]]
def cuneiformlaw04_CrcXors.b1 : ACode := .seq (.seq (.region [⟨(some 19), .mov (.tmp 10), none⟩,
    ⟨(some 20), .mov (.tmp 7), none⟩,
    ⟨(some 21), .bin .lss (.tmp 19) (.tmp 20), none⟩] [0, 1, 2, 7, 8, 9, 10, 21])
  (.cond (.tmp 21) (.skip) (.exit 0)))
  (.seq (.block 1 (.draw cuneiformlaw04_CrcXors.d0 cuneiformlaw04_CrcXors.d0b [[0, 1, 2, 3, 4, 5, 6, 7, 8, 9, 10, 11, 12, 13, 14, 15, 16, 17]] [] [0, 1, 2, 7, 8, 9, 10]))
  (.region [⟨(some 22), .mov (.tmp 10), none⟩,
    ⟨(some 23), .bin .add (.tmp 22) (.const (.int .i64 1)), none⟩,
    ⟨(some 10), .mov (.tmp 23), none⟩] [0, 1, 2, 7, 8, 9, 10]))
def cuneiformlaw04_CrcXors.d2 : List AOper := [⟨(some 41), .call (.const (.fn F.cuneiformlaw04_known [] [])) [], none⟩,
    ⟨(some 42), .mov (.tmp 41), none⟩,
    ⟨(some 43), .mov (.tmp 8), some (42, true)⟩,
    ⟨(some 44), .mov (.tmp 9), some (42, true)⟩,
    ⟨(some 45), .lit T.sl_uint8 1 1 [.nils] [(0, 1, (.tmp 44))], some (42, true)⟩,
    ⟨(some 46), .call (.const (.fn F.crc_Table_Sum [] [])) [(.tmp 43), (.tmp 45)], some (42, true)⟩,
    ⟨(some 47), .mov (.tmp 8), some (42, true)⟩,
    ⟨(some 48), .mov (.tmp 0), some (42, true)⟩,
    ⟨(some 49), .mov (.tmp 7), some (42, true)⟩,
    ⟨(some 50), .slice 1 .slice (.tmp 48) none (some (.tmp 49)) none, some (42, true)⟩,
    ⟨(some 51), .lit T.sl_uint8 1 1 [.nils] [(0, 1, (.tmp 50))], some (42, true)⟩,
    ⟨(some 52), .call (.const (.fn F.crc_Table_Sum [] [])) [(.tmp 47), (.tmp 51)], some (42, true)⟩,
    ⟨(some 53), .mov (.tmp 8), some (42, true)⟩,
    ⟨(some 54), .mov (.tmp 1), some (42, true)⟩,
    ⟨(some 55), .mov (.tmp 7), some (42, true)⟩,
    ⟨(some 56), .slice 1 .slice (.tmp 54) none (some (.tmp 55)) none, some (42, true)⟩,
    ⟨(some 57), .lit T.sl_uint8 1 1 [.nils] [(0, 1, (.tmp 56))], some (42, true)⟩,
    ⟨(some 58), .call (.const (.fn F.crc_Table_Sum [] [])) [(.tmp 53), (.tmp 57)], some (42, true)⟩,
    ⟨(some 59), .bin .xor (.tmp 52) (.tmp 58), some (42, true)⟩,
    ⟨(some 60), .mov (.tmp 8), some (42, true)⟩,
    ⟨(some 61), .mov (.tmp 2), some (42, true)⟩,
    ⟨(some 62), .mov (.tmp 7), some (42, true)⟩,
    ⟨(some 63), .slice 1 .slice (.tmp 61) none (some (.tmp 62)) none, some (42, true)⟩,
    ⟨(some 64), .lit T.sl_uint8 1 1 [.nils] [(0, 1, (.tmp 63))], some (42, true)⟩,
    ⟨(some 65), .call (.const (.fn F.crc_Table_Sum [] [])) [(.tmp 60), (.tmp 64)], some (42, true)⟩,
    ⟨(some 66), .bin .xor (.tmp 59) (.tmp 65), some (42, true)⟩,
    ⟨(some 67), .bin .eql (.tmp 46) (.tmp 66), some (42, true)⟩,
    ⟨(some 68), .pick (.tmp 42) (.tmp 67) (.const (.bool false)), none⟩,
    ⟨(some 6), .mov (.tmp 68), none⟩]
def cuneiformlaw04_CrcXors.d2b : List (List Nat) := [[], [0], [0, 1], [0, 1], [0, 1, 3], [0, 1, 2, 3, 4], [0, 1], [0, 1], [0, 1], [0, 1, 7, 8], [0, 1, 7, 8, 9], [0, 1, 2, 3, 4, 5, 6, 7, 8, 9, 10], [0, 1], [0, 1], [0, 1], [0, 1, 13, 14], [0, 1, 13, 14, 15], [0, 1, 2, 3, 4, 5, 6, 7, 8, 9, 10, 11, 12, 13, 14, 15, 16], [0, 1, 2, 3, 4, 5, 6, 7, 8, 9, 10, 11, 12, 13, 14, 15, 16, 17], [0, 1], [0, 1], [0, 1], [0, 1, 20, 21], [0, 1, 20, 21, 22], [0, 1, 2, 3, 4, 5, 6, 7, 8, 9, 10, 11, 12, 13, 14, 15, 16, 17, 19, 20, 21, 22, 23], [0, 1, 2, 3, 4, 5, 6, 7, 8, 9, 10, 11, 12, 13, 14, 15, 16, 17, 18, 19, 20, 21, 22, 23, 24], [0, 1, 2, 3, 4, 5, 6, 7, 8, 9, 10, 11, 12, 13, 14, 15, 16, 17, 18, 19, 20, 21, 22, 23, 24, 25], [0, 1, 2, 3, 4, 5, 6, 7, 8, 9, 10, 11, 12, 13, 14, 15, 16, 17, 18, 19, 20, 21, 22, 23, 24, 25, 26], [0, 1, 2, 3, 4, 5, 6, 7, 8, 9, 10, 11, 12, 13, 14, 15, 16, 17, 18, 19, 20, 21, 22, 23, 24, 25, 26, 27]]
def cuneiformlaw04_CrcXors.body : ACode := .seq (.region [⟨(some 6), .mov (.const (.bool false)), none⟩] [0, 1, 2])
  (.seq (.region [⟨(some 11), .mov (.tmp 0), none⟩,
    ⟨(some 12), .len .slice (.tmp 11), none⟩,
    ⟨(some 13), .mov (.tmp 1), none⟩,
    ⟨(some 14), .len .slice (.tmp 13), none⟩,
    ⟨(some 15), .mov (.tmp 2), none⟩,
    ⟨(some 16), .len .slice (.tmp 15), none⟩,
    ⟨(some 17), .minN [(.tmp 12), (.tmp 14), (.tmp 16), (.const (.int .i64 100))], none⟩,
    ⟨(some 7), .mov (.tmp 17), none⟩] [0, 1, 2, 7])
  (.seq (.region [⟨(some 18), .call (.const (.fn F.crc_New [] [])) [], none⟩,
    ⟨(some 8), .mov (.tmp 18), none⟩] [0, 1, 2, 7, 8])
  (.seq (.region [⟨(some 9), .mov (.const .nils), none⟩] [0, 1, 2, 7, 8, 9])
  (.seq (.seq (.region [⟨(some 10), .mov (.const (.int .i64 0)), none⟩] [0, 1, 2, 7, 8, 9, 10])
  (.block 0 (.loop cuneiformlaw04_CrcXors.b1)))
  (.seq (.draw cuneiformlaw04_CrcXors.d2 cuneiformlaw04_CrcXors.d2b [[0, 1, 2, 3, 6, 7, 8, 9, 12, 13, 14, 15, 19, 20, 21, 22, 4, 5, 10, 11, 16, 17, 18, 23, 24, 25, 26, 27, 28], [0, 1, 2, 3, 6, 7, 8, 9, 12, 13, 14, 15, 19, 20, 21, 22, 4, 5, 10, 11, 16, 23, 17, 18, 24, 25, 26, 27, 28], [0, 1, 2, 3, 6, 7, 8, 9, 12, 13, 14, 15, 19, 20, 21, 22, 4, 5, 10, 11, 23, 16, 17, 18, 24, 25, 26, 27, 28], [0, 1, 2, 3, 6, 7, 8, 9, 12, 13, 14, 15, 19, 20, 21, 22, 4, 5, 10, 16, 11, 17, 18, 23, 24, 25, 26, 27, 28], [0, 1, 2, 3, 6, 7, 8, 9, 12, 13, 14, 15, 19, 20, 21, 22, 4, 5, 10, 16, 11, 23, 17, 18, 24, 25, 26, 27, 28], [0, 1, 2, 3, 6, 7, 8, 9, 12, 13, 14, 15, 19, 20, 21, 22, 4, 5, 10, 16, 23, 11, 17, 18, 24, 25, 26, 27, 28], [0, 1, 2, 3, 6, 7, 8, 9, 12, 13, 14, 15, 19, 20, 21, 22, 4, 5, 10, 23, 11, 16, 17, 18, 24, 25, 26, 27, 28], [0, 1, 2, 3, 6, 7, 8, 9, 12, 13, 14, 15, 19, 20, 21, 22, 4, 5, 10, 23, 16, 11, 17, 18, 24, 25, 26, 27, 28], [0, 1, 2, 3, 6, 7, 8, 9, 12, 13, 14, 15, 19, 20, 21, 22, 4, 5, 16, 10, 11, 17, 18, 23, 24, 25, 26, 27, 28], [0, 1, 2, 3, 6, 7, 8, 9, 12, 13, 14, 15, 19, 20, 21, 22, 4, 5, 16, 10, 11, 23, 17, 18, 24, 25, 26, 27, 28], [0, 1, 2, 3, 6, 7, 8, 9, 12, 13, 14, 15, 19, 20, 21, 22, 4, 5, 16, 10, 23, 11, 17, 18, 24, 25, 26, 27, 28], [0, 1, 2, 3, 6, 7, 8, 9, 12, 13, 14, 15, 19, 20, 21, 22, 4, 5, 16, 23, 10, 11, 17, 18, 24, 25, 26, 27, 28], [0, 1, 2, 3, 6, 7, 8, 9, 12, 13, 14, 15, 19, 20, 21, 22, 4, 5, 23, 10, 11, 16, 17, 18, 24, 25, 26, 27, 28], [0, 1, 2, 3, 6, 7, 8, 9, 12, 13, 14, 15, 19, 20, 21, 22, 4, 5, 23, 10, 16, 11, 17, 18, 24, 25, 26, 27, 28], [0, 1, 2, 3, 6, 7, 8, 9, 12, 13, 14, 15, 19, 20, 21, 22, 4, 5, 23, 16, 10, 11, 17, 18, 24, 25, 26, 27, 28], [0, 1, 2, 3, 6, 7, 8, 9, 12, 13, 14, 15, 19, 20, 21, 22, 4, 10, 5, 11, 16, 17, 18, 23, 24, 25, 26, 27, 28], [0, 1, 2, 3, 6, 7, 8, 9, 12, 13, 14, 15, 19, 20, 21, 22, 4, 10, 5, 11, 16, 23, 17, 18, 24, 25, 26, 27, 28], [0, 1, 2, 3, 6, 7, 8, 9, 12, 13, 14, 15, 19, 20, 21, 22, 4, 10, 5, 11, 23, 16, 17, 18, 24, 25, 26, 27, 28], [0, 1, 2, 3, 6, 7, 8, 9, 12, 13, 14, 15, 19, 20, 21, 22, 4, 10, 5, 16, 11, 17, 18, 23, 24, 25, 26, 27, 28], [0, 1, 2, 3, 6, 7, 8, 9, 12, 13, 14, 15, 19, 20, 21, 22, 4, 10, 5, 16, 11, 23, 17, 18, 24, 25, 26, 27, 28], [0, 1, 2, 3, 6, 7, 8, 9, 12, 13, 14, 15, 19, 20, 21, 22, 4, 10, 5, 16, 23, 11, 17, 18, 24, 25, 26, 27, 28], [0, 1, 2, 3, 6, 7, 8, 9, 12, 13, 14, 15, 19, 20, 21, 22, 4, 10, 5, 23, 11, 16, 17, 18, 24, 25, 26, 27, 28], [0, 1, 2, 3, 6, 7, 8, 9, 12, 13, 14, 15, 19, 20, 21, 22, 4, 10, 5, 23, 16, 11, 17, 18, 24, 25, 26, 27, 28], [0, 1, 2, 3, 6, 7, 8, 9, 12, 13, 14, 15, 19, 20, 21, 22, 4, 10, 16, 5, 11, 17, 18, 23, 24, 25, 26, 27, 28], [0, 1, 2, 3, 6, 7, 8, 9, 12, 13, 14, 15, 19, 20, 21, 22, 4, 10, 16, 5, 11, 23, 17, 18, 24, 25, 26, 27, 28], [0, 1, 2, 3, 6, 7, 8, 9, 12, 13, 14, 15, 19, 20, 21, 22, 4, 10, 16, 5, 23, 11, 17, 18, 24, 25, 26, 27, 28], [0, 1, 2, 3, 6, 7, 8, 9, 12, 13, 14, 15, 19, 20, 21, 22, 4, 10, 16, 23, 5, 11, 17, 18, 24, 25, 26, 27, 28], [0, 1, 2, 3, 6, 7, 8, 9, 12, 13, 14, 15, 19, 20, 21, 22, 4, 10, 23, 5, 11, 16, 17, 18, 24, 25, 26, 27, 28], [0, 1, 2, 3, 6, 7, 8, 9, 12, 13, 14, 15, 19, 20, 21, 22, 4, 10, 23, 5, 16, 11, 17, 18, 24, 25, 26, 27, 28], [0, 1, 2, 3, 6, 7, 8, 9, 12, 13, 14, 15, 19, 20, 21, 22, 4, 10, 23, 16, 5, 11, 17, 18, 24, 25, 26, 27, 28], [0, 1, 2, 3, 6, 7, 8, 9, 12, 13, 14, 15, 19, 20, 21, 22, 4, 16, 5, 10, 11, 17, 18, 23, 24, 25, 26, 27, 28], [0, 1, 2, 3, 6, 7, 8, 9, 12, 13, 14, 15, 19, 20, 21, 22, 4, 16, 5, 10, 11, 23, 17, 18, 24, 25, 26, 27, 28], [0, 1, 2, 3, 6, 7, 8, 9, 12, 13, 14, 15, 19, 20, 21, 22, 4, 16, 5, 10, 23, 11, 17, 18, 24, 25, 26, 27, 28], [0, 1, 2, 3, 6, 7, 8, 9, 12, 13, 14, 15, 19, 20, 21, 22, 4, 16, 5, 23, 10, 11, 17, 18, 24, 25, 26, 27, 28], [0, 1, 2, 3, 6, 7, 8, 9, 12, 13, 14, 15, 19, 20, 21, 22, 4, 16, 10, 5, 11, 17, 18, 23, 24, 25, 26, 27, 28], [0, 1, 2, 3, 6, 7, 8, 9, 12, 13, 14, 15, 19, 20, 21, 22, 4, 16, 10, 5, 11, 23, 17, 18, 24, 25, 26, 27, 28], [0, 1, 2, 3, 6, 7, 8, 9, 12, 13, 14, 15, 19, 20, 21, 22, 4, 16, 10, 5, 23, 11, 17, 18, 24, 25, 26, 27, 28], [0, 1, 2, 3, 6, 7, 8, 9, 12, 13, 14, 15, 19, 20, 21, 22, 4, 16, 10, 23, 5, 11, 17, 18, 24, 25, 26, 27, 28], [0, 1, 2, 3, 6, 7, 8, 9, 12, 13, 14, 15, 19, 20, 21, 22, 4, 16, 23, 5, 10, 11, 17, 18, 24, 25, 26, 27, 28], [0, 1, 2, 3, 6, 7, 8, 9, 12, 13, 14, 15, 19, 20, 21, 22, 4, 16, 23, 10, 5, 11, 17, 18, 24, 25, 26, 27, 28], [0, 1, 2, 3, 6, 7, 8, 9, 12, 13, 14, 15, 19, 20, 21, 22, 4, 23, 5, 10, 11, 16, 17, 18, 24, 25, 26, 27, 28], [0, 1, 2, 3, 6, 7, 8, 9, 12, 13, 14, 15, 19, 20, 21, 22, 4, 23, 5, 10, 16, 11, 17, 18, 24, 25, 26, 27, 28], [0, 1, 2, 3, 6, 7, 8, 9, 12, 13, 14, 15, 19, 20, 21, 22, 4, 23, 5, 16, 10, 11, 17, 18, 24, 25, 26, 27, 28], [0, 1, 2, 3, 6, 7, 8, 9, 12, 13, 14, 15, 19, 20, 21, 22, 4, 23, 10, 5, 11, 16, 17, 18, 24, 25, 26, 27, 28], [0, 1, 2, 3, 6, 7, 8, 9, 12, 13, 14, 15, 19, 20, 21, 22, 4, 23, 10, 5, 16, 11, 17, 18, 24, 25, 26, 27, 28], [0, 1, 2, 3, 6, 7, 8, 9, 12, 13, 14, 15, 19, 20, 21, 22, 4, 23, 10, 16, 5, 11, 17, 18, 24, 25, 26, 27, 28], [0, 1, 2, 3, 6, 7, 8, 9, 12, 13, 14, 15, 19, 20, 21, 22, 4, 23, 16, 5, 10, 11, 17, 18, 24, 25, 26, 27, 28], [0, 1, 2, 3, 6, 7, 8, 9, 12, 13, 14, 15, 19, 20, 21, 22, 4, 23, 16, 10, 5, 11, 17, 18, 24, 25, 26, 27, 28], [0, 1, 2, 3, 6, 7, 8, 9, 12, 13, 14, 15, 19, 20, 21, 22, 10, 4, 5, 11, 16, 17, 18, 23, 24, 25, 26, 27, 28], [0, 1, 2, 3, 6, 7, 8, 9, 12, 13, 14, 15, 19, 20, 21, 22, 10, 4, 5, 11, 16, 23, 17, 18, 24, 25, 26, 27, 28], [0, 1, 2, 3, 6, 7, 8, 9, 12, 13, 14, 15, 19, 20, 21, 22, 10, 4, 5, 11, 23, 16, 17, 18, 24, 25, 26, 27, 28], [0, 1, 2, 3, 6, 7, 8, 9, 12, 13, 14, 15, 19, 20, 21, 22, 10, 4, 5, 16, 11, 17, 18, 23, 24, 25, 26, 27, 28], [0, 1, 2, 3, 6, 7, 8, 9, 12, 13, 14, 15, 19, 20, 21, 22, 10, 4, 5, 16, 11, 23, 17, 18, 24, 25, 26, 27, 28], [0, 1, 2, 3, 6, 7, 8, 9, 12, 13, 14, 15, 19, 20, 21, 22, 10, 4, 5, 16, 23, 11, 17, 18, 24, 25, 26, 27, 28], [0, 1, 2, 3, 6, 7, 8, 9, 12, 13, 14, 15, 19, 20, 21, 22, 10, 4, 5, 23, 11, 16, 17, 18, 24, 25, 26, 27, 28], [0, 1, 2, 3, 6, 7, 8, 9, 12, 13, 14, 15, 19, 20, 21, 22, 10, 4, 5, 23, 16, 11, 17, 18, 24, 25, 26, 27, 28], [0, 1, 2, 3, 6, 7, 8, 9, 12, 13, 14, 15, 19, 20, 21, 22, 10, 4, 16, 5, 11, 17, 18, 23, 24, 25, 26, 27, 28], [0, 1, 2, 3, 6, 7, 8, 9, 12, 13, 14, 15, 19, 20, 21, 22, 10, 4, 16, 5, 11, 23, 17, 18, 24, 25, 26, 27, 28], [0, 1, 2, 3, 6, 7, 8, 9, 12, 13, 14, 15, 19, 20, 21, 22, 10, 4, 16, 5, 23, 11, 17, 18, 24, 25, 26, 27, 28], [0, 1, 2, 3, 6, 7, 8, 9, 12, 13, 14, 15, 19, 20, 21, 22, 10, 4, 16, 23, 5, 11, 17, 18, 24, 25, 26, 27, 28], [0, 1, 2, 3, 6, 7, 8, 9, 12, 13, 14, 15, 19, 20, 21, 22, 10, 4, 23, 5, 11, 16, 17, 18, 24, 25, 26, 27, 28], [0, 1, 2, 3, 6, 7, 8, 9, 12, 13, 14, 15, 19, 20, 21, 22, 10, 4, 23, 5, 16, 11, 17, 18, 24, 25, 26, 27, 28], [0, 1, 2, 3, 6, 7, 8, 9, 12, 13, 14, 15, 19, 20, 21, 22, 10, 4, 23, 16, 5, 11, 17, 18, 24, 25, 26, 27, 28], [0, 1, 2, 3, 6, 7, 8, 9, 12, 13, 14, 15, 19, 20, 21, 22, 10, 16, 4, 5, 11, 17, 18, 23, 24, 25, 26, 27, 28], [0, 1, 2, 3, 6, 7, 8, 9, 12, 13, 14, 15, 19, 20, 21, 22, 10, 16, 4, 5, 11, 23, 17, 18, 24, 25, 26, 27, 28], [0, 1, 2, 3, 6, 7, 8, 9, 12, 13, 14, 15, 19, 20, 21, 22, 10, 16, 4, 5, 23, 11, 17, 18, 24, 25, 26, 27, 28], [0, 1, 2, 3, 6, 7, 8, 9, 12, 13, 14, 15, 19, 20, 21, 22, 10, 16, 4, 23, 5, 11, 17, 18, 24, 25, 26, 27, 28], [0, 1, 2, 3, 6, 7, 8, 9, 12, 13, 14, 15, 19, 20, 21, 22, 10, 16, 23, 4, 5, 11, 17, 18, 24, 25, 26, 27, 28], [0, 1, 2, 3, 6, 7, 8, 9, 12, 13, 14, 15, 19, 20, 21, 22, 10, 23, 4, 5, 11, 16, 17, 18, 24, 25, 26, 27, 28], [0, 1, 2, 3, 6, 7, 8, 9, 12, 13, 14, 15, 19, 20, 21, 22, 10, 23, 4, 5, 16, 11, 17, 18, 24, 25, 26, 27, 28], [0, 1, 2, 3, 6, 7, 8, 9, 12, 13, 14, 15, 19, 20, 21, 22, 10, 23, 4, 16, 5, 11, 17, 18, 24, 25, 26, 27, 28], [0, 1, 2, 3, 6, 7, 8, 9, 12, 13, 14, 15, 19, 20, 21, 22, 10, 23, 16, 4, 5, 11, 17, 18, 24, 25, 26, 27, 28], [0, 1, 2, 3, 6, 7, 8, 9, 12, 13, 14, 15, 19, 20, 21, 22, 16, 4, 5, 10, 11, 17, 18, 23, 24, 25, 26, 27, 28], [0, 1, 2, 3, 6, 7, 8, 9, 12, 13, 14, 15, 19, 20, 21, 22, 16, 4, 5, 10, 11, 23, 17, 18, 24, 25, 26, 27, 28], [0, 1, 2, 3, 6, 7, 8, 9, 12, 13, 14, 15, 19, 20, 21, 22, 16, 4, 5, 10, 23, 11, 17, 18, 24, 25, 26, 27, 28], [0, 1, 2, 3, 6, 7, 8, 9, 12, 13, 14, 15, 19, 20, 21, 22, 16, 4, 5, 23, 10, 11, 17, 18, 24, 25, 26, 27, 28], [0, 1, 2, 3, 6, 7, 8, 9, 12, 13, 14, 15, 19, 20, 21, 22, 16, 4, 10, 5, 11, 17, 18, 23, 24, 25, 26, 27, 28], [0, 1, 2, 3, 6, 7, 8, 9, 12, 13, 14, 15, 19, 20, 21, 22, 16, 4, 10, 5, 11, 23, 17, 18, 24, 25, 26, 27, 28], [0, 1, 2, 3, 6, 7, 8, 9, 12, 13, 14, 15, 19, 20, 21, 22, 16, 4, 10, 5, 23, 11, 17, 18, 24, 25, 26, 27, 28], [0, 1, 2, 3, 6, 7, 8, 9, 12, 13, 14, 15, 19, 20, 21, 22, 16, 4, 10, 23, 5, 11, 17, 18, 24, 25, 26, 27, 28], [0, 1, 2, 3, 6, 7, 8, 9, 12, 13, 14, 15, 19, 20, 21, 22, 16, 4, 23, 5, 10, 11, 17, 18, 24, 25, 26, 27, 28], [0, 1, 2, 3, 6, 7, 8, 9, 12, 13, 14, 15, 19, 20, 21, 22, 16, 4, 23, 10, 5, 11, 17, 18, 24, 25, 26, 27, 28], [0, 1, 2, 3, 6, 7, 8, 9, 12, 13, 14, 15, 19, 20, 21, 22, 16, 10, 4, 5, 11, 17, 18, 23, 24, 25, 26, 27, 28], [0, 1, 2, 3, 6, 7, 8, 9, 12, 13, 14, 15, 19, 20, 21, 22, 16, 10, 4, 5, 11, 23, 17, 18, 24, 25, 26, 27, 28], [0, 1, 2, 3, 6, 7, 8, 9, 12, 13, 14, 15, 19, 20, 21, 22, 16, 10, 4, 5, 23, 11, 17, 18, 24, 25, 26, 27, 28], [0, 1, 2, 3, 6, 7, 8, 9, 12, 13, 14, 15, 19, 20, 21, 22, 16, 10, 4, 23, 5, 11, 17, 18, 24, 25, 26, 27, 28], [0, 1, 2, 3, 6, 7, 8, 9, 12, 13, 14, 15, 19, 20, 21, 22, 16, 10, 23, 4, 5, 11, 17, 18, 24, 25, 26, 27, 28], [0, 1, 2, 3, 6, 7, 8, 9, 12, 13, 14, 15, 19, 20, 21, 22, 16, 23, 4, 5, 10, 11, 17, 18, 24, 25, 26, 27, 28], [0, 1, 2, 3, 6, 7, 8, 9, 12, 13, 14, 15, 19, 20, 21, 22, 16, 23, 4, 10, 5, 11, 17, 18, 24, 25, 26, 27, 28], [0, 1, 2, 3, 6, 7, 8, 9, 12, 13, 14, 15, 19, 20, 21, 22, 16, 23, 10, 4, 5, 11, 17, 18, 24, 25, 26, 27, 28], [0, 1, 2, 3, 6, 7, 8, 9, 12, 13, 14, 15, 19, 20, 21, 22, 23, 4, 5, 10, 11, 16, 17, 18, 24, 25, 26, 27, 28], [0, 1, 2, 3, 6, 7, 8, 9, 12, 13, 14, 15, 19, 20, 21, 22, 23, 4, 5, 10, 16, 11, 17, 18, 24, 25, 26, 27, 28], [0, 1, 2, 3, 6, 7, 8, 9, 12, 13, 14, 15, 19, 20, 21, 22, 23, 4, 5, 16, 10, 11, 17, 18, 24, 25, 26, 27, 28], [0, 1, 2, 3, 6, 7, 8, 9, 12, 13, 14, 15, 19, 20, 21, 22, 23, 4, 10, 5, 11, 16, 17, 18, 24, 25, 26, 27, 28], [0, 1, 2, 3, 6, 7, 8, 9, 12, 13, 14, 15, 19, 20, 21, 22, 23, 4, 10, 5, 16, 11, 17, 18, 24, 25, 26, 27, 28], [0, 1, 2, 3, 6, 7, 8, 9, 12, 13, 14, 15, 19, 20, 21, 22, 23, 4, 10, 16, 5, 11, 17, 18, 24, 25, 26, 27, 28], [0, 1, 2, 3, 6, 7, 8, 9, 12, 13, 14, 15, 19, 20, 21, 22, 23, 4, 16, 5, 10, 11, 17, 18, 24, 25, 26, 27, 28], [0, 1, 2, 3, 6, 7, 8, 9, 12, 13, 14, 15, 19, 20, 21, 22, 23, 4, 16, 10, 5, 11, 17, 18, 24, 25, 26, 27, 28], [0, 1, 2, 3, 6, 7, 8, 9, 12, 13, 14, 15, 19, 20, 21, 22, 23, 10, 4, 5, 11, 16, 17, 18, 24, 25, 26, 27, 28], [0, 1, 2, 3, 6, 7, 8, 9, 12, 13, 14, 15, 19, 20, 21, 22, 23, 10, 4, 5, 16, 11, 17, 18, 24, 25, 26, 27, 28], [0, 1, 2, 3, 6, 7, 8, 9, 12, 13, 14, 15, 19, 20, 21, 22, 23, 10, 4, 16, 5, 11, 17, 18, 24, 25, 26, 27, 28], [0, 1, 2, 3, 6, 7, 8, 9, 12, 13, 14, 15, 19, 20, 21, 22, 23, 10, 16, 4, 5, 11, 17, 18, 24, 25, 26, 27, 28], [0, 1, 2, 3, 6, 7, 8, 9, 12, 13, 14, 15, 19, 20, 21, 22, 23, 16, 4, 5, 10, 11, 17, 18, 24, 25, 26, 27, 28], [0, 1, 2, 3, 6, 7, 8, 9, 12, 13, 14, 15, 19, 20, 21, 22, 23, 16, 4, 10, 5, 11, 17, 18, 24, 25, 26, 27, 28], [0, 1, 2, 3, 6, 7, 8, 9, 12, 13, 14, 15, 19, 20, 21, 22, 23, 16, 10, 4, 5, 11, 17, 18, 24, 25, 26, 27, 28]] [] [6])
  (.ret))))))
def cuneiformlaw04_CrcXors : AFun := ⟨69, 3, [.tmp 6], cuneiformlaw04_CrcXors.body⟩
def cuneiformlaw04_CrcSeals.body : ACode := .seq (.region [⟨(some 2), .mov (.const (.bool false)), none⟩] [0])
  (.seq (.region [⟨(some 11), .mov (.tmp 0), none⟩,
    ⟨(some 12), .mov (.tmp 0), none⟩,
    ⟨(some 13), .len .slice (.tmp 12), none⟩,
    ⟨(some 14), .maxmin false (.tmp 13) (.const (.int .i64 200)), none⟩,
    ⟨(some 15), .slice 1 .slice (.tmp 11) none (some (.tmp 14)) none, none⟩,
    ⟨(some 0), .mov (.tmp 15), none⟩] [0])
  (.seq (.region [⟨(some 16), .call (.const (.fn F.crc_New [] [])) [], none⟩,
    ⟨(some 3), .mov (.tmp 16), none⟩] [0, 3])
  (.seq (.region [⟨(some 17), .mov (.tmp 3), none⟩,
    ⟨(some 18), .mov (.tmp 0), none⟩,
    ⟨(some 19), .call (.const (.fn F.crc_Seal [] [])) [(.tmp 17), (.tmp 18)], none⟩,
    ⟨(some 4), .mov (.tmp 19), none⟩] [0, 3, 4])
  (.seq (.seq (.region [⟨(some 20), .mov (.tmp 4), none⟩,
    ⟨(some 21), .lit T.uint8 1 0 [] [], none⟩,
    ⟨(some 22), .mov (.tmp 0), none⟩,
    ⟨(some 23), .append T.uint8 1 1 (.tmp 21) (.tmp 22), none⟩,
    ⟨(some 24), .mov (.tmp 0), none⟩,
    ⟨(some 25), .call (.const (.fn F.cuneiformref04_Sum [] [])) [(.tmp 24)], none⟩,
    ⟨(some 26), .call (.const (.fn F.cuneiformref04_Bytes [] [])) [(.tmp 25)], none⟩,
    ⟨(some 27), .append T.uint8 1 1 (.tmp 23) (.tmp 26), none⟩,
    ⟨(some 28), .call (.const (.fn F.cuneiformref01_Same [] [])) [(.tmp 20), (.tmp 27)], none⟩,
    ⟨(some 29), .un .not (.tmp 28), none⟩] [0, 3, 4, 29])
  (.cond (.tmp 29) (.seq (.region [⟨(some 2), .mov (.const (.bool false)), none⟩] [2])
  (.ret)) (.skip)))
  (.seq (.region [⟨(some 31), .mov (.tmp 3), none⟩,
    ⟨(some 32), .mov (.tmp 4), none⟩,
    ⟨(some 33), .call (.const (.fn F.crc_Open [] [])) [(.tmp 31), (.tmp 32)], none⟩,
    ⟨(some 30), .mov (.tmp 33), none⟩,
    ⟨(some 34), .extract (.tmp 30) 0, none⟩,
    ⟨(some 35), .extract (.tmp 30) 1, none⟩,
    ⟨(some 5), .mov (.tmp 34), none⟩,
    ⟨(some 6), .mov (.tmp 35), none⟩] [0, 3, 5, 6])
  (.seq (.region [⟨(some 37), .mov (.tmp 3), none⟩,
    ⟨(some 38), .mov (.tmp 0), none⟩,
    ⟨(some 39), .call (.const (.fn F.crc_Open [] [])) [(.tmp 37), (.tmp 38)], none⟩,
    ⟨(some 36), .mov (.tmp 39), none⟩,
    ⟨(some 40), .extract (.tmp 36) 0, none⟩,
    ⟨(some 41), .extract (.tmp 36) 1, none⟩,
    ⟨(some 7), .mov (.tmp 40), none⟩,
    ⟨(some 8), .mov (.tmp 41), none⟩] [0, 5, 6, 7, 8])
  (.seq (.region [⟨(some 43), .mov (.tmp 0), none⟩,
    ⟨(some 44), .call (.const (.fn F.cuneiformref04_Open [] [])) [(.tmp 43)], none⟩,
    ⟨(some 42), .mov (.tmp 44), none⟩,
    ⟨(some 45), .extract (.tmp 42) 0, none⟩,
    ⟨(some 46), .extract (.tmp 42) 1, none⟩,
    ⟨(some 9), .mov (.tmp 45), none⟩,
    ⟨(some 10), .mov (.tmp 46), none⟩] [0, 5, 6, 7, 8, 9, 10])
  (.seq (.region [⟨(some 47), .call (.const (.fn F.cuneiformlaw04_known [] [])) [], none⟩,
    ⟨(some 48), .mov (.tmp 47), none⟩,
    ⟨(some 49), .mov (.tmp 6), some (48, true)⟩,
    ⟨(some 50), .bin .eql (.tmp 49) (.const (.int .i64 0)), some (48, true)⟩,
    ⟨(some 51), .pick (.tmp 48) (.tmp 50) (.const (.bool false)), none⟩,
    ⟨(some 52), .mov (.tmp 51), none⟩,
    ⟨(some 53), .mov (.tmp 5), some (52, true)⟩,
    ⟨(some 54), .mov (.tmp 0), some (52, true)⟩,
    ⟨(some 55), .call (.const (.fn F.cuneiformref01_Same [] [])) [(.tmp 53), (.tmp 54)], some (52, true)⟩,
    ⟨(some 56), .pick (.tmp 52) (.tmp 55) (.const (.bool false)), none⟩,
    ⟨(some 57), .mov (.tmp 56), none⟩,
    ⟨(some 58), .mov (.tmp 8), some (57, true)⟩,
    ⟨(some 59), .mov (.tmp 10), some (57, true)⟩,
    ⟨(some 60), .bin .eql (.tmp 58) (.tmp 59), some (57, true)⟩,
    ⟨(some 61), .pick (.tmp 57) (.tmp 60) (.const (.bool false)), none⟩,
    ⟨(some 62), .mov (.tmp 61), none⟩,
    ⟨(some 63), .mov (.tmp 7), some (62, true)⟩,
    ⟨(some 64), .mov (.tmp 9), some (62, true)⟩,
    ⟨(some 65), .call (.const (.fn F.cuneiformref01_Same [] [])) [(.tmp 63), (.tmp 64)], some (62, true)⟩,
    ⟨(some 66), .pick (.tmp 62) (.tmp 65) (.const (.bool false)), none⟩,
    ⟨(some 2), .mov (.tmp 66), none⟩] [2])
  (.ret)))))))))
def cuneiformlaw04_CrcSeals : AFun := ⟨67, 1, [.tmp 2], cuneiformlaw04_CrcSeals.body⟩
def cuneiformlaw04_CrcTurns.d0 : List AOper := [⟨(some 57), .mov (.tmp 8), none⟩,
    ⟨(some 58), .mov (.tmp 11), none⟩,
    ⟨(some 59), .bin .quo (.tmp 58) (.const (.int .i64 8)), none⟩,
    ⟨(some 60), .mov (.tmp 8), none⟩,
    ⟨(some 61), .mov (.tmp 11), none⟩,
    ⟨(some 62), .bin .quo (.tmp 61) (.const (.int .i64 8)), none⟩,
    ⟨(some 63), .idx 1 none (.tmp 60) (.tmp 62), none⟩,
    ⟨(some 64), .load none (.tmp 63), none⟩,
    ⟨(some 65), .mov (.tmp 11), none⟩,
    ⟨(some 66), .bin .rem (.tmp 65) (.const (.int .i64 8)), none⟩,
    ⟨(some 67), .bin .shl (.const (.int .u8 1)) (.tmp 66), none⟩,
    ⟨(some 68), .bin .xor (.tmp 64) (.tmp 67), none⟩,
    ⟨(some 69), .idx 1 none (.tmp 57) (.tmp 59), none⟩,
    ⟨none, .store 1 (.tmp 69) (.tmp 68), none⟩]
def cuneiformlaw04_CrcTurns.d0b : List (List Nat) := [[], [], [1], [], [], [4], [3, 4, 5], [3, 4, 5, 6], [], [8], [8, 9], [3, 4, 5, 6, 7, 8, 9, 10], [0, 1, 2, 3, 4, 5, 6, 7, 8, 9, 10, 11], [0, 1, 2, 3, 4, 5, 6, 7, 8, 9, 10, 11, 12]]
def cuneiformlaw04_CrcTurns.b1 : ACode := .seq (.seq (.region [⟨(some 47), .mov (.tmp 10), none⟩,
    ⟨(some 48), .bin .lss (.tmp 47) (.const (.int .i64 32)), none⟩] [2, 7, 8, 9, 10, 48])
  (.cond (.tmp 48) (.skip) (.exit 0)))
  (.seq (.block 1 (.seq (.seq (.region [⟨(some 51), .mov (.tmp 2), none⟩,
    ⟨(some 52), .bin .rem (.tmp 51) (.const (.int .u32 2)), none⟩,
    ⟨(some 53), .bin .eql (.tmp 52) (.const (.int .u32 1)), none⟩] [2, 7, 8, 9, 10, 53])
  (.cond (.tmp 53) (.seq (.region [⟨(some 54), .mov (.tmp 9), none⟩,
    ⟨(some 55), .mov (.tmp 10), none⟩,
    ⟨(some 56), .bin .add (.tmp 54) (.tmp 55), none⟩,
    ⟨(some 11), .mov (.tmp 56), none⟩] [2, 7, 8, 9, 10, 11])
  (.draw cuneiformlaw04_CrcTurns.d0 cuneiformlaw04_CrcTurns.d0b [[0, 1, 2, 3, 4, 5, 6, 7, 8, 9, 10, 11, 12, 13]] [] [2, 7, 8, 9, 10])) (.skip)))
  (.region [⟨(some 70), .mov (.tmp 2), none⟩,
    ⟨(some 71), .bin .quo (.tmp 70) (.const (.int .u32 2)), none⟩,
    ⟨(some 2), .mov (.tmp 71), none⟩] [2, 7, 8, 9, 10])))
  (.region [⟨(some 49), .mov (.tmp 10), none⟩,
    ⟨(some 50), .bin .add (.tmp 49) (.const (.int .i64 1)), none⟩,
    ⟨(some 10), .mov (.tmp 50), none⟩] [2, 7, 8, 9, 10]))
def cuneiformlaw04_CrcTurns.body : ACode := .seq (.region [⟨(some 6), .mov (.const (.bool false)), none⟩] [0, 1, 2])
  (.seq (.region [⟨(some 14), .mov (.tmp 0), none⟩,
    ⟨(some 15), .mov (.tmp 0), none⟩,
    ⟨(some 16), .len .slice (.tmp 15), none⟩,
    ⟨(some 17), .maxmin false (.tmp 16) (.const (.int .i64 200)), none⟩,
    ⟨(some 18), .slice 1 .slice (.tmp 14) none (some (.tmp 17)) none, none⟩,
    ⟨(some 0), .mov (.tmp 18), none⟩] [0, 1, 2])
  (.seq (.region [⟨(some 19), .call (.const (.fn F.crc_New [] [])) [], none⟩,
    ⟨(some 7), .mov (.tmp 19), none⟩] [0, 1, 2, 7])
  (.seq (.region [⟨(some 20), .mov (.tmp 7), none⟩,
    ⟨(some 21), .mov (.tmp 0), none⟩,
    ⟨(some 22), .call (.const (.fn F.crc_Seal [] [])) [(.tmp 20), (.tmp 21)], none⟩,
    ⟨(some 8), .mov (.tmp 22), none⟩] [0, 1, 2, 7, 8])
  (.seq (.seq (.region [⟨(some 23), .mov (.tmp 8), none⟩,
    ⟨(some 24), .len .slice (.tmp 23), none⟩,
    ⟨(some 25), .mov (.tmp 0), none⟩,
    ⟨(some 26), .len .slice (.tmp 25), none⟩,
    ⟨(some 27), .bin .add (.tmp 26) (.const (.int .i64 4)), none⟩,
    ⟨(some 28), .bin .neq (.tmp 24) (.tmp 27), none⟩,
    ⟨(some 29), .mov (.tmp 28), none⟩,
    ⟨(some 30), .mov (.tmp 2), some (29, false)⟩,
    ⟨(some 31), .bin .eql (.tmp 30) (.const (.int .u32 0)), some (29, false)⟩,
    ⟨(some 32), .pick (.tmp 29) (.const (.bool true)) (.tmp 31), none⟩] [1, 2, 7, 8, 32])
  (.cond (.tmp 32) (.seq (.region [⟨(some 33), .call (.const (.fn F.cuneiformlaw04_known [] [])) [], none⟩,
    ⟨(some 34), .mov (.tmp 33), none⟩,
    ⟨(some 35), .mov (.tmp 2), some (34, true)⟩,
    ⟨(some 36), .bin .eql (.tmp 35) (.const (.int .u32 0)), some (34, true)⟩,
    ⟨(some 37), .pick (.tmp 34) (.tmp 36) (.const (.bool false)), none⟩,
    ⟨(some 6), .mov (.tmp 37), none⟩] [6])
  (.ret)) (.skip)))
  (.seq (.region [⟨(some 38), .mov (.tmp 1), none⟩,
    ⟨(some 39), .conv .u64 (.tmp 38), none⟩,
    ⟨(some 40), .mov (.tmp 8), none⟩,
    ⟨(some 41), .len .slice (.tmp 40), none⟩,
    ⟨(some 42), .bin .mul (.const (.int .i64 8)) (.tmp 41), none⟩,
    ⟨(some 43), .bin .sub (.tmp 42) (.const (.int .i64 31)), none⟩,
    ⟨(some 44), .conv .u64 (.tmp 43), none⟩,
    ⟨(some 45), .bin .rem (.tmp 39) (.tmp 44), none⟩,
    ⟨(some 46), .conv .i64 (.tmp 45), none⟩,
    ⟨(some 9), .mov (.tmp 46), none⟩] [2, 7, 8, 9])
  (.seq (.seq (.region [⟨(some 10), .mov (.const (.int .i64 0)), none⟩] [2, 7, 8, 9, 10])
  (.block 0 (.loop cuneiformlaw04_CrcTurns.b1)))
  (.seq (.region [⟨(some 73), .mov (.tmp 7), none⟩,
    ⟨(some 74), .mov (.tmp 8), none⟩,
    ⟨(some 75), .call (.const (.fn F.crc_Open [] [])) [(.tmp 73), (.tmp 74)], none⟩,
    ⟨(some 72), .mov (.tmp 75), none⟩,
    ⟨(some 76), .extract (.tmp 72) 0, none⟩,
    ⟨(some 77), .extract (.tmp 72) 1, none⟩,
    ⟨(some 12), .mov (.tmp 76), none⟩,
    ⟨(some 13), .mov (.tmp 77), none⟩] [12, 13])
  (.seq (.region [⟨(some 78), .call (.const (.fn F.cuneiformlaw04_known [] [])) [], none⟩,
    ⟨(some 79), .mov (.tmp 78), none⟩,
    ⟨(some 80), .mov (.tmp 12), some (79, true)⟩,
    ⟨(some 81), .len .slice (.tmp 80), some (79, true)⟩,
    ⟨(some 82), .bin .eql (.tmp 81) (.const (.int .i64 0)), some (79, true)⟩,
    ⟨(some 83), .pick (.tmp 79) (.tmp 82) (.const (.bool false)), none⟩,
    ⟨(some 84), .mov (.tmp 83), none⟩,
    ⟨(some 85), .mov (.tmp 13), some (84, true)⟩,
    ⟨(some 86), .bin .eql (.tmp 85) (.const (.int .i64 11)), some (84, true)⟩,
    ⟨(some 87), .pick (.tmp 84) (.tmp 86) (.const (.bool false)), none⟩,
    ⟨(some 6), .mov (.tmp 87), none⟩] [6])
  (.ret)))))))))
def cuneiformlaw04_CrcTurns : AFun := ⟨88, 3, [.tmp 6], cuneiformlaw04_CrcTurns.body⟩
def cuneiformlaw04_CrcNil.body : ACode := .seq (.region [⟨(some 4), .mov (.const (.bool false)), none⟩] [0, 1])
  (.seq (.region [⟨(some 5), .mov (.const .nilp), none⟩] [0, 1, 5])
  (.seq (.region [⟨(some 9), .mov (.tmp 0), none⟩,
    ⟨(some 10), .call (.const (.fn F.crc_Open [] [])) [(.const .nilp), (.tmp 9)], none⟩,
    ⟨(some 8), .mov (.tmp 10), none⟩,
    ⟨(some 11), .extract (.tmp 8) 0, none⟩,
    ⟨(some 12), .extract (.tmp 8) 1, none⟩,
    ⟨(some 6), .mov (.tmp 11), none⟩,
    ⟨(some 7), .mov (.tmp 12), none⟩] [0, 1, 5, 6, 7])
  (.seq (.region [⟨(some 13), .call (.const (.fn F.cuneiformlaw04_known [] [])) [], none⟩,
    ⟨(some 14), .mov (.tmp 13), none⟩,
    ⟨(some 15), .mov (.tmp 5), some (14, true)⟩,
    ⟨(some 16), .mov (.tmp 0), some (14, true)⟩,
    ⟨(some 17), .lit T.sl_uint8 1 1 [.nils] [(0, 1, (.tmp 16))], some (14, true)⟩,
    ⟨(some 18), .call (.const (.fn F.crc_Table_Sum [] [])) [(.tmp 15), (.tmp 17)], some (14, true)⟩,
    ⟨(some 19), .bin .eql (.tmp 18) (.const (.int .u32 0)), some (14, true)⟩,
    ⟨(some 20), .pick (.tmp 14) (.tmp 19) (.const (.bool false)), none⟩,
    ⟨(some 21), .mov (.tmp 20), none⟩,
    ⟨(some 22), .mov (.tmp 5), some (21, true)⟩,
    ⟨(some 23), .call (.const (.fn F.crc_Table_Begin [] [])) [(.tmp 22)], some (21, true)⟩,
    ⟨(some 24), .bin .eql (.tmp 23) (.const (.int .u32 0)), some (21, true)⟩,
    ⟨(some 25), .pick (.tmp 21) (.tmp 24) (.const (.bool false)), none⟩,
    ⟨(some 26), .mov (.tmp 25), none⟩,
    ⟨(some 27), .mov (.tmp 5), some (26, true)⟩,
    ⟨(some 28), .mov (.tmp 1), some (26, true)⟩,
    ⟨(some 29), .mov (.tmp 0), some (26, true)⟩,
    ⟨(some 30), .call (.const (.fn F.crc_Table_Add [] [])) [(.tmp 27), (.tmp 28), (.tmp 29)], some (26, true)⟩,
    ⟨(some 31), .bin .eql (.tmp 30) (.const (.int .u32 0)), some (26, true)⟩,
    ⟨(some 32), .pick (.tmp 26) (.tmp 31) (.const (.bool false)), none⟩,
    ⟨(some 33), .mov (.tmp 32), none⟩,
    ⟨(some 34), .mov (.tmp 5), some (33, true)⟩,
    ⟨(some 35), .mov (.tmp 1), some (33, true)⟩,
    ⟨(some 36), .call (.const (.fn F.crc_Table_End [] [])) [(.tmp 34), (.tmp 35)], some (33, true)⟩,
    ⟨(some 37), .bin .eql (.tmp 36) (.const (.int .u32 0)), some (33, true)⟩,
    ⟨(some 38), .pick (.tmp 33) (.tmp 37) (.const (.bool false)), none⟩,
    ⟨(some 39), .mov (.tmp 38), none⟩,
    ⟨(some 40), .mov (.tmp 5), some (39, true)⟩,
    ⟨(some 41), .call (.const (.fn F.crc_Table_Entry [] [])) [(.tmp 40), (.const (.int .i64 1))], some (39, true)⟩,
    ⟨(some 42), .bin .eql (.tmp 41) (.const (.int .u32 0)), some (39, true)⟩,
    ⟨(some 43), .pick (.tmp 39) (.tmp 42) (.const (.bool false)), none⟩,
    ⟨(some 44), .mov (.tmp 43), none⟩,
    ⟨(some 45), .mov (.tmp 0), some (44, true)⟩,
    ⟨(some 46), .call (.const (.fn F.crc_Seal [] [])) [(.const .nilp), (.tmp 45)], some (44, true)⟩,
    ⟨(some 47), .len .slice (.tmp 46), some (44, true)⟩,
    ⟨(some 48), .bin .eql (.tmp 47) (.const (.int .i64 0)), some (44, true)⟩,
    ⟨(some 49), .pick (.tmp 44) (.tmp 48) (.const (.bool false)), none⟩,
    ⟨(some 50), .mov (.tmp 49), none⟩,
    ⟨(some 51), .mov (.tmp 6), some (50, true)⟩,
    ⟨(some 52), .len .slice (.tmp 51), some (50, true)⟩,
    ⟨(some 53), .bin .eql (.tmp 52) (.const (.int .i64 0)), some (50, true)⟩,
    ⟨(some 54), .pick (.tmp 50) (.tmp 53) (.const (.bool false)), none⟩,
    ⟨(some 55), .mov (.tmp 54), none⟩,
    ⟨(some 56), .mov (.tmp 7), some (55, true)⟩,
    ⟨(some 57), .bin .eql (.tmp 56) (.const (.int .i64 1)), some (55, true)⟩,
    ⟨(some 58), .pick (.tmp 55) (.tmp 57) (.const (.bool false)), none⟩,
    ⟨(some 4), .mov (.tmp 58), none⟩] [4])
  (.ret))))
def cuneiformlaw04_CrcNil : AFun := ⟨59, 2, [.tmp 4], cuneiformlaw04_CrcNil.body⟩
def crc_New.b0 : ACode := .seq (.region [⟨(some 13), .bin .lss (.tmp 12) (.const (.int .i64 4)), none⟩] [1, 2, 3, 7, 12, 13])
  (.seq (.cond (.tmp 13) (.skip) (.exit 2))
  (.seq (.block 3 (.seq (.region [⟨(some 14), .mov (.tmp 12), none⟩,
    ⟨(some 4), .mov (.tmp 14), none⟩] [1, 2, 3, 4, 7, 12])
  (.seq (.region [⟨(some 15), .mov (.tmp 3), none⟩,
    ⟨(some 16), .call (.const (.fn F.crc_shift [] [])) [(.tmp 15)], none⟩,
    ⟨(some 3), .mov (.tmp 16), none⟩] [1, 2, 3, 4, 7, 12])
  (.region [⟨(some 17), .mov (.tmp 1), none⟩,
    ⟨(some 18), .mov (.tmp 4), none⟩,
    ⟨(some 19), .mov (.tmp 2), none⟩,
    ⟨(some 20), .mov (.tmp 3), none⟩,
    ⟨(some 21), .nilc (.tmp 17), none⟩,
    ⟨(some 22), .field 0 (.tmp 21), none⟩,
    ⟨(some 23), .idx 256 (some 4) (.tmp 22) (.tmp 18), none⟩,
    ⟨(some 24), .idx 1 (some 256) (.tmp 23) (.tmp 19), none⟩,
    ⟨none, .store 1 (.tmp 24) (.tmp 20), none⟩] [1, 2, 3, 7, 12]))))
  (.region [⟨(some 25), .bin .add (.tmp 12) (.const (.int .i64 1)), none⟩,
    ⟨(some 12), .mov (.tmp 25), none⟩] [1, 2, 3, 7, 12])))
def crc_New.b1 : ACode := .seq (.region [⟨(some 8), .bin .lss (.tmp 7) (.const (.int .i64 256)), none⟩] [1, 7, 8])
  (.seq (.cond (.tmp 8) (.skip) (.exit 0))
  (.seq (.block 1 (.seq (.region [⟨(some 9), .mov (.tmp 7), none⟩,
    ⟨(some 2), .mov (.tmp 9), none⟩] [1, 2, 7])
  (.seq (.region [⟨(some 10), .mov (.tmp 2), none⟩,
    ⟨(some 11), .conv .u32 (.tmp 10), none⟩,
    ⟨(some 3), .mov (.tmp 11), none⟩] [1, 2, 3, 7])
  (.seq (.region [⟨(some 12), .mov (.const (.int .i64 0)), none⟩] [1, 2, 3, 7, 12])
  (.block 2 (.loop crc_New.b0))))))
  (.region [⟨(some 26), .bin .add (.tmp 7) (.const (.int .i64 1)), none⟩,
    ⟨(some 7), .mov (.tmp 26), none⟩] [1, 7])))
def crc_New.body : ACode := .seq (.region [⟨(some 0), .mov (.const .nilp), none⟩] [])
  (.seq (.region [⟨(some 5), .build [(.int .u32 0), (.int .u32 0), (.int .u32 0), (.int .u32 0), (.int .u32 0), (.int .u32 0), (.int .u32 0), (.int .u32 0), (.int .u32 0), (.int .u32 0), (.int .u32 0), (.int .u32 0), (.int .u32 0), (.int .u32 0), (.int .u32 0), (.int .u32 0), (.int .u32 0), (.int .u32 0), (.int .u32 0), (.int .u32 0), (.int .u32 0), (.int .u32 0), (.int .u32 0), (.int .u32 0), (.int .u32 0), (.int .u32 0), (.int .u32 0), (.int .u32 0), (.int .u32 0), (.int .u32 0), (.int .u32 0), (.int .u32 0), (.int .u32 0), (.int .u32 0), (.int .u32 0), (.int .u32 0), (.int .u32 0), (.int .u32 0), (.int .u32 0), (.int .u32 0), (.int .u32 0), (.int .u32 0), (.int .u32 0), (.int .u32 0), (.int .u32 0), (.int .u32 0), (.int .u32 0), (.int .u32 0), (.int .u32 0), (.int .u32 0), (.int .u32 0), (.int .u32 0), (.int .u32 0), (.int .u32 0), (.int .u32 0), (.int .u32 0), (.int .u32 0), (.int .u32 0), (.int .u32 0), (.int .u32 0), (.int .u32 0), (.int .u32 0), (.int .u32 0), (.int .u32 0), (.int .u32 0), (.int .u32 0), (.int .u32 0), (.int .u32 0), (.int .u32 0), (.int .u32 0), (.int .u32 0), (.int .u32 0), (.int .u32 0), (.int .u32 0), (.int .u32 0), (.int .u32 0), (.int .u32 0), (.int .u32 0), (.int .u32 0), (.int .u32 0), (.int .u32 0), (.int .u32 0), (.int .u32 0), (.int .u32 0), (.int .u32 0), (.int .u32 0), (.int .u32 0), (.int .u32 0), (.int .u32 0), (.int .u32 0), (.int .u32 0), (.int .u32 0), (.int .u32 0), (.int .u32 0), (.int .u32 0), (.int .u32 0), (.int .u32 0), (.int .u32 0), (.int .u32 0), (.int .u32 0), (.int .u32 0), (.int .u32 0), (.int .u32 0), (.int .u32 0), (.int .u32 0), (.int .u32 0), (.int .u32 0), (.int .u32 0), (.int .u32 0), (.int .u32 0), (.int .u32 0), (.int .u32 0), (.int .u32 0), (.int .u32 0), (.int .u32 0), (.int .u32 0), (.int .u32 0), (.int .u32 0), (.int .u32 0), (.int .u32 0), (.int .u32 0), (.int .u32 0), (.int .u32 0), (.int .u32 0), (.int .u32 0), (.int .u32 0), (.int .u32 0), (.int .u32 0), (.int .u32 0), (.int .u32 0), (.int .u32 0), (.int .u32 0), (.int .u32 0), (.int .u32 0), (.int .u32 0), (.int .u32 0), (.int .u32 0), (.int .u32 0), (.int .u32 0), (.int .u32 0), (.int .u32 0), (.int .u32 0), (.int .u32 0), (.int .u32 0), (.int .u32 0), (.int .u32 0), (.int .u32 0), (.int .u32 0), (.int .u32 0), (.int .u32 0), (.int .u32 0), (.int .u32 0), (.int .u32 0), (.int .u32 0), (.int .u32 0), (.int .u32 0), (.int .u32 0), (.int .u32 0), (.int .u32 0), (.int .u32 0), (.int .u32 0), (.int .u32 0), (.int .u32 0), (.int .u32 0), (.int .u32 0), (.int .u32 0), (.int .u32 0), (.int .u32 0), (.int .u32 0), (.int .u32 0), (.int .u32 0), (.int .u32 0), (.int .u32 0), (.int .u32 0), (.int .u32 0), (.int .u32 0), (.int .u32 0), (.int .u32 0), (.int .u32 0), (.int .u32 0), (.int .u32 0), (.int .u32 0), (.int .u32 0), (.int .u32 0), (.int .u32 0), (.int .u32 0), (.int .u32 0), (.int .u32 0), (.int .u32 0), (.int .u32 0), (.int .u32 0), (.int .u32 0), (.int .u32 0), (.int .u32 0), (.int .u32 0), (.int .u32 0), (.int .u32 0), (.int .u32 0), (.int .u32 0), (.int .u32 0), (.int .u32 0), (.int .u32 0), (.int .u32 0), (.int .u32 0), (.int .u32 0), (.int .u32 0), (.int .u32 0), (.int .u32 0), (.int .u32 0), (.int .u32 0), (.int .u32 0), (.int .u32 0), (.int .u32 0), (.int .u32 0), (.int .u32 0), (.int .u32 0), (.int .u32 0), (.int .u32 0), (.int .u32 0), (.int .u32 0), (.int .u32 0), (.int .u32 0), (.int .u32 0), (.int .u32 0), (.int .u32 0), (.int .u32 0), (.int .u32 0), (.int .u32 0), (.int .u32 0), (.int .u32 0), (.int .u32 0), (.int .u32 0), (.int .u32 0), (.int .u32 0), (.int .u32 0), (.int .u32 0), (.int .u32 0), (.int .u32 0), (.int .u32 0), (.int .u32 0), (.int .u32 0), (.int .u32 0), (.int .u32 0), (.int .u32 0), (.int .u32 0), (.int .u32 0), (.int .u32 0), (.int .u32 0), (.int .u32 0), (.int .u32 0), (.int .u32 0), (.int .u32 0), (.int .u32 0), (.int .u32 0), (.int .u32 0), (.int .u32 0), (.int .u32 0), (.int .u32 0), (.int .u32 0), (.int .u32 0), (.int .u32 0), (.int .u32 0), (.int .u32 0), (.int .u32 0), (.int .u32 0), (.int .u32 0), (.int .u32 0), (.int .u32 0), (.int .u32 0), (.int .u32 0), (.int .u32 0), (.int .u32 0), (.int .u32 0), (.int .u32 0), (.int .u32 0), (.int .u32 0), (.int .u32 0), (.int .u32 0), (.int .u32 0), (.int .u32 0), (.int .u32 0), (.int .u32 0), (.int .u32 0), (.int .u32 0), (.int .u32 0), (.int .u32 0), (.int .u32 0), (.int .u32 0), (.int .u32 0), (.int .u32 0), (.int .u32 0), (.int .u32 0), (.int .u32 0), (.int .u32 0), (.int .u32 0), (.int .u32 0), (.int .u32 0), (.int .u32 0), (.int .u32 0), (.int .u32 0), (.int .u32 0), (.int .u32 0), (.int .u32 0), (.int .u32 0), (.int .u32 0), (.int .u32 0), (.int .u32 0), (.int .u32 0), (.int .u32 0), (.int .u32 0), (.int .u32 0), (.int .u32 0), (.int .u32 0), (.int .u32 0), (.int .u32 0), (.int .u32 0), (.int .u32 0), (.int .u32 0), (.int .u32 0), (.int .u32 0), (.int .u32 0), (.int .u32 0), (.int .u32 0), (.int .u32 0), (.int .u32 0), (.int .u32 0), (.int .u32 0), (.int .u32 0), (.int .u32 0), (.int .u32 0), (.int .u32 0), (.int .u32 0), (.int .u32 0), (.int .u32 0), (.int .u32 0), (.int .u32 0), (.int .u32 0), (.int .u32 0), (.int .u32 0), (.int .u32 0), (.int .u32 0), (.int .u32 0), (.int .u32 0), (.int .u32 0), (.int .u32 0), (.int .u32 0), (.int .u32 0), (.int .u32 0), (.int .u32 0), (.int .u32 0), (.int .u32 0), (.int .u32 0), (.int .u32 0), (.int .u32 0), (.int .u32 0), (.int .u32 0), (.int .u32 0), (.int .u32 0), (.int .u32 0), (.int .u32 0), (.int .u32 0), (.int .u32 0), (.int .u32 0), (.int .u32 0), (.int .u32 0), (.int .u32 0), (.int .u32 0), (.int .u32 0), (.int .u32 0), (.int .u32 0), (.int .u32 0), (.int .u32 0), (.int .u32 0), (.int .u32 0), (.int .u32 0), (.int .u32 0), (.int .u32 0), (.int .u32 0), (.int .u32 0), (.int .u32 0), (.int .u32 0), (.int .u32 0), (.int .u32 0), (.int .u32 0), (.int .u32 0), (.int .u32 0), (.int .u32 0), (.int .u32 0), (.int .u32 0), (.int .u32 0), (.int .u32 0), (.int .u32 0), (.int .u32 0), (.int .u32 0), (.int .u32 0), (.int .u32 0), (.int .u32 0), (.int .u32 0), (.int .u32 0), (.int .u32 0), (.int .u32 0), (.int .u32 0), (.int .u32 0), (.int .u32 0), (.int .u32 0), (.int .u32 0), (.int .u32 0), (.int .u32 0), (.int .u32 0), (.int .u32 0), (.int .u32 0), (.int .u32 0), (.int .u32 0), (.int .u32 0), (.int .u32 0), (.int .u32 0), (.int .u32 0), (.int .u32 0), (.int .u32 0), (.int .u32 0), (.int .u32 0), (.int .u32 0), (.int .u32 0), (.int .u32 0), (.int .u32 0), (.int .u32 0), (.int .u32 0), (.int .u32 0), (.int .u32 0), (.int .u32 0), (.int .u32 0), (.int .u32 0), (.int .u32 0), (.int .u32 0), (.int .u32 0), (.int .u32 0), (.int .u32 0), (.int .u32 0), (.int .u32 0), (.int .u32 0), (.int .u32 0), (.int .u32 0), (.int .u32 0), (.int .u32 0), (.int .u32 0), (.int .u32 0), (.int .u32 0), (.int .u32 0), (.int .u32 0), (.int .u32 0), (.int .u32 0), (.int .u32 0), (.int .u32 0), (.int .u32 0), (.int .u32 0), (.int .u32 0), (.int .u32 0), (.int .u32 0), (.int .u32 0), (.int .u32 0), (.int .u32 0), (.int .u32 0), (.int .u32 0), (.int .u32 0), (.int .u32 0), (.int .u32 0), (.int .u32 0), (.int .u32 0), (.int .u32 0), (.int .u32 0), (.int .u32 0), (.int .u32 0), (.int .u32 0), (.int .u32 0), (.int .u32 0), (.int .u32 0), (.int .u32 0), (.int .u32 0), (.int .u32 0), (.int .u32 0), (.int .u32 0), (.int .u32 0), (.int .u32 0), (.int .u32 0), (.int .u32 0), (.int .u32 0), (.int .u32 0), (.int .u32 0), (.int .u32 0), (.int .u32 0), (.int .u32 0), (.int .u32 0), (.int .u32 0), (.int .u32 0), (.int .u32 0), (.int .u32 0), (.int .u32 0), (.int .u32 0), (.int .u32 0), (.int .u32 0), (.int .u32 0), (.int .u32 0), (.int .u32 0), (.int .u32 0), (.int .u32 0), (.int .u32 0), (.int .u32 0), (.int .u32 0), (.int .u32 0), (.int .u32 0), (.int .u32 0), (.int .u32 0), (.int .u32 0), (.int .u32 0), (.int .u32 0), (.int .u32 0), (.int .u32 0), (.int .u32 0), (.int .u32 0), (.int .u32 0), (.int .u32 0), (.int .u32 0), (.int .u32 0), (.int .u32 0), (.int .u32 0), (.int .u32 0), (.int .u32 0), (.int .u32 0), (.int .u32 0), (.int .u32 0), (.int .u32 0), (.int .u32 0), (.int .u32 0), (.int .u32 0), (.int .u32 0), (.int .u32 0), (.int .u32 0), (.int .u32 0), (.int .u32 0), (.int .u32 0), (.int .u32 0), (.int .u32 0), (.int .u32 0), (.int .u32 0), (.int .u32 0), (.int .u32 0), (.int .u32 0), (.int .u32 0), (.int .u32 0), (.int .u32 0), (.int .u32 0), (.int .u32 0), (.int .u32 0), (.int .u32 0), (.int .u32 0), (.int .u32 0), (.int .u32 0), (.int .u32 0), (.int .u32 0), (.int .u32 0), (.int .u32 0), (.int .u32 0), (.int .u32 0), (.int .u32 0), (.int .u32 0), (.int .u32 0), (.int .u32 0), (.int .u32 0), (.int .u32 0), (.int .u32 0), (.int .u32 0), (.int .u32 0), (.int .u32 0), (.int .u32 0), (.int .u32 0), (.int .u32 0), (.int .u32 0), (.int .u32 0), (.int .u32 0), (.int .u32 0), (.int .u32 0), (.int .u32 0), (.int .u32 0), (.int .u32 0), (.int .u32 0), (.int .u32 0), (.int .u32 0), (.int .u32 0), (.int .u32 0), (.int .u32 0), (.int .u32 0), (.int .u32 0), (.int .u32 0), (.int .u32 0), (.int .u32 0), (.int .u32 0), (.int .u32 0), (.int .u32 0), (.int .u32 0), (.int .u32 0), (.int .u32 0), (.int .u32 0), (.int .u32 0), (.int .u32 0), (.int .u32 0), (.int .u32 0), (.int .u32 0), (.int .u32 0), (.int .u32 0), (.int .u32 0), (.int .u32 0), (.int .u32 0), (.int .u32 0), (.int .u32 0), (.int .u32 0), (.int .u32 0), (.int .u32 0), (.int .u32 0), (.int .u32 0), (.int .u32 0), (.int .u32 0), (.int .u32 0), (.int .u32 0), (.int .u32 0), (.int .u32 0), (.int .u32 0), (.int .u32 0), (.int .u32 0), (.int .u32 0), (.int .u32 0), (.int .u32 0), (.int .u32 0), (.int .u32 0), (.int .u32 0), (.int .u32 0), (.int .u32 0), (.int .u32 0), (.int .u32 0), (.int .u32 0), (.int .u32 0), (.int .u32 0), (.int .u32 0), (.int .u32 0), (.int .u32 0), (.int .u32 0), (.int .u32 0), (.int .u32 0), (.int .u32 0), (.int .u32 0), (.int .u32 0), (.int .u32 0), (.int .u32 0), (.int .u32 0), (.int .u32 0), (.int .u32 0), (.int .u32 0), (.int .u32 0), (.int .u32 0), (.int .u32 0), (.int .u32 0), (.int .u32 0), (.int .u32 0), (.int .u32 0), (.int .u32 0), (.int .u32 0), (.int .u32 0), (.int .u32 0), (.int .u32 0), (.int .u32 0), (.int .u32 0), (.int .u32 0), (.int .u32 0), (.int .u32 0), (.int .u32 0), (.int .u32 0), (.int .u32 0), (.int .u32 0), (.int .u32 0), (.int .u32 0), (.int .u32 0), (.int .u32 0), (.int .u32 0), (.int .u32 0), (.int .u32 0), (.int .u32 0), (.int .u32 0), (.int .u32 0), (.int .u32 0), (.int .u32 0), (.int .u32 0), (.int .u32 0), (.int .u32 0), (.int .u32 0), (.int .u32 0), (.int .u32 0), (.int .u32 0), (.int .u32 0), (.int .u32 0), (.int .u32 0), (.int .u32 0), (.int .u32 0), (.int .u32 0), (.int .u32 0), (.int .u32 0), (.int .u32 0), (.int .u32 0), (.int .u32 0), (.int .u32 0), (.int .u32 0), (.int .u32 0), (.int .u32 0), (.int .u32 0), (.int .u32 0), (.int .u32 0), (.int .u32 0), (.int .u32 0), (.int .u32 0), (.int .u32 0), (.int .u32 0), (.int .u32 0), (.int .u32 0), (.int .u32 0), (.int .u32 0), (.int .u32 0), (.int .u32 0), (.int .u32 0), (.int .u32 0), (.int .u32 0), (.int .u32 0), (.int .u32 0), (.int .u32 0), (.int .u32 0), (.int .u32 0), (.int .u32 0), (.int .u32 0), (.int .u32 0), (.int .u32 0), (.int .u32 0), (.int .u32 0), (.int .u32 0), (.int .u32 0), (.int .u32 0), (.int .u32 0), (.int .u32 0), (.int .u32 0), (.int .u32 0), (.int .u32 0), (.int .u32 0), (.int .u32 0), (.int .u32 0), (.int .u32 0), (.int .u32 0), (.int .u32 0), (.int .u32 0), (.int .u32 0), (.int .u32 0), (.int .u32 0), (.int .u32 0), (.int .u32 0), (.int .u32 0), (.int .u32 0), (.int .u32 0), (.int .u32 0), (.int .u32 0), (.int .u32 0), (.int .u32 0), (.int .u32 0), (.int .u32 0), (.int .u32 0), (.int .u32 0), (.int .u32 0), (.int .u32 0), (.int .u32 0), (.int .u32 0), (.int .u32 0), (.int .u32 0), (.int .u32 0), (.int .u32 0), (.int .u32 0), (.int .u32 0), (.int .u32 0), (.int .u32 0), (.int .u32 0), (.int .u32 0), (.int .u32 0), (.int .u32 0), (.int .u32 0), (.int .u32 0), (.int .u32 0), (.int .u32 0), (.int .u32 0), (.int .u32 0), (.int .u32 0), (.int .u32 0), (.int .u32 0), (.int .u32 0), (.int .u32 0), (.int .u32 0), (.int .u32 0), (.int .u32 0), (.int .u32 0), (.int .u32 0), (.int .u32 0), (.int .u32 0), (.int .u32 0), (.int .u32 0), (.int .u32 0), (.int .u32 0), (.int .u32 0), (.int .u32 0), (.int .u32 0), (.int .u32 0), (.int .u32 0), (.int .u32 0), (.int .u32 0), (.int .u32 0), (.int .u32 0), (.int .u32 0), (.int .u32 0), (.int .u32 0), (.int .u32 0), (.int .u32 0), (.int .u32 0), (.int .u32 0), (.int .u32 0), (.int .u32 0), (.int .u32 0), (.int .u32 0), (.int .u32 0), (.int .u32 0), (.int .u32 0), (.int .u32 0), (.int .u32 0), (.int .u32 0), (.int .u32 0), (.int .u32 0), (.int .u32 0), (.int .u32 0), (.int .u32 0), (.int .u32 0), (.int .u32 0), (.int .u32 0), (.int .u32 0), (.int .u32 0), (.int .u32 0), (.int .u32 0), (.int .u32 0), (.int .u32 0), (.int .u32 0), (.int .u32 0), (.int .u32 0), (.int .u32 0), (.int .u32 0), (.int .u32 0), (.int .u32 0), (.int .u32 0), (.int .u32 0), (.int .u32 0), (.int .u32 0), (.int .u32 0), (.int .u32 0), (.int .u32 0), (.int .u32 0), (.int .u32 0), (.int .u32 0), (.int .u32 0), (.int .u32 0), (.int .u32 0), (.int .u32 0), (.int .u32 0), (.int .u32 0), (.int .u32 0), (.int .u32 0), (.int .u32 0), (.int .u32 0), (.int .u32 0), (.int .u32 0), (.int .u32 0), (.int .u32 0), (.int .u32 0), (.int .u32 0), (.int .u32 0), (.int .u32 0), (.int .u32 0), (.int .u32 0), (.int .u32 0), (.int .u32 0), (.int .u32 0), (.int .u32 0), (.int .u32 0), (.int .u32 0), (.int .u32 0), (.int .u32 0), (.int .u32 0), (.int .u32 0), (.int .u32 0), (.int .u32 0), (.int .u32 0), (.int .u32 0), (.int .u32 0), (.int .u32 0), (.int .u32 0), (.int .u32 0), (.int .u32 0), (.int .u32 0), (.int .u32 0), (.int .u32 0), (.int .u32 0), (.int .u32 0), (.int .u32 0), (.int .u32 0), (.int .u32 0), (.int .u32 0), (.int .u32 0), (.int .u32 0), (.int .u32 0), (.int .u32 0), (.int .u32 0), (.int .u32 0), (.int .u32 0), (.int .u32 0), (.int .u32 0), (.int .u32 0), (.int .u32 0), (.int .u32 0), (.int .u32 0), (.int .u32 0), (.int .u32 0), (.int .u32 0), (.int .u32 0), (.int .u32 0), (.int .u32 0), (.int .u32 0), (.int .u32 0), (.int .u32 0), (.int .u32 0), (.int .u32 0), (.int .u32 0), (.int .u32 0), (.int .u32 0), (.int .u32 0), (.int .u32 0), (.int .u32 0), (.int .u32 0), (.int .u32 0), (.int .u32 0), (.int .u32 0), (.int .u32 0), (.int .u32 0), (.int .u32 0), (.int .u32 0), (.int .u32 0), (.int .u32 0), (.int .u32 0), (.int .u32 0), (.int .u32 0), (.int .u32 0), (.int .u32 0), (.int .u32 0), (.int .u32 0), (.int .u32 0), (.int .u32 0), (.int .u32 0), (.int .u32 0), (.int .u32 0), (.int .u32 0), (.int .u32 0), (.int .u32 0), (.int .u32 0), (.int .u32 0), (.int .u32 0), (.int .u32 0), (.int .u32 0), (.int .u32 0), (.int .u32 0), (.int .u32 0), (.int .u32 0), (.int .u32 0), (.int .u32 0), (.int .u32 0), (.int .u32 0), (.int .u32 0), (.int .u32 0), (.int .u32 0), (.int .u32 0), (.int .u32 0), (.int .u32 0), (.int .u32 0), (.int .u32 0), (.int .u32 0), (.int .u32 0), (.int .u32 0), (.int .u32 0), (.int .u32 0), (.int .u32 0), (.int .u32 0), (.int .u32 0), (.int .u32 0), (.int .u32 0), (.int .u32 0), (.int .u32 0), (.int .u32 0), (.int .u32 0), (.int .u32 0), (.int .u32 0), (.int .u32 0), (.int .u32 0), (.int .u32 0), (.int .u32 0), (.int .u32 0), (.int .u32 0), (.int .u32 0), (.int .u32 0), (.int .u32 0), (.int .u32 0), (.int .u32 0), (.int .u32 0), (.int .u32 0), (.int .u32 0), (.int .u32 0), (.int .u32 0), (.int .u32 0), (.int .u32 0), (.int .u32 0)] [], none⟩,
    ⟨(some 6), .box T.crc_Table (.tmp 5), none⟩,
    ⟨(some 1), .mov (.tmp 6), none⟩] [1])
  (.seq (.seq (.region [⟨(some 7), .mov (.const (.int .i64 0)), none⟩] [1, 7])
  (.block 0 (.loop crc_New.b1)))
  (.seq (.region [⟨(some 27), .mov (.tmp 1), none⟩,
    ⟨(some 0), .mov (.tmp 27), none⟩] [0])
  (.ret))))
def crc_New : AFun := ⟨28, 0, [.tmp 0], crc_New.body⟩
def cuneiformref04_Sum.d0 : List AOper := [⟨(some 12), .load (some 32) (.tmp 3), none⟩,
    ⟨(some 13), .mov (.tmp 0), none⟩,
    ⟨(some 14), .mov (.tmp 4), none⟩,
    ⟨(some 15), .idx 1 none (.tmp 13) (.tmp 14), none⟩,
    ⟨(some 16), .load none (.tmp 15), none⟩,
    ⟨(some 17), .conv .u32 (.tmp 16), none⟩,
    ⟨(some 18), .call (.const (.fn F.cuneiformref04_Of [] [])) [(.tmp 17)], none⟩,
    ⟨(some 19), .call (.const (.fn F.cuneiformref04_Xor [] [])) [(.tmp 12), (.tmp 18)], none⟩,
    ⟨(some 20), .call (.const (.fn F.cuneiformref04_Shift [] [])) [(.tmp 19)], none⟩,
    ⟨none, .store 32 (.tmp 3) (.tmp 20), none⟩]
def cuneiformref04_Sum.d0b : List (List Nat) := [[], [], [], [1, 2], [1, 2, 3], [1, 2, 3, 4], [1, 2, 3, 4, 5], [0, 1, 2, 3, 4, 5, 6], [0, 1, 2, 3, 4, 5, 6, 7], [0, 1, 2, 3, 4, 5, 6, 7, 8]]
def cuneiformref04_Sum.b1 : ACode := .seq (.seq (.region [⟨(some 6), .mov (.tmp 4), none⟩,
    ⟨(some 7), .mov (.tmp 0), none⟩,
    ⟨(some 8), .len .slice (.tmp 7), none⟩,
    ⟨(some 9), .bin .lss (.tmp 6) (.tmp 8), none⟩] [0, 3, 4, 9])
  (.cond (.tmp 9) (.skip) (.exit 0)))
  (.seq (.block 1 (.draw cuneiformref04_Sum.d0 cuneiformref04_Sum.d0b [[0, 1, 2, 3, 4, 5, 6, 7, 8, 9]] [(6, 0)] [0, 3, 4]))
  (.region [⟨(some 10), .mov (.tmp 4), none⟩,
    ⟨(some 11), .bin .add (.tmp 10) (.const (.int .i64 1)), none⟩,
    ⟨(some 4), .mov (.tmp 11), none⟩] [0, 3, 4]))
def cuneiformref04_Sum.body : ACode := .seq (.region [⟨(some 2), .mov (.const (.int .u32 0)), none⟩] [0])
  (.seq (.region [⟨(some 5), .call (.const (.fn F.cuneiformref04_Of [] [])) [(.const (.int .u32 4294967295))], none⟩,
    ⟨(some 3), .alloc T.cuneiformref04_W [(.bool false), (.bool false), (.bool false), (.bool false), (.bool false), (.bool false), (.bool false), (.bool false), (.bool false), (.bool false), (.bool false), (.bool false), (.bool false), (.bool false), (.bool false), (.bool false), (.bool false), (.bool false), (.bool false), (.bool false), (.bool false), (.bool false), (.bool false), (.bool false), (.bool false), (.bool false), (.bool false), (.bool false), (.bool false), (.bool false), (.bool false), (.bool false)], none⟩,
    ⟨none, .store 32 (.tmp 3) (.tmp 5), none⟩] [0, 3])
  (.seq (.seq (.region [⟨(some 4), .mov (.const (.int .i64 0)), none⟩] [0, 3, 4])
  (.block 0 (.loop cuneiformref04_Sum.b1)))
  (.seq (.region [⟨(some 21), .load (some 32) (.tmp 3), none⟩,
    ⟨(some 22), .call (.const (.fn F.cuneiformref04_Word [] [])) [(.tmp 21)], none⟩,
    ⟨(some 23), .bin .sub (.const (.int .u32 4294967295)) (.tmp 22), none⟩,
    ⟨(some 2), .mov (.tmp 23), none⟩] [2])
  (.ret))))
def cuneiformref04_Sum : AFun := ⟨24, 1, [.tmp 2], cuneiformref04_Sum.body⟩
def cuneiformref04_Word.b0 : ACode := .seq (.seq (.region [⟨(some 5), .mov (.tmp 4), none⟩,
    ⟨(some 6), .bin .geq (.tmp 5) (.const (.int .i64 0)), none⟩] [1, 3, 4, 6])
  (.cond (.tmp 6) (.skip) (.exit 0)))
  (.seq (.block 1 (.seq (.region [⟨(some 9), .mov (.tmp 3), none⟩,
    ⟨(some 10), .bin .mul (.const (.int .u32 2)) (.tmp 9), none⟩,
    ⟨(some 3), .mov (.tmp 10), none⟩] [1, 3, 4])
  (.seq (.region [⟨(some 11), .mov (.tmp 4), none⟩,
    ⟨(some 12), .idx 1 (some 32) (.tmp 1) (.tmp 11), none⟩,
    ⟨(some 13), .load none (.tmp 12), none⟩] [1, 3, 4, 13])
  (.cond (.tmp 13) (.region [⟨(some 14), .mov (.tmp 3), none⟩,
    ⟨(some 15), .bin .add (.tmp 14) (.const (.int .u32 1)), none⟩,
    ⟨(some 3), .mov (.tmp 15), none⟩] [1, 3, 4]) (.skip)))))
  (.region [⟨(some 7), .mov (.tmp 4), none⟩,
    ⟨(some 8), .bin .sub (.tmp 7) (.const (.int .i64 1)), none⟩,
    ⟨(some 4), .mov (.tmp 8), none⟩] [1, 3, 4]))
def cuneiformref04_Word.body : ACode := .seq (.region [⟨(some 1), .box T.cuneiformref04_W (.tmp 0), none⟩,
    ⟨(some 2), .mov (.const (.int .u32 0)), none⟩] [1])
  (.seq (.region [⟨(some 3), .mov (.const (.int .u32 0)), none⟩] [1, 3])
  (.seq (.seq (.region [⟨(some 4), .mov (.const (.int .i64 31)), none⟩] [1, 3, 4])
  (.block 0 (.loop cuneiformref04_Word.b0)))
  (.seq (.region [⟨(some 16), .mov (.tmp 3), none⟩,
    ⟨(some 2), .mov (.tmp 16), none⟩] [2])
  (.ret))))
def cuneiformref04_Word : AFun := ⟨17, 1, [.tmp 2], cuneiformref04_Word.body⟩
def cuneiformref04_Shift.b0 : ACode := .seq (.seq (.region [⟨(some 14), .mov (.tmp 6), none⟩,
    ⟨(some 15), .bin .lss (.tmp 14) (.const (.int .i64 31)), none⟩] [1, 2, 3, 4, 5, 6, 15])
  (.cond (.tmp 15) (.skip) (.exit 2)))
  (.seq (.block 3 (.region [⟨(some 18), .mov (.tmp 6), none⟩,
    ⟨(some 19), .mov (.tmp 6), none⟩,
    ⟨(some 20), .bin .add (.tmp 19) (.const (.int .i64 1)), none⟩,
    ⟨(some 21), .idx 1 (some 32) (.tmp 1) (.tmp 20), none⟩,
    ⟨(some 22), .load none (.tmp 21), none⟩,
    ⟨(some 23), .idx 1 (some 32) (.tmp 1) (.tmp 18), none⟩,
    ⟨none, .store 1 (.tmp 23) (.tmp 22), none⟩] [1, 2, 3, 4, 5, 6]))
  (.region [⟨(some 16), .mov (.tmp 6), none⟩,
    ⟨(some 17), .bin .add (.tmp 16) (.const (.int .i64 1)), none⟩,
    ⟨(some 6), .mov (.tmp 17), none⟩] [1, 2, 3, 4, 5, 6]))
def cuneiformref04_Shift.b1 : ACode := .seq (.seq (.region [⟨(some 8), .mov (.tmp 4), none⟩,
    ⟨(some 9), .bin .lss (.tmp 8) (.const (.int .i64 8)), none⟩] [1, 2, 3, 4, 9])
  (.cond (.tmp 9) (.skip) (.exit 0)))
  (.seq (.block 1 (.seq (.region [⟨(some 12), .idx 1 (some 32) (.tmp 1) (.const (.int .i64 0)), none⟩,
    ⟨(some 13), .load none (.tmp 12), none⟩,
    ⟨(some 5), .mov (.tmp 13), none⟩] [1, 2, 3, 4, 5])
  (.seq (.seq (.region [⟨(some 6), .mov (.const (.int .i64 0)), none⟩] [1, 2, 3, 4, 5, 6])
  (.block 2 (.loop cuneiformref04_Shift.b0)))
  (.seq (.region [⟨(some 24), .idx 1 (some 32) (.tmp 1) (.const (.int .i64 31)), none⟩,
    ⟨none, .store 1 (.tmp 24) (.const (.bool false)), none⟩] [1, 2, 3, 4, 5])
  (.seq (.region [⟨(some 25), .mov (.tmp 5), none⟩] [1, 2, 3, 4, 25])
  (.cond (.tmp 25) (.region [⟨(some 26), .load (some 32) (.tmp 1), none⟩,
    ⟨(some 27), .load (some 32) (.tmp 3), none⟩,
    ⟨(some 28), .call (.const (.fn F.cuneiformref04_Xor [] [])) [(.tmp 26), (.tmp 27)], none⟩,
    ⟨none, .store 32 (.tmp 1) (.tmp 28), none⟩] [1, 2, 3, 4]) (.skip)))))))
  (.region [⟨(some 10), .mov (.tmp 4), none⟩,
    ⟨(some 11), .bin .add (.tmp 10) (.const (.int .i64 1)), none⟩,
    ⟨(some 4), .mov (.tmp 11), none⟩] [1, 2, 3, 4]))
def cuneiformref04_Shift.body : ACode := .seq (.region [⟨(some 1), .box T.cuneiformref04_W (.tmp 0), none⟩,
    ⟨(some 2), .alloc T.cuneiformref04_W [(.bool false), (.bool false), (.bool false), (.bool false), (.bool false), (.bool false), (.bool false), (.bool false), (.bool false), (.bool false), (.bool false), (.bool false), (.bool false), (.bool false), (.bool false), (.bool false), (.bool false), (.bool false), (.bool false), (.bool false), (.bool false), (.bool false), (.bool false), (.bool false), (.bool false), (.bool false), (.bool false), (.bool false), (.bool false), (.bool false), (.bool false), (.bool false)], none⟩] [1, 2])
  (.seq (.region [⟨(some 7), .call (.const (.fn F.cuneiformref04_Of [] [])) [(.const (.int .u32 3988292384))], none⟩,
    ⟨(some 3), .alloc T.cuneiformref04_W [(.bool false), (.bool false), (.bool false), (.bool false), (.bool false), (.bool false), (.bool false), (.bool false), (.bool false), (.bool false), (.bool false), (.bool false), (.bool false), (.bool false), (.bool false), (.bool false), (.bool false), (.bool false), (.bool false), (.bool false), (.bool false), (.bool false), (.bool false), (.bool false), (.bool false), (.bool false), (.bool false), (.bool false), (.bool false), (.bool false), (.bool false), (.bool false)], none⟩,
    ⟨none, .store 32 (.tmp 3) (.tmp 7), none⟩] [1, 2, 3])
  (.seq (.seq (.region [⟨(some 4), .mov (.const (.int .i64 0)), none⟩] [1, 2, 3, 4])
  (.block 0 (.loop cuneiformref04_Shift.b1)))
  (.seq (.region [⟨(some 29), .load (some 32) (.tmp 1), none⟩,
    ⟨none, .store 32 (.tmp 2) (.tmp 29), none⟩] [2])
  (.ret))))
def cuneiformref04_Shift : AFun := ⟨30, 1, [.cell 2 (some 32)], cuneiformref04_Shift.body⟩
def cuneiformref04_Of.b0 : ACode := .seq (.seq (.region [⟨(some 5), .mov (.tmp 4), none⟩,
    ⟨(some 6), .bin .lss (.tmp 5) (.const (.int .i64 32)), none⟩] [0, 2, 3, 4, 6])
  (.cond (.tmp 6) (.skip) (.exit 0)))
  (.seq (.block 1 (.seq (.region [⟨(some 9), .mov (.tmp 4), none⟩,
    ⟨(some 10), .mov (.tmp 0), none⟩,
    ⟨(some 11), .bin .rem (.tmp 10) (.const (.int .u32 2)), none⟩,
    ⟨(some 12), .bin .eql (.tmp 11) (.const (.int .u32 1)), none⟩,
    ⟨(some 13), .idx 1 (some 32) (.tmp 3) (.tmp 9), none⟩,
    ⟨none, .store 1 (.tmp 13) (.tmp 12), none⟩] [0, 2, 3, 4])
  (.region [⟨(some 14), .mov (.tmp 0), none⟩,
    ⟨(some 15), .bin .quo (.tmp 14) (.const (.int .u32 2)), none⟩,
    ⟨(some 0), .mov (.tmp 15), none⟩] [0, 2, 3, 4])))
  (.region [⟨(some 7), .mov (.tmp 4), none⟩,
    ⟨(some 8), .bin .add (.tmp 7) (.const (.int .i64 1)), none⟩,
    ⟨(some 4), .mov (.tmp 8), none⟩] [0, 2, 3, 4]))
def cuneiformref04_Of.body : ACode := .seq (.region [⟨(some 2), .alloc T.cuneiformref04_W [(.bool false), (.bool false), (.bool false), (.bool false), (.bool false), (.bool false), (.bool false), (.bool false), (.bool false), (.bool false), (.bool false), (.bool false), (.bool false), (.bool false), (.bool false), (.bool false), (.bool false), (.bool false), (.bool false), (.bool false), (.bool false), (.bool false), (.bool false), (.bool false), (.bool false), (.bool false), (.bool false), (.bool false), (.bool false), (.bool false), (.bool false), (.bool false)], none⟩] [0, 2])
  (.seq (.region [⟨(some 3), .alloc T.cuneiformref04_W [(.bool false), (.bool false), (.bool false), (.bool false), (.bool false), (.bool false), (.bool false), (.bool false), (.bool false), (.bool false), (.bool false), (.bool false), (.bool false), (.bool false), (.bool false), (.bool false), (.bool false), (.bool false), (.bool false), (.bool false), (.bool false), (.bool false), (.bool false), (.bool false), (.bool false), (.bool false), (.bool false), (.bool false), (.bool false), (.bool false), (.bool false), (.bool false)], none⟩] [0, 2, 3])
  (.seq (.seq (.region [⟨(some 4), .mov (.const (.int .i64 0)), none⟩] [0, 2, 3, 4])
  (.block 0 (.loop cuneiformref04_Of.b0)))
  (.seq (.region [⟨(some 16), .load (some 32) (.tmp 3), none⟩,
    ⟨none, .store 32 (.tmp 2) (.tmp 16), none⟩] [2])
  (.ret))))
def cuneiformref04_Of : AFun := ⟨17, 1, [.cell 2 (some 32)], cuneiformref04_Of.body⟩
def crc_Table_Add.d0 : List AOper := [⟨(some 14), .mov (.tmp 1), none⟩,
    ⟨(some 15), .mov (.tmp 2), none⟩,
    ⟨(some 16), .idx 1 none (.tmp 15) (.const (.int .i64 0)), none⟩,
    ⟨(some 17), .load none (.tmp 16), none⟩,
    ⟨(some 18), .conv .u32 (.tmp 17), none⟩,
    ⟨(some 19), .mov (.tmp 2), none⟩,
    ⟨(some 20), .idx 1 none (.tmp 19) (.const (.int .i64 1)), none⟩,
    ⟨(some 21), .load none (.tmp 20), none⟩,
    ⟨(some 22), .conv .u32 (.tmp 21), none⟩,
    ⟨(some 23), .bin .shl (.tmp 22) (.const (.int .u64 8)), none⟩,
    ⟨(some 24), .bin .or (.tmp 18) (.tmp 23), none⟩,
    ⟨(some 25), .mov (.tmp 2), none⟩,
    ⟨(some 26), .idx 1 none (.tmp 25) (.const (.int .i64 2)), none⟩,
    ⟨(some 27), .load none (.tmp 26), none⟩,
    ⟨(some 28), .conv .u32 (.tmp 27), none⟩,
    ⟨(some 29), .bin .shl (.tmp 28) (.const (.int .u64 16)), none⟩,
    ⟨(some 30), .bin .or (.tmp 24) (.tmp 29), none⟩,
    ⟨(some 31), .mov (.tmp 2), none⟩,
    ⟨(some 32), .idx 1 none (.tmp 31) (.const (.int .i64 3)), none⟩,
    ⟨(some 33), .load none (.tmp 32), none⟩,
    ⟨(some 34), .conv .u32 (.tmp 33), none⟩,
    ⟨(some 35), .bin .shl (.tmp 34) (.const (.int .u64 24)), none⟩,
    ⟨(some 36), .bin .or (.tmp 30) (.tmp 35), none⟩,
    ⟨(some 37), .bin .xor (.tmp 14) (.tmp 36), none⟩,
    ⟨(some 1), .mov (.tmp 37), none⟩]
def crc_Table_Add.d0b : List (List Nat) := [[], [], [1], [1, 2], [1, 2, 3], [], [5], [5, 6], [5, 6, 7], [5, 6, 7, 8], [1, 2, 3, 4, 5, 6, 7, 8, 9], [], [11], [11, 12], [11, 12, 13], [11, 12, 13, 14], [1, 2, 3, 4, 5, 6, 7, 8, 9, 10, 11, 12, 13, 14, 15], [], [17], [17, 18], [17, 18, 19], [17, 18, 19, 20], [1, 2, 3, 4, 5, 6, 7, 8, 9, 10, 11, 12, 13, 14, 15, 16, 17, 18, 19, 20, 21], [0, 1, 2, 3, 4, 5, 6, 7, 8, 9, 10, 11, 12, 13, 14, 15, 16, 17, 18, 19, 20, 21, 22], [0, 1, 2, 3, 4, 5, 6, 7, 8, 9, 10, 11, 12, 13, 14, 15, 16, 17, 18, 19, 20, 21, 22, 23]]
def crc_Table_Add.d1 : List AOper := [⟨(some 38), .mov (.tmp 0), none⟩,
    ⟨(some 39), .mov (.tmp 1), none⟩,
    ⟨(some 40), .bin .and (.tmp 39) (.const (.int .u32 255)), none⟩,
    ⟨(some 41), .nilc (.tmp 38), none⟩,
    ⟨(some 42), .field 0 (.tmp 41), none⟩,
    ⟨(some 43), .idx 256 (some 4) (.tmp 42) (.const (.int .i64 3)), none⟩,
    ⟨(some 44), .idx 1 (some 256) (.tmp 43) (.tmp 40), none⟩,
    ⟨(some 45), .load none (.tmp 44), none⟩,
    ⟨(some 46), .mov (.tmp 0), none⟩,
    ⟨(some 47), .mov (.tmp 1), none⟩,
    ⟨(some 48), .bin .shr (.tmp 47) (.const (.int .u64 8)), none⟩,
    ⟨(some 49), .bin .and (.tmp 48) (.const (.int .u32 255)), none⟩,
    ⟨(some 50), .nilc (.tmp 46), none⟩,
    ⟨(some 51), .field 0 (.tmp 50), none⟩,
    ⟨(some 52), .idx 256 (some 4) (.tmp 51) (.const (.int .i64 2)), none⟩,
    ⟨(some 53), .idx 1 (some 256) (.tmp 52) (.tmp 49), none⟩,
    ⟨(some 54), .load none (.tmp 53), none⟩,
    ⟨(some 55), .bin .xor (.tmp 45) (.tmp 54), none⟩,
    ⟨(some 56), .mov (.tmp 0), none⟩,
    ⟨(some 57), .mov (.tmp 1), none⟩,
    ⟨(some 58), .bin .shr (.tmp 57) (.const (.int .u64 16)), none⟩,
    ⟨(some 59), .bin .and (.tmp 58) (.const (.int .u32 255)), none⟩,
    ⟨(some 60), .nilc (.tmp 56), none⟩,
    ⟨(some 61), .field 0 (.tmp 60), none⟩,
    ⟨(some 62), .idx 256 (some 4) (.tmp 61) (.const (.int .i64 1)), none⟩,
    ⟨(some 63), .idx 1 (some 256) (.tmp 62) (.tmp 59), none⟩,
    ⟨(some 64), .load none (.tmp 63), none⟩,
    ⟨(some 65), .bin .xor (.tmp 55) (.tmp 64), none⟩,
    ⟨(some 66), .mov (.tmp 0), none⟩,
    ⟨(some 67), .mov (.tmp 1), none⟩,
    ⟨(some 68), .bin .shr (.tmp 67) (.const (.int .u64 24)), none⟩,
    ⟨(some 69), .nilc (.tmp 66), none⟩,
    ⟨(some 70), .field 0 (.tmp 69), none⟩,
    ⟨(some 71), .idx 256 (some 4) (.tmp 70) (.const (.int .i64 0)), none⟩,
    ⟨(some 72), .idx 1 (some 256) (.tmp 71) (.tmp 68), none⟩,
    ⟨(some 73), .load none (.tmp 72), none⟩,
    ⟨(some 74), .bin .xor (.tmp 65) (.tmp 73), none⟩,
    ⟨(some 1), .mov (.tmp 74), none⟩]
def crc_Table_Add.d1b : List (List Nat) := [[], [], [1], [0], [0, 3], [0, 3, 4], [0, 1, 2, 3, 4, 5], [0, 1, 2, 3, 4, 5, 6], [], [], [9], [9, 10], [8], [8, 12], [8, 12, 13], [8, 9, 10, 11, 12, 13, 14], [8, 9, 10, 11, 12, 13, 14, 15], [0, 1, 2, 3, 4, 5, 6, 7, 8, 9, 10, 11, 12, 13, 14, 15, 16], [], [], [19], [19, 20], [18], [18, 22], [18, 22, 23], [18, 19, 20, 21, 22, 23, 24], [18, 19, 20, 21, 22, 23, 24, 25], [0, 1, 2, 3, 4, 5, 6, 7, 8, 9, 10, 11, 12, 13, 14, 15, 16, 17, 18, 19, 20, 21, 22, 23, 24, 25, 26], [], [], [29], [28], [28, 31], [28, 31, 32], [28, 29, 30, 31, 32, 33], [28, 29, 30, 31, 32, 33, 34], [0, 1, 2, 3, 4, 5, 6, 7, 8, 9, 10, 11, 12, 13, 14, 15, 16, 17, 18, 19, 20, 21, 22, 23, 24, 25, 26, 27, 28, 29, 30, 31, 32, 33, 34, 35], [0, 1, 2, 3, 4, 5, 6, 7, 8, 9, 10, 11, 12, 13, 14, 15, 16, 17, 18, 19, 20, 21, 22, 23, 24, 25, 26, 27, 28, 29, 30, 31, 32, 33, 34, 35, 36]]
def crc_Table_Add.b2 : ACode := .block 1 (.seq (.seq (.region [⟨(some 11), .mov (.tmp 2), none⟩,
    ⟨(some 12), .len .slice (.tmp 11), none⟩,
    ⟨(some 13), .bin .lss (.tmp 12) (.const (.int .i64 4)), none⟩] [0, 1, 2, 13])
  (.cond (.tmp 13) (.exit 0) (.skip)))
  (.seq (.draw crc_Table_Add.d0 crc_Table_Add.d0b [[0, 1, 2, 3, 4, 5, 6, 7, 8, 9, 10, 11, 12, 13, 14, 15, 16, 17, 18, 19, 20, 21, 22, 23, 24]] [] [0, 1, 2])
  (.seq (.draw crc_Table_Add.d1 crc_Table_Add.d1b [[0, 1, 2, 3, 4, 5, 6, 7, 8, 9, 10, 11, 12, 13, 14, 15, 16, 17, 18, 19, 20, 21, 22, 23, 24, 25, 26, 27, 28, 29, 30, 31, 32, 33, 34, 35, 36, 37]] [] [0, 1, 2])
  (.region [⟨(some 75), .mov (.tmp 2), none⟩,
    ⟨(some 76), .slice 1 .slice (.tmp 75) (some (.const (.int .i64 4))) none none, none⟩,
    ⟨(some 2), .mov (.tmp 76), none⟩] [0, 1, 2]))))
def crc_Table_Add.b3 : ACode := .seq (.region [⟨(some 80), .bin .lss (.tmp 79) (.tmp 78), none⟩] [0, 1, 77, 78, 79, 80])
  (.seq (.cond (.tmp 80) (.skip) (.exit 2))
  (.seq (.block 3 (.seq (.region [⟨(some 81), .idx 1 none (.tmp 77) (.tmp 79), none⟩,
    ⟨(some 82), .load none (.tmp 81), none⟩,
    ⟨(some 8), .mov (.tmp 82), none⟩] [0, 1, 8, 77, 78, 79])
  (.region [⟨(some 83), .mov (.tmp 1), none⟩,
    ⟨(some 84), .bin .shr (.tmp 83) (.const (.int .u64 8)), none⟩,
    ⟨(some 85), .mov (.tmp 0), none⟩,
    ⟨(some 86), .mov (.tmp 1), none⟩,
    ⟨(some 87), .conv .u8 (.tmp 86), none⟩,
    ⟨(some 88), .mov (.tmp 8), none⟩,
    ⟨(some 89), .bin .xor (.tmp 87) (.tmp 88), none⟩,
    ⟨(some 90), .nilc (.tmp 85), none⟩,
    ⟨(some 91), .field 0 (.tmp 90), none⟩,
    ⟨(some 92), .idx 256 (some 4) (.tmp 91) (.const (.int .i64 0)), none⟩,
    ⟨(some 93), .idx 1 (some 256) (.tmp 92) (.tmp 89), none⟩,
    ⟨(some 94), .load none (.tmp 93), none⟩,
    ⟨(some 95), .bin .xor (.tmp 84) (.tmp 94), none⟩,
    ⟨(some 1), .mov (.tmp 95), none⟩] [0, 1, 77, 78, 79])))
  (.region [⟨(some 96), .bin .add (.tmp 79) (.const (.int .i64 1)), none⟩,
    ⟨(some 79), .mov (.tmp 96), none⟩] [0, 1, 77, 78, 79])))
def crc_Table_Add.body : ACode := .seq (.region [⟨(some 6), .mov (.const (.int .u32 0)), none⟩] [0, 1, 2])
  (.scope (.seq (.seq (.region [⟨(some 9), .mov (.tmp 0), none⟩,
    ⟨(some 10), .eq false .ptr (.tmp 9) (.const .nilp), none⟩] [0, 1, 2, 10])
  (.cond (.tmp 10) (.seq (.region [⟨(some 6), .mov (.const (.int .u32 0)), none⟩] [6])
  (.ret)) (.skip)))
  (.seq (.skip)
  (.seq (.block 0 (.loop crc_Table_Add.b2))
  (.seq (.seq (.region [⟨(some 77), .mov (.tmp 2), none⟩,
    ⟨(some 78), .len .slice (.tmp 77), none⟩,
    ⟨(some 79), .mov (.const (.int .i64 0)), none⟩] [0, 1, 77, 78, 79])
  (.block 2 (.loop crc_Table_Add.b3)))
  (.seq (.region [⟨(some 97), .mov (.tmp 1), none⟩,
    ⟨(some 6), .mov (.tmp 97), none⟩] [6])
  (.ret)))))))
def crc_Table_Add : AFun := ⟨98, 3, [.tmp 6], crc_Table_Add.body⟩
def crc_Table_Begin.body : ACode := .seq (.region [⟨(some 2), .mov (.const (.int .u32 0)), none⟩] [0])
  (.seq (.seq (.region [⟨(some 3), .mov (.tmp 0), none⟩,
    ⟨(some 4), .eq false .ptr (.tmp 3) (.const .nilp), none⟩] [4])
  (.cond (.tmp 4) (.seq (.region [⟨(some 2), .mov (.const (.int .u32 0)), none⟩] [2])
  (.ret)) (.skip)))
  (.seq (.region [⟨(some 2), .mov (.const (.int .u32 4294967295)), none⟩] [2])
  (.ret)))
def crc_Table_Begin : AFun := ⟨5, 1, [.tmp 2], crc_Table_Begin.body⟩
def cuneiformlaw04_known.body : ACode := .seq (.region [⟨(some 0), .mov (.const (.bool false)), none⟩] [])
  (.seq (.region [⟨(some 2), .call (.const (.fn F.crc_New [] [])) [], none⟩,
    ⟨(some 1), .mov (.tmp 2), none⟩] [1])
  (.seq (.region [⟨(some 3), .mov (.tmp 1), none⟩,
    ⟨(some 4), .lit T.uint8 1 9 [(.int .u8 0), (.int .u8 0), (.int .u8 0), (.int .u8 0), (.int .u8 0), (.int .u8 0), (.int .u8 0), (.int .u8 0), (.int .u8 0)] [(0, 1, (.const (.int .u8 49))), (1, 1, (.const (.int .u8 50))), (2, 1, (.const (.int .u8 51))), (3, 1, (.const (.int .u8 52))), (4, 1, (.const (.int .u8 53))), (5, 1, (.const (.int .u8 54))), (6, 1, (.const (.int .u8 55))), (7, 1, (.const (.int .u8 56))), (8, 1, (.const (.int .u8 57)))], none⟩,
    ⟨(some 5), .mark (.tmp 4), none⟩,
    ⟨(some 6), .lit T.sl_uint8 1 1 [.nils] [(0, 1, (.tmp 5))], none⟩,
    ⟨(some 7), .call (.const (.fn F.crc_Table_Sum [] [])) [(.tmp 3), (.tmp 6)], none⟩,
    ⟨(some 8), .bin .eql (.tmp 7) (.const (.int .u32 3421780262)), none⟩,
    ⟨(some 9), .mov (.tmp 8), none⟩,
    ⟨(some 10), .mov (.tmp 1), some (9, true)⟩,
    ⟨(some 11), .call (.const (.fn F.crc_Table_Sum [] [])) [(.tmp 10), (.const .nils)], some (9, true)⟩,
    ⟨(some 12), .bin .eql (.tmp 11) (.const (.int .u32 0)), some (9, true)⟩,
    ⟨(some 13), .pick (.tmp 9) (.tmp 12) (.const (.bool false)), none⟩,
    ⟨(some 14), .mov (.tmp 13), none⟩,
    ⟨(some 15), .mov (.tmp 1), some (14, true)⟩,
    ⟨(some 16), .call (.const (.fn F.crc_Table_Entry [] [])) [(.tmp 15), (.const (.int .i64 1))], some (14, true)⟩,
    ⟨(some 17), .bin .eql (.tmp 16) (.const (.int .u32 1996959894)), some (14, true)⟩,
    ⟨(some 18), .pick (.tmp 14) (.tmp 17) (.const (.bool false)), none⟩,
    ⟨(some 19), .mov (.tmp 18), none⟩,
    ⟨(some 20), .lit T.uint8 1 9 [(.int .u8 0), (.int .u8 0), (.int .u8 0), (.int .u8 0), (.int .u8 0), (.int .u8 0), (.int .u8 0), (.int .u8 0), (.int .u8 0)] [(0, 1, (.const (.int .u8 49))), (1, 1, (.const (.int .u8 50))), (2, 1, (.const (.int .u8 51))), (3, 1, (.const (.int .u8 52))), (4, 1, (.const (.int .u8 53))), (5, 1, (.const (.int .u8 54))), (6, 1, (.const (.int .u8 55))), (7, 1, (.const (.int .u8 56))), (8, 1, (.const (.int .u8 57)))], some (19, true)⟩,
    ⟨(some 21), .mark (.tmp 20), some (19, true)⟩,
    ⟨(some 22), .call (.const (.fn F.crc_Slow [] [])) [(.tmp 21)], some (19, true)⟩,
    ⟨(some 23), .bin .eql (.tmp 22) (.const (.int .u32 3421780262)), some (19, true)⟩,
    ⟨(some 24), .pick (.tmp 19) (.tmp 23) (.const (.bool false)), none⟩,
    ⟨(some 0), .mov (.tmp 24), none⟩] [0])
  (.ret)))
def cuneiformlaw04_known : AFun := ⟨25, 0, [.tmp 0], cuneiformlaw04_known.body⟩
def crc_Table_Sum.b0 : ACode := .seq (.region [⟨(some 13), .bin .lss (.tmp 12) (.tmp 11), none⟩] [0, 5, 10, 11, 12, 13])
  (.seq (.cond (.tmp 13) (.skip) (.exit 0))
  (.seq (.block 1 (.seq (.region [⟨(some 14), .idx 1 none (.tmp 10) (.tmp 12), none⟩,
    ⟨(some 15), .load none (.tmp 14), none⟩,
    ⟨(some 7), .mov (.tmp 15), none⟩] [0, 5, 7, 10, 11, 12])
  (.region [⟨(some 16), .mov (.tmp 0), none⟩,
    ⟨(some 17), .mov (.tmp 5), none⟩,
    ⟨(some 18), .mov (.tmp 7), none⟩,
    ⟨(some 19), .call (.const (.fn F.crc_Table_Add [] [])) [(.tmp 16), (.tmp 17), (.tmp 18)], none⟩,
    ⟨(some 5), .mov (.tmp 19), none⟩] [0, 5, 10, 11, 12])))
  (.region [⟨(some 20), .bin .add (.tmp 12) (.const (.int .i64 1)), none⟩,
    ⟨(some 12), .mov (.tmp 20), none⟩] [0, 5, 10, 11, 12])))
def crc_Table_Sum.body : ACode := .seq (.region [⟨(some 4), .mov (.const (.int .u32 0)), none⟩] [0, 1])
  (.seq (.region [⟨(some 8), .mov (.tmp 0), none⟩,
    ⟨(some 9), .call (.const (.fn F.crc_Table_Begin [] [])) [(.tmp 8)], none⟩,
    ⟨(some 5), .mov (.tmp 9), none⟩] [0, 1, 5])
  (.seq (.seq (.region [⟨(some 10), .mov (.tmp 1), none⟩,
    ⟨(some 11), .len .slice (.tmp 10), none⟩,
    ⟨(some 12), .mov (.const (.int .i64 0)), none⟩] [0, 5, 10, 11, 12])
  (.block 0 (.loop crc_Table_Sum.b0)))
  (.seq (.region [⟨(some 21), .mov (.tmp 0), none⟩,
    ⟨(some 22), .mov (.tmp 5), none⟩,
    ⟨(some 23), .call (.const (.fn F.crc_Table_End [] [])) [(.tmp 21), (.tmp 22)], none⟩,
    ⟨(some 4), .mov (.tmp 23), none⟩] [4])
  (.ret))))
def crc_Table_Sum : AFun := ⟨24, 2, [.tmp 4], crc_Table_Sum.body⟩
def crc_Slow.b0 : ACode := .seq (.region [⟨(some 9), .bin .lss (.tmp 8) (.tmp 7), none⟩] [3, 6, 7, 8, 9])
  (.seq (.cond (.tmp 9) (.skip) (.exit 0))
  (.seq (.block 1 (.seq (.region [⟨(some 10), .idx 1 none (.tmp 6) (.tmp 8), none⟩,
    ⟨(some 11), .load none (.tmp 10), none⟩,
    ⟨(some 5), .mov (.tmp 11), none⟩] [3, 5, 6, 7, 8])
  (.region [⟨(some 12), .mov (.tmp 3), none⟩,
    ⟨(some 13), .mov (.tmp 5), none⟩,
    ⟨(some 14), .conv .u32 (.tmp 13), none⟩,
    ⟨(some 15), .bin .xor (.tmp 12) (.tmp 14), none⟩,
    ⟨(some 16), .call (.const (.fn F.crc_shift [] [])) [(.tmp 15)], none⟩,
    ⟨(some 3), .mov (.tmp 16), none⟩] [3, 6, 7, 8])))
  (.region [⟨(some 17), .bin .add (.tmp 8) (.const (.int .i64 1)), none⟩,
    ⟨(some 8), .mov (.tmp 17), none⟩] [3, 6, 7, 8])))
def crc_Slow.body : ACode := .seq (.region [⟨(some 2), .mov (.const (.int .u32 0)), none⟩] [0])
  (.seq (.region [⟨(some 3), .mov (.const (.int .u32 4294967295)), none⟩] [0, 3])
  (.seq (.seq (.region [⟨(some 6), .mov (.tmp 0), none⟩,
    ⟨(some 7), .len .slice (.tmp 6), none⟩,
    ⟨(some 8), .mov (.const (.int .i64 0)), none⟩] [3, 6, 7, 8])
  (.block 0 (.loop crc_Slow.b0)))
  (.seq (.region [⟨(some 18), .mov (.tmp 3), none⟩,
    ⟨(some 19), .un .xor (.tmp 18), none⟩,
    ⟨(some 2), .mov (.tmp 19), none⟩] [2])
  (.ret))))
def crc_Slow : AFun := ⟨20, 1, [.tmp 2], crc_Slow.body⟩
def crc_Table_End.body : ACode := .seq (.region [⟨(some 4), .mov (.const (.int .u32 0)), none⟩] [0, 1])
  (.seq (.seq (.region [⟨(some 5), .mov (.tmp 0), none⟩,
    ⟨(some 6), .eq false .ptr (.tmp 5) (.const .nilp), none⟩] [1, 6])
  (.cond (.tmp 6) (.seq (.region [⟨(some 4), .mov (.const (.int .u32 0)), none⟩] [4])
  (.ret)) (.skip)))
  (.seq (.region [⟨(some 7), .mov (.tmp 1), none⟩,
    ⟨(some 8), .un .xor (.tmp 7), none⟩,
    ⟨(some 4), .mov (.tmp 8), none⟩] [4])
  (.ret)))
def crc_Table_End : AFun := ⟨9, 2, [.tmp 4], crc_Table_End.body⟩
def crc_Table_Entry.body : ACode := .seq (.region [⟨(some 4), .mov (.const (.int .u32 0)), none⟩] [0, 1])
  (.seq (.seq (.region [⟨(some 5), .mov (.tmp 0), none⟩,
    ⟨(some 6), .eq false .ptr (.tmp 5) (.const .nilp), none⟩,
    ⟨(some 7), .mov (.tmp 6), none⟩,
    ⟨(some 8), .mov (.tmp 1), some (7, false)⟩,
    ⟨(some 9), .bin .lss (.tmp 8) (.const (.int .i64 0)), some (7, false)⟩,
    ⟨(some 10), .pick (.tmp 7) (.const (.bool true)) (.tmp 9), none⟩,
    ⟨(some 11), .mov (.tmp 10), none⟩,
    ⟨(some 12), .mov (.tmp 1), some (11, false)⟩,
    ⟨(some 13), .bin .gtr (.tmp 12) (.const (.int .i64 255)), some (11, false)⟩,
    ⟨(some 14), .pick (.tmp 11) (.const (.bool true)) (.tmp 13), none⟩] [0, 1, 14])
  (.cond (.tmp 14) (.seq (.region [⟨(some 4), .mov (.const (.int .u32 0)), none⟩] [4])
  (.ret)) (.skip)))
  (.seq (.region [⟨(some 15), .mov (.tmp 0), none⟩,
    ⟨(some 16), .mov (.tmp 1), none⟩,
    ⟨(some 17), .nilc (.tmp 15), none⟩,
    ⟨(some 18), .field 0 (.tmp 17), none⟩,
    ⟨(some 19), .idx 256 (some 4) (.tmp 18) (.const (.int .i64 0)), none⟩,
    ⟨(some 20), .idx 1 (some 256) (.tmp 19) (.tmp 16), none⟩,
    ⟨(some 21), .load none (.tmp 20), none⟩,
    ⟨(some 4), .mov (.tmp 21), none⟩] [4])
  (.ret)))
def crc_Table_Entry : AFun := ⟨22, 2, [.tmp 4], crc_Table_Entry.body⟩
def crc_Seal.d0 : List AOper := [⟨(some 13), .lit T.uint8 1 0 [] [], none⟩,
    ⟨(some 14), .mov (.tmp 1), none⟩,
    ⟨(some 15), .append T.uint8 1 1 (.tmp 13) (.tmp 14), none⟩,
    ⟨(some 16), .slice 1 (.array 4) (.tmp 5) none none none, none⟩,
    ⟨(some 17), .append T.uint8 1 1 (.tmp 15) (.tmp 16), none⟩,
    ⟨(some 4), .mov (.tmp 17), none⟩]
def crc_Seal.d0b : List (List Nat) := [[], [], [0, 1], [], [0, 1, 2, 3], [0, 1, 2, 3, 4]]
def crc_Seal.body : ACode := .seq (.region [⟨(some 4), .mov (.const .nils), none⟩] [0, 1])
  (.seq (.seq (.region [⟨(some 6), .mov (.tmp 0), none⟩,
    ⟨(some 7), .eq false .ptr (.tmp 6) (.const .nilp), none⟩] [0, 1, 7])
  (.cond (.tmp 7) (.seq (.region [⟨(some 4), .mov (.const .nils), none⟩] [4])
  (.ret)) (.skip)))
  (.seq (.region [⟨(some 8), .mov (.tmp 0), none⟩,
    ⟨(some 9), .mov (.tmp 1), none⟩,
    ⟨(some 10), .lit T.sl_uint8 1 1 [.nils] [(0, 1, (.tmp 9))], none⟩,
    ⟨(some 11), .call (.const (.fn F.crc_Table_Sum [] [])) [(.tmp 8), (.tmp 10)], none⟩,
    ⟨(some 12), .call (.const (.fn F.crc_bytes [] [])) [(.tmp 11)], none⟩,
    ⟨(some 5), .alloc T.n4_uint8 [(.int .u8 0), (.int .u8 0), (.int .u8 0), (.int .u8 0)], none⟩,
    ⟨none, .store 4 (.tmp 5) (.tmp 12), none⟩] [1, 5])
  (.seq (.draw crc_Seal.d0 crc_Seal.d0b [[1, 3, 0, 2, 4, 5]] [(0, 3), (2, 3)] [4])
  (.ret))))
def crc_Seal : AFun := ⟨18, 2, [.tmp 4], crc_Seal.body⟩
def cuneiformref01_Same.d0 : List AOper := [⟨(some 17), .mov (.tmp 0), none⟩,
    ⟨(some 18), .mov (.tmp 5), none⟩,
    ⟨(some 19), .idx 1 none (.tmp 17) (.tmp 18), none⟩,
    ⟨(some 20), .load none (.tmp 19), none⟩,
    ⟨(some 21), .mov (.tmp 1), none⟩,
    ⟨(some 22), .mov (.tmp 5), none⟩,
    ⟨(some 23), .idx 1 none (.tmp 21) (.tmp 22), none⟩,
    ⟨(some 24), .load none (.tmp 23), none⟩,
    ⟨(some 25), .bin .neq (.tmp 20) (.tmp 24), none⟩]
def cuneiformref01_Same.d0b : List (List Nat) := [[], [], [0, 1], [0, 1, 2], [], [], [4, 5], [4, 5, 6], [0, 1, 2, 3, 4, 5, 6, 7]]
def cuneiformref01_Same.b1 : ACode := .seq (.seq (.region [⟨(some 11), .mov (.tmp 5), none⟩,
    ⟨(some 12), .mov (.tmp 0), none⟩,
    ⟨(some 13), .len .slice (.tmp 12), none⟩,
    ⟨(some 14), .bin .lss (.tmp 11) (.tmp 13), none⟩] [0, 1, 5, 14])
  (.cond (.tmp 14) (.skip) (.exit 0)))
  (.seq (.block 1 (.seq (.draw cuneiformref01_Same.d0 cuneiformref01_Same.d0b [[0, 1, 2, 3, 4, 5, 6, 7, 8]] [] [0, 1, 5, 25])
  (.cond (.tmp 25) (.seq (.region [⟨(some 4), .mov (.const (.bool false)), none⟩] [4])
  (.ret)) (.skip))))
  (.region [⟨(some 15), .mov (.tmp 5), none⟩,
    ⟨(some 16), .bin .add (.tmp 15) (.const (.int .i64 1)), none⟩,
    ⟨(some 5), .mov (.tmp 16), none⟩] [0, 1, 5]))
def cuneiformref01_Same.body : ACode := .seq (.region [⟨(some 4), .mov (.const (.bool false)), none⟩] [0, 1])
  (.seq (.seq (.region [⟨(some 6), .mov (.tmp 0), none⟩,
    ⟨(some 7), .len .slice (.tmp 6), none⟩,
    ⟨(some 8), .mov (.tmp 1), none⟩,
    ⟨(some 9), .len .slice (.tmp 8), none⟩,
    ⟨(some 10), .bin .neq (.tmp 7) (.tmp 9), none⟩] [0, 1, 10])
  (.cond (.tmp 10) (.seq (.region [⟨(some 4), .mov (.const (.bool false)), none⟩] [4])
  (.ret)) (.skip)))
  (.seq (.seq (.region [⟨(some 5), .mov (.const (.int .i64 0)), none⟩] [0, 1, 5])
  (.block 0 (.loop cuneiformref01_Same.b1)))
  (.seq (.region [⟨(some 4), .mov (.const (.bool true)), none⟩] [4])
  (.ret))))
def cuneiformref01_Same : AFun := ⟨26, 2, [.tmp 4], cuneiformref01_Same.body⟩
def cuneiformref04_Bytes.body : ACode := .seq (.region [⟨(some 2), .mov (.const .nils), none⟩] [0])
  (.seq (.region [⟨(some 3), .mov (.tmp 0), none⟩,
    ⟨(some 4), .bin .rem (.tmp 3) (.const (.int .u32 256)), none⟩,
    ⟨(some 5), .conv .u8 (.tmp 4), none⟩,
    ⟨(some 6), .mov (.tmp 0), none⟩,
    ⟨(some 7), .bin .quo (.tmp 6) (.const (.int .u32 256)), none⟩,
    ⟨(some 8), .bin .rem (.tmp 7) (.const (.int .u32 256)), none⟩,
    ⟨(some 9), .conv .u8 (.tmp 8), none⟩,
    ⟨(some 10), .mov (.tmp 0), none⟩,
    ⟨(some 11), .bin .quo (.tmp 10) (.const (.int .u32 65536)), none⟩,
    ⟨(some 12), .bin .rem (.tmp 11) (.const (.int .u32 256)), none⟩,
    ⟨(some 13), .conv .u8 (.tmp 12), none⟩,
    ⟨(some 14), .mov (.tmp 0), none⟩,
    ⟨(some 15), .bin .quo (.tmp 14) (.const (.int .u32 16777216)), none⟩,
    ⟨(some 16), .conv .u8 (.tmp 15), none⟩,
    ⟨(some 17), .lit T.uint8 1 4 [(.int .u8 0), (.int .u8 0), (.int .u8 0), (.int .u8 0)] [(0, 1, (.tmp 5)), (1, 1, (.tmp 9)), (2, 1, (.tmp 13)), (3, 1, (.tmp 16))], none⟩,
    ⟨(some 2), .mov (.tmp 17), none⟩] [2])
  (.ret))
def cuneiformref04_Bytes : AFun := ⟨18, 1, [.tmp 2], cuneiformref04_Bytes.body⟩
def crc_Open.d0 : List AOper := [⟨(some 21), .mov (.tmp 0), none⟩,
    ⟨(some 22), .mov (.tmp 7), none⟩,
    ⟨(some 23), .lit T.sl_uint8 1 1 [.nils] [(0, 1, (.tmp 22))], none⟩,
    ⟨(some 24), .call (.const (.fn F.crc_Table_Sum [] [])) [(.tmp 21), (.tmp 23)], none⟩,
    ⟨(some 25), .call (.const (.fn F.crc_bytes [] [])) [(.tmp 24)], none⟩,
    ⟨(some 26), .mov (.tmp 1), none⟩,
    ⟨(some 27), .mov (.tmp 6), none⟩,
    ⟨(some 28), .slice 1 .slice (.tmp 26) (some (.tmp 27)) none none, none⟩,
    ⟨(some 29), .toArr 4 (.tmp 28), none⟩,
    ⟨(some 30), .load (some 4) (.tmp 29), none⟩,
    ⟨(some 31), .eq true (.cells [.int, .int, .int, .int]) (.tmp 25) (.tmp 30), none⟩]
def crc_Open.d0b : List (List Nat) := [[], [], [1], [0, 1, 2], [0, 1, 2, 3], [], [], [5, 6], [5, 6, 7], [5, 6, 7, 8], [0, 1, 2, 3, 4, 5, 6, 7, 8, 9]]
def crc_Open.body : ACode := .seq (.region [⟨(some 4), .mov (.const .nils), none⟩,
    ⟨(some 5), .mov (.const (.int .i64 0)), none⟩] [0, 1])
  (.seq (.region [⟨(some 8), .mov (.tmp 1), none⟩,
    ⟨(some 9), .len .slice (.tmp 8), none⟩,
    ⟨(some 10), .bin .sub (.tmp 9) (.const (.int .i64 4)), none⟩,
    ⟨(some 6), .mov (.tmp 10), none⟩] [0, 1, 6])
  (.seq (.block 0 (.seq (.region [⟨(some 12), .mov (.tmp 0), none⟩,
    ⟨(some 13), .eq false .ptr (.tmp 12) (.const .nilp), none⟩,
    ⟨(some 11), .mov (.tmp 13), none⟩] [0, 1, 6, 11])
  (.cond (.tmp 11) (.seq (.region [⟨(some 4), .mov (.const .nils), none⟩,
    ⟨(some 5), .mov (.const (.int .i64 1)), none⟩] [4, 5])
  (.ret)) (.seq (.region [⟨(some 15), .mov (.tmp 6), none⟩,
    ⟨(some 16), .bin .lss (.tmp 15) (.const (.int .i64 0)), none⟩,
    ⟨(some 14), .mov (.tmp 16), none⟩] [0, 1, 6, 14])
  (.cond (.tmp 14) (.seq (.region [⟨(some 4), .mov (.const .nils), none⟩,
    ⟨(some 5), .mov (.const (.int .i64 13)), none⟩] [4, 5])
  (.ret)) (.skip))))))
  (.seq (.region [⟨(some 17), .mov (.tmp 1), none⟩,
    ⟨(some 18), .mov (.tmp 6), none⟩,
    ⟨(some 19), .mov (.tmp 6), none⟩,
    ⟨(some 20), .slice 1 .slice (.tmp 17) none (some (.tmp 18)) (some (.tmp 19)), none⟩,
    ⟨(some 7), .mov (.tmp 20), none⟩] [0, 1, 6, 7])
  (.seq (.seq (.draw crc_Open.d0 crc_Open.d0b [[0, 1, 5, 6, 7, 8, 9, 2, 3, 4, 10]] [(2, 8), (2, 9), (3, 8), (3, 9), (4, 8), (4, 9)] [7, 31])
  (.cond (.tmp 31) (.seq (.region [⟨(some 4), .mov (.const .nils), none⟩,
    ⟨(some 5), .mov (.const (.int .i64 11)), none⟩] [4, 5])
  (.ret)) (.skip)))
  (.seq (.region [⟨(some 32), .lit T.uint8 1 0 [] [], none⟩,
    ⟨(some 33), .mov (.tmp 7), none⟩,
    ⟨(some 34), .append T.uint8 1 1 (.tmp 32) (.tmp 33), none⟩,
    ⟨(some 4), .mov (.tmp 34), none⟩,
    ⟨(some 5), .mov (.const (.int .i64 0)), none⟩] [4, 5])
  (.ret))))))
def crc_Open : AFun := ⟨35, 2, [.tmp 4, .tmp 5], crc_Open.body⟩
def cuneiformref04_Open.d0 : List AOper := [⟨(some 22), .mov (.tmp 5), none⟩,
    ⟨(some 23), .mov (.tmp 6), none⟩,
    ⟨(some 24), .idx 1 none (.tmp 22) (.tmp 23), none⟩,
    ⟨(some 25), .load none (.tmp 24), none⟩,
    ⟨(some 26), .mov (.tmp 0), none⟩,
    ⟨(some 27), .mov (.tmp 4), none⟩,
    ⟨(some 28), .mov (.tmp 6), none⟩,
    ⟨(some 29), .bin .add (.tmp 27) (.tmp 28), none⟩,
    ⟨(some 30), .idx 1 none (.tmp 26) (.tmp 29), none⟩,
    ⟨(some 31), .load none (.tmp 30), none⟩,
    ⟨(some 32), .bin .neq (.tmp 25) (.tmp 31), none⟩]
def cuneiformref04_Open.d0b : List (List Nat) := [[], [], [0, 1], [0, 1, 2], [], [], [], [5, 6], [4, 5, 6, 7], [4, 5, 6, 7, 8], [0, 1, 2, 3, 4, 5, 6, 7, 8, 9]]
def cuneiformref04_Open.b1 : ACode := .seq (.seq (.region [⟨(some 18), .mov (.tmp 6), none⟩,
    ⟨(some 19), .bin .lss (.tmp 18) (.const (.int .i64 4)), none⟩] [0, 4, 5, 6, 19])
  (.cond (.tmp 19) (.skip) (.exit 0)))
  (.seq (.block 1 (.seq (.draw cuneiformref04_Open.d0 cuneiformref04_Open.d0b [[0, 1, 2, 3, 4, 5, 6, 7, 8, 9, 10]] [] [0, 4, 5, 6, 32])
  (.cond (.tmp 32) (.seq (.region [⟨(some 2), .mov (.const .nils), none⟩,
    ⟨(some 3), .mov (.const (.int .i64 11)), none⟩] [2, 3])
  (.ret)) (.skip))))
  (.region [⟨(some 20), .mov (.tmp 6), none⟩,
    ⟨(some 21), .bin .add (.tmp 20) (.const (.int .i64 1)), none⟩,
    ⟨(some 6), .mov (.tmp 21), none⟩] [0, 4, 5, 6]))
def cuneiformref04_Open.body : ACode := .seq (.region [⟨(some 2), .mov (.const .nils), none⟩,
    ⟨(some 3), .mov (.const (.int .i64 0)), none⟩] [0])
  (.seq (.seq (.region [⟨(some 7), .mov (.tmp 0), none⟩,
    ⟨(some 8), .len .slice (.tmp 7), none⟩,
    ⟨(some 9), .bin .lss (.tmp 8) (.const (.int .i64 4)), none⟩] [0, 9])
  (.cond (.tmp 9) (.seq (.region [⟨(some 2), .mov (.const .nils), none⟩,
    ⟨(some 3), .mov (.const (.int .i64 13)), none⟩] [2, 3])
  (.ret)) (.skip)))
  (.seq (.region [⟨(some 10), .mov (.tmp 0), none⟩,
    ⟨(some 11), .len .slice (.tmp 10), none⟩,
    ⟨(some 12), .bin .sub (.tmp 11) (.const (.int .i64 4)), none⟩,
    ⟨(some 4), .mov (.tmp 12), none⟩] [0, 4])
  (.seq (.region [⟨(some 13), .mov (.tmp 0), none⟩,
    ⟨(some 14), .mov (.tmp 4), none⟩,
    ⟨(some 15), .slice 1 .slice (.tmp 13) none (some (.tmp 14)) none, none⟩,
    ⟨(some 16), .call (.const (.fn F.cuneiformref04_Sum [] [])) [(.tmp 15)], none⟩,
    ⟨(some 17), .call (.const (.fn F.cuneiformref04_Bytes [] [])) [(.tmp 16)], none⟩,
    ⟨(some 5), .mov (.tmp 17), none⟩] [0, 4, 5])
  (.seq (.seq (.region [⟨(some 6), .mov (.const (.int .i64 0)), none⟩] [0, 4, 5, 6])
  (.block 0 (.loop cuneiformref04_Open.b1)))
  (.seq (.region [⟨(some 33), .lit T.uint8 1 0 [] [], none⟩,
    ⟨(some 34), .mov (.tmp 0), none⟩,
    ⟨(some 35), .mov (.tmp 4), none⟩,
    ⟨(some 36), .slice 1 .slice (.tmp 34) none (some (.tmp 35)) none, none⟩,
    ⟨(some 37), .append T.uint8 1 1 (.tmp 33) (.tmp 36), none⟩,
    ⟨(some 2), .mov (.tmp 37), none⟩,
    ⟨(some 3), .mov (.const (.int .i64 0)), none⟩] [2, 3])
  (.ret))))))
def cuneiformref04_Open : AFun := ⟨38, 1, [.tmp 2, .tmp 3], cuneiformref04_Open.body⟩
def crc_shift.b0 : ACode := .seq (.region [⟨(some 4), .bin .lss (.tmp 3) (.const (.int .i64 8)), none⟩] [0, 3, 4])
  (.seq (.cond (.tmp 4) (.skip) (.exit 0))
  (.seq (.block 1 (.region [⟨(some 5), .mov (.tmp 0), none⟩,
    ⟨(some 6), .bin .shr (.tmp 5) (.const (.int .u64 1)), none⟩,
    ⟨(some 7), .mov (.tmp 0), none⟩,
    ⟨(some 8), .bin .and (.tmp 7) (.const (.int .u32 1)), none⟩,
    ⟨(some 9), .un .neg (.tmp 8), none⟩,
    ⟨(some 10), .bin .and (.const (.int .u32 3988292384)) (.tmp 9), none⟩,
    ⟨(some 11), .bin .xor (.tmp 6) (.tmp 10), none⟩,
    ⟨(some 0), .mov (.tmp 11), none⟩] [0, 3]))
  (.region [⟨(some 12), .bin .add (.tmp 3) (.const (.int .i64 1)), none⟩,
    ⟨(some 3), .mov (.tmp 12), none⟩] [0, 3])))
def crc_shift.body : ACode := .seq (.region [⟨(some 2), .mov (.const (.int .u32 0)), none⟩] [0])
  (.seq (.seq (.region [⟨(some 3), .mov (.const (.int .i64 0)), none⟩] [0, 3])
  (.block 0 (.loop crc_shift.b0)))
  (.seq (.region [⟨(some 13), .mov (.tmp 0), none⟩,
    ⟨(some 2), .mov (.tmp 13), none⟩] [2])
  (.ret)))
def crc_shift : AFun := ⟨14, 1, [.tmp 2], crc_shift.body⟩
def cuneiformref04_Xor.d0 : List AOper := [⟨(some 10), .mov (.tmp 5), none⟩,
    ⟨(some 11), .mov (.tmp 5), none⟩,
    ⟨(some 12), .idx 1 (some 32) (.tmp 2) (.tmp 11), none⟩,
    ⟨(some 13), .load none (.tmp 12), none⟩,
    ⟨(some 14), .mov (.tmp 5), none⟩,
    ⟨(some 15), .idx 1 (some 32) (.tmp 3) (.tmp 14), none⟩,
    ⟨(some 16), .load none (.tmp 15), none⟩,
    ⟨(some 17), .eq true .bool (.tmp 13) (.tmp 16), none⟩,
    ⟨(some 18), .idx 1 (some 32) (.tmp 2) (.tmp 10), none⟩,
    ⟨none, .store 1 (.tmp 18) (.tmp 17), none⟩]
def cuneiformref04_Xor.d0b : List (List Nat) := [[], [], [1], [1, 2], [], [4], [4, 5], [1, 2, 3, 4, 5, 6], [0, 1, 2, 3, 4, 5, 6, 7], [0, 1, 2, 3, 4, 5, 6, 7, 8]]
def cuneiformref04_Xor.b1 : ACode := .seq (.seq (.region [⟨(some 6), .mov (.tmp 5), none⟩,
    ⟨(some 7), .bin .lss (.tmp 6) (.const (.int .i64 32)), none⟩] [2, 3, 4, 5, 7])
  (.cond (.tmp 7) (.skip) (.exit 0)))
  (.seq (.block 1 (.draw cuneiformref04_Xor.d0 cuneiformref04_Xor.d0b [[0, 1, 2, 3, 4, 5, 6, 7, 8, 9]] [] [2, 3, 4, 5]))
  (.region [⟨(some 8), .mov (.tmp 5), none⟩,
    ⟨(some 9), .bin .add (.tmp 8) (.const (.int .i64 1)), none⟩,
    ⟨(some 5), .mov (.tmp 9), none⟩] [2, 3, 4, 5]))
def cuneiformref04_Xor.body : ACode := .seq (.region [⟨(some 2), .box T.cuneiformref04_W (.tmp 0), none⟩,
    ⟨(some 3), .box T.cuneiformref04_W (.tmp 1), none⟩,
    ⟨(some 4), .alloc T.cuneiformref04_W [(.bool false), (.bool false), (.bool false), (.bool false), (.bool false), (.bool false), (.bool false), (.bool false), (.bool false), (.bool false), (.bool false), (.bool false), (.bool false), (.bool false), (.bool false), (.bool false), (.bool false), (.bool false), (.bool false), (.bool false), (.bool false), (.bool false), (.bool false), (.bool false), (.bool false), (.bool false), (.bool false), (.bool false), (.bool false), (.bool false), (.bool false), (.bool false)], none⟩] [2, 3, 4])
  (.seq (.seq (.region [⟨(some 5), .mov (.const (.int .i64 0)), none⟩] [2, 3, 4, 5])
  (.block 0 (.loop cuneiformref04_Xor.b1)))
  (.seq (.region [⟨(some 19), .load (some 32) (.tmp 2), none⟩,
    ⟨none, .store 32 (.tmp 4) (.tmp 19), none⟩] [4])
  (.ret)))
def cuneiformref04_Xor : AFun := ⟨20, 2, [.cell 4 (some 32)], cuneiformref04_Xor.body⟩
def crc_bytes.body : ACode := .seq (.region [⟨(some 2), .alloc T.n4_uint8 [(.int .u8 0), (.int .u8 0), (.int .u8 0), (.int .u8 0)], none⟩] [0, 2])
  (.seq (.region [⟨(some 3), .mov (.tmp 0), none⟩,
    ⟨(some 4), .conv .u8 (.tmp 3), none⟩,
    ⟨(some 5), .mov (.tmp 0), none⟩,
    ⟨(some 6), .bin .shr (.tmp 5) (.const (.int .u64 8)), none⟩,
    ⟨(some 7), .conv .u8 (.tmp 6), none⟩,
    ⟨(some 8), .mov (.tmp 0), none⟩,
    ⟨(some 9), .bin .shr (.tmp 8) (.const (.int .u64 16)), none⟩,
    ⟨(some 10), .conv .u8 (.tmp 9), none⟩,
    ⟨(some 11), .mov (.tmp 0), none⟩,
    ⟨(some 12), .bin .shr (.tmp 11) (.const (.int .u64 24)), none⟩,
    ⟨(some 13), .conv .u8 (.tmp 12), none⟩,
    ⟨(some 14), .build [(.int .u8 0), (.int .u8 0), (.int .u8 0), (.int .u8 0)] [(0, 1, (.tmp 4)), (1, 1, (.tmp 7)), (2, 1, (.tmp 10)), (3, 1, (.tmp 13))], none⟩,
    ⟨none, .store 4 (.tmp 2) (.tmp 14), none⟩] [2])
  (.ret))
def crc_bytes : AFun := ⟨15, 1, [.cell 2 (some 4)], crc_bytes.body⟩
theorem cuneiformlaw04_CrcSums_code : okFun Try.prog F.cuneiformlaw04_CrcSums cuneiformlaw04_CrcSums = true := by kernel_rfl
theorem cuneiformlaw04_CrcXors_code : okFun Try.prog F.cuneiformlaw04_CrcXors cuneiformlaw04_CrcXors = true := by kernel_rfl
theorem cuneiformlaw04_CrcSeals_code : okFun Try.prog F.cuneiformlaw04_CrcSeals cuneiformlaw04_CrcSeals = true := by kernel_rfl
theorem cuneiformlaw04_CrcTurns_code : okFun Try.prog F.cuneiformlaw04_CrcTurns cuneiformlaw04_CrcTurns = true := by kernel_rfl
theorem cuneiformlaw04_CrcNil_code : okFun Try.prog F.cuneiformlaw04_CrcNil cuneiformlaw04_CrcNil = true := by kernel_rfl
theorem crc_New_code : okFun Try.prog F.crc_New crc_New = true := by kernel_rfl
theorem cuneiformref04_Sum_code : okFun Try.prog F.cuneiformref04_Sum cuneiformref04_Sum = true := by kernel_rfl
theorem cuneiformref04_Word_code : okFun Try.prog F.cuneiformref04_Word cuneiformref04_Word = true := by kernel_rfl
theorem cuneiformref04_Shift_code : okFun Try.prog F.cuneiformref04_Shift cuneiformref04_Shift = true := by kernel_rfl
theorem cuneiformref04_Of_code : okFun Try.prog F.cuneiformref04_Of cuneiformref04_Of = true := by kernel_rfl
theorem crc_Table_Add_code : okFun Try.prog F.crc_Table_Add crc_Table_Add = true := by kernel_rfl
theorem crc_Table_Begin_code : okFun Try.prog F.crc_Table_Begin crc_Table_Begin = true := by kernel_rfl
theorem cuneiformlaw04_known_code : okFun Try.prog F.cuneiformlaw04_known cuneiformlaw04_known = true := by kernel_rfl
theorem crc_Table_Sum_code : okFun Try.prog F.crc_Table_Sum crc_Table_Sum = true := by kernel_rfl
theorem crc_Slow_code : okFun Try.prog F.crc_Slow crc_Slow = true := by kernel_rfl
theorem crc_Table_End_code : okFun Try.prog F.crc_Table_End crc_Table_End = true := by kernel_rfl
theorem crc_Table_Entry_code : okFun Try.prog F.crc_Table_Entry crc_Table_Entry = true := by kernel_rfl
theorem crc_Seal_code : okFun Try.prog F.crc_Seal crc_Seal = true := by kernel_rfl
theorem cuneiformref01_Same_code : okFun Try.prog F.cuneiformref01_Same cuneiformref01_Same = true := by kernel_rfl
theorem cuneiformref04_Bytes_code : okFun Try.prog F.cuneiformref04_Bytes cuneiformref04_Bytes = true := by kernel_rfl
theorem crc_Open_code : okFun Try.prog F.crc_Open crc_Open = true := by kernel_rfl
theorem cuneiformref04_Open_code : okFun Try.prog F.cuneiformref04_Open cuneiformref04_Open = true := by kernel_rfl
theorem crc_shift_code : okFun Try.prog F.crc_shift crc_shift = true := by kernel_rfl
theorem cuneiformref04_Xor_code : okFun Try.prog F.cuneiformref04_Xor cuneiformref04_Xor = true := by kernel_rfl
theorem crc_bytes_code : okFun Try.prog F.crc_bytes crc_bytes = true := by kernel_rfl
def codes : CT := [(F.cuneiformlaw04_CrcSums, cuneiformlaw04_CrcSums), (F.cuneiformlaw04_CrcXors, cuneiformlaw04_CrcXors), (F.cuneiformlaw04_CrcSeals, cuneiformlaw04_CrcSeals), (F.cuneiformlaw04_CrcTurns, cuneiformlaw04_CrcTurns), (F.cuneiformlaw04_CrcNil, cuneiformlaw04_CrcNil), (F.crc_New, crc_New), (F.cuneiformref04_Sum, cuneiformref04_Sum), (F.cuneiformref04_Word, cuneiformref04_Word), (F.cuneiformref04_Shift, cuneiformref04_Shift), (F.cuneiformref04_Of, cuneiformref04_Of), (F.crc_Table_Add, crc_Table_Add), (F.crc_Table_Begin, crc_Table_Begin), (F.cuneiformlaw04_known, cuneiformlaw04_known), (F.crc_Table_Sum, crc_Table_Sum), (F.crc_Slow, crc_Slow), (F.crc_Table_End, crc_Table_End), (F.crc_Table_Entry, crc_Table_Entry), (F.crc_Seal, crc_Seal), (F.cuneiformref01_Same, cuneiformref01_Same), (F.cuneiformref04_Bytes, cuneiformref04_Bytes), (F.crc_Open, crc_Open), (F.cuneiformref04_Open, cuneiformref04_Open), (F.crc_shift, crc_shift), (F.cuneiformref04_Xor, cuneiformref04_Xor), (F.crc_bytes, crc_bytes)]
theorem codes_ok : AllOk Try.prog codes := ⟨cuneiformlaw04_CrcSums_code, cuneiformlaw04_CrcXors_code, cuneiformlaw04_CrcSeals_code, cuneiformlaw04_CrcTurns_code, cuneiformlaw04_CrcNil_code, crc_New_code, cuneiformref04_Sum_code, cuneiformref04_Word_code, cuneiformref04_Shift_code, cuneiformref04_Of_code, crc_Table_Add_code, crc_Table_Begin_code, cuneiformlaw04_known_code, crc_Table_Sum_code, crc_Slow_code, crc_Table_End_code, crc_Table_Entry_code, crc_Seal_code, cuneiformref01_Same_code, cuneiformref04_Bytes_code, crc_Open_code, cuneiformref04_Open_code, crc_shift_code, cuneiformref04_Xor_code, crc_bytes_code, trivial⟩
end Go.Proofs.Ytlbalhddopcamaa
