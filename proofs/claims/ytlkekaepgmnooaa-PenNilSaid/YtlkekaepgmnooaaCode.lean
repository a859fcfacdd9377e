/-
  The code that the statements of this seat reach, in the form of that machine, and that it is the program's. By an AI agent. No person has read it.
-/
import Derived.Test.YtlkekaepgmnooaaProg
import Derived.Test.YtlkekaepgmnooaaAm6
import Derived.KernelRfl

/-
  The code of this seat in the form of the abstract machine, and that it is the program's. Printed by a program (wip/am/gen.py, code.py). By an AI agent.
-/
namespace Go.Proofs.Ytlkekaepgmnooaa
open Go Go.Am
namespace F
def cuneiformlaw02_PenFull : FuncId := 3
def cuneiformlaw02_PenWrites : FuncId := 4
def cuneiformlaw02_PenNil : FuncId := 5
def cuneiformlaw02_PenJoins : FuncId := 6
def pen_New : FuncId := 7
def pen_Pen_Bytes : FuncId := 8
def cuneiformlaw02_do : FuncId := 9
def cuneiformlaw02_cut : FuncId := 10
def pen_Pen_Len : FuncId := 11
def pen_Pen_Err : FuncId := 12
def cuneiformref01_Same : FuncId := 13
def cuneiformlaw02_known : FuncId := 14
def cuneiformref02_Raw : FuncId := 15
def cuneiformlaw02_bytes : FuncId := 16
def pen_Pen_Left : FuncId := 17
def pen_Pen_U8 : FuncId := 18
def pen_Pen_U16 : FuncId := 19
def pen_Pen_U32 : FuncId := 20
def pen_Pen_Number : FuncId := 21
def pen_Pen_Signed : FuncId := 22
def pen_Pen_Raw : FuncId := 23
def pen_Pen_Field : FuncId := 24
def cuneiformref02_Word : FuncId := 25
def cuneiformref01_Put : FuncId := 26
def cuneiformref02_Signed : FuncId := 27
def cuneiformref02_Field : FuncId := 28
def pen_Pen_word : FuncId := 29
def varint_Put : FuncId := 30
def varint_Zig : FuncId := 31
def cuneiformref01_Zig : FuncId := 32
end F
namespace T
def int64 : TypeId := 2
def uint8 : TypeId := 5
def uint64 : TypeId := 23
def cuneiformlaw02_Act : TypeId := 34
def cuneiformref02_P : TypeId := 42
def pen_Pen : TypeId := 58
def n4_uint8 : TypeId := 67
end T
def cuneiformlaw02_PenFull.b0 : ACode := .seq (.seq (.region [⟨(some 18), .mov (.tmp 7), none⟩,
    ⟨(some 19), .mov (.tmp 1), none⟩,
    ⟨(some 20), .len .slice (.tmp 19), none⟩,
    ⟨(some 21), .bin .lss (.tmp 18) (.tmp 20), none⟩,
    ⟨(some 22), .mov (.tmp 21), none⟩,
    ⟨(some 23), .mov (.tmp 7), some (22, true)⟩,
    ⟨(some 24), .bin .lss (.tmp 23) (.const (.int .i64 40)), some (22, true)⟩,
    ⟨(some 25), .pick (.tmp 22) (.tmp 24) (.const (.bool false)), none⟩] [0, 1, 5, 6, 7, 25])
  (.cond (.tmp 25) (.skip) (.exit 0)))
  (.seq (.block 1 (.seq (.region [⟨(some 28), .mov (.tmp 5), none⟩,
    ⟨(some 29), .call (.const (.fn F.pen_Pen_Bytes [] [])) [(.tmp 28)], none⟩,
    ⟨(some 8), .mov (.tmp 29), none⟩] [0, 1, 5, 6, 7, 8])
  (.seq (.region [⟨(some 30), .mov (.tmp 5), none⟩,
    ⟨(some 31), .mov (.tmp 1), none⟩,
    ⟨(some 32), .mov (.tmp 7), none⟩,
    ⟨(some 33), .idx 5 none (.tmp 31) (.tmp 32), none⟩,
    ⟨(some 34), .load (some 5) (.tmp 33), none⟩,
    ⟨(some 35), .call (.const (.fn F.cuneiformlaw02_cut [] [])) [(.tmp 34)], none⟩,
    ⟨(some 36), .call (.const (.fn F.cuneiformlaw02_do [] [])) [(.tmp 30), (.tmp 35)], none⟩,
    ⟨(some 9), .mov (.tmp 36), none⟩] [0, 1, 5, 6, 7, 8, 9])
  (.seq (.seq (.region [⟨(some 37), .mov (.tmp 5), none⟩,
    ⟨(some 38), .call (.const (.fn F.pen_Pen_Len [] [])) [(.tmp 37)], none⟩,
    ⟨(some 39), .mov (.tmp 0), none⟩,
    ⟨(some 40), .bin .gtr (.tmp 38) (.tmp 39), none⟩,
    ⟨(some 41), .mov (.tmp 40), none⟩,
    ⟨(some 42), .mov (.tmp 9), some (41, false)⟩,
    ⟨(some 43), .bin .neq (.tmp 42) (.const (.int .i64 0)), some (41, false)⟩,
    ⟨(some 44), .mov (.tmp 5), some (41, false)⟩,
    ⟨(some 45), .call (.const (.fn F.pen_Pen_Err [] [])) [(.tmp 44)], some (41, false)⟩,
    ⟨(some 46), .bin .neq (.tmp 45) (.const (.int .i64 0)), some (41, false)⟩,
    ⟨(some 47), .eq true .bool (.tmp 43) (.tmp 46), some (41, false)⟩,
    ⟨(some 48), .pick (.tmp 41) (.const (.bool true)) (.tmp 47), none⟩,
    ⟨(some 49), .mov (.tmp 48), none⟩,
    ⟨(some 50), .mov (.tmp 6), some (49, false)⟩,
    ⟨(some 51), .mov (.tmp 50), some (49, false)⟩,
    ⟨(some 52), .mov (.tmp 9), some (51, true)⟩,
    ⟨(some 53), .bin .eql (.tmp 52) (.const (.int .i64 0)), some (51, true)⟩,
    ⟨(some 54), .pick (.tmp 51) (.tmp 53) (.const (.bool false)), some (49, false)⟩,
    ⟨(some 55), .pick (.tmp 49) (.const (.bool true)) (.tmp 54), none⟩,
    ⟨(some 56), .mov (.tmp 55), none⟩,
    ⟨(some 57), .mov (.tmp 9), some (56, false)⟩,
    ⟨(some 58), .bin .neq (.tmp 57) (.const (.int .i64 0)), some (56, false)⟩,
    ⟨(some 59), .mov (.tmp 58), some (56, false)⟩,
    ⟨(some 60), .mov (.tmp 5), some (59, true)⟩,
    ⟨(some 61), .call (.const (.fn F.pen_Pen_Bytes [] [])) [(.tmp 60)], some (59, true)⟩,
    ⟨(some 62), .mov (.tmp 8), some (59, true)⟩,
    ⟨(some 63), .call (.const (.fn F.cuneiformref01_Same [] [])) [(.tmp 61), (.tmp 62)], some (59, true)⟩,
    ⟨(some 64), .un .not (.tmp 63), some (59, true)⟩,
    ⟨(some 65), .pick (.tmp 59) (.tmp 64) (.const (.bool false)), some (56, false)⟩,
    ⟨(some 66), .pick (.tmp 56) (.const (.bool true)) (.tmp 65), none⟩,
    ⟨(some 67), .mov (.tmp 66), none⟩,
    ⟨(some 68), .mov (.tmp 5), some (67, false)⟩,
    ⟨(some 69), .call (.const (.fn F.pen_Pen_Bytes [] [])) [(.tmp 68)], some (67, false)⟩,
    ⟨(some 70), .mov (.tmp 8), some (67, false)⟩,
    ⟨(some 71), .len .slice (.tmp 70), some (67, false)⟩,
    ⟨(some 72), .slice 1 .slice (.tmp 69) none (some (.tmp 71)) none, some (67, false)⟩,
    ⟨(some 73), .mov (.tmp 8), some (67, false)⟩,
    ⟨(some 74), .call (.const (.fn F.cuneiformref01_Same [] [])) [(.tmp 72), (.tmp 73)], some (67, false)⟩,
    ⟨(some 75), .un .not (.tmp 74), some (67, false)⟩,
    ⟨(some 76), .pick (.tmp 67) (.const (.bool true)) (.tmp 75), none⟩] [0, 1, 5, 7, 9, 76])
  (.cond (.tmp 76) (.seq (.region [⟨(some 4), .mov (.const (.bool false)), none⟩] [4])
  (.ret)) (.skip)))
  (.region [⟨(some 77), .mov (.tmp 9), none⟩,
    ⟨(some 78), .bin .neq (.tmp 77) (.const (.int .i64 0)), none⟩,
    ⟨(some 6), .mov (.tmp 78), none⟩] [0, 1, 5, 6, 7])))))
  (.region [⟨(some 26), .mov (.tmp 7), none⟩,
    ⟨(some 27), .bin .add (.tmp 26) (.const (.int .i64 1)), none⟩,
    ⟨(some 7), .mov (.tmp 27), none⟩] [0, 1, 5, 6, 7]))
def cuneiformlaw02_PenFull.body : ACode := .seq (.region [⟨(some 4), .mov (.const (.bool false)), none⟩] [0, 1])
  (.seq (.region [⟨(some 10), .mov (.tmp 0), none⟩,
    ⟨(some 11), .conv .u64 (.tmp 10), none⟩,
    ⟨(some 12), .bin .rem (.tmp 11) (.const (.int .u64 2000)), none⟩,
    ⟨(some 13), .conv .i64 (.tmp 12), none⟩,
    ⟨(some 0), .mov (.tmp 13), none⟩] [0, 1])
  (.seq (.region [⟨(some 14), .mov (.tmp 0), none⟩,
    ⟨(some 15), .call (.const (.fn F.pen_New [] [])) [(.tmp 14)], none⟩,
    ⟨(some 5), .mov (.tmp 15), none⟩] [0, 1, 5])
  (.seq (.seq (.region [⟨(some 16), .mov (.tmp 5), none⟩,
    ⟨(some 17), .eq false .ptr (.tmp 16) (.const .nilp), none⟩] [0, 1, 5, 17])
  (.cond (.tmp 17) (.seq (.region [⟨(some 4), .mov (.const (.bool false)), none⟩] [4])
  (.ret)) (.skip)))
  (.seq (.region [⟨(some 6), .mov (.const (.bool false)), none⟩] [0, 1, 5, 6])
  (.seq (.seq (.region [⟨(some 7), .mov (.const (.int .i64 0)), none⟩] [0, 1, 5, 6, 7])
  (.block 0 (.loop cuneiformlaw02_PenFull.b0)))
  (.seq (.region [⟨(some 79), .call (.const (.fn F.cuneiformlaw02_known [] [])) [], none⟩,
    ⟨(some 4), .mov (.tmp 79), none⟩] [4])
  (.ret)))))))
def cuneiformlaw02_PenFull : AFun := ⟨80, 2, [.tmp 4], cuneiformlaw02_PenFull.body⟩
def cuneiformlaw02_PenWrites.d0 : List AOper := [⟨(some 37), .load (some 3) (.tmp 6), none⟩,
    ⟨(some 38), .load (some 5) (.tmp 8), none⟩,
    ⟨(some 39), .call (.const (.fn F.cuneiformlaw02_bytes [] [])) [(.tmp 38)], none⟩,
    ⟨(some 40), .call (.const (.fn F.cuneiformref02_Raw [] [])) [(.tmp 37), (.tmp 39)], none⟩,
    ⟨(some 36), .mov (.tmp 40), none⟩,
    ⟨(some 41), .extract (.tmp 36) 0, none⟩,
    ⟨(some 42), .extract (.tmp 36) 1, none⟩,
    ⟨(some 9), .alloc T.cuneiformref02_P [.nils, (.int .i64 0), (.bool false)], none⟩,
    ⟨none, .store 3 (.tmp 9) (.tmp 41), none⟩,
    ⟨(some 10), .mov (.tmp 42), none⟩]
def cuneiformlaw02_PenWrites.d0b : List (List Nat) := [[], [], [1], [0, 1, 2], [0, 1, 2, 3], [0, 1, 2, 3, 4], [0, 1, 2, 3, 4], [], [0, 1, 2, 3, 4, 5, 7], [0, 1, 2, 3, 4, 5, 6, 7, 8]]
def cuneiformlaw02_PenWrites.d1 : List AOper := [⟨(some 55), .mov (.tmp 11), none⟩,
    ⟨(some 56), .mov (.tmp 10), none⟩,
    ⟨(some 57), .bin .neq (.tmp 55) (.tmp 56), none⟩,
    ⟨(some 58), .mov (.tmp 57), none⟩,
    ⟨(some 59), .mov (.tmp 5), some (58, false)⟩,
    ⟨(some 60), .call (.const (.fn F.pen_Pen_Bytes [] [])) [(.tmp 59)], some (58, false)⟩,
    ⟨(some 61), .field 0 (.tmp 6), some (58, false)⟩,
    ⟨(some 62), .load none (.tmp 61), some (58, false)⟩,
    ⟨(some 63), .call (.const (.fn F.cuneiformref01_Same [] [])) [(.tmp 60), (.tmp 62)], some (58, false)⟩,
    ⟨(some 64), .un .not (.tmp 63), some (58, false)⟩,
    ⟨(some 65), .pick (.tmp 58) (.const (.bool true)) (.tmp 64), none⟩,
    ⟨(some 66), .mov (.tmp 65), none⟩,
    ⟨(some 67), .mov (.tmp 5), some (66, false)⟩,
    ⟨(some 68), .call (.const (.fn F.pen_Pen_Len [] [])) [(.tmp 67)], some (66, false)⟩,
    ⟨(some 69), .field 0 (.tmp 6), some (66, false)⟩,
    ⟨(some 70), .load none (.tmp 69), some (66, false)⟩,
    ⟨(some 71), .len .slice (.tmp 70), some (66, false)⟩,
    ⟨(some 72), .bin .neq (.tmp 68) (.tmp 71), some (66, false)⟩,
    ⟨(some 73), .pick (.tmp 66) (.const (.bool true)) (.tmp 72), none⟩,
    ⟨(some 74), .mov (.tmp 73), none⟩,
    ⟨(some 75), .mov (.tmp 5), some (74, false)⟩,
    ⟨(some 76), .call (.const (.fn F.pen_Pen_Left [] [])) [(.tmp 75)], some (74, false)⟩,
    ⟨(some 77), .mov (.tmp 12), some (74, false)⟩,
    ⟨(some 78), .bin .neq (.tmp 76) (.tmp 77), some (74, false)⟩,
    ⟨(some 79), .pick (.tmp 74) (.const (.bool true)) (.tmp 78), none⟩,
    ⟨(some 80), .mov (.tmp 79), none⟩,
    ⟨(some 81), .mov (.tmp 5), some (80, false)⟩,
    ⟨(some 82), .call (.const (.fn F.pen_Pen_Err [] [])) [(.tmp 81)], some (80, false)⟩,
    ⟨(some 83), .bin .eql (.tmp 82) (.const (.int .i64 2)), some (80, false)⟩,
    ⟨(some 84), .field 2 (.tmp 6), some (80, false)⟩,
    ⟨(some 85), .load none (.tmp 84), some (80, false)⟩,
    ⟨(some 86), .eq true .bool (.tmp 83) (.tmp 85), some (80, false)⟩,
    ⟨(some 87), .pick (.tmp 80) (.const (.bool true)) (.tmp 86), none⟩,
    ⟨(some 88), .mov (.tmp 87), none⟩,
    ⟨(some 89), .field 2 (.tmp 6), some (88, false)⟩,
    ⟨(some 90), .load none (.tmp 89), some (88, false)⟩,
    ⟨(some 91), .un .not (.tmp 90), some (88, false)⟩,
    ⟨(some 92), .mov (.tmp 91), some (88, false)⟩,
    ⟨(some 93), .mov (.tmp 5), some (92, true)⟩,
    ⟨(some 94), .call (.const (.fn F.pen_Pen_Err [] [])) [(.tmp 93)], some (92, true)⟩,
    ⟨(some 95), .bin .neq (.tmp 94) (.const (.int .i64 0)), some (92, true)⟩,
    ⟨(some 96), .pick (.tmp 92) (.tmp 95) (.const (.bool false)), some (88, false)⟩,
    ⟨(some 97), .pick (.tmp 88) (.const (.bool true)) (.tmp 96), none⟩]
def cuneiformlaw02_PenWrites.d1b : List (List Nat) := [[], [], [0, 1], [0, 1, 2], [0, 1, 2, 3], [0, 1, 2, 3, 4], [0, 1, 2, 3], [0, 1, 2, 3, 6], [0, 1, 2, 3, 4, 5, 6, 7], [0, 1, 2, 3, 4, 5, 6, 7, 8], [0, 1, 2, 3, 4, 5, 6, 7, 8, 9], [0, 1, 2, 3, 4, 5, 6, 7, 8, 9, 10], [0, 1, 2, 3, 4, 5, 6, 7, 8, 9, 10, 11], [0, 1, 2, 3, 4, 5, 6, 7, 8, 9, 10, 11, 12], [0, 1, 2, 3, 4, 5, 6, 7, 8, 9, 10, 11], [0, 1, 2, 3, 4, 5, 6, 7, 8, 9, 10, 11, 14], [0, 1, 2, 3, 4, 5, 6, 7, 8, 9, 10, 11, 14, 15], [0, 1, 2, 3, 4, 5, 6, 7, 8, 9, 10, 11, 12, 13, 14, 15, 16], [0, 1, 2, 3, 4, 5, 6, 7, 8, 9, 10, 11, 12, 13, 14, 15, 16, 17], [0, 1, 2, 3, 4, 5, 6, 7, 8, 9, 10, 11, 12, 13, 14, 15, 16, 17, 18], [0, 1, 2, 3, 4, 5, 6, 7, 8, 9, 10, 11, 12, 13, 14, 15, 16, 17, 18, 19], [0, 1, 2, 3, 4, 5, 6, 7, 8, 9, 10, 11, 12, 13, 14, 15, 16, 17, 18, 19, 20], [0, 1, 2, 3, 4, 5, 6, 7, 8, 9, 10, 11, 12, 13, 14, 15, 16, 17, 18, 19], [0, 1, 2, 3, 4, 5, 6, 7, 8, 9, 10, 11, 12, 13, 14, 15, 16, 17, 18, 19, 20, 21, 22], [0, 1, 2, 3, 4, 5, 6, 7, 8, 9, 10, 11, 12, 13, 14, 15, 16, 17, 18, 19, 20, 21, 22, 23], [0, 1, 2, 3, 4, 5, 6, 7, 8, 9, 10, 11, 12, 13, 14, 15, 16, 17, 18, 19, 20, 21, 22, 23, 24], [0, 1, 2, 3, 4, 5, 6, 7, 8, 9, 10, 11, 12, 13, 14, 15, 16, 17, 18, 19, 20, 21, 22, 23, 24, 25], [0, 1, 2, 3, 4, 5, 6, 7, 8, 9, 10, 11, 12, 13, 14, 15, 16, 17, 18, 19, 20, 21, 22, 23, 24, 25, 26], [0, 1, 2, 3, 4, 5, 6, 7, 8, 9, 10, 11, 12, 13, 14, 15, 16, 17, 18, 19, 20, 21, 22, 23, 24, 25, 26, 27], [0, 1, 2, 3, 4, 5, 6, 7, 8, 9, 10, 11, 12, 13, 14, 15, 16, 17, 18, 19, 20, 21, 22, 23, 24, 25], [0, 1, 2, 3, 4, 5, 6, 7, 8, 9, 10, 11, 12, 13, 14, 15, 16, 17, 18, 19, 20, 21, 22, 23, 24, 25, 29], [0, 1, 2, 3, 4, 5, 6, 7, 8, 9, 10, 11, 12, 13, 14, 15, 16, 17, 18, 19, 20, 21, 22, 23, 24, 25, 26, 27, 28, 29, 30], [0, 1, 2, 3, 4, 5, 6, 7, 8, 9, 10, 11, 12, 13, 14, 15, 16, 17, 18, 19, 20, 21, 22, 23, 24, 25, 26, 27, 28, 29, 30, 31], [0, 1, 2, 3, 4, 5, 6, 7, 8, 9, 10, 11, 12, 13, 14, 15, 16, 17, 18, 19, 20, 21, 22, 23, 24, 25, 26, 27, 28, 29, 30, 31, 32], [0, 1, 2, 3, 4, 5, 6, 7, 8, 9, 10, 11, 12, 13, 14, 15, 16, 17, 18, 19, 20, 21, 22, 23, 24, 25, 26, 27, 28, 29, 30, 31, 32, 33], [0, 1, 2, 3, 4, 5, 6, 7, 8, 9, 10, 11, 12, 13, 14, 15, 16, 17, 18, 19, 20, 21, 22, 23, 24, 25, 26, 27, 28, 29, 30, 31, 32, 33, 34], [0, 1, 2, 3, 4, 5, 6, 7, 8, 9, 10, 11, 12, 13, 14, 15, 16, 17, 18, 19, 20, 21, 22, 23, 24, 25, 26, 27, 28, 29, 30, 31, 32, 33, 34, 35], [0, 1, 2, 3, 4, 5, 6, 7, 8, 9, 10, 11, 12, 13, 14, 15, 16, 17, 18, 19, 20, 21, 22, 23, 24, 25, 26, 27, 28, 29, 30, 31, 32, 33, 34, 35, 36], [0, 1, 2, 3, 4, 5, 6, 7, 8, 9, 10, 11, 12, 13, 14, 15, 16, 17, 18, 19, 20, 21, 22, 23, 24, 25, 26, 27, 28, 29, 30, 31, 32, 33, 34, 35, 36, 37], [0, 1, 2, 3, 4, 5, 6, 7, 8, 9, 10, 11, 12, 13, 14, 15, 16, 17, 18, 19, 20, 21, 22, 23, 24, 25, 26, 27, 28, 29, 30, 31, 32, 33, 34, 35, 36, 37, 38], [0, 1, 2, 3, 4, 5, 6, 7, 8, 9, 10, 11, 12, 13, 14, 15, 16, 17, 18, 19, 20, 21, 22, 23, 24, 25, 26, 27, 28, 29, 30, 31, 32, 33, 34, 35, 36, 37, 38, 39], [0, 1, 2, 3, 4, 5, 6, 7, 8, 9, 10, 11, 12, 13, 14, 15, 16, 17, 18, 19, 20, 21, 22, 23, 24, 25, 26, 27, 28, 29, 30, 31, 32, 33, 34, 35, 36, 37, 38, 39, 40], [0, 1, 2, 3, 4, 5, 6, 7, 8, 9, 10, 11, 12, 13, 14, 15, 16, 17, 18, 19, 20, 21, 22, 23, 24, 25, 26, 27, 28, 29, 30, 31, 32, 33, 34, 35, 36, 37, 38, 39, 40, 41]]
def cuneiformlaw02_PenWrites.d2 : List AOper := [⟨(some 108), .mov (.tmp 5), none⟩,
    ⟨(some 109), .call (.const (.fn F.pen_Pen_Bytes [] [])) [(.tmp 108)], none⟩,
    ⟨(some 110), .field 0 (.tmp 6), none⟩,
    ⟨(some 111), .load none (.tmp 110), none⟩,
    ⟨(some 112), .call (.const (.fn F.cuneiformref01_Same [] [])) [(.tmp 109), (.tmp 111)], none⟩,
    ⟨(some 113), .un .not (.tmp 112), none⟩]
def cuneiformlaw02_PenWrites.d2b : List (List Nat) := [[], [0], [], [2], [0, 1, 2, 3], [0, 1, 2, 3, 4]]
def cuneiformlaw02_PenWrites.b3 : ACode := .seq (.seq (.region [⟨(some 21), .mov (.tmp 7), none⟩,
    ⟨(some 22), .mov (.tmp 1), none⟩,
    ⟨(some 23), .len .slice (.tmp 22), none⟩,
    ⟨(some 24), .bin .lss (.tmp 21) (.tmp 23), none⟩,
    ⟨(some 25), .mov (.tmp 24), none⟩,
    ⟨(some 26), .mov (.tmp 7), some (25, true)⟩,
    ⟨(some 27), .bin .lss (.tmp 26) (.const (.int .i64 40)), some (25, true)⟩,
    ⟨(some 28), .pick (.tmp 25) (.tmp 27) (.const (.bool false)), none⟩] [1, 5, 6, 7, 28])
  (.cond (.tmp 28) (.skip) (.exit 0)))
  (.seq (.block 1 (.seq (.region [⟨(some 31), .mov (.tmp 1), none⟩,
    ⟨(some 32), .mov (.tmp 7), none⟩,
    ⟨(some 33), .idx 5 none (.tmp 31) (.tmp 32), none⟩,
    ⟨(some 34), .load (some 5) (.tmp 33), none⟩,
    ⟨(some 35), .call (.const (.fn F.cuneiformlaw02_cut [] [])) [(.tmp 34)], none⟩,
    ⟨(some 8), .alloc T.cuneiformlaw02_Act [(.int .i64 0), (.int .u32 0), .nils, .nils, .nils], none⟩,
    ⟨none, .store 5 (.tmp 8) (.tmp 35), none⟩] [1, 5, 6, 7, 8])
  (.seq (.draw cuneiformlaw02_PenWrites.d0 cuneiformlaw02_PenWrites.d0b [[0, 1, 2, 3, 4, 5, 6, 7, 8, 9], [0, 1, 2, 7, 3, 4, 5, 6, 8, 9], [0, 1, 7, 2, 3, 4, 5, 6, 8, 9]] [(2, 0), (7, 0), (7, 1)] [1, 5, 6, 7, 8, 9, 10])
  (.seq (.region [⟨(some 43), .load (some 3) (.tmp 9), none⟩,
    ⟨none, .store 3 (.tmp 6) (.tmp 43), none⟩] [1, 5, 6, 7, 8, 10])
  (.seq (.region [⟨(some 44), .mov (.tmp 5), none⟩,
    ⟨(some 45), .load (some 5) (.tmp 8), none⟩,
    ⟨(some 46), .call (.const (.fn F.cuneiformlaw02_do [] [])) [(.tmp 44), (.tmp 45)], none⟩,
    ⟨(some 11), .mov (.tmp 46), none⟩] [1, 5, 6, 7, 10, 11])
  (.seq (.region [⟨(some 47), .field 1 (.tmp 6), none⟩,
    ⟨(some 48), .load none (.tmp 47), none⟩,
    ⟨(some 49), .field 0 (.tmp 6), none⟩,
    ⟨(some 50), .load none (.tmp 49), none⟩,
    ⟨(some 51), .len .slice (.tmp 50), none⟩,
    ⟨(some 52), .bin .sub (.tmp 48) (.tmp 51), none⟩,
    ⟨(some 12), .mov (.tmp 52), none⟩] [1, 5, 6, 7, 10, 11, 12])
  (.seq (.seq (.region [⟨(some 53), .field 2 (.tmp 6), none⟩,
    ⟨(some 54), .load none (.tmp 53), none⟩] [1, 5, 6, 7, 10, 11, 12, 54])
  (.cond (.tmp 54) (.region [⟨(some 12), .mov (.const (.int .i64 0)), none⟩] [1, 5, 6, 7, 10, 11, 12]) (.skip)))
  (.seq (.seq (.draw cuneiformlaw02_PenWrites.d1 cuneiformlaw02_PenWrites.d1b [[0, 1, 2, 3, 4, 6, 7, 5, 8, 9, 10, 11, 12, 14, 15, 16, 13, 17, 18, 19, 20, 22, 21, 23, 24, 25, 26, 29, 30, 27, 28, 31, 32, 33, 34, 35, 36, 37, 38, 39, 40, 41, 42]] [(5, 7), (13, 15), (27, 30)] [1, 5, 6, 7, 97])
  (.cond (.tmp 97) (.seq (.region [⟨(some 4), .mov (.const (.bool false)), none⟩] [4])
  (.ret)) (.skip)))
  (.seq (.region [⟨(some 98), .mov (.tmp 5), none⟩,
    ⟨(some 99), .call (.const (.fn F.pen_Pen_Bytes [] [])) [(.tmp 98)], none⟩,
    ⟨(some 13), .mov (.tmp 99), none⟩] [1, 5, 6, 7, 13])
  (.seq (.region [⟨(some 100), .mov (.tmp 13), none⟩,
    ⟨(some 101), .len .slice (.tmp 100), none⟩,
    ⟨(some 102), .bin .gtr (.tmp 101) (.const (.int .i64 0)), none⟩] [1, 5, 6, 7, 13, 102])
  (.cond (.tmp 102) (.seq (.region [⟨(some 103), .mov (.tmp 13), none⟩,
    ⟨(some 104), .idx 1 none (.tmp 103) (.const (.int .i64 0)), none⟩,
    ⟨(some 105), .load none (.tmp 104), none⟩,
    ⟨(some 106), .bin .add (.tmp 105) (.const (.int .u8 1)), none⟩,
    ⟨(some 107), .idx 1 none (.tmp 103) (.const (.int .i64 0)), none⟩,
    ⟨none, .store 1 (.tmp 107) (.tmp 106), none⟩] [1, 5, 6, 7])
  (.seq (.draw cuneiformlaw02_PenWrites.d2 cuneiformlaw02_PenWrites.d2b [[0, 2, 3, 1, 4, 5]] [(1, 3)] [1, 5, 6, 7, 113])
  (.cond (.tmp 113) (.seq (.region [⟨(some 4), .mov (.const (.bool false)), none⟩] [4])
  (.ret)) (.skip)))) (.skip))))))))))))
  (.region [⟨(some 29), .mov (.tmp 7), none⟩,
    ⟨(some 30), .bin .add (.tmp 29) (.const (.int .i64 1)), none⟩,
    ⟨(some 7), .mov (.tmp 30), none⟩] [1, 5, 6, 7]))
def cuneiformlaw02_PenWrites.body : ACode := .seq (.region [⟨(some 4), .mov (.const (.bool false)), none⟩] [0, 1])
  (.seq (.region [⟨(some 14), .mov (.tmp 0), none⟩,
    ⟨(some 15), .call (.const (.fn F.pen_New [] [])) [(.tmp 14)], none⟩,
    ⟨(some 5), .mov (.tmp 15), none⟩] [0, 1, 5])
  (.seq (.region [⟨(some 16), .mov (.tmp 0), none⟩,
    ⟨(some 17), .maxmin true (.tmp 16) (.const (.int .i64 0)), none⟩,
    ⟨(some 18), .build [.nils, (.int .i64 0), (.bool false)] [(1, 1, (.tmp 17))], none⟩,
    ⟨(some 6), .alloc T.cuneiformref02_P [.nils, (.int .i64 0), (.bool false)], none⟩,
    ⟨none, .store 3 (.tmp 6) (.tmp 18), none⟩] [1, 5, 6])
  (.seq (.seq (.region [⟨(some 19), .mov (.tmp 5), none⟩,
    ⟨(some 20), .eq false .ptr (.tmp 19) (.const .nilp), none⟩] [1, 5, 6, 20])
  (.cond (.tmp 20) (.seq (.region [⟨(some 4), .mov (.const (.bool false)), none⟩] [4])
  (.ret)) (.skip)))
  (.seq (.seq (.region [⟨(some 7), .mov (.const (.int .i64 0)), none⟩] [1, 5, 6, 7])
  (.block 0 (.loop cuneiformlaw02_PenWrites.b3)))
  (.seq (.region [⟨(some 114), .call (.const (.fn F.cuneiformlaw02_known [] [])) [], none⟩,
    ⟨(some 4), .mov (.tmp 114), none⟩] [4])
  (.ret))))))
def cuneiformlaw02_PenWrites : AFun := ⟨115, 2, [.tmp 4], cuneiformlaw02_PenWrites.body⟩
def cuneiformlaw02_PenNil.body : ACode := .seq (.region [⟨(some 4), .mov (.const (.bool false)), none⟩] [0, 1])
  (.seq (.region [⟨(some 5), .mov (.const .nilp), none⟩] [0, 1, 5])
  (.seq (.region [⟨(some 6), .call (.const (.fn F.cuneiformlaw02_known [] [])) [], none⟩,
    ⟨(some 7), .mov (.tmp 6), none⟩,
    ⟨(some 8), .mov (.tmp 5), some (7, true)⟩,
    ⟨(some 9), .mov (.tmp 0), some (7, true)⟩,
    ⟨(some 10), .bin .rem (.tmp 9) (.const (.int .u32 256)), some (7, true)⟩,
    ⟨(some 11), .conv .u8 (.tmp 10), some (7, true)⟩,
    ⟨(some 12), .call (.const (.fn F.pen_Pen_U8 [] [])) [(.tmp 8), (.tmp 11)], some (7, true)⟩,
    ⟨(some 13), .bin .eql (.tmp 12) (.const (.int .i64 1)), some (7, true)⟩,
    ⟨(some 14), .pick (.tmp 7) (.tmp 13) (.const (.bool false)), none⟩,
    ⟨(some 15), .mov (.tmp 14), none⟩,
    ⟨(some 16), .mov (.tmp 5), some (15, true)⟩,
    ⟨(some 17), .mov (.tmp 0), some (15, true)⟩,
    ⟨(some 18), .bin .rem (.tmp 17) (.const (.int .u32 65536)), some (15, true)⟩,
    ⟨(some 19), .conv .u16 (.tmp 18), some (15, true)⟩,
    ⟨(some 20), .call (.const (.fn F.pen_Pen_U16 [] [])) [(.tmp 16), (.tmp 19)], some (15, true)⟩,
    ⟨(some 21), .bin .eql (.tmp 20) (.const (.int .i64 1)), some (15, true)⟩,
    ⟨(some 22), .pick (.tmp 15) (.tmp 21) (.const (.bool false)), none⟩,
    ⟨(some 23), .mov (.tmp 22), none⟩,
    ⟨(some 24), .mov (.tmp 5), some (23, true)⟩,
    ⟨(some 25), .mov (.tmp 0), some (23, true)⟩,
    ⟨(some 26), .call (.const (.fn F.pen_Pen_U32 [] [])) [(.tmp 24), (.tmp 25)], some (23, true)⟩,
    ⟨(some 27), .bin .eql (.tmp 26) (.const (.int .i64 1)), some (23, true)⟩,
    ⟨(some 28), .pick (.tmp 23) (.tmp 27) (.const (.bool false)), none⟩,
    ⟨(some 29), .mov (.tmp 28), none⟩,
    ⟨(some 30), .mov (.tmp 5), some (29, true)⟩,
    ⟨(some 31), .mov (.tmp 0), some (29, true)⟩,
    ⟨(some 32), .conv .u64 (.tmp 31), some (29, true)⟩,
    ⟨(some 33), .lit T.uint64 1 1 [(.int .u64 0)] [(0, 1, (.tmp 32))], some (29, true)⟩,
    ⟨(some 34), .call (.const (.fn F.pen_Pen_Number [] [])) [(.tmp 30), (.tmp 33)], some (29, true)⟩,
    ⟨(some 35), .bin .eql (.tmp 34) (.const (.int .i64 1)), some (29, true)⟩,
    ⟨(some 36), .pick (.tmp 29) (.tmp 35) (.const (.bool false)), none⟩,
    ⟨(some 37), .mov (.tmp 36), none⟩,
    ⟨(some 38), .mov (.tmp 5), some (37, true)⟩,
    ⟨(some 39), .mov (.tmp 0), some (37, true)⟩,
    ⟨(some 40), .conv .i64 (.tmp 39), some (37, true)⟩,
    ⟨(some 41), .lit T.int64 1 1 [(.int .i64 0)] [(0, 1, (.tmp 40))], some (37, true)⟩,
    ⟨(some 42), .call (.const (.fn F.pen_Pen_Signed [] [])) [(.tmp 38), (.tmp 41)], some (37, true)⟩,
    ⟨(some 43), .bin .eql (.tmp 42) (.const (.int .i64 1)), some (37, true)⟩,
    ⟨(some 44), .pick (.tmp 37) (.tmp 43) (.const (.bool false)), none⟩,
    ⟨(some 45), .mov (.tmp 44), none⟩,
    ⟨(some 46), .mov (.tmp 5), some (45, true)⟩,
    ⟨(some 47), .mov (.tmp 1), some (45, true)⟩,
    ⟨(some 48), .call (.const (.fn F.pen_Pen_Raw [] [])) [(.tmp 46), (.tmp 47)], some (45, true)⟩,
    ⟨(some 49), .bin .eql (.tmp 48) (.const (.int .i64 1)), some (45, true)⟩,
    ⟨(some 50), .pick (.tmp 45) (.tmp 49) (.const (.bool false)), none⟩,
    ⟨(some 51), .mov (.tmp 50), none⟩,
    ⟨(some 52), .mov (.tmp 5), some (51, true)⟩,
    ⟨(some 53), .mov (.tmp 1), some (51, true)⟩,
    ⟨(some 54), .call (.const (.fn F.pen_Pen_Field [] [])) [(.tmp 52), (.tmp 53)], some (51, true)⟩,
    ⟨(some 55), .bin .eql (.tmp 54) (.const (.int .i64 1)), some (51, true)⟩,
    ⟨(some 56), .pick (.tmp 51) (.tmp 55) (.const (.bool false)), none⟩,
    ⟨(some 57), .mov (.tmp 56), none⟩,
    ⟨(some 58), .mov (.tmp 5), some (57, true)⟩,
    ⟨(some 59), .call (.const (.fn F.pen_Pen_Bytes [] [])) [(.tmp 58)], some (57, true)⟩,
    ⟨(some 60), .len .slice (.tmp 59), some (57, true)⟩,
    ⟨(some 61), .bin .eql (.tmp 60) (.const (.int .i64 0)), some (57, true)⟩,
    ⟨(some 62), .pick (.tmp 57) (.tmp 61) (.const (.bool false)), none⟩,
    ⟨(some 63), .mov (.tmp 62), none⟩,
    ⟨(some 64), .mov (.tmp 5), some (63, true)⟩,
    ⟨(some 65), .call (.const (.fn F.pen_Pen_Len [] [])) [(.tmp 64)], some (63, true)⟩,
    ⟨(some 66), .bin .eql (.tmp 65) (.const (.int .i64 0)), some (63, true)⟩,
    ⟨(some 67), .pick (.tmp 63) (.tmp 66) (.const (.bool false)), none⟩,
    ⟨(some 68), .mov (.tmp 67), none⟩,
    ⟨(some 69), .mov (.tmp 5), some (68, true)⟩,
    ⟨(some 70), .call (.const (.fn F.pen_Pen_Left [] [])) [(.tmp 69)], some (68, true)⟩,
    ⟨(some 71), .bin .eql (.tmp 70) (.const (.int .i64 0)), some (68, true)⟩,
    ⟨(some 72), .pick (.tmp 68) (.tmp 71) (.const (.bool false)), none⟩,
    ⟨(some 73), .mov (.tmp 72), none⟩,
    ⟨(some 74), .mov (.tmp 5), some (73, true)⟩,
    ⟨(some 75), .call (.const (.fn F.pen_Pen_Err [] [])) [(.tmp 74)], some (73, true)⟩,
    ⟨(some 76), .bin .eql (.tmp 75) (.const (.int .i64 1)), some (73, true)⟩,
    ⟨(some 77), .pick (.tmp 73) (.tmp 76) (.const (.bool false)), none⟩,
    ⟨(some 4), .mov (.tmp 77), none⟩] [4])
  (.ret)))
def cuneiformlaw02_PenNil : AFun := ⟨78, 2, [.tmp 4], cuneiformlaw02_PenNil.body⟩
def cuneiformlaw02_PenJoins.b0 : ACode := .seq (.seq (.region [⟨(some 23), .mov (.tmp 8), none⟩,
    ⟨(some 24), .mov (.tmp 0), none⟩,
    ⟨(some 25), .len .slice (.tmp 24), none⟩,
    ⟨(some 26), .bin .lss (.tmp 23) (.tmp 25), none⟩,
    ⟨(some 27), .mov (.tmp 26), none⟩,
    ⟨(some 28), .mov (.tmp 8), some (27, true)⟩,
    ⟨(some 29), .bin .lss (.tmp 28) (.const (.int .i64 20)), some (27, true)⟩,
    ⟨(some 30), .pick (.tmp 27) (.tmp 29) (.const (.bool false)), none⟩] [0, 1, 5, 6, 7, 8, 30])
  (.cond (.tmp 30) (.skip) (.exit 0)))
  (.seq (.block 1 (.seq (.region [⟨(some 33), .mov (.tmp 5), none⟩,
    ⟨(some 34), .mov (.tmp 0), none⟩,
    ⟨(some 35), .mov (.tmp 8), none⟩,
    ⟨(some 36), .idx 5 none (.tmp 34) (.tmp 35), none⟩,
    ⟨(some 37), .load (some 5) (.tmp 36), none⟩,
    ⟨(some 38), .call (.const (.fn F.cuneiformlaw02_cut [] [])) [(.tmp 37)], none⟩,
    ⟨(some 39), .call (.const (.fn F.cuneiformlaw02_do [] [])) [(.tmp 33), (.tmp 38)], none⟩] [0, 1, 5, 6, 7, 8])
  (.region [⟨(some 40), .mov (.tmp 7), none⟩,
    ⟨(some 41), .mov (.tmp 0), none⟩,
    ⟨(some 42), .mov (.tmp 8), none⟩,
    ⟨(some 43), .idx 5 none (.tmp 41) (.tmp 42), none⟩,
    ⟨(some 44), .load (some 5) (.tmp 43), none⟩,
    ⟨(some 45), .call (.const (.fn F.cuneiformlaw02_cut [] [])) [(.tmp 44)], none⟩,
    ⟨(some 46), .call (.const (.fn F.cuneiformlaw02_do [] [])) [(.tmp 40), (.tmp 45)], none⟩] [0, 1, 5, 6, 7, 8])))
  (.region [⟨(some 31), .mov (.tmp 8), none⟩,
    ⟨(some 32), .bin .add (.tmp 31) (.const (.int .i64 1)), none⟩,
    ⟨(some 8), .mov (.tmp 32), none⟩] [0, 1, 5, 6, 7, 8]))
def cuneiformlaw02_PenJoins.b1 : ACode := .seq (.seq (.region [⟨(some 47), .mov (.tmp 9), none⟩,
    ⟨(some 48), .mov (.tmp 1), none⟩,
    ⟨(some 49), .len .slice (.tmp 48), none⟩,
    ⟨(some 50), .bin .lss (.tmp 47) (.tmp 49), none⟩,
    ⟨(some 51), .mov (.tmp 50), none⟩,
    ⟨(some 52), .mov (.tmp 9), some (51, true)⟩,
    ⟨(some 53), .bin .lss (.tmp 52) (.const (.int .i64 20)), some (51, true)⟩,
    ⟨(some 54), .pick (.tmp 51) (.tmp 53) (.const (.bool false)), none⟩] [1, 5, 6, 7, 9, 54])
  (.cond (.tmp 54) (.skip) (.exit 2)))
  (.seq (.block 3 (.seq (.region [⟨(some 57), .mov (.tmp 6), none⟩,
    ⟨(some 58), .mov (.tmp 1), none⟩,
    ⟨(some 59), .mov (.tmp 9), none⟩,
    ⟨(some 60), .idx 5 none (.tmp 58) (.tmp 59), none⟩,
    ⟨(some 61), .load (some 5) (.tmp 60), none⟩,
    ⟨(some 62), .call (.const (.fn F.cuneiformlaw02_cut [] [])) [(.tmp 61)], none⟩,
    ⟨(some 63), .call (.const (.fn F.cuneiformlaw02_do [] [])) [(.tmp 57), (.tmp 62)], none⟩] [1, 5, 6, 7, 9])
  (.region [⟨(some 64), .mov (.tmp 7), none⟩,
    ⟨(some 65), .mov (.tmp 1), none⟩,
    ⟨(some 66), .mov (.tmp 9), none⟩,
    ⟨(some 67), .idx 5 none (.tmp 65) (.tmp 66), none⟩,
    ⟨(some 68), .load (some 5) (.tmp 67), none⟩,
    ⟨(some 69), .call (.const (.fn F.cuneiformlaw02_cut [] [])) [(.tmp 68)], none⟩,
    ⟨(some 70), .call (.const (.fn F.cuneiformlaw02_do [] [])) [(.tmp 64), (.tmp 69)], none⟩] [1, 5, 6, 7, 9])))
  (.region [⟨(some 55), .mov (.tmp 9), none⟩,
    ⟨(some 56), .bin .add (.tmp 55) (.const (.int .i64 1)), none⟩,
    ⟨(some 9), .mov (.tmp 56), none⟩] [1, 5, 6, 7, 9]))
def cuneiformlaw02_PenJoins.body : ACode := .seq (.region [⟨(some 4), .mov (.const (.bool false)), none⟩] [0, 1])
  (.seq (.region [⟨(some 10), .call (.const (.fn F.pen_New [] [])) [(.const (.int .i64 20000))], none⟩,
    ⟨(some 11), .call (.const (.fn F.pen_New [] [])) [(.const (.int .i64 20000))], none⟩,
    ⟨(some 12), .call (.const (.fn F.pen_New [] [])) [(.const (.int .i64 40000))], none⟩,
    ⟨(some 5), .mov (.tmp 10), none⟩,
    ⟨(some 6), .mov (.tmp 11), none⟩,
    ⟨(some 7), .mov (.tmp 12), none⟩] [0, 1, 5, 6, 7])
  (.seq (.seq (.region [⟨(some 13), .mov (.tmp 5), none⟩,
    ⟨(some 14), .eq false .ptr (.tmp 13) (.const .nilp), none⟩,
    ⟨(some 15), .mov (.tmp 14), none⟩,
    ⟨(some 16), .mov (.tmp 6), some (15, false)⟩,
    ⟨(some 17), .eq false .ptr (.tmp 16) (.const .nilp), some (15, false)⟩,
    ⟨(some 18), .pick (.tmp 15) (.const (.bool true)) (.tmp 17), none⟩,
    ⟨(some 19), .mov (.tmp 18), none⟩,
    ⟨(some 20), .mov (.tmp 7), some (19, false)⟩,
    ⟨(some 21), .eq false .ptr (.tmp 20) (.const .nilp), some (19, false)⟩,
    ⟨(some 22), .pick (.tmp 19) (.const (.bool true)) (.tmp 21), none⟩] [0, 1, 5, 6, 7, 22])
  (.cond (.tmp 22) (.seq (.region [⟨(some 4), .mov (.const (.bool false)), none⟩] [4])
  (.ret)) (.skip)))
  (.seq (.seq (.region [⟨(some 8), .mov (.const (.int .i64 0)), none⟩] [0, 1, 5, 6, 7, 8])
  (.block 0 (.loop cuneiformlaw02_PenJoins.b0)))
  (.seq (.seq (.region [⟨(some 9), .mov (.const (.int .i64 0)), none⟩] [1, 5, 6, 7, 9])
  (.block 2 (.loop cuneiformlaw02_PenJoins.b1)))
  (.seq (.region [⟨(some 71), .call (.const (.fn F.cuneiformlaw02_known [] [])) [], none⟩,
    ⟨(some 72), .mov (.tmp 71), none⟩,
    ⟨(some 73), .mov (.tmp 5), some (72, true)⟩,
    ⟨(some 74), .call (.const (.fn F.pen_Pen_Err [] [])) [(.tmp 73)], some (72, true)⟩,
    ⟨(some 75), .bin .eql (.tmp 74) (.const (.int .i64 0)), some (72, true)⟩,
    ⟨(some 76), .pick (.tmp 72) (.tmp 75) (.const (.bool false)), none⟩,
    ⟨(some 77), .mov (.tmp 76), none⟩,
    ⟨(some 78), .mov (.tmp 6), some (77, true)⟩,
    ⟨(some 79), .call (.const (.fn F.pen_Pen_Err [] [])) [(.tmp 78)], some (77, true)⟩,
    ⟨(some 80), .bin .eql (.tmp 79) (.const (.int .i64 0)), some (77, true)⟩,
    ⟨(some 81), .pick (.tmp 77) (.tmp 80) (.const (.bool false)), none⟩,
    ⟨(some 82), .mov (.tmp 81), none⟩,
    ⟨(some 83), .mov (.tmp 7), some (82, true)⟩,
    ⟨(some 84), .call (.const (.fn F.pen_Pen_Err [] [])) [(.tmp 83)], some (82, true)⟩,
    ⟨(some 85), .bin .eql (.tmp 84) (.const (.int .i64 0)), some (82, true)⟩,
    ⟨(some 86), .pick (.tmp 82) (.tmp 85) (.const (.bool false)), none⟩,
    ⟨(some 87), .mov (.tmp 86), none⟩,
    ⟨(some 88), .mov (.tmp 7), some (87, true)⟩,
    ⟨(some 89), .call (.const (.fn F.pen_Pen_Bytes [] [])) [(.tmp 88)], some (87, true)⟩,
    ⟨(some 90), .mov (.tmp 5), some (87, true)⟩,
    ⟨(some 91), .call (.const (.fn F.pen_Pen_Bytes [] [])) [(.tmp 90)], some (87, true)⟩,
    ⟨(some 92), .mov (.tmp 6), some (87, true)⟩,
    ⟨(some 93), .call (.const (.fn F.pen_Pen_Bytes [] [])) [(.tmp 92)], some (87, true)⟩,
    ⟨(some 94), .append T.uint8 1 1 (.tmp 91) (.tmp 93), some (87, true)⟩,
    ⟨(some 95), .call (.const (.fn F.cuneiformref01_Same [] [])) [(.tmp 89), (.tmp 94)], some (87, true)⟩,
    ⟨(some 96), .pick (.tmp 87) (.tmp 95) (.const (.bool false)), none⟩,
    ⟨(some 97), .mov (.tmp 96), none⟩,
    ⟨(some 98), .mov (.tmp 7), some (97, true)⟩,
    ⟨(some 99), .call (.const (.fn F.pen_Pen_Left [] [])) [(.tmp 98)], some (97, true)⟩,
    ⟨(some 100), .mov (.tmp 5), some (97, true)⟩,
    ⟨(some 101), .call (.const (.fn F.pen_Pen_Len [] [])) [(.tmp 100)], some (97, true)⟩,
    ⟨(some 102), .bin .sub (.const (.int .i64 40000)) (.tmp 101), some (97, true)⟩,
    ⟨(some 103), .mov (.tmp 6), some (97, true)⟩,
    ⟨(some 104), .call (.const (.fn F.pen_Pen_Len [] [])) [(.tmp 103)], some (97, true)⟩,
    ⟨(some 105), .bin .sub (.tmp 102) (.tmp 104), some (97, true)⟩,
    ⟨(some 106), .bin .eql (.tmp 99) (.tmp 105), some (97, true)⟩,
    ⟨(some 107), .pick (.tmp 97) (.tmp 106) (.const (.bool false)), none⟩,
    ⟨(some 4), .mov (.tmp 107), none⟩] [4])
  (.ret))))))
def cuneiformlaw02_PenJoins : AFun := ⟨108, 2, [.tmp 4], cuneiformlaw02_PenJoins.body⟩
def pen_New.body : ACode := .seq (.region [⟨(some 2), .mov (.const .nilp), none⟩] [0])
  (.seq (.region [⟨(some 3), .mov (.tmp 0), none⟩,
    ⟨(some 4), .maxmin true (.tmp 3) (.const (.int .i64 0)), none⟩,
    ⟨(some 5), .build [.nils, (.int .i64 0), (.bool false)] [(1, 1, (.tmp 4))], none⟩,
    ⟨(some 6), .build [.nils, (.int .i64 0), (.bool false)] [(0, 3, (.tmp 5))], none⟩,
    ⟨(some 7), .box T.pen_Pen (.tmp 6), none⟩,
    ⟨(some 2), .mov (.tmp 7), none⟩] [2])
  (.ret))
def pen_New : AFun := ⟨8, 1, [.tmp 2], pen_New.body⟩
def pen_Pen_Bytes.body : ACode := .seq (.region [⟨(some 2), .mov (.const .nils), none⟩] [0])
  (.seq (.seq (.region [⟨(some 3), .mov (.tmp 0), none⟩,
    ⟨(some 4), .eq false .ptr (.tmp 3) (.const .nilp), none⟩] [0, 4])
  (.cond (.tmp 4) (.seq (.region [⟨(some 2), .mov (.const .nils), none⟩] [2])
  (.ret)) (.skip)))
  (.seq (.region [⟨(some 5), .mov (.tmp 0), none⟩,
    ⟨(some 6), .nilc (.tmp 5), none⟩,
    ⟨(some 7), .field 0 (.tmp 6), none⟩,
    ⟨(some 8), .field 0 (.tmp 7), none⟩,
    ⟨(some 9), .load none (.tmp 8), none⟩,
    ⟨(some 10), .append T.uint8 1 1 (.const .nils) (.tmp 9), none⟩,
    ⟨(some 2), .mov (.tmp 10), none⟩] [2])
  (.ret)))
def pen_Pen_Bytes : AFun := ⟨11, 1, [.tmp 2], pen_Pen_Bytes.body⟩
def cuneiformlaw02_do.body : ACode := .seq (.region [⟨(some 3), .box T.cuneiformlaw02_Act (.tmp 1), none⟩,
    ⟨(some 4), .mov (.const (.int .i64 0)), none⟩] [0, 3])
  (.seq (.seq (.region [⟨(some 5), .field 0 (.tmp 3), none⟩,
    ⟨(some 6), .load none (.tmp 5), none⟩] [0, 3, 6])
  (.block 0 (.seq (.region [⟨(some 8), .bin .eql (.tmp 6) (.const (.int .i64 0)), none⟩,
    ⟨(some 7), .mov (.tmp 8), none⟩] [0, 3, 6, 7])
  (.cond (.tmp 7) (.seq (.region [⟨(some 9), .mov (.tmp 0), none⟩,
    ⟨(some 10), .field 1 (.tmp 3), none⟩,
    ⟨(some 11), .load none (.tmp 10), none⟩,
    ⟨(some 12), .bin .rem (.tmp 11) (.const (.int .u32 256)), none⟩,
    ⟨(some 13), .conv .u8 (.tmp 12), none⟩,
    ⟨(some 14), .call (.const (.fn F.pen_Pen_U8 [] [])) [(.tmp 9), (.tmp 13)], none⟩,
    ⟨(some 4), .mov (.tmp 14), none⟩] [4])
  (.ret)) (.seq (.region [⟨(some 16), .bin .eql (.tmp 6) (.const (.int .i64 1)), none⟩,
    ⟨(some 15), .mov (.tmp 16), none⟩] [0, 3, 6, 15])
  (.cond (.tmp 15) (.seq (.region [⟨(some 17), .mov (.tmp 0), none⟩,
    ⟨(some 18), .field 1 (.tmp 3), none⟩,
    ⟨(some 19), .load none (.tmp 18), none⟩,
    ⟨(some 20), .bin .rem (.tmp 19) (.const (.int .u32 65536)), none⟩,
    ⟨(some 21), .conv .u16 (.tmp 20), none⟩,
    ⟨(some 22), .call (.const (.fn F.pen_Pen_U16 [] [])) [(.tmp 17), (.tmp 21)], none⟩,
    ⟨(some 4), .mov (.tmp 22), none⟩] [4])
  (.ret)) (.seq (.region [⟨(some 24), .bin .eql (.tmp 6) (.const (.int .i64 2)), none⟩,
    ⟨(some 23), .mov (.tmp 24), none⟩] [0, 3, 6, 23])
  (.cond (.tmp 23) (.seq (.region [⟨(some 25), .mov (.tmp 0), none⟩,
    ⟨(some 26), .field 1 (.tmp 3), none⟩,
    ⟨(some 27), .load none (.tmp 26), none⟩,
    ⟨(some 28), .call (.const (.fn F.pen_Pen_U32 [] [])) [(.tmp 25), (.tmp 27)], none⟩,
    ⟨(some 4), .mov (.tmp 28), none⟩] [4])
  (.ret)) (.seq (.region [⟨(some 30), .bin .eql (.tmp 6) (.const (.int .i64 3)), none⟩,
    ⟨(some 29), .mov (.tmp 30), none⟩] [0, 3, 6, 29])
  (.cond (.tmp 29) (.seq (.region [⟨(some 31), .mov (.tmp 0), none⟩,
    ⟨(some 32), .field 2 (.tmp 3), none⟩,
    ⟨(some 33), .load none (.tmp 32), none⟩,
    ⟨(some 34), .call (.const (.fn F.pen_Pen_Number [] [])) [(.tmp 31), (.tmp 33)], none⟩,
    ⟨(some 4), .mov (.tmp 34), none⟩] [4])
  (.ret)) (.seq (.region [⟨(some 36), .bin .eql (.tmp 6) (.const (.int .i64 4)), none⟩,
    ⟨(some 35), .mov (.tmp 36), none⟩] [0, 3, 6, 35])
  (.cond (.tmp 35) (.seq (.region [⟨(some 37), .mov (.tmp 0), none⟩,
    ⟨(some 38), .field 3 (.tmp 3), none⟩,
    ⟨(some 39), .load none (.tmp 38), none⟩,
    ⟨(some 40), .call (.const (.fn F.pen_Pen_Signed [] [])) [(.tmp 37), (.tmp 39)], none⟩,
    ⟨(some 4), .mov (.tmp 40), none⟩] [4])
  (.ret)) (.seq (.region [⟨(some 42), .bin .eql (.tmp 6) (.const (.int .i64 5)), none⟩,
    ⟨(some 41), .mov (.tmp 42), none⟩] [0, 3, 41])
  (.cond (.tmp 41) (.seq (.region [⟨(some 43), .mov (.tmp 0), none⟩,
    ⟨(some 44), .field 4 (.tmp 3), none⟩,
    ⟨(some 45), .load none (.tmp 44), none⟩,
    ⟨(some 46), .call (.const (.fn F.pen_Pen_Raw [] [])) [(.tmp 43), (.tmp 45)], none⟩,
    ⟨(some 4), .mov (.tmp 46), none⟩] [4])
  (.ret)) (.skip)))))))))))))))
  (.seq (.region [⟨(some 47), .mov (.tmp 0), none⟩,
    ⟨(some 48), .field 4 (.tmp 3), none⟩,
    ⟨(some 49), .load none (.tmp 48), none⟩,
    ⟨(some 50), .call (.const (.fn F.pen_Pen_Field [] [])) [(.tmp 47), (.tmp 49)], none⟩,
    ⟨(some 4), .mov (.tmp 50), none⟩] [4])
  (.ret)))
def cuneiformlaw02_do : AFun := ⟨51, 2, [.tmp 4], cuneiformlaw02_do.body⟩
def cuneiformlaw02_cut.d0 : List AOper := [⟨(some 3), .field 2 (.tmp 1), none⟩,
    ⟨(some 4), .load none (.tmp 3), none⟩,
    ⟨(some 5), .field 2 (.tmp 1), none⟩,
    ⟨(some 6), .load none (.tmp 5), none⟩,
    ⟨(some 7), .len .slice (.tmp 6), none⟩,
    ⟨(some 8), .maxmin false (.tmp 7) (.const (.int .i64 20)), none⟩,
    ⟨(some 9), .slice 1 .slice (.tmp 4) none (some (.tmp 8)) none, none⟩,
    ⟨(some 10), .field 3 (.tmp 1), none⟩,
    ⟨(some 11), .load none (.tmp 10), none⟩,
    ⟨(some 12), .field 3 (.tmp 1), none⟩,
    ⟨(some 13), .load none (.tmp 12), none⟩,
    ⟨(some 14), .len .slice (.tmp 13), none⟩,
    ⟨(some 15), .maxmin false (.tmp 14) (.const (.int .i64 20)), none⟩,
    ⟨(some 16), .slice 1 .slice (.tmp 11) none (some (.tmp 15)) none, none⟩,
    ⟨(some 17), .field 4 (.tmp 1), none⟩,
    ⟨(some 18), .load none (.tmp 17), none⟩,
    ⟨(some 19), .field 4 (.tmp 1), none⟩,
    ⟨(some 20), .load none (.tmp 19), none⟩,
    ⟨(some 21), .len .slice (.tmp 20), none⟩,
    ⟨(some 22), .maxmin false (.tmp 21) (.const (.int .i64 400)), none⟩,
    ⟨(some 23), .slice 1 .slice (.tmp 18) none (some (.tmp 22)) none, none⟩,
    ⟨(some 24), .field 2 (.tmp 1), none⟩,
    ⟨none, .store 1 (.tmp 24) (.tmp 9), none⟩,
    ⟨(some 25), .field 3 (.tmp 1), none⟩,
    ⟨none, .store 1 (.tmp 25) (.tmp 16), none⟩,
    ⟨(some 26), .field 4 (.tmp 1), none⟩,
    ⟨none, .store 1 (.tmp 26) (.tmp 23), none⟩]
def cuneiformlaw02_cut.d0b : List (List Nat) := [[], [0], [], [2], [2, 3], [2, 3, 4], [0, 1, 2, 3, 4, 5], [], [7], [], [9], [9, 10], [9, 10, 11], [7, 8, 9, 10, 11, 12], [], [14], [], [16], [16, 17], [16, 17, 18], [14, 15, 16, 17, 18, 19], [0, 1, 2, 3, 4, 5, 6, 7, 8, 9, 10, 14, 15, 16, 17], [0, 1, 2, 3, 4, 5, 6, 7, 8, 9, 10, 14, 15, 16, 17, 21], [0, 1, 2, 3, 4, 5, 6, 7, 8, 9, 10, 11, 12, 13, 14, 15, 16, 17, 21, 22], [0, 1, 2, 3, 4, 5, 6, 7, 8, 9, 10, 11, 12, 13, 14, 15, 16, 17, 21, 22, 23], [0, 1, 2, 3, 4, 5, 6, 7, 8, 9, 10, 11, 12, 13, 14, 15, 16, 17, 18, 19, 20, 21, 22, 23, 24], [0, 1, 2, 3, 4, 5, 6, 7, 8, 9, 10, 11, 12, 13, 14, 15, 16, 17, 18, 19, 20, 21, 22, 23, 24, 25]]
def cuneiformlaw02_cut.body : ACode := .seq (.region [⟨(some 1), .box T.cuneiformlaw02_Act (.tmp 0), none⟩,
    ⟨(some 2), .alloc T.cuneiformlaw02_Act [(.int .i64 0), (.int .u32 0), .nils, .nils, .nils], none⟩] [1, 2])
  (.seq (.draw cuneiformlaw02_cut.d0 cuneiformlaw02_cut.d0b [[0, 1, 2, 3, 4, 5, 6, 7, 8, 9, 10, 11, 12, 13, 14, 15, 16, 17, 18, 19, 20, 21, 22, 23, 24, 25, 26]] [] [1, 2])
  (.seq (.region [⟨(some 27), .load (some 5) (.tmp 1), none⟩,
    ⟨none, .store 5 (.tmp 2) (.tmp 27), none⟩] [2])
  (.ret)))
def cuneiformlaw02_cut : AFun := ⟨28, 1, [.cell 2 (some 5)], cuneiformlaw02_cut.body⟩
def pen_Pen_Len.body : ACode := .seq (.region [⟨(some 2), .mov (.const (.int .i64 0)), none⟩] [0])
  (.seq (.seq (.region [⟨(some 3), .mov (.tmp 0), none⟩,
    ⟨(some 4), .eq false .ptr (.tmp 3) (.const .nilp), none⟩] [0, 4])
  (.cond (.tmp 4) (.seq (.region [⟨(some 2), .mov (.const (.int .i64 0)), none⟩] [2])
  (.ret)) (.skip)))
  (.seq (.region [⟨(some 5), .mov (.tmp 0), none⟩,
    ⟨(some 6), .nilc (.tmp 5), none⟩,
    ⟨(some 7), .field 0 (.tmp 6), none⟩,
    ⟨(some 8), .field 0 (.tmp 7), none⟩,
    ⟨(some 9), .load none (.tmp 8), none⟩,
    ⟨(some 10), .len .slice (.tmp 9), none⟩,
    ⟨(some 2), .mov (.tmp 10), none⟩] [2])
  (.ret)))
def pen_Pen_Len : AFun := ⟨11, 1, [.tmp 2], pen_Pen_Len.body⟩
def pen_Pen_Err.body : ACode := .seq (.region [⟨(some 2), .mov (.const (.int .i64 0)), none⟩] [0])
  (.seq (.block 0 (.seq (.region [⟨(some 4), .mov (.tmp 0), none⟩,
    ⟨(some 5), .eq false .ptr (.tmp 4) (.const .nilp), none⟩,
    ⟨(some 3), .mov (.tmp 5), none⟩] [0, 3])
  (.cond (.tmp 3) (.seq (.region [⟨(some 2), .mov (.const (.int .i64 1)), none⟩] [2])
  (.ret)) (.seq (.region [⟨(some 7), .mov (.tmp 0), none⟩,
    ⟨(some 8), .nilc (.tmp 7), none⟩,
    ⟨(some 9), .field 0 (.tmp 8), none⟩,
    ⟨(some 10), .field 2 (.tmp 9), none⟩,
    ⟨(some 11), .load none (.tmp 10), none⟩,
    ⟨(some 6), .mov (.tmp 11), none⟩] [6])
  (.cond (.tmp 6) (.seq (.region [⟨(some 2), .mov (.const (.int .i64 2)), none⟩] [2])
  (.ret)) (.skip))))))
  (.seq (.region [⟨(some 2), .mov (.const (.int .i64 0)), none⟩] [2])
  (.ret)))
def pen_Pen_Err : AFun := ⟨12, 1, [.tmp 2], pen_Pen_Err.body⟩
def cuneiformref01_Same.d0 : List AOper := [⟨(some 17), .mov (.tmp 0), none⟩,
    ⟨(some 18), .mov (.tmp 5), none⟩,
    ⟨(some 19), .idx 1 none (.tmp 17) (.tmp 18), none⟩,
    ⟨(some 20), .load none (.tmp 19), none⟩,
    ⟨(some 21), .mov (.tmp 1), none⟩,
    ⟨(some 22), .mov (.tmp 5), none⟩,
    ⟨(some 23), .idx 1 none (.tmp 21) (.tmp 22), none⟩,
    ⟨(some 24), .load none (.tmp 23), none⟩,
    ⟨(some 25), .bin .neq (.tmp 20) (.tmp 24), none⟩]
def cuneiformref01_Same.d0b : List (List Nat) := [[], [], [0, 1], [0, 1, 2], [], [], [4, 5], [4, 5, 6], [0, 1, 2, 3, 4, 5, 6, 7]]
def cuneiformref01_Same.b1 : ACode := .seq (.seq (.region [⟨(some 11), .mov (.tmp 5), none⟩,
    ⟨(some 12), .mov (.tmp 0), none⟩,
    ⟨(some 13), .len .slice (.tmp 12), none⟩,
    ⟨(some 14), .bin .lss (.tmp 11) (.tmp 13), none⟩] [0, 1, 5, 14])
  (.cond (.tmp 14) (.skip) (.exit 0)))
  (.seq (.block 1 (.seq (.draw cuneiformref01_Same.d0 cuneiformref01_Same.d0b [[0, 1, 2, 3, 4, 5, 6, 7, 8]] [] [0, 1, 5, 25])
  (.cond (.tmp 25) (.seq (.region [⟨(some 4), .mov (.const (.bool false)), none⟩] [4])
  (.ret)) (.skip))))
  (.region [⟨(some 15), .mov (.tmp 5), none⟩,
    ⟨(some 16), .bin .add (.tmp 15) (.const (.int .i64 1)), none⟩,
    ⟨(some 5), .mov (.tmp 16), none⟩] [0, 1, 5]))
def cuneiformref01_Same.body : ACode := .seq (.region [⟨(some 4), .mov (.const (.bool false)), none⟩] [0, 1])
  (.seq (.seq (.region [⟨(some 6), .mov (.tmp 0), none⟩,
    ⟨(some 7), .len .slice (.tmp 6), none⟩,
    ⟨(some 8), .mov (.tmp 1), none⟩,
    ⟨(some 9), .len .slice (.tmp 8), none⟩,
    ⟨(some 10), .bin .neq (.tmp 7) (.tmp 9), none⟩] [0, 1, 10])
  (.cond (.tmp 10) (.seq (.region [⟨(some 4), .mov (.const (.bool false)), none⟩] [4])
  (.ret)) (.skip)))
  (.seq (.seq (.region [⟨(some 5), .mov (.const (.int .i64 0)), none⟩] [0, 1, 5])
  (.block 0 (.loop cuneiformref01_Same.b1)))
  (.seq (.region [⟨(some 4), .mov (.const (.bool true)), none⟩] [4])
  (.ret))))
def cuneiformref01_Same : AFun := ⟨26, 2, [.tmp 4], cuneiformref01_Same.body⟩
def cuneiformlaw02_known.body : ACode := .seq (.region [⟨(some 0), .mov (.const (.bool false)), none⟩] [])
  (.seq (.region [⟨(some 2), .call (.const (.fn F.pen_New [] [])) [(.const (.int .i64 4))], none⟩,
    ⟨(some 1), .mov (.tmp 2), none⟩] [1])
  (.seq (.seq (.region [⟨(some 3), .mov (.tmp 1), none⟩,
    ⟨(some 4), .eq false .ptr (.tmp 3) (.const .nilp), none⟩,
    ⟨(some 5), .mov (.tmp 4), none⟩,
    ⟨(some 6), .mov (.tmp 1), some (5, false)⟩,
    ⟨(some 7), .call (.const (.fn F.pen_Pen_U16 [] [])) [(.tmp 6), (.const (.int .u16 258))], some (5, false)⟩,
    ⟨(some 8), .bin .neq (.tmp 7) (.const (.int .i64 0)), some (5, false)⟩,
    ⟨(some 9), .pick (.tmp 5) (.const (.bool true)) (.tmp 8), none⟩,
    ⟨(some 10), .mov (.tmp 9), none⟩,
    ⟨(some 11), .mov (.tmp 1), some (10, false)⟩,
    ⟨(some 12), .lit T.uint64 1 1 [(.int .u64 0)] [(0, 1, (.const (.int .u64 300)))], some (10, false)⟩,
    ⟨(some 13), .call (.const (.fn F.pen_Pen_Number [] [])) [(.tmp 11), (.tmp 12)], some (10, false)⟩,
    ⟨(some 14), .bin .neq (.tmp 13) (.const (.int .i64 0)), some (10, false)⟩,
    ⟨(some 15), .pick (.tmp 10) (.const (.bool true)) (.tmp 14), none⟩,
    ⟨(some 16), .mov (.tmp 15), none⟩,
    ⟨(some 17), .mov (.tmp 1), some (16, false)⟩,
    ⟨(some 18), .call (.const (.fn F.pen_Pen_U8 [] [])) [(.tmp 17), (.const (.int .u8 0))], some (16, false)⟩,
    ⟨(some 19), .bin .neq (.tmp 18) (.const (.int .i64 2)), some (16, false)⟩,
    ⟨(some 20), .pick (.tmp 16) (.const (.bool true)) (.tmp 19), none⟩] [1, 20])
  (.cond (.tmp 20) (.seq (.region [⟨(some 0), .mov (.const (.bool false)), none⟩] [0])
  (.ret)) (.skip)))
  (.seq (.region [⟨(some 21), .mov (.tmp 1), none⟩,
    ⟨(some 22), .call (.const (.fn F.pen_Pen_Bytes [] [])) [(.tmp 21)], none⟩,
    ⟨(some 23), .lit T.uint8 1 4 [(.int .u8 0), (.int .u8 0), (.int .u8 0), (.int .u8 0)] [(0, 1, (.const (.int .u8 2))), (1, 1, (.const (.int .u8 1))), (2, 1, (.const (.int .u8 172))), (3, 1, (.const (.int .u8 2)))], none⟩,
    ⟨(some 24), .call (.const (.fn F.cuneiformref01_Same [] [])) [(.tmp 22), (.tmp 23)], none⟩,
    ⟨(some 0), .mov (.tmp 24), none⟩] [0])
  (.ret))))
def cuneiformlaw02_known : AFun := ⟨25, 0, [.tmp 0], cuneiformlaw02_known.body⟩
def cuneiformref02_Raw.body : ACode := .seq (.region [⟨(some 2), .box T.cuneiformref02_P (.tmp 0), none⟩,
    ⟨(some 4), .alloc T.cuneiformref02_P [.nils, (.int .i64 0), (.bool false)], none⟩,
    ⟨(some 5), .mov (.const (.int .i64 0)), none⟩] [1, 2, 4])
  (.seq (.seq (.region [⟨(some 6), .field 2 (.tmp 2), none⟩,
    ⟨(some 7), .load none (.tmp 6), none⟩,
    ⟨(some 8), .mov (.tmp 7), none⟩,
    ⟨(some 9), .field 0 (.tmp 2), some (8, false)⟩,
    ⟨(some 10), .load none (.tmp 9), some (8, false)⟩,
    ⟨(some 11), .len .slice (.tmp 10), some (8, false)⟩,
    ⟨(some 12), .mov (.tmp 1), some (8, false)⟩,
    ⟨(some 13), .len .slice (.tmp 12), some (8, false)⟩,
    ⟨(some 14), .bin .add (.tmp 11) (.tmp 13), some (8, false)⟩,
    ⟨(some 15), .field 1 (.tmp 2), some (8, false)⟩,
    ⟨(some 16), .load none (.tmp 15), some (8, false)⟩,
    ⟨(some 17), .bin .gtr (.tmp 14) (.tmp 16), some (8, false)⟩,
    ⟨(some 18), .pick (.tmp 8) (.const (.bool true)) (.tmp 17), none⟩] [1, 2, 4, 18])
  (.cond (.tmp 18) (.seq (.region [⟨(some 19), .field 2 (.tmp 2), none⟩,
    ⟨none, .store 1 (.tmp 19) (.const (.bool true)), none⟩] [2, 4])
  (.seq (.region [⟨(some 20), .load (some 3) (.tmp 2), none⟩,
    ⟨none, .store 3 (.tmp 4) (.tmp 20), none⟩,
    ⟨(some 5), .mov (.const (.int .i64 2)), none⟩] [4, 5])
  (.ret))) (.skip)))
  (.seq (.region [⟨(some 21), .lit T.uint8 1 0 [] [], none⟩,
    ⟨(some 22), .field 0 (.tmp 2), none⟩,
    ⟨(some 23), .load none (.tmp 22), none⟩,
    ⟨(some 24), .append T.uint8 1 1 (.tmp 21) (.tmp 23), none⟩,
    ⟨(some 25), .mov (.tmp 1), none⟩,
    ⟨(some 26), .append T.uint8 1 1 (.tmp 24) (.tmp 25), none⟩,
    ⟨(some 27), .field 0 (.tmp 2), none⟩,
    ⟨none, .store 1 (.tmp 27) (.tmp 26), none⟩] [2, 4])
  (.seq (.region [⟨(some 28), .load (some 3) (.tmp 2), none⟩,
    ⟨none, .store 3 (.tmp 4) (.tmp 28), none⟩,
    ⟨(some 5), .mov (.const (.int .i64 0)), none⟩] [4, 5])
  (.ret))))
def cuneiformref02_Raw : AFun := ⟨29, 2, [.cell 4 (some 3), .tmp 5], cuneiformref02_Raw.body⟩
def cuneiformlaw02_bytes.body : ACode := .seq (.region [⟨(some 1), .box T.cuneiformlaw02_Act (.tmp 0), none⟩,
    ⟨(some 2), .mov (.const .nils), none⟩] [1])
  (.seq (.seq (.region [⟨(some 3), .field 0 (.tmp 1), none⟩,
    ⟨(some 4), .load none (.tmp 3), none⟩] [1, 4])
  (.block 0 (.seq (.region [⟨(some 6), .bin .eql (.tmp 4) (.const (.int .i64 0)), none⟩,
    ⟨(some 5), .mov (.tmp 6), none⟩] [1, 4, 5])
  (.cond (.tmp 5) (.seq (.region [⟨(some 7), .field 1 (.tmp 1), none⟩,
    ⟨(some 8), .load none (.tmp 7), none⟩,
    ⟨(some 9), .call (.const (.fn F.cuneiformref02_Word [] [])) [(.tmp 8), (.const (.int .i64 1))], none⟩,
    ⟨(some 2), .mov (.tmp 9), none⟩] [2])
  (.ret)) (.seq (.region [⟨(some 11), .bin .eql (.tmp 4) (.const (.int .i64 1)), none⟩,
    ⟨(some 10), .mov (.tmp 11), none⟩] [1, 4, 10])
  (.cond (.tmp 10) (.seq (.region [⟨(some 12), .field 1 (.tmp 1), none⟩,
    ⟨(some 13), .load none (.tmp 12), none⟩,
    ⟨(some 14), .call (.const (.fn F.cuneiformref02_Word [] [])) [(.tmp 13), (.const (.int .i64 2))], none⟩,
    ⟨(some 2), .mov (.tmp 14), none⟩] [2])
  (.ret)) (.seq (.region [⟨(some 16), .bin .eql (.tmp 4) (.const (.int .i64 2)), none⟩,
    ⟨(some 15), .mov (.tmp 16), none⟩] [1, 4, 15])
  (.cond (.tmp 15) (.seq (.region [⟨(some 17), .field 1 (.tmp 1), none⟩,
    ⟨(some 18), .load none (.tmp 17), none⟩,
    ⟨(some 19), .call (.const (.fn F.cuneiformref02_Word [] [])) [(.tmp 18), (.const (.int .i64 4))], none⟩,
    ⟨(some 2), .mov (.tmp 19), none⟩] [2])
  (.ret)) (.seq (.region [⟨(some 21), .bin .eql (.tmp 4) (.const (.int .i64 3)), none⟩,
    ⟨(some 20), .mov (.tmp 21), none⟩] [1, 4, 20])
  (.cond (.tmp 20) (.seq (.region [⟨(some 22), .field 2 (.tmp 1), none⟩,
    ⟨(some 23), .load none (.tmp 22), none⟩,
    ⟨(some 24), .call (.const (.fn F.cuneiformref01_Put [] [])) [(.tmp 23)], none⟩,
    ⟨(some 2), .mov (.tmp 24), none⟩] [2])
  (.ret)) (.seq (.region [⟨(some 26), .bin .eql (.tmp 4) (.const (.int .i64 4)), none⟩,
    ⟨(some 25), .mov (.tmp 26), none⟩] [1, 4, 25])
  (.cond (.tmp 25) (.seq (.region [⟨(some 27), .field 3 (.tmp 1), none⟩,
    ⟨(some 28), .load none (.tmp 27), none⟩,
    ⟨(some 29), .call (.const (.fn F.cuneiformref02_Signed [] [])) [(.tmp 28)], none⟩,
    ⟨(some 2), .mov (.tmp 29), none⟩] [2])
  (.ret)) (.seq (.region [⟨(some 31), .bin .eql (.tmp 4) (.const (.int .i64 5)), none⟩,
    ⟨(some 30), .mov (.tmp 31), none⟩] [1, 30])
  (.cond (.tmp 30) (.seq (.region [⟨(some 32), .field 4 (.tmp 1), none⟩,
    ⟨(some 33), .load none (.tmp 32), none⟩,
    ⟨(some 2), .mov (.tmp 33), none⟩] [2])
  (.ret)) (.skip)))))))))))))))
  (.seq (.region [⟨(some 34), .field 4 (.tmp 1), none⟩,
    ⟨(some 35), .load none (.tmp 34), none⟩,
    ⟨(some 36), .call (.const (.fn F.cuneiformref02_Field [] [])) [(.tmp 35)], none⟩,
    ⟨(some 2), .mov (.tmp 36), none⟩] [2])
  (.ret)))
def cuneiformlaw02_bytes : AFun := ⟨37, 1, [.tmp 2], cuneiformlaw02_bytes.body⟩
def pen_Pen_Left.d0 : List AOper := [⟨(some 12), .mov (.tmp 0), none⟩,
    ⟨(some 13), .nilc (.tmp 12), none⟩,
    ⟨(some 14), .field 0 (.tmp 13), none⟩,
    ⟨(some 15), .field 1 (.tmp 14), none⟩,
    ⟨(some 16), .load none (.tmp 15), none⟩,
    ⟨(some 17), .mov (.tmp 0), none⟩,
    ⟨(some 18), .nilc (.tmp 17), none⟩,
    ⟨(some 19), .field 0 (.tmp 18), none⟩,
    ⟨(some 20), .field 0 (.tmp 19), none⟩,
    ⟨(some 21), .load none (.tmp 20), none⟩,
    ⟨(some 22), .len .slice (.tmp 21), none⟩,
    ⟨(some 23), .bin .sub (.tmp 16) (.tmp 22), none⟩,
    ⟨(some 2), .mov (.tmp 23), none⟩]
def pen_Pen_Left.d0b : List (List Nat) := [[], [0], [0, 1], [0, 1, 2], [0, 1, 2, 3], [], [5], [5, 6], [5, 6, 7], [5, 6, 7, 8], [5, 6, 7, 8, 9], [0, 1, 2, 3, 4, 5, 6, 7, 8, 9, 10], [0, 1, 2, 3, 4, 5, 6, 7, 8, 9, 10, 11]]
def pen_Pen_Left.body : ACode := .seq (.region [⟨(some 2), .mov (.const (.int .i64 0)), none⟩] [0])
  (.seq (.seq (.region [⟨(some 3), .mov (.tmp 0), none⟩,
    ⟨(some 4), .eq false .ptr (.tmp 3) (.const .nilp), none⟩,
    ⟨(some 5), .mov (.tmp 4), none⟩,
    ⟨(some 6), .mov (.tmp 0), some (5, false)⟩,
    ⟨(some 7), .nilc (.tmp 6), some (5, false)⟩,
    ⟨(some 8), .field 0 (.tmp 7), some (5, false)⟩,
    ⟨(some 9), .field 2 (.tmp 8), some (5, false)⟩,
    ⟨(some 10), .load none (.tmp 9), some (5, false)⟩,
    ⟨(some 11), .pick (.tmp 5) (.const (.bool true)) (.tmp 10), none⟩] [0, 11])
  (.cond (.tmp 11) (.seq (.region [⟨(some 2), .mov (.const (.int .i64 0)), none⟩] [2])
  (.ret)) (.skip)))
  (.seq (.draw pen_Pen_Left.d0 pen_Pen_Left.d0b [[0, 1, 2, 3, 4, 5, 6, 7, 8, 9, 10, 11, 12]] [] [2])
  (.ret)))
def pen_Pen_Left : AFun := ⟨24, 1, [.tmp 2], pen_Pen_Left.body⟩
def pen_Pen_U8.body : ACode := .seq (.region [⟨(some 4), .mov (.const (.int .i64 0)), none⟩] [0, 1])
  (.seq (.region [⟨(some 5), .mov (.tmp 0), none⟩,
    ⟨(some 6), .mov (.tmp 1), none⟩,
    ⟨(some 7), .conv .u32 (.tmp 6), none⟩,
    ⟨(some 8), .call (.const (.fn F.pen_Pen_word [] [])) [(.tmp 5), (.tmp 7), (.const (.int .i64 1))], none⟩,
    ⟨(some 4), .mov (.tmp 8), none⟩] [4])
  (.ret))
def pen_Pen_U8 : AFun := ⟨9, 2, [.tmp 4], pen_Pen_U8.body⟩
def pen_Pen_U16.body : ACode := .seq (.region [⟨(some 4), .mov (.const (.int .i64 0)), none⟩] [0, 1])
  (.seq (.region [⟨(some 5), .mov (.tmp 0), none⟩,
    ⟨(some 6), .mov (.tmp 1), none⟩,
    ⟨(some 7), .conv .u32 (.tmp 6), none⟩,
    ⟨(some 8), .call (.const (.fn F.pen_Pen_word [] [])) [(.tmp 5), (.tmp 7), (.const (.int .i64 2))], none⟩,
    ⟨(some 4), .mov (.tmp 8), none⟩] [4])
  (.ret))
def pen_Pen_U16 : AFun := ⟨9, 2, [.tmp 4], pen_Pen_U16.body⟩
def pen_Pen_U32.body : ACode := .seq (.region [⟨(some 4), .mov (.const (.int .i64 0)), none⟩] [0, 1])
  (.seq (.region [⟨(some 5), .mov (.tmp 0), none⟩,
    ⟨(some 6), .mov (.tmp 1), none⟩,
    ⟨(some 7), .call (.const (.fn F.pen_Pen_word [] [])) [(.tmp 5), (.tmp 6), (.const (.int .i64 4))], none⟩,
    ⟨(some 4), .mov (.tmp 7), none⟩] [4])
  (.ret))
def pen_Pen_U32 : AFun := ⟨8, 2, [.tmp 4], pen_Pen_U32.body⟩
def pen_Pen_Number.body : ACode := .seq (.region [⟨(some 4), .mov (.const (.int .i64 0)), none⟩] [0, 1])
  (.seq (.region [⟨(some 5), .mov (.tmp 0), none⟩,
    ⟨(some 6), .mov (.tmp 1), none⟩,
    ⟨(some 7), .call (.const (.fn F.varint_Put [] [])) [(.tmp 6)], none⟩,
    ⟨(some 8), .call (.const (.fn F.pen_Pen_Raw [] [])) [(.tmp 5), (.tmp 7)], none⟩,
    ⟨(some 4), .mov (.tmp 8), none⟩] [4])
  (.ret))
def pen_Pen_Number : AFun := ⟨9, 2, [.tmp 4], pen_Pen_Number.body⟩
def pen_Pen_Signed.b0 : ACode := .seq (.region [⟨(some 11), .bin .lss (.tmp 10) (.tmp 9), none⟩] [0, 5, 8, 9, 10, 11])
  (.seq (.cond (.tmp 11) (.skip) (.exit 0))
  (.seq (.block 1 (.seq (.region [⟨(some 12), .idx 1 none (.tmp 8) (.tmp 10), none⟩,
    ⟨(some 13), .load none (.tmp 12), none⟩,
    ⟨(some 7), .mov (.tmp 13), none⟩] [0, 5, 7, 8, 9, 10])
  (.region [⟨(some 14), .mov (.tmp 5), none⟩,
    ⟨(some 15), .mov (.tmp 7), none⟩,
    ⟨(some 16), .call (.const (.fn F.varint_Zig [] [])) [(.tmp 15)], none⟩,
    ⟨(some 17), .lit T.uint64 1 1 [(.int .u64 0)] [(0, 1, (.tmp 16))], none⟩,
    ⟨(some 18), .append T.uint64 1 8 (.tmp 14) (.tmp 17), none⟩,
    ⟨(some 5), .mov (.tmp 18), none⟩] [0, 5, 8, 9, 10])))
  (.region [⟨(some 19), .bin .add (.tmp 10) (.const (.int .i64 1)), none⟩,
    ⟨(some 10), .mov (.tmp 19), none⟩] [0, 5, 8, 9, 10])))
def pen_Pen_Signed.body : ACode := .seq (.region [⟨(some 4), .mov (.const (.int .i64 0)), none⟩] [0, 1])
  (.seq (.region [⟨(some 5), .mov (.const .nils), none⟩] [0, 1, 5])
  (.seq (.seq (.region [⟨(some 8), .mov (.tmp 1), none⟩,
    ⟨(some 9), .len .slice (.tmp 8), none⟩,
    ⟨(some 10), .mov (.const (.int .i64 0)), none⟩] [0, 5, 8, 9, 10])
  (.block 0 (.loop pen_Pen_Signed.b0)))
  (.seq (.region [⟨(some 20), .mov (.tmp 0), none⟩,
    ⟨(some 21), .mov (.tmp 5), none⟩,
    ⟨(some 22), .call (.const (.fn F.pen_Pen_Number [] [])) [(.tmp 20), (.tmp 21)], none⟩,
    ⟨(some 4), .mov (.tmp 22), none⟩] [4])
  (.ret))))
def pen_Pen_Signed : AFun := ⟨23, 2, [.tmp 4], pen_Pen_Signed.body⟩
def pen_Pen_Raw.d0 : List AOper := [⟨(some 9), .mov (.tmp 0), none⟩,
    ⟨(some 10), .nilc (.tmp 9), none⟩,
    ⟨(some 11), .field 0 (.tmp 10), none⟩,
    ⟨(some 12), .field 2 (.tmp 11), none⟩,
    ⟨(some 13), .load none (.tmp 12), none⟩,
    ⟨(some 14), .mov (.tmp 13), none⟩,
    ⟨(some 15), .mov (.tmp 1), some (14, false)⟩,
    ⟨(some 16), .len .slice (.tmp 15), some (14, false)⟩,
    ⟨(some 17), .mov (.tmp 0), some (14, false)⟩,
    ⟨(some 18), .nilc (.tmp 17), some (14, false)⟩,
    ⟨(some 19), .field 0 (.tmp 18), some (14, false)⟩,
    ⟨(some 20), .field 1 (.tmp 19), some (14, false)⟩,
    ⟨(some 21), .load none (.tmp 20), some (14, false)⟩,
    ⟨(some 22), .mov (.tmp 0), some (14, false)⟩,
    ⟨(some 23), .nilc (.tmp 22), some (14, false)⟩,
    ⟨(some 24), .field 0 (.tmp 23), some (14, false)⟩,
    ⟨(some 25), .field 0 (.tmp 24), some (14, false)⟩,
    ⟨(some 26), .load none (.tmp 25), some (14, false)⟩,
    ⟨(some 27), .len .slice (.tmp 26), some (14, false)⟩,
    ⟨(some 28), .bin .sub (.tmp 21) (.tmp 27), some (14, false)⟩,
    ⟨(some 29), .bin .gtr (.tmp 16) (.tmp 28), some (14, false)⟩,
    ⟨(some 30), .pick (.tmp 14) (.const (.bool true)) (.tmp 29), none⟩,
    ⟨(some 8), .mov (.tmp 30), none⟩]
def pen_Pen_Raw.d0b : List (List Nat) := [[], [0], [0, 1], [0, 1, 2], [0, 1, 2, 3], [0, 1, 2, 3, 4], [0, 1, 2, 3, 4, 5], [0, 1, 2, 3, 4, 5, 6], [0, 1, 2, 3, 4, 5], [0, 1, 2, 3, 4, 5, 8], [0, 1, 2, 3, 4, 5, 8, 9], [0, 1, 2, 3, 4, 5, 8, 9, 10], [0, 1, 2, 3, 4, 5, 8, 9, 10, 11], [0, 1, 2, 3, 4, 5], [0, 1, 2, 3, 4, 5, 13], [0, 1, 2, 3, 4, 5, 13, 14], [0, 1, 2, 3, 4, 5, 13, 14, 15], [0, 1, 2, 3, 4, 5, 13, 14, 15, 16], [0, 1, 2, 3, 4, 5, 13, 14, 15, 16, 17], [0, 1, 2, 3, 4, 5, 8, 9, 10, 11, 12, 13, 14, 15, 16, 17, 18], [0, 1, 2, 3, 4, 5, 6, 7, 8, 9, 10, 11, 12, 13, 14, 15, 16, 17, 18, 19], [0, 1, 2, 3, 4, 5, 6, 7, 8, 9, 10, 11, 12, 13, 14, 15, 16, 17, 18, 19, 20], [0, 1, 2, 3, 4, 5, 6, 7, 8, 9, 10, 11, 12, 13, 14, 15, 16, 17, 18, 19, 20, 21]]
def pen_Pen_Raw.body : ACode := .seq (.region [⟨(some 4), .mov (.const (.int .i64 0)), none⟩] [0, 1])
  (.seq (.block 0 (.seq (.region [⟨(some 6), .mov (.tmp 0), none⟩,
    ⟨(some 7), .eq false .ptr (.tmp 6) (.const .nilp), none⟩,
    ⟨(some 5), .mov (.tmp 7), none⟩] [0, 1, 5])
  (.cond (.tmp 5) (.seq (.region [⟨(some 4), .mov (.const (.int .i64 1)), none⟩] [4])
  (.ret)) (.seq (.draw pen_Pen_Raw.d0 pen_Pen_Raw.d0b [[0, 1, 2, 3, 4, 5, 6, 7, 8, 9, 10, 11, 12, 13, 14, 15, 16, 17, 18, 19, 20, 21, 22]] [] [0, 1, 8])
  (.cond (.tmp 8) (.seq (.region [⟨(some 31), .mov (.tmp 0), none⟩,
    ⟨(some 32), .nilc (.tmp 31), none⟩,
    ⟨(some 33), .field 0 (.tmp 32), none⟩,
    ⟨(some 34), .field 2 (.tmp 33), none⟩,
    ⟨none, .store 1 (.tmp 34) (.const (.bool true)), none⟩] [])
  (.seq (.region [⟨(some 4), .mov (.const (.int .i64 2)), none⟩] [4])
  (.ret))) (.skip))))))
  (.seq (.region [⟨(some 35), .mov (.tmp 0), none⟩,
    ⟨(some 36), .mov (.tmp 0), none⟩,
    ⟨(some 37), .nilc (.tmp 36), none⟩,
    ⟨(some 38), .field 0 (.tmp 37), none⟩,
    ⟨(some 39), .field 0 (.tmp 38), none⟩,
    ⟨(some 40), .load none (.tmp 39), none⟩,
    ⟨(some 41), .mov (.tmp 1), none⟩,
    ⟨(some 42), .append T.uint8 1 1 (.tmp 40) (.tmp 41), none⟩,
    ⟨(some 43), .nilc (.tmp 35), none⟩,
    ⟨(some 44), .field 0 (.tmp 43), none⟩,
    ⟨(some 45), .field 0 (.tmp 44), none⟩,
    ⟨none, .store 1 (.tmp 45) (.tmp 42), none⟩] [])
  (.seq (.region [⟨(some 4), .mov (.const (.int .i64 0)), none⟩] [4])
  (.ret))))
def pen_Pen_Raw : AFun := ⟨46, 2, [.tmp 4], pen_Pen_Raw.body⟩
def pen_Pen_Field.body : ACode := .seq (.region [⟨(some 4), .mov (.const (.int .i64 0)), none⟩] [0, 1])
  (.seq (.region [⟨(some 5), .mov (.tmp 0), none⟩,
    ⟨(some 6), .mov (.tmp 1), none⟩,
    ⟨(some 7), .len .slice (.tmp 6), none⟩,
    ⟨(some 8), .conv .u64 (.tmp 7), none⟩,
    ⟨(some 9), .lit T.uint64 1 1 [(.int .u64 0)] [(0, 1, (.tmp 8))], none⟩,
    ⟨(some 10), .call (.const (.fn F.varint_Put [] [])) [(.tmp 9)], none⟩,
    ⟨(some 11), .mov (.tmp 1), none⟩,
    ⟨(some 12), .append T.uint8 1 1 (.tmp 10) (.tmp 11), none⟩,
    ⟨(some 13), .call (.const (.fn F.pen_Pen_Raw [] [])) [(.tmp 5), (.tmp 12)], none⟩,
    ⟨(some 4), .mov (.tmp 13), none⟩] [4])
  (.ret))
def pen_Pen_Field : AFun := ⟨14, 2, [.tmp 4], pen_Pen_Field.body⟩
def cuneiformref02_Word.b0 : ACode := .seq (.seq (.region [⟨(some 7), .mov (.tmp 6), none⟩,
    ⟨(some 8), .mov (.tmp 1), none⟩,
    ⟨(some 9), .bin .lss (.tmp 7) (.tmp 8), none⟩] [0, 1, 5, 6, 9])
  (.cond (.tmp 9) (.skip) (.exit 0)))
  (.seq (.block 1 (.seq (.region [⟨(some 12), .mov (.tmp 5), none⟩,
    ⟨(some 13), .mov (.tmp 0), none⟩,
    ⟨(some 14), .bin .rem (.tmp 13) (.const (.int .u32 256)), none⟩,
    ⟨(some 15), .conv .u8 (.tmp 14), none⟩,
    ⟨(some 16), .lit T.uint8 1 1 [(.int .u8 0)] [(0, 1, (.tmp 15))], none⟩,
    ⟨(some 17), .append T.uint8 1 1 (.tmp 12) (.tmp 16), none⟩,
    ⟨(some 5), .mov (.tmp 17), none⟩] [0, 1, 5, 6])
  (.region [⟨(some 18), .mov (.tmp 0), none⟩,
    ⟨(some 19), .bin .quo (.tmp 18) (.const (.int .u32 256)), none⟩,
    ⟨(some 0), .mov (.tmp 19), none⟩] [0, 1, 5, 6])))
  (.region [⟨(some 10), .mov (.tmp 6), none⟩,
    ⟨(some 11), .bin .add (.tmp 10) (.const (.int .i64 1)), none⟩,
    ⟨(some 6), .mov (.tmp 11), none⟩] [0, 1, 5, 6]))
def cuneiformref02_Word.body : ACode := .seq (.region [⟨(some 4), .mov (.const .nils), none⟩] [0, 1])
  (.seq (.region [⟨(some 5), .mov (.const .nils), none⟩] [0, 1, 5])
  (.seq (.seq (.region [⟨(some 6), .mov (.const (.int .i64 0)), none⟩] [0, 1, 5, 6])
  (.block 0 (.loop cuneiformref02_Word.b0)))
  (.seq (.region [⟨(some 20), .mov (.tmp 5), none⟩,
    ⟨(some 4), .mov (.tmp 20), none⟩] [4])
  (.ret))))
def cuneiformref02_Word : AFun := ⟨21, 2, [.tmp 4], cuneiformref02_Word.body⟩
def cuneiformref01_Put.b0 : ACode := .seq (.seq (.region [⟨(some 16), .mov (.tmp 5), none⟩,
    ⟨(some 17), .bin .gtr (.tmp 16) (.const (.int .u64 127)), none⟩] [0, 3, 4, 5, 17])
  (.cond (.tmp 17) (.skip) (.exit 2)))
  (.block 3 (.seq (.region [⟨(some 18), .mov (.tmp 3), none⟩,
    ⟨(some 19), .mov (.tmp 5), none⟩,
    ⟨(some 20), .bin .rem (.tmp 19) (.const (.int .u64 128)), none⟩,
    ⟨(some 21), .bin .add (.const (.int .u64 128)) (.tmp 20), none⟩,
    ⟨(some 22), .conv .u8 (.tmp 21), none⟩,
    ⟨(some 23), .lit T.uint8 1 1 [(.int .u8 0)] [(0, 1, (.tmp 22))], none⟩,
    ⟨(some 24), .append T.uint8 1 1 (.tmp 18) (.tmp 23), none⟩,
    ⟨(some 3), .mov (.tmp 24), none⟩] [0, 3, 4, 5])
  (.region [⟨(some 25), .mov (.tmp 5), none⟩,
    ⟨(some 26), .bin .quo (.tmp 25) (.const (.int .u64 128)), none⟩,
    ⟨(some 5), .mov (.tmp 26), none⟩] [0, 3, 4, 5])))
def cuneiformref01_Put.b1 : ACode := .seq (.seq (.region [⟨(some 6), .mov (.tmp 4), none⟩,
    ⟨(some 7), .mov (.tmp 0), none⟩,
    ⟨(some 8), .len .slice (.tmp 7), none⟩,
    ⟨(some 9), .bin .lss (.tmp 6) (.tmp 8), none⟩] [0, 3, 4, 9])
  (.cond (.tmp 9) (.skip) (.exit 0)))
  (.seq (.block 1 (.seq (.region [⟨(some 12), .mov (.tmp 0), none⟩,
    ⟨(some 13), .mov (.tmp 4), none⟩,
    ⟨(some 14), .idx 1 none (.tmp 12) (.tmp 13), none⟩,
    ⟨(some 15), .load none (.tmp 14), none⟩,
    ⟨(some 5), .mov (.tmp 15), none⟩] [0, 3, 4, 5])
  (.seq (.block 2 (.loop cuneiformref01_Put.b0))
  (.region [⟨(some 27), .mov (.tmp 3), none⟩,
    ⟨(some 28), .mov (.tmp 5), none⟩,
    ⟨(some 29), .conv .u8 (.tmp 28), none⟩,
    ⟨(some 30), .lit T.uint8 1 1 [(.int .u8 0)] [(0, 1, (.tmp 29))], none⟩,
    ⟨(some 31), .append T.uint8 1 1 (.tmp 27) (.tmp 30), none⟩,
    ⟨(some 3), .mov (.tmp 31), none⟩] [0, 3, 4]))))
  (.region [⟨(some 10), .mov (.tmp 4), none⟩,
    ⟨(some 11), .bin .add (.tmp 10) (.const (.int .i64 1)), none⟩,
    ⟨(some 4), .mov (.tmp 11), none⟩] [0, 3, 4]))
def cuneiformref01_Put.body : ACode := .seq (.region [⟨(some 2), .mov (.const .nils), none⟩] [0])
  (.seq (.region [⟨(some 3), .mov (.const .nils), none⟩] [0, 3])
  (.seq (.seq (.region [⟨(some 4), .mov (.const (.int .i64 0)), none⟩] [0, 3, 4])
  (.block 0 (.loop cuneiformref01_Put.b1)))
  (.seq (.region [⟨(some 32), .mov (.tmp 3), none⟩,
    ⟨(some 2), .mov (.tmp 32), none⟩] [2])
  (.ret))))
def cuneiformref01_Put : AFun := ⟨33, 1, [.tmp 2], cuneiformref01_Put.body⟩
def cuneiformref02_Signed.b0 : ACode := .seq (.seq (.region [⟨(some 5), .mov (.tmp 4), none⟩,
    ⟨(some 6), .mov (.tmp 0), none⟩,
    ⟨(some 7), .len .slice (.tmp 6), none⟩,
    ⟨(some 8), .bin .lss (.tmp 5) (.tmp 7), none⟩] [0, 3, 4, 8])
  (.cond (.tmp 8) (.skip) (.exit 0)))
  (.seq (.block 1 (.region [⟨(some 11), .mov (.tmp 3), none⟩,
    ⟨(some 12), .mov (.tmp 0), none⟩,
    ⟨(some 13), .mov (.tmp 4), none⟩,
    ⟨(some 14), .idx 1 none (.tmp 12) (.tmp 13), none⟩,
    ⟨(some 15), .load none (.tmp 14), none⟩,
    ⟨(some 16), .call (.const (.fn F.cuneiformref01_Zig [] [])) [(.tmp 15)], none⟩,
    ⟨(some 17), .lit T.uint64 1 1 [(.int .u64 0)] [(0, 1, (.tmp 16))], none⟩,
    ⟨(some 18), .append T.uint64 1 8 (.tmp 11) (.tmp 17), none⟩,
    ⟨(some 3), .mov (.tmp 18), none⟩] [0, 3, 4]))
  (.region [⟨(some 9), .mov (.tmp 4), none⟩,
    ⟨(some 10), .bin .add (.tmp 9) (.const (.int .i64 1)), none⟩,
    ⟨(some 4), .mov (.tmp 10), none⟩] [0, 3, 4]))
def cuneiformref02_Signed.body : ACode := .seq (.region [⟨(some 2), .mov (.const .nils), none⟩] [0])
  (.seq (.region [⟨(some 3), .mov (.const .nils), none⟩] [0, 3])
  (.seq (.seq (.region [⟨(some 4), .mov (.const (.int .i64 0)), none⟩] [0, 3, 4])
  (.block 0 (.loop cuneiformref02_Signed.b0)))
  (.seq (.region [⟨(some 19), .mov (.tmp 3), none⟩,
    ⟨(some 20), .call (.const (.fn F.cuneiformref01_Put [] [])) [(.tmp 19)], none⟩,
    ⟨(some 2), .mov (.tmp 20), none⟩] [2])
  (.ret))))
def cuneiformref02_Signed : AFun := ⟨21, 1, [.tmp 2], cuneiformref02_Signed.body⟩
def cuneiformref02_Field.body : ACode := .seq (.region [⟨(some 2), .mov (.const .nils), none⟩] [0])
  (.seq (.region [⟨(some 3), .mov (.tmp 0), none⟩,
    ⟨(some 4), .len .slice (.tmp 3), none⟩,
    ⟨(some 5), .conv .u64 (.tmp 4), none⟩,
    ⟨(some 6), .lit T.uint64 1 1 [(.int .u64 0)] [(0, 1, (.tmp 5))], none⟩,
    ⟨(some 7), .call (.const (.fn F.cuneiformref01_Put [] [])) [(.tmp 6)], none⟩,
    ⟨(some 8), .mov (.tmp 0), none⟩,
    ⟨(some 9), .append T.uint8 1 1 (.tmp 7) (.tmp 8), none⟩,
    ⟨(some 2), .mov (.tmp 9), none⟩] [2])
  (.ret))
def cuneiformref02_Field : AFun := ⟨10, 1, [.tmp 2], cuneiformref02_Field.body⟩
def pen_Pen_word.body : ACode := .seq (.region [⟨(some 6), .mov (.const (.int .i64 0)), none⟩] [0, 1, 2])
  (.seq (.region [⟨(some 8), .mov (.tmp 1), none⟩,
    ⟨(some 9), .conv .u8 (.tmp 8), none⟩,
    ⟨(some 10), .mov (.tmp 1), none⟩,
    ⟨(some 11), .bin .shr (.tmp 10) (.const (.int .u64 8)), none⟩,
    ⟨(some 12), .conv .u8 (.tmp 11), none⟩,
    ⟨(some 13), .mov (.tmp 1), none⟩,
    ⟨(some 14), .bin .shr (.tmp 13) (.const (.int .u64 16)), none⟩,
    ⟨(some 15), .conv .u8 (.tmp 14), none⟩,
    ⟨(some 16), .mov (.tmp 1), none⟩,
    ⟨(some 17), .bin .shr (.tmp 16) (.const (.int .u64 24)), none⟩,
    ⟨(some 18), .conv .u8 (.tmp 17), none⟩,
    ⟨(some 19), .build [(.int .u8 0), (.int .u8 0), (.int .u8 0), (.int .u8 0)] [(0, 1, (.tmp 9)), (1, 1, (.tmp 12)), (2, 1, (.tmp 15)), (3, 1, (.tmp 18))], none⟩,
    ⟨(some 7), .alloc T.n4_uint8 [(.int .u8 0), (.int .u8 0), (.int .u8 0), (.int .u8 0)], none⟩,
    ⟨none, .store 4 (.tmp 7) (.tmp 19), none⟩] [0, 2, 7])
  (.seq (.region [⟨(some 20), .mov (.tmp 0), none⟩,
    ⟨(some 21), .mov (.tmp 2), none⟩,
    ⟨(some 22), .mov (.tmp 2), none⟩,
    ⟨(some 23), .slice 1 (.array 4) (.tmp 7) none (some (.tmp 21)) (some (.tmp 22)), none⟩,
    ⟨(some 24), .call (.const (.fn F.pen_Pen_Raw [] [])) [(.tmp 20), (.tmp 23)], none⟩,
    ⟨(some 6), .mov (.tmp 24), none⟩] [6])
  (.ret)))
def pen_Pen_word : AFun := ⟨25, 3, [.tmp 6], pen_Pen_word.body⟩
def varint_Put.b0 : ACode := .seq (.seq (.region [⟨(some 12), .mov (.tmp 5), none⟩,
    ⟨(some 13), .bin .geq (.tmp 12) (.const (.int .u64 128)), none⟩] [3, 5, 6, 7, 8, 13])
  (.cond (.tmp 13) (.skip) (.exit 2)))
  (.seq (.block 3 (.region [⟨(some 16), .mov (.tmp 3), none⟩,
    ⟨(some 17), .mov (.tmp 5), none⟩,
    ⟨(some 18), .conv .u8 (.tmp 17), none⟩,
    ⟨(some 19), .bin .or (.tmp 18) (.const (.int .u8 128)), none⟩,
    ⟨(some 20), .lit T.uint8 1 1 [(.int .u8 0)] [(0, 1, (.tmp 19))], none⟩,
    ⟨(some 21), .append T.uint8 1 1 (.tmp 16) (.tmp 20), none⟩,
    ⟨(some 3), .mov (.tmp 21), none⟩] [3, 5, 6, 7, 8]))
  (.region [⟨(some 14), .mov (.tmp 5), none⟩,
    ⟨(some 15), .bin .shr (.tmp 14) (.const (.int .u64 7)), none⟩,
    ⟨(some 5), .mov (.tmp 15), none⟩] [3, 5, 6, 7, 8]))
def varint_Put.b1 : ACode := .seq (.region [⟨(some 9), .bin .lss (.tmp 8) (.tmp 7), none⟩] [3, 6, 7, 8, 9])
  (.seq (.cond (.tmp 9) (.skip) (.exit 0))
  (.seq (.block 1 (.seq (.region [⟨(some 10), .idx 1 none (.tmp 6) (.tmp 8), none⟩,
    ⟨(some 11), .load none (.tmp 10), none⟩,
    ⟨(some 5), .mov (.tmp 11), none⟩] [3, 5, 6, 7, 8])
  (.seq (.block 2 (.loop varint_Put.b0))
  (.region [⟨(some 22), .mov (.tmp 3), none⟩,
    ⟨(some 23), .mov (.tmp 5), none⟩,
    ⟨(some 24), .conv .u8 (.tmp 23), none⟩,
    ⟨(some 25), .lit T.uint8 1 1 [(.int .u8 0)] [(0, 1, (.tmp 24))], none⟩,
    ⟨(some 26), .append T.uint8 1 1 (.tmp 22) (.tmp 25), none⟩,
    ⟨(some 3), .mov (.tmp 26), none⟩] [3, 6, 7, 8]))))
  (.region [⟨(some 27), .bin .add (.tmp 8) (.const (.int .i64 1)), none⟩,
    ⟨(some 8), .mov (.tmp 27), none⟩] [3, 6, 7, 8])))
def varint_Put.body : ACode := .seq (.region [⟨(some 2), .mov (.const .nils), none⟩] [0])
  (.seq (.region [⟨(some 3), .mov (.const .nils), none⟩] [0, 3])
  (.seq (.seq (.region [⟨(some 6), .mov (.tmp 0), none⟩,
    ⟨(some 7), .len .slice (.tmp 6), none⟩,
    ⟨(some 8), .mov (.const (.int .i64 0)), none⟩] [3, 6, 7, 8])
  (.block 0 (.loop varint_Put.b1)))
  (.seq (.region [⟨(some 28), .mov (.tmp 3), none⟩,
    ⟨(some 2), .mov (.tmp 28), none⟩] [2])
  (.ret))))
def varint_Put : AFun := ⟨29, 1, [.tmp 2], varint_Put.body⟩
def varint_Zig.body : ACode := .seq (.region [⟨(some 2), .mov (.const (.int .u64 0)), none⟩] [0])
  (.seq (.region [⟨(some 3), .mov (.tmp 0), none⟩,
    ⟨(some 4), .conv .u64 (.tmp 3), none⟩,
    ⟨(some 5), .bin .shl (.tmp 4) (.const (.int .u64 1)), none⟩,
    ⟨(some 6), .mov (.tmp 0), none⟩,
    ⟨(some 7), .bin .shr (.tmp 6) (.const (.int .u64 63)), none⟩,
    ⟨(some 8), .conv .u64 (.tmp 7), none⟩,
    ⟨(some 9), .bin .xor (.tmp 5) (.tmp 8), none⟩,
    ⟨(some 2), .mov (.tmp 9), none⟩] [2])
  (.ret))
def varint_Zig : AFun := ⟨10, 1, [.tmp 2], varint_Zig.body⟩
def cuneiformref01_Zig.body : ACode := .seq (.region [⟨(some 2), .mov (.const (.int .u64 0)), none⟩] [0])
  (.seq (.seq (.region [⟨(some 3), .mov (.tmp 0), none⟩,
    ⟨(some 4), .bin .lss (.tmp 3) (.const (.int .i64 0)), none⟩] [0, 4])
  (.cond (.tmp 4) (.seq (.region [⟨(some 5), .mov (.tmp 0), none⟩,
    ⟨(some 6), .bin .add (.tmp 5) (.const (.int .i64 1)), none⟩,
    ⟨(some 7), .un .neg (.tmp 6), none⟩,
    ⟨(some 8), .conv .u64 (.tmp 7), none⟩,
    ⟨(some 9), .bin .mul (.const (.int .u64 2)) (.tmp 8), none⟩,
    ⟨(some 10), .bin .add (.tmp 9) (.const (.int .u64 1)), none⟩,
    ⟨(some 2), .mov (.tmp 10), none⟩] [2])
  (.ret)) (.skip)))
  (.seq (.region [⟨(some 11), .mov (.tmp 0), none⟩,
    ⟨(some 12), .conv .u64 (.tmp 11), none⟩,
    ⟨(some 13), .bin .mul (.const (.int .u64 2)) (.tmp 12), none⟩,
    ⟨(some 2), .mov (.tmp 13), none⟩] [2])
  (.ret)))
def cuneiformref01_Zig : AFun := ⟨14, 1, [.tmp 2], cuneiformref01_Zig.body⟩
theorem cuneiformlaw02_PenFull_code : okFun Try.prog F.cuneiformlaw02_PenFull cuneiformlaw02_PenFull = true := by kernel_rfl
theorem cuneiformlaw02_PenWrites_code : okFun Try.prog F.cuneiformlaw02_PenWrites cuneiformlaw02_PenWrites = true := by kernel_rfl
theorem cuneiformlaw02_PenNil_code : okFun Try.prog F.cuneiformlaw02_PenNil cuneiformlaw02_PenNil = true := by kernel_rfl
theorem cuneiformlaw02_PenJoins_code : okFun Try.prog F.cuneiformlaw02_PenJoins cuneiformlaw02_PenJoins = true := by kernel_rfl
theorem pen_New_code : okFun Try.prog F.pen_New pen_New = true := by kernel_rfl
theorem pen_Pen_Bytes_code : okFun Try.prog F.pen_Pen_Bytes pen_Pen_Bytes = true := by kernel_rfl
theorem cuneiformlaw02_do_code : okFun Try.prog F.cuneiformlaw02_do cuneiformlaw02_do = true := by kernel_rfl
theorem cuneiformlaw02_cut_code : okFun Try.prog F.cuneiformlaw02_cut cuneiformlaw02_cut = true := by kernel_rfl
theorem pen_Pen_Len_code : okFun Try.prog F.pen_Pen_Len pen_Pen_Len = true := by kernel_rfl
theorem pen_Pen_Err_code : okFun Try.prog F.pen_Pen_Err pen_Pen_Err = true := by kernel_rfl
theorem cuneiformref01_Same_code : okFun Try.prog F.cuneiformref01_Same cuneiformref01_Same = true := by kernel_rfl
theorem cuneiformlaw02_known_code : okFun Try.prog F.cuneiformlaw02_known cuneiformlaw02_known = true := by kernel_rfl
theorem cuneiformref02_Raw_code : okFun Try.prog F.cuneiformref02_Raw cuneiformref02_Raw = true := by kernel_rfl
theorem cuneiformlaw02_bytes_code : okFun Try.prog F.cuneiformlaw02_bytes cuneiformlaw02_bytes = true := by kernel_rfl
theorem pen_Pen_Left_code : okFun Try.prog F.pen_Pen_Left pen_Pen_Left = true := by kernel_rfl
theorem pen_Pen_U8_code : okFun Try.prog F.pen_Pen_U8 pen_Pen_U8 = true := by kernel_rfl
theorem pen_Pen_U16_code : okFun Try.prog F.pen_Pen_U16 pen_Pen_U16 = true := by kernel_rfl
theorem pen_Pen_U32_code : okFun Try.prog F.pen_Pen_U32 pen_Pen_U32 = true := by kernel_rfl
theorem pen_Pen_Number_code : okFun Try.prog F.pen_Pen_Number pen_Pen_Number = true := by kernel_rfl
theorem pen_Pen_Signed_code : okFun Try.prog F.pen_Pen_Signed pen_Pen_Signed = true := by kernel_rfl
theorem pen_Pen_Raw_code : okFun Try.prog F.pen_Pen_Raw pen_Pen_Raw = true := by kernel_rfl
theorem pen_Pen_Field_code : okFun Try.prog F.pen_Pen_Field pen_Pen_Field = true := by kernel_rfl
theorem cuneiformref02_Word_code : okFun Try.prog F.cuneiformref02_Word cuneiformref02_Word = true := by kernel_rfl
theorem cuneiformref01_Put_code : okFun Try.prog F.cuneiformref01_Put cuneiformref01_Put = true := by kernel_rfl
theorem cuneiformref02_Signed_code : okFun Try.prog F.cuneiformref02_Signed cuneiformref02_Signed = true := by kernel_rfl
theorem cuneiformref02_Field_code : okFun Try.prog F.cuneiformref02_Field cuneiformref02_Field = true := by kernel_rfl
theorem pen_Pen_word_code : okFun Try.prog F.pen_Pen_word pen_Pen_word = true := by kernel_rfl
theorem varint_Put_code : okFun Try.prog F.varint_Put varint_Put = true := by kernel_rfl
theorem varint_Zig_code : okFun Try.prog F.varint_Zig varint_Zig = true := by kernel_rfl
theorem cuneiformref01_Zig_code : okFun Try.prog F.cuneiformref01_Zig cuneiformref01_Zig = true := by kernel_rfl
def codes : CT := [(F.cuneiformlaw02_PenFull, cuneiformlaw02_PenFull), (F.cuneiformlaw02_PenWrites, cuneiformlaw02_PenWrites), (F.cuneiformlaw02_PenNil, cuneiformlaw02_PenNil), (F.cuneiformlaw02_PenJoins, cuneiformlaw02_PenJoins), (F.pen_New, pen_New), (F.pen_Pen_Bytes, pen_Pen_Bytes), (F.cuneiformlaw02_do, cuneiformlaw02_do), (F.cuneiformlaw02_cut, cuneiformlaw02_cut), (F.pen_Pen_Len, pen_Pen_Len), (F.pen_Pen_Err, pen_Pen_Err), (F.cuneiformref01_Same, cuneiformref01_Same), (F.cuneiformlaw02_known, cuneiformlaw02_known), (F.cuneiformref02_Raw, cuneiformref02_Raw), (F.cuneiformlaw02_bytes, cuneiformlaw02_bytes), (F.pen_Pen_Left, pen_Pen_Left), (F.pen_Pen_U8, pen_Pen_U8), (F.pen_Pen_U16, pen_Pen_U16), (F.pen_Pen_U32, pen_Pen_U32), (F.pen_Pen_Number, pen_Pen_Number), (F.pen_Pen_Signed, pen_Pen_Signed), (F.pen_Pen_Raw, pen_Pen_Raw), (F.pen_Pen_Field, pen_Pen_Field), (F.cuneiformref02_Word, cuneiformref02_Word), (F.cuneiformref01_Put, cuneiformref01_Put), (F.cuneiformref02_Signed, cuneiformref02_Signed), (F.cuneiformref02_Field, cuneiformref02_Field), (F.pen_Pen_word, pen_Pen_word), (F.varint_Put, varint_Put), (F.varint_Zig, varint_Zig), (F.cuneiformref01_Zig, cuneiformref01_Zig)]
theorem codes_ok : AllOk Try.prog codes := ⟨cuneiformlaw02_PenFull_code, cuneiformlaw02_PenWrites_code, cuneiformlaw02_PenNil_code, cuneiformlaw02_PenJoins_code, pen_New_code, pen_Pen_Bytes_code, cuneiformlaw02_do_code, cuneiformlaw02_cut_code, pen_Pen_Len_code, pen_Pen_Err_code, cuneiformref01_Same_code, cuneiformlaw02_known_code, cuneiformref02_Raw_code, cuneiformlaw02_bytes_code, pen_Pen_Left_code, pen_Pen_U8_code, pen_Pen_U16_code, pen_Pen_U32_code, pen_Pen_Number_code, pen_Pen_Signed_code, pen_Pen_Raw_code, pen_Pen_Field_code, cuneiformref02_Word_code, cuneiformref01_Put_code, cuneiformref02_Signed_code, cuneiformref02_Field_code, pen_Pen_word_code, varint_Put_code, varint_Zig_code, cuneiformref01_Zig_code, trivial⟩
end Go.Proofs.Ytlkekaepgmnooaa
