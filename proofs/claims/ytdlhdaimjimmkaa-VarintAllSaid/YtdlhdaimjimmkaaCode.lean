/-
  The code that the statements of this seat reach, in the form of that machine, and that it is the program's. By an AI agent. No person has read it.
-/
import Derived.Test.YtdlhdaimjimmkaaProg
import Derived.Test.YtdlhdaimjimmkaaAm4
import Derived.KernelRfl

/-
  The code of this seat in the form of the abstract machine, and that it is the program's. Printed by a program (wip/am/gen.py, code.py). By an AI agent.
-/
namespace Go.Proofs.Ytdlhdaimjimmkaa
open Go Go.Am
namespace F
def cuneiformlaw01_VarintGets : FuncId := 3
def cuneiformlaw01_VarintSizes : FuncId := 4
def cuneiformlaw01_VarintPuts : FuncId := 5
def cuneiformlaw01_VarintAll : FuncId := 6
def varint_Get : FuncId := 7
def cuneiformref01_Get : FuncId := 8
def cuneiformlaw01_known : FuncId := 9
def cuneiformref01_Same : FuncId := 10
def varint_Put : FuncId := 11
def varint_Size : FuncId := 12
def cuneiformref01_Put : FuncId := 13
def varint_Zig : FuncId := 14
def cuneiformref01_Zig : FuncId := 15
def varint_Zag : FuncId := 16
def cuneiformref01_Zag : FuncId := 17
def cuneiformref01_All : FuncId := 18
def varint_All : FuncId := 19
def varint_Count : FuncId := 20
def varint_All_1 : FuncId := 21
end F
namespace T
def int : TypeId := 3
def bool : TypeId := 4
def uint8 : TypeId := 5
def sl_uint8 : TypeId := 22
def uint64 : TypeId := 23
def sl_uint64 : TypeId := 35
def sl_int : TypeId := 40
end T
def cuneiformlaw01_VarintGets.d0 : List AOper := [⟨(some 26), .call (.const (.fn F.cuneiformlaw01_known [] [])) [], none⟩,
    ⟨(some 27), .mov (.tmp 26), none⟩,
    ⟨(some 28), .mov (.tmp 3), some (27, true)⟩,
    ⟨(some 29), .mov (.tmp 6), some (27, true)⟩,
    ⟨(some 30), .bin .eql (.tmp 28) (.tmp 29), some (27, true)⟩,
    ⟨(some 31), .pick (.tmp 27) (.tmp 30) (.const (.bool false)), none⟩,
    ⟨(some 32), .mov (.tmp 31), none⟩,
    ⟨(some 33), .mov (.tmp 4), some (32, true)⟩,
    ⟨(some 34), .mov (.tmp 7), some (32, true)⟩,
    ⟨(some 35), .bin .eql (.tmp 33) (.tmp 34), some (32, true)⟩,
    ⟨(some 36), .pick (.tmp 32) (.tmp 35) (.const (.bool false)), none⟩,
    ⟨(some 37), .mov (.tmp 36), none⟩,
    ⟨(some 38), .mov (.tmp 5), some (37, true)⟩,
    ⟨(some 39), .mov (.tmp 8), some (37, true)⟩,
    ⟨(some 40), .bin .eql (.tmp 38) (.tmp 39), some (37, true)⟩,
    ⟨(some 41), .pick (.tmp 37) (.tmp 40) (.const (.bool false)), none⟩,
    ⟨(some 42), .mov (.tmp 41), none⟩,
    ⟨(some 43), .mov (.tmp 5), some (42, true)⟩,
    ⟨(some 44), .bin .neq (.tmp 43) (.const (.int .i64 0)), some (42, true)⟩,
    ⟨(some 45), .mov (.tmp 44), some (42, true)⟩,
    ⟨(some 46), .mov (.tmp 3), some (45, false)⟩,
    ⟨(some 47), .lit T.uint64 1 1 [(.int .u64 0)] [(0, 1, (.tmp 46))], some (45, false)⟩,
    ⟨(some 48), .call (.const (.fn F.varint_Put [] [])) [(.tmp 47)], some (45, false)⟩,
    ⟨(some 49), .mov (.tmp 0), some (45, false)⟩,
    ⟨(some 50), .mov (.tmp 4), some (45, false)⟩,
    ⟨(some 51), .slice 1 .slice (.tmp 49) none (some (.tmp 50)) none, some (45, false)⟩,
    ⟨(some 52), .call (.const (.fn F.cuneiformref01_Same [] [])) [(.tmp 48), (.tmp 51)], some (45, false)⟩,
    ⟨(some 53), .pick (.tmp 45) (.const (.bool true)) (.tmp 52), some (42, true)⟩,
    ⟨(some 54), .pick (.tmp 42) (.tmp 53) (.const (.bool false)), none⟩,
    ⟨(some 2), .mov (.tmp 54), none⟩]
def cuneiformlaw01_VarintGets.d0b : List (List Nat) := [[], [0], [0, 1], [0, 1], [0, 1, 2, 3], [0, 1, 2, 3, 4], [0, 1, 2, 3, 4, 5], [0, 1, 2, 3, 4, 5, 6], [0, 1, 2, 3, 4, 5, 6], [0, 1, 2, 3, 4, 5, 6, 7, 8], [0, 1, 2, 3, 4, 5, 6, 7, 8, 9], [0, 1, 2, 3, 4, 5, 6, 7, 8, 9, 10], [0, 1, 2, 3, 4, 5, 6, 7, 8, 9, 10, 11], [0, 1, 2, 3, 4, 5, 6, 7, 8, 9, 10, 11], [0, 1, 2, 3, 4, 5, 6, 7, 8, 9, 10, 11, 12, 13], [0, 1, 2, 3, 4, 5, 6, 7, 8, 9, 10, 11, 12, 13, 14], [0, 1, 2, 3, 4, 5, 6, 7, 8, 9, 10, 11, 12, 13, 14, 15], [0, 1, 2, 3, 4, 5, 6, 7, 8, 9, 10, 11, 12, 13, 14, 15, 16], [0, 1, 2, 3, 4, 5, 6, 7, 8, 9, 10, 11, 12, 13, 14, 15, 16, 17], [0, 1, 2, 3, 4, 5, 6, 7, 8, 9, 10, 11, 12, 13, 14, 15, 16, 17, 18], [0, 1, 2, 3, 4, 5, 6, 7, 8, 9, 10, 11, 12, 13, 14, 15, 16, 17, 18, 19], [0, 1, 2, 3, 4, 5, 6, 7, 8, 9, 10, 11, 12, 13, 14, 15, 16, 17, 18, 19, 20], [0, 1, 2, 3, 4, 5, 6, 7, 8, 9, 10, 11, 12, 13, 14, 15, 16, 17, 18, 19, 20, 21], [0, 1, 2, 3, 4, 5, 6, 7, 8, 9, 10, 11, 12, 13, 14, 15, 16, 17, 18, 19], [0, 1, 2, 3, 4, 5, 6, 7, 8, 9, 10, 11, 12, 13, 14, 15, 16, 17, 18, 19], [0, 1, 2, 3, 4, 5, 6, 7, 8, 9, 10, 11, 12, 13, 14, 15, 16, 17, 18, 19, 23, 24], [0, 1, 2, 3, 4, 5, 6, 7, 8, 9, 10, 11, 12, 13, 14, 15, 16, 17, 18, 19, 20, 21, 22, 23, 24, 25], [0, 1, 2, 3, 4, 5, 6, 7, 8, 9, 10, 11, 12, 13, 14, 15, 16, 17, 18, 19, 20, 21, 22, 23, 24, 25, 26], [0, 1, 2, 3, 4, 5, 6, 7, 8, 9, 10, 11, 12, 13, 14, 15, 16, 17, 18, 19, 20, 21, 22, 23, 24, 25, 26, 27], [0, 1, 2, 3, 4, 5, 6, 7, 8, 9, 10, 11, 12, 13, 14, 15, 16, 17, 18, 19, 20, 21, 22, 23, 24, 25, 26, 27, 28]]
def cuneiformlaw01_VarintGets.body : ACode := .seq (.region [⟨(some 2), .mov (.const (.bool false)), none⟩] [0])
  (.seq (.region [⟨(some 9), .mov (.tmp 0), none⟩,
    ⟨(some 10), .mov (.tmp 0), none⟩,
    ⟨(some 11), .len .slice (.tmp 10), none⟩,
    ⟨(some 12), .maxmin false (.tmp 11) (.const (.int .i64 20)), none⟩,
    ⟨(some 13), .slice 1 .slice (.tmp 9) none (some (.tmp 12)) none, none⟩,
    ⟨(some 0), .mov (.tmp 13), none⟩] [0])
  (.seq (.region [⟨(some 15), .mov (.tmp 0), none⟩,
    ⟨(some 16), .call (.const (.fn F.varint_Get [] [])) [(.tmp 15)], none⟩,
    ⟨(some 14), .mov (.tmp 16), none⟩,
    ⟨(some 17), .extract (.tmp 14) 0, none⟩,
    ⟨(some 18), .extract (.tmp 14) 1, none⟩,
    ⟨(some 19), .extract (.tmp 14) 2, none⟩,
    ⟨(some 3), .mov (.tmp 17), none⟩,
    ⟨(some 4), .mov (.tmp 18), none⟩,
    ⟨(some 5), .mov (.tmp 19), none⟩] [0, 3, 4, 5])
  (.seq (.region [⟨(some 21), .mov (.tmp 0), none⟩,
    ⟨(some 22), .call (.const (.fn F.cuneiformref01_Get [] [])) [(.tmp 21), (.const (.int .i64 0))], none⟩,
    ⟨(some 20), .mov (.tmp 22), none⟩,
    ⟨(some 23), .extract (.tmp 20) 0, none⟩,
    ⟨(some 24), .extract (.tmp 20) 1, none⟩,
    ⟨(some 25), .extract (.tmp 20) 2, none⟩,
    ⟨(some 6), .mov (.tmp 23), none⟩,
    ⟨(some 7), .mov (.tmp 24), none⟩,
    ⟨(some 8), .mov (.tmp 25), none⟩] [0, 3, 4, 5, 6, 7, 8])
  (.seq (.draw cuneiformlaw01_VarintGets.d0 cuneiformlaw01_VarintGets.d0b [[0, 1, 2, 3, 4, 5, 6, 7, 8, 9, 10, 11, 12, 13, 14, 15, 16, 17, 18, 19, 20, 23, 24, 25, 21, 22, 26, 27, 28, 29]] [] [2])
  (.ret)))))
def cuneiformlaw01_VarintGets : AFun := ⟨55, 1, [.tmp 2], cuneiformlaw01_VarintGets.body⟩
def cuneiformlaw01_VarintSizes.body : ACode := .seq (.region [⟨(some 4), .mov (.const (.bool false)), none⟩] [0, 1])
  (.seq (.region [⟨(some 6), .mov (.tmp 0), none⟩,
    ⟨(some 7), .mov (.tmp 1), none⟩,
    ⟨(some 8), .maxmin false (.tmp 6) (.tmp 7), none⟩,
    ⟨(some 9), .mov (.tmp 0), none⟩,
    ⟨(some 10), .mov (.tmp 1), none⟩,
    ⟨(some 11), .maxmin true (.tmp 9) (.tmp 10), none⟩,
    ⟨(some 0), .mov (.tmp 8), none⟩,
    ⟨(some 1), .mov (.tmp 11), none⟩] [0, 1])
  (.seq (.region [⟨(some 12), .mov (.tmp 1), none⟩,
    ⟨(some 13), .call (.const (.fn F.varint_Size [] [])) [(.tmp 12)], none⟩,
    ⟨(some 5), .mov (.tmp 13), none⟩] [0, 1, 5])
  (.seq (.region [⟨(some 14), .call (.const (.fn F.cuneiformlaw01_known [] [])) [], none⟩,
    ⟨(some 15), .mov (.tmp 14), none⟩,
    ⟨(some 16), .mov (.tmp 0), some (15, true)⟩,
    ⟨(some 17), .call (.const (.fn F.varint_Size [] [])) [(.tmp 16)], some (15, true)⟩,
    ⟨(some 18), .mov (.tmp 5), some (15, true)⟩,
    ⟨(some 19), .bin .leq (.tmp 17) (.tmp 18), some (15, true)⟩,
    ⟨(some 20), .pick (.tmp 15) (.tmp 19) (.const (.bool false)), none⟩,
    ⟨(some 21), .mov (.tmp 20), none⟩,
    ⟨(some 22), .mov (.tmp 5), some (21, true)⟩,
    ⟨(some 23), .bin .geq (.tmp 22) (.const (.int .i64 1)), some (21, true)⟩,
    ⟨(some 24), .pick (.tmp 21) (.tmp 23) (.const (.bool false)), none⟩,
    ⟨(some 25), .mov (.tmp 24), none⟩,
    ⟨(some 26), .mov (.tmp 5), some (25, true)⟩,
    ⟨(some 27), .bin .leq (.tmp 26) (.const (.int .i64 10)), some (25, true)⟩,
    ⟨(some 28), .pick (.tmp 25) (.tmp 27) (.const (.bool false)), none⟩,
    ⟨(some 29), .mov (.tmp 28), none⟩,
    ⟨(some 30), .mov (.tmp 5), some (29, true)⟩,
    ⟨(some 31), .bin .eql (.tmp 30) (.const (.int .i64 10)), some (29, true)⟩,
    ⟨(some 32), .mov (.tmp 31), some (29, true)⟩,
    ⟨(some 33), .mov (.tmp 1), some (32, false)⟩,
    ⟨(some 34), .mov (.tmp 5), some (32, false)⟩,
    ⟨(some 35), .bin .mul (.const (.int .i64 7)) (.tmp 34), some (32, false)⟩,
    ⟨(some 36), .bin .shl (.const (.int .u64 1)) (.tmp 35), some (32, false)⟩,
    ⟨(some 37), .bin .lss (.tmp 33) (.tmp 36), some (32, false)⟩,
    ⟨(some 38), .pick (.tmp 32) (.const (.bool true)) (.tmp 37), some (29, true)⟩,
    ⟨(some 39), .pick (.tmp 29) (.tmp 38) (.const (.bool false)), none⟩,
    ⟨(some 40), .mov (.tmp 39), none⟩,
    ⟨(some 41), .mov (.tmp 5), some (40, true)⟩,
    ⟨(some 42), .bin .eql (.tmp 41) (.const (.int .i64 1)), some (40, true)⟩,
    ⟨(some 43), .mov (.tmp 42), some (40, true)⟩,
    ⟨(some 44), .mov (.tmp 1), some (43, false)⟩,
    ⟨(some 45), .mov (.tmp 5), some (43, false)⟩,
    ⟨(some 46), .bin .sub (.tmp 45) (.const (.int .i64 1)), some (43, false)⟩,
    ⟨(some 47), .bin .mul (.const (.int .i64 7)) (.tmp 46), some (43, false)⟩,
    ⟨(some 48), .bin .shl (.const (.int .u64 1)) (.tmp 47), some (43, false)⟩,
    ⟨(some 49), .bin .geq (.tmp 44) (.tmp 48), some (43, false)⟩,
    ⟨(some 50), .pick (.tmp 43) (.const (.bool true)) (.tmp 49), some (40, true)⟩,
    ⟨(some 51), .pick (.tmp 40) (.tmp 50) (.const (.bool false)), none⟩,
    ⟨(some 4), .mov (.tmp 51), none⟩] [4])
  (.ret))))
def cuneiformlaw01_VarintSizes : AFun := ⟨52, 2, [.tmp 4], cuneiformlaw01_VarintSizes.body⟩
def cuneiformlaw01_VarintPuts.b0 : ACode := .seq (.seq (.region [⟨(some 36), .mov (.tmp 6), none⟩,
    ⟨(some 37), .mov (.tmp 0), none⟩,
    ⟨(some 38), .len .slice (.tmp 37), none⟩,
    ⟨(some 39), .bin .lss (.tmp 36) (.tmp 38), none⟩] [0, 5, 6, 39])
  (.cond (.tmp 39) (.skip) (.exit 0)))
  (.seq (.block 1 (.seq (.region [⟨(some 43), .mov (.tmp 5), none⟩,
    ⟨(some 44), .call (.const (.fn F.varint_Get [] [])) [(.tmp 43)], none⟩,
    ⟨(some 42), .mov (.tmp 44), none⟩,
    ⟨(some 45), .extract (.tmp 42) 0, none⟩,
    ⟨(some 46), .extract (.tmp 42) 1, none⟩,
    ⟨(some 47), .extract (.tmp 42) 2, none⟩,
    ⟨(some 7), .mov (.tmp 45), none⟩,
    ⟨(some 8), .mov (.tmp 46), none⟩,
    ⟨(some 9), .mov (.tmp 47), none⟩] [0, 5, 6, 7, 8, 9])
  (.seq (.seq (.region [⟨(some 48), .mov (.tmp 7), none⟩,
    ⟨(some 49), .mov (.tmp 0), none⟩,
    ⟨(some 50), .mov (.tmp 6), none⟩,
    ⟨(some 51), .idx 1 none (.tmp 49) (.tmp 50), none⟩,
    ⟨(some 52), .load none (.tmp 51), none⟩,
    ⟨(some 53), .bin .neq (.tmp 48) (.tmp 52), none⟩,
    ⟨(some 54), .mov (.tmp 53), none⟩,
    ⟨(some 55), .mov (.tmp 9), some (54, false)⟩,
    ⟨(some 56), .bin .neq (.tmp 55) (.const (.int .i64 0)), some (54, false)⟩,
    ⟨(some 57), .pick (.tmp 54) (.const (.bool true)) (.tmp 56), none⟩,
    ⟨(some 58), .mov (.tmp 57), none⟩,
    ⟨(some 59), .mov (.tmp 8), some (58, false)⟩,
    ⟨(some 60), .mov (.tmp 7), some (58, false)⟩,
    ⟨(some 61), .call (.const (.fn F.varint_Size [] [])) [(.tmp 60)], some (58, false)⟩,
    ⟨(some 62), .bin .neq (.tmp 59) (.tmp 61), some (58, false)⟩,
    ⟨(some 63), .pick (.tmp 58) (.const (.bool true)) (.tmp 62), none⟩,
    ⟨(some 64), .mov (.tmp 63), none⟩,
    ⟨(some 65), .mov (.tmp 8), some (64, false)⟩,
    ⟨(some 66), .mov (.tmp 0), some (64, false)⟩,
    ⟨(some 67), .mov (.tmp 6), some (64, false)⟩,
    ⟨(some 68), .mov (.tmp 6), some (64, false)⟩,
    ⟨(some 69), .bin .add (.tmp 68) (.const (.int .i64 1)), some (64, false)⟩,
    ⟨(some 70), .slice 1 .slice (.tmp 66) (some (.tmp 67)) (some (.tmp 69)) none, some (64, false)⟩,
    ⟨(some 71), .call (.const (.fn F.cuneiformref01_Put [] [])) [(.tmp 70)], some (64, false)⟩,
    ⟨(some 72), .len .slice (.tmp 71), some (64, false)⟩,
    ⟨(some 73), .bin .neq (.tmp 65) (.tmp 72), some (64, false)⟩,
    ⟨(some 74), .pick (.tmp 64) (.const (.bool true)) (.tmp 73), none⟩,
    ⟨(some 75), .mov (.tmp 74), none⟩,
    ⟨(some 76), .mov (.tmp 8), some (75, false)⟩,
    ⟨(some 77), .mov (.tmp 5), some (75, false)⟩,
    ⟨(some 78), .len .slice (.tmp 77), some (75, false)⟩,
    ⟨(some 79), .bin .gtr (.tmp 76) (.tmp 78), some (75, false)⟩,
    ⟨(some 80), .pick (.tmp 75) (.const (.bool true)) (.tmp 79), none⟩,
    ⟨(some 81), .mov (.tmp 80), none⟩,
    ⟨(some 82), .mov (.tmp 7), some (81, false)⟩,
    ⟨(some 83), .call (.const (.fn F.varint_Zag [] [])) [(.tmp 82)], some (81, false)⟩,
    ⟨(some 84), .mov (.tmp 7), some (81, false)⟩,
    ⟨(some 85), .call (.const (.fn F.cuneiformref01_Zag [] [])) [(.tmp 84)], some (81, false)⟩,
    ⟨(some 86), .bin .neq (.tmp 83) (.tmp 85), some (81, false)⟩,
    ⟨(some 87), .pick (.tmp 81) (.const (.bool true)) (.tmp 86), none⟩,
    ⟨(some 88), .mov (.tmp 87), none⟩,
    ⟨(some 89), .mov (.tmp 7), some (88, false)⟩,
    ⟨(some 90), .call (.const (.fn F.varint_Zag [] [])) [(.tmp 89)], some (88, false)⟩,
    ⟨(some 91), .call (.const (.fn F.varint_Zig [] [])) [(.tmp 90)], some (88, false)⟩,
    ⟨(some 92), .mov (.tmp 7), some (88, false)⟩,
    ⟨(some 93), .bin .neq (.tmp 91) (.tmp 92), some (88, false)⟩,
    ⟨(some 94), .pick (.tmp 88) (.const (.bool true)) (.tmp 93), none⟩] [0, 5, 6, 8, 94])
  (.cond (.tmp 94) (.seq (.region [⟨(some 4), .mov (.const (.bool false)), none⟩] [4])
  (.ret)) (.skip)))
  (.region [⟨(some 95), .mov (.tmp 5), none⟩,
    ⟨(some 96), .mov (.tmp 8), none⟩,
    ⟨(some 97), .slice 1 .slice (.tmp 95) (some (.tmp 96)) none none, none⟩,
    ⟨(some 5), .mov (.tmp 97), none⟩] [0, 5, 6]))))
  (.region [⟨(some 40), .mov (.tmp 6), none⟩,
    ⟨(some 41), .bin .add (.tmp 40) (.const (.int .i64 1)), none⟩,
    ⟨(some 6), .mov (.tmp 41), none⟩] [0, 5, 6]))
def cuneiformlaw01_VarintPuts.body : ACode := .seq (.region [⟨(some 4), .mov (.const (.bool false)), none⟩] [0, 1])
  (.seq (.region [⟨(some 10), .mov (.tmp 0), none⟩,
    ⟨(some 11), .mov (.tmp 0), none⟩,
    ⟨(some 12), .len .slice (.tmp 11), none⟩,
    ⟨(some 13), .maxmin false (.tmp 12) (.const (.int .i64 20)), none⟩,
    ⟨(some 14), .slice 1 .slice (.tmp 10) none (some (.tmp 13)) none, none⟩,
    ⟨(some 0), .mov (.tmp 14), none⟩] [0, 1])
  (.seq (.region [⟨(some 15), .mov (.tmp 0), none⟩,
    ⟨(some 16), .call (.const (.fn F.varint_Put [] [])) [(.tmp 15)], none⟩,
    ⟨(some 5), .mov (.tmp 16), none⟩] [0, 1, 5])
  (.seq (.seq (.region [⟨(some 17), .mov (.tmp 5), none⟩,
    ⟨(some 18), .mov (.tmp 0), none⟩,
    ⟨(some 19), .call (.const (.fn F.cuneiformref01_Put [] [])) [(.tmp 18)], none⟩,
    ⟨(some 20), .call (.const (.fn F.cuneiformref01_Same [] [])) [(.tmp 17), (.tmp 19)], none⟩,
    ⟨(some 21), .un .not (.tmp 20), none⟩,
    ⟨(some 22), .mov (.tmp 21), none⟩,
    ⟨(some 23), .mov (.tmp 1), some (22, false)⟩,
    ⟨(some 24), .call (.const (.fn F.varint_Zig [] [])) [(.tmp 23)], some (22, false)⟩,
    ⟨(some 25), .mov (.tmp 1), some (22, false)⟩,
    ⟨(some 26), .call (.const (.fn F.cuneiformref01_Zig [] [])) [(.tmp 25)], some (22, false)⟩,
    ⟨(some 27), .bin .neq (.tmp 24) (.tmp 26), some (22, false)⟩,
    ⟨(some 28), .pick (.tmp 22) (.const (.bool true)) (.tmp 27), none⟩,
    ⟨(some 29), .mov (.tmp 28), none⟩,
    ⟨(some 30), .mov (.tmp 1), some (29, false)⟩,
    ⟨(some 31), .call (.const (.fn F.varint_Zig [] [])) [(.tmp 30)], some (29, false)⟩,
    ⟨(some 32), .call (.const (.fn F.varint_Zag [] [])) [(.tmp 31)], some (29, false)⟩,
    ⟨(some 33), .mov (.tmp 1), some (29, false)⟩,
    ⟨(some 34), .bin .neq (.tmp 32) (.tmp 33), some (29, false)⟩,
    ⟨(some 35), .pick (.tmp 29) (.const (.bool true)) (.tmp 34), none⟩] [0, 5, 35])
  (.cond (.tmp 35) (.seq (.region [⟨(some 4), .mov (.const (.bool false)), none⟩] [4])
  (.ret)) (.skip)))
  (.seq (.seq (.region [⟨(some 6), .mov (.const (.int .i64 0)), none⟩] [0, 5, 6])
  (.block 0 (.loop cuneiformlaw01_VarintPuts.b0)))
  (.seq (.region [⟨(some 98), .call (.const (.fn F.cuneiformlaw01_known [] [])) [], none⟩,
    ⟨(some 99), .mov (.tmp 98), none⟩,
    ⟨(some 100), .mov (.tmp 5), some (99, true)⟩,
    ⟨(some 101), .len .slice (.tmp 100), some (99, true)⟩,
    ⟨(some 102), .bin .eql (.tmp 101) (.const (.int .i64 0)), some (99, true)⟩,
    ⟨(some 103), .pick (.tmp 99) (.tmp 102) (.const (.bool false)), none⟩,
    ⟨(some 4), .mov (.tmp 103), none⟩] [4])
  (.ret))))))
def cuneiformlaw01_VarintPuts : AFun := ⟨104, 2, [.tmp 4], cuneiformlaw01_VarintPuts.body⟩
def cuneiformlaw01_VarintAll.a0 : ACode := .seq (.region [⟨(some 10), .mov (.tmp 33), none⟩] [4, 5, 6, 8, 10, 34])
  (.region [⟨(some 11), .mov (.tmp 34), none⟩] [4, 5, 6, 8, 10, 11])
def cuneiformlaw01_VarintAll.b0 : ACode := .block 1 (.seq (.seq (.region [⟨(some 35), .load none (.tmp 8), none⟩,
    ⟨(some 36), .load none (.tmp 5), none⟩,
    ⟨(some 37), .len .slice (.tmp 36), none⟩,
    ⟨(some 38), .bin .geq (.tmp 35) (.tmp 37), none⟩,
    ⟨(some 39), .mov (.tmp 38), none⟩,
    ⟨(some 40), .mov (.tmp 10), some (39, false)⟩,
    ⟨(some 41), .load none (.tmp 5), some (39, false)⟩,
    ⟨(some 42), .load none (.tmp 8), some (39, false)⟩,
    ⟨(some 43), .idx 1 none (.tmp 41) (.tmp 42), some (39, false)⟩,
    ⟨(some 44), .load none (.tmp 43), some (39, false)⟩,
    ⟨(some 45), .bin .neq (.tmp 40) (.tmp 44), some (39, false)⟩,
    ⟨(some 46), .pick (.tmp 39) (.const (.bool true)) (.tmp 45), none⟩,
    ⟨(some 47), .mov (.tmp 46), none⟩,
    ⟨(some 48), .mov (.tmp 11), some (47, false)⟩,
    ⟨(some 49), .load none (.tmp 6), some (47, false)⟩,
    ⟨(some 50), .load none (.tmp 8), some (47, false)⟩,
    ⟨(some 51), .idx 1 none (.tmp 49) (.tmp 50), some (47, false)⟩,
    ⟨(some 52), .load none (.tmp 51), some (47, false)⟩,
    ⟨(some 53), .bin .neq (.tmp 48) (.tmp 52), some (47, false)⟩,
    ⟨(some 54), .pick (.tmp 47) (.const (.bool true)) (.tmp 53), none⟩] [4, 8, 54])
  (.cond (.tmp 54) (.seq (.region [⟨none, .store 1 (.tmp 4) (.const (.bool false)), none⟩] [])
  (.ret)) (.skip)))
  (.region [⟨(some 55), .load none (.tmp 8), none⟩,
    ⟨(some 56), .bin .add (.tmp 55) (.const (.int .i64 1)), none⟩,
    ⟨none, .store 1 (.tmp 8) (.tmp 56), none⟩] []))
def cuneiformlaw01_VarintAll.a1 : ACode := .skip
def cuneiformlaw01_VarintAll.b1 : ACode := .block 3 (.seq (.region [⟨(some 64), .load none (.tmp 12), none⟩,
    ⟨(some 65), .bin .add (.tmp 64) (.const (.int .i64 1)), none⟩,
    ⟨none, .store 1 (.tmp 12) (.tmp 65), none⟩] [3, 12])
  (.seq (.region [⟨(some 66), .load none (.tmp 12), none⟩,
    ⟨(some 67), .bin .sub (.tmp 66) (.const (.int .i64 1)), none⟩,
    ⟨(some 68), .load none (.tmp 3), none⟩,
    ⟨(some 69), .bin .eql (.tmp 67) (.tmp 68), none⟩] [69])
  (.cond (.tmp 69) (.exit 2) (.skip))))
def cuneiformlaw01_VarintAll.body : ACode := .seq (.region [⟨(some 3), .box T.int (.tmp 1), none⟩,
    ⟨(some 4), .alloc T.bool [(.bool false)], none⟩] [0, 3, 4])
  (.seq (.region [⟨(some 17), .mov (.tmp 0), none⟩,
    ⟨(some 18), .mov (.tmp 0), none⟩,
    ⟨(some 19), .len .slice (.tmp 18), none⟩,
    ⟨(some 20), .maxmin false (.tmp 19) (.const (.int .i64 60)), none⟩,
    ⟨(some 21), .slice 1 .slice (.tmp 17) none (some (.tmp 20)) none, none⟩,
    ⟨(some 0), .mov (.tmp 21), none⟩] [0, 3, 4])
  (.seq (.region [⟨(some 23), .mov (.tmp 0), none⟩,
    ⟨(some 24), .call (.const (.fn F.cuneiformref01_All [] [])) [(.tmp 23)], none⟩,
    ⟨(some 22), .mov (.tmp 24), none⟩,
    ⟨(some 25), .extract (.tmp 22) 0, none⟩,
    ⟨(some 26), .extract (.tmp 22) 1, none⟩,
    ⟨(some 27), .extract (.tmp 22) 2, none⟩,
    ⟨(some 5), .alloc T.sl_int [.nils], none⟩,
    ⟨(some 6), .alloc T.sl_uint64 [.nils], none⟩,
    ⟨none, .store 1 (.tmp 5) (.tmp 25), none⟩,
    ⟨none, .store 1 (.tmp 6) (.tmp 26), none⟩,
    ⟨(some 7), .mov (.tmp 27), none⟩] [0, 3, 4, 5, 6, 7])
  (.seq (.region [⟨(some 8), .alloc T.int [(.int .i64 0)], none⟩,
    ⟨none, .store 1 (.tmp 8) (.const (.int .i64 0)), none⟩] [0, 3, 4, 5, 6, 7, 8])
  (.seq (.region [⟨(some 28), .mov (.tmp 0), none⟩,
    ⟨(some 29), .call (.const (.fn F.varint_All [] [])) [(.tmp 28)], none⟩,
    ⟨(some 9), .mov (.tmp 29), none⟩] [0, 3, 4, 5, 6, 7, 8, 9])
  (.seq (.seq (.region [⟨(some 30), .mov (.tmp 9), none⟩,
    ⟨(some 31), .eq false .func (.tmp 30) (.const .nilf), none⟩] [0, 3, 4, 5, 6, 7, 8, 9, 31])
  (.cond (.tmp 31) (.seq (.region [⟨none, .store 1 (.tmp 4) (.const (.bool false)), none⟩] [4])
  (.ret)) (.skip)))
  (.seq (.seq (.region [⟨(some 32), .mov (.tmp 9), none⟩] [0, 3, 4, 5, 6, 7, 8, 32])
  (.block 0 (.range (.tmp 32) [33, 34] cuneiformlaw01_VarintAll.a0 cuneiformlaw01_VarintAll.b0)))
  (.seq (.region [⟨(some 12), .alloc T.int [(.int .i64 0)], none⟩,
    ⟨none, .store 1 (.tmp 12) (.const (.int .i64 0)), none⟩] [0, 3, 4, 5, 7, 8, 12])
  (.seq (.region [⟨(some 57), .mov (.tmp 0), none⟩,
    ⟨(some 58), .call (.const (.fn F.varint_All [] [])) [(.tmp 57)], none⟩,
    ⟨(some 13), .mov (.tmp 58), none⟩] [0, 3, 4, 5, 7, 8, 12, 13])
  (.seq (.seq (.region [⟨(some 59), .mov (.tmp 13), none⟩,
    ⟨(some 60), .eq false .func (.tmp 59) (.const .nilf), none⟩] [0, 3, 4, 5, 7, 8, 12, 13, 60])
  (.cond (.tmp 60) (.seq (.region [⟨none, .store 1 (.tmp 4) (.const (.bool false)), none⟩] [4])
  (.ret)) (.skip)))
  (.seq (.seq (.region [⟨(some 61), .mov (.tmp 13), none⟩] [0, 3, 4, 5, 7, 8, 12, 61])
  (.block 2 (.range (.tmp 61) [62, 63] cuneiformlaw01_VarintAll.a1 cuneiformlaw01_VarintAll.b1)))
  (.seq (.region [⟨(some 70), .load none (.tmp 5), none⟩,
    ⟨(some 71), .len .slice (.tmp 70), none⟩,
    ⟨(some 14), .mov (.tmp 71), none⟩] [0, 3, 4, 5, 7, 8, 12, 14])
  (.seq (.seq (.region [⟨(some 72), .load none (.tmp 3), none⟩,
    ⟨(some 73), .bin .geq (.tmp 72) (.const (.int .i64 0)), none⟩,
    ⟨(some 74), .mov (.tmp 73), none⟩,
    ⟨(some 75), .load none (.tmp 3), some (74, true)⟩,
    ⟨(some 76), .mov (.tmp 14), some (74, true)⟩,
    ⟨(some 77), .bin .lss (.tmp 75) (.tmp 76), some (74, true)⟩,
    ⟨(some 78), .pick (.tmp 74) (.tmp 77) (.const (.bool false)), none⟩] [0, 3, 4, 5, 7, 8, 12, 14, 78])
  (.cond (.tmp 78) (.region [⟨(some 79), .load none (.tmp 3), none⟩,
    ⟨(some 80), .bin .add (.tmp 79) (.const (.int .i64 1)), none⟩,
    ⟨(some 14), .mov (.tmp 80), none⟩] [0, 4, 5, 7, 8, 12, 14]) (.skip)))
  (.seq (.region [⟨(some 82), .mov (.tmp 0), none⟩,
    ⟨(some 83), .call (.const (.fn F.varint_Count [] [])) [(.tmp 82)], none⟩,
    ⟨(some 81), .mov (.tmp 83), none⟩,
    ⟨(some 84), .extract (.tmp 81) 0, none⟩,
    ⟨(some 85), .extract (.tmp 81) 1, none⟩,
    ⟨(some 15), .mov (.tmp 84), none⟩,
    ⟨(some 16), .mov (.tmp 85), none⟩] [4, 5, 7, 8, 12, 14, 15, 16])
  (.seq (.region [⟨(some 86), .call (.const (.fn F.cuneiformlaw01_known [] [])) [], none⟩,
    ⟨(some 87), .mov (.tmp 86), none⟩,
    ⟨(some 88), .load none (.tmp 8), some (87, true)⟩,
    ⟨(some 89), .load none (.tmp 5), some (87, true)⟩,
    ⟨(some 90), .len .slice (.tmp 89), some (87, true)⟩,
    ⟨(some 91), .bin .eql (.tmp 88) (.tmp 90), some (87, true)⟩,
    ⟨(some 92), .pick (.tmp 87) (.tmp 91) (.const (.bool false)), none⟩,
    ⟨(some 93), .mov (.tmp 92), none⟩,
    ⟨(some 94), .load none (.tmp 12), some (93, true)⟩,
    ⟨(some 95), .mov (.tmp 14), some (93, true)⟩,
    ⟨(some 96), .bin .eql (.tmp 94) (.tmp 95), some (93, true)⟩,
    ⟨(some 97), .pick (.tmp 93) (.tmp 96) (.const (.bool false)), none⟩,
    ⟨(some 98), .mov (.tmp 97), none⟩,
    ⟨(some 99), .mov (.tmp 15), some (98, true)⟩,
    ⟨(some 100), .load none (.tmp 8), some (98, true)⟩,
    ⟨(some 101), .bin .eql (.tmp 99) (.tmp 100), some (98, true)⟩,
    ⟨(some 102), .pick (.tmp 98) (.tmp 101) (.const (.bool false)), none⟩,
    ⟨(some 103), .mov (.tmp 102), none⟩,
    ⟨(some 104), .mov (.tmp 16), some (103, true)⟩,
    ⟨(some 105), .mov (.tmp 7), some (103, true)⟩,
    ⟨(some 106), .bin .eql (.tmp 104) (.tmp 105), some (103, true)⟩,
    ⟨(some 107), .pick (.tmp 103) (.tmp 106) (.const (.bool false)), none⟩,
    ⟨none, .store 1 (.tmp 4) (.tmp 107), none⟩] [4])
  (.ret)))))))))))))))
def cuneiformlaw01_VarintAll : AFun := ⟨108, 2, [.cell 4 none], cuneiformlaw01_VarintAll.body⟩
def varint_Get.b0 : ACode := .seq (.region [⟨(some 9), .bin .lss (.tmp 8) (.const (.int .i64 10)), none⟩] [0, 5, 8, 9])
  (.seq (.cond (.tmp 9) (.skip) (.exit 0))
  (.seq (.block 1 (.seq (.region [⟨(some 10), .mov (.tmp 8), none⟩,
    ⟨(some 6), .mov (.tmp 10), none⟩] [0, 5, 6, 8])
  (.seq (.seq (.region [⟨(some 11), .mov (.tmp 6), none⟩,
    ⟨(some 12), .mov (.tmp 0), none⟩,
    ⟨(some 13), .len .slice (.tmp 12), none⟩,
    ⟨(some 14), .bin .geq (.tmp 11) (.tmp 13), none⟩] [0, 5, 6, 8, 14])
  (.cond (.tmp 14) (.seq (.region [⟨(some 2), .mov (.const (.int .u64 0)), none⟩,
    ⟨(some 3), .mov (.const (.int .i64 0)), none⟩,
    ⟨(some 4), .mov (.const (.int .i64 4)), none⟩] [2, 3, 4])
  (.ret)) (.skip)))
  (.seq (.region [⟨(some 15), .mov (.tmp 0), none⟩,
    ⟨(some 16), .mov (.tmp 6), none⟩,
    ⟨(some 17), .idx 1 none (.tmp 15) (.tmp 16), none⟩,
    ⟨(some 18), .load none (.tmp 17), none⟩,
    ⟨(some 19), .bin .rem (.tmp 18) (.const (.int .u8 128)), none⟩,
    ⟨(some 20), .conv .u64 (.tmp 19), none⟩,
    ⟨(some 7), .mov (.tmp 20), none⟩] [0, 5, 6, 7, 8])
  (.seq (.region [⟨(some 21), .mov (.tmp 5), none⟩,
    ⟨(some 22), .mov (.tmp 7), none⟩,
    ⟨(some 23), .mov (.tmp 6), none⟩,
    ⟨(some 24), .bin .mul (.const (.int .i64 7)) (.tmp 23), none⟩,
    ⟨(some 25), .bin .shl (.tmp 22) (.tmp 24), none⟩,
    ⟨(some 26), .bin .or (.tmp 21) (.tmp 25), none⟩,
    ⟨(some 5), .mov (.tmp 26), none⟩] [0, 5, 6, 7, 8])
  (.seq (.seq (.region [⟨(some 27), .mov (.tmp 0), none⟩,
    ⟨(some 28), .mov (.tmp 6), none⟩,
    ⟨(some 29), .idx 1 none (.tmp 27) (.tmp 28), none⟩,
    ⟨(some 30), .load none (.tmp 29), none⟩,
    ⟨(some 31), .bin .geq (.tmp 30) (.const (.int .u8 128)), none⟩] [0, 5, 6, 7, 8, 31])
  (.cond (.tmp 31) (.exit 1) (.skip)))
  (.seq (.seq (.region [⟨(some 32), .mov (.tmp 6), none⟩,
    ⟨(some 33), .bin .gtr (.tmp 32) (.const (.int .i64 0)), none⟩,
    ⟨(some 34), .mov (.tmp 33), none⟩,
    ⟨(some 35), .mov (.tmp 7), some (34, true)⟩,
    ⟨(some 36), .bin .eql (.tmp 35) (.const (.int .u64 0)), some (34, true)⟩,
    ⟨(some 37), .pick (.tmp 34) (.tmp 36) (.const (.bool false)), none⟩,
    ⟨(some 38), .mov (.tmp 37), none⟩,
    ⟨(some 39), .mov (.tmp 7), some (38, false)⟩,
    ⟨(some 40), .mov (.tmp 6), some (38, false)⟩,
    ⟨(some 41), .bin .mul (.const (.int .i64 7)) (.tmp 40), some (38, false)⟩,
    ⟨(some 42), .bin .shl (.tmp 39) (.tmp 41), some (38, false)⟩,
    ⟨(some 43), .mov (.tmp 6), some (38, false)⟩,
    ⟨(some 44), .bin .mul (.const (.int .i64 7)) (.tmp 43), some (38, false)⟩,
    ⟨(some 45), .bin .shr (.tmp 42) (.tmp 44), some (38, false)⟩,
    ⟨(some 46), .mov (.tmp 7), some (38, false)⟩,
    ⟨(some 47), .bin .neq (.tmp 45) (.tmp 46), some (38, false)⟩,
    ⟨(some 48), .pick (.tmp 38) (.const (.bool true)) (.tmp 47), none⟩] [5, 6, 48])
  (.cond (.tmp 48) (.exit 0) (.skip)))
  (.seq (.region [⟨(some 49), .mov (.tmp 5), none⟩,
    ⟨(some 50), .mov (.tmp 6), none⟩,
    ⟨(some 51), .bin .add (.tmp 50) (.const (.int .i64 1)), none⟩,
    ⟨(some 2), .mov (.tmp 49), none⟩,
    ⟨(some 3), .mov (.tmp 51), none⟩,
    ⟨(some 4), .mov (.const (.int .i64 0)), none⟩] [2, 3, 4])
  (.ret)))))))))
  (.region [⟨(some 52), .bin .add (.tmp 8) (.const (.int .i64 1)), none⟩,
    ⟨(some 8), .mov (.tmp 52), none⟩] [0, 5, 8])))
def varint_Get.body : ACode := .seq (.region [⟨(some 2), .mov (.const (.int .u64 0)), none⟩,
    ⟨(some 3), .mov (.const (.int .i64 0)), none⟩,
    ⟨(some 4), .mov (.const (.int .i64 0)), none⟩] [0])
  (.scope (.seq (.region [⟨(some 5), .mov (.const (.int .u64 0)), none⟩] [0, 5])
  (.seq (.skip)
  (.seq (.seq (.region [⟨(some 8), .mov (.const (.int .i64 0)), none⟩] [0, 5, 8])
  (.block 0 (.loop varint_Get.b0)))
  (.seq (.region [⟨(some 2), .mov (.const (.int .u64 0)), none⟩,
    ⟨(some 3), .mov (.const (.int .i64 0)), none⟩,
    ⟨(some 4), .mov (.const (.int .i64 3)), none⟩] [2, 3, 4])
  (.ret))))))
def varint_Get : AFun := ⟨53, 1, [.tmp 2, .tmp 3, .tmp 4], varint_Get.body⟩
def cuneiformref01_Get.b0 : ACode := .seq (.seq (.region [⟨(some 11), .mov (.tmp 7), none⟩,
    ⟨(some 12), .mov (.tmp 0), none⟩,
    ⟨(some 13), .len .slice (.tmp 12), none⟩,
    ⟨(some 14), .bin .lss (.tmp 11) (.tmp 13), none⟩,
    ⟨(some 15), .mov (.tmp 14), none⟩,
    ⟨(some 16), .mov (.tmp 7), some (15, true)⟩,
    ⟨(some 17), .mov (.tmp 1), some (15, true)⟩,
    ⟨(some 18), .bin .sub (.tmp 16) (.tmp 17), some (15, true)⟩,
    ⟨(some 19), .bin .lss (.tmp 18) (.const (.int .i64 10)), some (15, true)⟩,
    ⟨(some 20), .pick (.tmp 15) (.tmp 19) (.const (.bool false)), none⟩,
    ⟨(some 21), .mov (.tmp 20), none⟩,
    ⟨(some 22), .mov (.tmp 0), some (21, true)⟩,
    ⟨(some 23), .mov (.tmp 7), some (21, true)⟩,
    ⟨(some 24), .idx 1 none (.tmp 22) (.tmp 23), some (21, true)⟩,
    ⟨(some 25), .load none (.tmp 24), some (21, true)⟩,
    ⟨(some 26), .bin .gtr (.tmp 25) (.const (.int .u8 127)), some (21, true)⟩,
    ⟨(some 27), .pick (.tmp 21) (.tmp 26) (.const (.bool false)), none⟩] [0, 1, 7, 27])
  (.cond (.tmp 27) (.skip) (.exit 0)))
  (.block 1 (.region [⟨(some 28), .mov (.tmp 7), none⟩,
    ⟨(some 29), .bin .add (.tmp 28) (.const (.int .i64 1)), none⟩,
    ⟨(some 7), .mov (.tmp 29), none⟩] [0, 1, 7]))
def cuneiformref01_Get.b1 : ACode := .seq (.seq (.region [⟨(some 41), .mov (.tmp 9), none⟩,
    ⟨(some 42), .mov (.tmp 1), none⟩,
    ⟨(some 43), .bin .geq (.tmp 41) (.tmp 42), none⟩] [0, 1, 7, 8, 9, 43])
  (.cond (.tmp 43) (.skip) (.exit 2)))
  (.seq (.block 3 (.seq (.seq (.region [⟨(some 46), .mov (.tmp 8), none⟩,
    ⟨(some 47), .bin .gtr (.tmp 46) (.const (.int .u64 144115188075855871)), none⟩] [0, 1, 7, 8, 9, 47])
  (.cond (.tmp 47) (.seq (.region [⟨(some 48), .mov (.tmp 1), none⟩,
    ⟨(some 4), .mov (.const (.int .u64 0)), none⟩,
    ⟨(some 5), .mov (.tmp 48), none⟩,
    ⟨(some 6), .mov (.const (.int .i64 3)), none⟩] [4, 5, 6])
  (.ret)) (.skip)))
  (.region [⟨(some 49), .mov (.tmp 8), none⟩,
    ⟨(some 50), .bin .mul (.tmp 49) (.const (.int .u64 128)), none⟩,
    ⟨(some 51), .mov (.tmp 0), none⟩,
    ⟨(some 52), .mov (.tmp 9), none⟩,
    ⟨(some 53), .idx 1 none (.tmp 51) (.tmp 52), none⟩,
    ⟨(some 54), .load none (.tmp 53), none⟩,
    ⟨(some 55), .bin .rem (.tmp 54) (.const (.int .u8 128)), none⟩,
    ⟨(some 56), .conv .u64 (.tmp 55), none⟩,
    ⟨(some 57), .bin .add (.tmp 50) (.tmp 56), none⟩,
    ⟨(some 8), .mov (.tmp 57), none⟩] [0, 1, 7, 8, 9])))
  (.region [⟨(some 44), .mov (.tmp 9), none⟩,
    ⟨(some 45), .bin .sub (.tmp 44) (.const (.int .i64 1)), none⟩,
    ⟨(some 9), .mov (.tmp 45), none⟩] [0, 1, 7, 8, 9]))
def cuneiformref01_Get.body : ACode := .seq (.region [⟨(some 4), .mov (.const (.int .u64 0)), none⟩,
    ⟨(some 5), .mov (.const (.int .i64 0)), none⟩,
    ⟨(some 6), .mov (.const (.int .i64 0)), none⟩] [0, 1])
  (.seq (.region [⟨(some 10), .mov (.tmp 1), none⟩,
    ⟨(some 7), .mov (.tmp 10), none⟩] [0, 1, 7])
  (.seq (.block 0 (.loop cuneiformref01_Get.b0))
  (.seq (.seq (.region [⟨(some 30), .mov (.tmp 7), none⟩,
    ⟨(some 31), .mov (.tmp 1), none⟩,
    ⟨(some 32), .bin .sub (.tmp 30) (.tmp 31), none⟩,
    ⟨(some 33), .bin .eql (.tmp 32) (.const (.int .i64 10)), none⟩] [0, 1, 7, 33])
  (.cond (.tmp 33) (.seq (.region [⟨(some 34), .mov (.tmp 1), none⟩,
    ⟨(some 4), .mov (.const (.int .u64 0)), none⟩,
    ⟨(some 5), .mov (.tmp 34), none⟩,
    ⟨(some 6), .mov (.const (.int .i64 3)), none⟩] [4, 5, 6])
  (.ret)) (.skip)))
  (.seq (.seq (.region [⟨(some 35), .mov (.tmp 7), none⟩,
    ⟨(some 36), .mov (.tmp 0), none⟩,
    ⟨(some 37), .len .slice (.tmp 36), none⟩,
    ⟨(some 38), .bin .geq (.tmp 35) (.tmp 37), none⟩] [0, 1, 7, 38])
  (.cond (.tmp 38) (.seq (.region [⟨(some 39), .mov (.tmp 1), none⟩,
    ⟨(some 4), .mov (.const (.int .u64 0)), none⟩,
    ⟨(some 5), .mov (.tmp 39), none⟩,
    ⟨(some 6), .mov (.const (.int .i64 4)), none⟩] [4, 5, 6])
  (.ret)) (.skip)))
  (.seq (.region [⟨(some 8), .mov (.const (.int .u64 0)), none⟩] [0, 1, 7, 8])
  (.seq (.seq (.region [⟨(some 40), .mov (.tmp 7), none⟩,
    ⟨(some 9), .mov (.tmp 40), none⟩] [0, 1, 7, 8, 9])
  (.block 2 (.loop cuneiformref01_Get.b1)))
  (.seq (.seq (.region [⟨(some 58), .mov (.tmp 7), none⟩,
    ⟨(some 59), .mov (.tmp 1), none⟩,
    ⟨(some 60), .bin .gtr (.tmp 58) (.tmp 59), none⟩,
    ⟨(some 61), .mov (.tmp 60), none⟩,
    ⟨(some 62), .mov (.tmp 0), some (61, true)⟩,
    ⟨(some 63), .mov (.tmp 7), some (61, true)⟩,
    ⟨(some 64), .idx 1 none (.tmp 62) (.tmp 63), some (61, true)⟩,
    ⟨(some 65), .load none (.tmp 64), some (61, true)⟩,
    ⟨(some 66), .bin .eql (.tmp 65) (.const (.int .u8 0)), some (61, true)⟩,
    ⟨(some 67), .pick (.tmp 61) (.tmp 66) (.const (.bool false)), none⟩] [1, 7, 8, 67])
  (.cond (.tmp 67) (.seq (.region [⟨(some 68), .mov (.tmp 1), none⟩,
    ⟨(some 4), .mov (.const (.int .u64 0)), none⟩,
    ⟨(some 5), .mov (.tmp 68), none⟩,
    ⟨(some 6), .mov (.const (.int .i64 3)), none⟩] [4, 5, 6])
  (.ret)) (.skip)))
  (.seq (.region [⟨(some 69), .mov (.tmp 8), none⟩,
    ⟨(some 70), .mov (.tmp 7), none⟩,
    ⟨(some 71), .bin .add (.tmp 70) (.const (.int .i64 1)), none⟩,
    ⟨(some 4), .mov (.tmp 69), none⟩,
    ⟨(some 5), .mov (.tmp 71), none⟩,
    ⟨(some 6), .mov (.const (.int .i64 0)), none⟩] [4, 5, 6])
  (.ret)))))))))
def cuneiformref01_Get : AFun := ⟨72, 2, [.tmp 4, .tmp 5, .tmp 6], cuneiformref01_Get.body⟩
def cuneiformlaw01_known.body : ACode := .seq (.region [⟨(some 0), .mov (.const (.bool false)), none⟩] [])
  (.seq (.region [⟨(some 5), .lit T.uint8 1 2 [(.int .u8 0), (.int .u8 0)] [(0, 1, (.const (.int .u8 128))), (1, 1, (.const (.int .u8 0)))], none⟩,
    ⟨(some 6), .call (.const (.fn F.varint_Get [] [])) [(.tmp 5)], none⟩,
    ⟨(some 4), .mov (.tmp 6), none⟩,
    ⟨(some 7), .extract (.tmp 4) 0, none⟩,
    ⟨(some 8), .extract (.tmp 4) 1, none⟩,
    ⟨(some 9), .extract (.tmp 4) 2, none⟩,
    ⟨(some 1), .mov (.tmp 7), none⟩,
    ⟨(some 2), .mov (.tmp 8), none⟩,
    ⟨(some 3), .mov (.tmp 9), none⟩] [3])
  (.seq (.region [⟨(some 10), .lit T.uint64 1 2 [(.int .u64 0), (.int .u64 0)] [(0, 1, (.const (.int .u64 5))), (1, 1, (.const (.int .u64 300)))], none⟩,
    ⟨(some 11), .call (.const (.fn F.varint_Put [] [])) [(.tmp 10)], none⟩,
    ⟨(some 12), .lit T.uint8 1 3 [(.int .u8 0), (.int .u8 0), (.int .u8 0)] [(0, 1, (.const (.int .u8 5))), (1, 1, (.const (.int .u8 172))), (2, 1, (.const (.int .u8 2)))], none⟩,
    ⟨(some 13), .call (.const (.fn F.cuneiformref01_Same [] [])) [(.tmp 11), (.tmp 12)], none⟩,
    ⟨(some 14), .mov (.tmp 13), none⟩,
    ⟨(some 15), .call (.const (.fn F.varint_Zig [] [])) [(.const (.int .i64 (-3)))], some (14, true)⟩,
    ⟨(some 16), .bin .eql (.tmp 15) (.const (.int .u64 5)), some (14, true)⟩,
    ⟨(some 17), .pick (.tmp 14) (.tmp 16) (.const (.bool false)), none⟩,
    ⟨(some 18), .mov (.tmp 17), none⟩,
    ⟨(some 19), .mov (.tmp 3), some (18, true)⟩,
    ⟨(some 20), .bin .eql (.tmp 19) (.const (.int .i64 3)), some (18, true)⟩,
    ⟨(some 21), .pick (.tmp 18) (.tmp 20) (.const (.bool false)), none⟩,
    ⟨(some 0), .mov (.tmp 21), none⟩] [0])
  (.ret)))
def cuneiformlaw01_known : AFun := ⟨22, 0, [.tmp 0], cuneiformlaw01_known.body⟩
def cuneiformref01_Same.d0 : List AOper := [⟨(some 17), .mov (.tmp 0), none⟩,
    ⟨(some 18), .mov (.tmp 5), none⟩,
    ⟨(some 19), .idx 1 none (.tmp 17) (.tmp 18), none⟩,
    ⟨(some 20), .load none (.tmp 19), none⟩,
    ⟨(some 21), .mov (.tmp 1), none⟩,
    ⟨(some 22), .mov (.tmp 5), none⟩,
    ⟨(some 23), .idx 1 none (.tmp 21) (.tmp 22), none⟩,
    ⟨(some 24), .load none (.tmp 23), none⟩,
    ⟨(some 25), .bin .neq (.tmp 20) (.tmp 24), none⟩]
def cuneiformref01_Same.d0b : List (List Nat) := [[], [], [0, 1], [0, 1, 2], [], [], [4, 5], [4, 5, 6], [0, 1, 2, 3, 4, 5, 6, 7]]
def cuneiformref01_Same.b1 : ACode := .seq (.seq (.region [⟨(some 11), .mov (.tmp 5), none⟩,
    ⟨(some 12), .mov (.tmp 0), none⟩,
    ⟨(some 13), .len .slice (.tmp 12), none⟩,
    ⟨(some 14), .bin .lss (.tmp 11) (.tmp 13), none⟩] [0, 1, 5, 14])
  (.cond (.tmp 14) (.skip) (.exit 0)))
  (.seq (.block 1 (.seq (.draw cuneiformref01_Same.d0 cuneiformref01_Same.d0b [[0, 1, 2, 3, 4, 5, 6, 7, 8]] [] [0, 1, 5, 25])
  (.cond (.tmp 25) (.seq (.region [⟨(some 4), .mov (.const (.bool false)), none⟩] [4])
  (.ret)) (.skip))))
  (.region [⟨(some 15), .mov (.tmp 5), none⟩,
    ⟨(some 16), .bin .add (.tmp 15) (.const (.int .i64 1)), none⟩,
    ⟨(some 5), .mov (.tmp 16), none⟩] [0, 1, 5]))
def cuneiformref01_Same.body : ACode := .seq (.region [⟨(some 4), .mov (.const (.bool false)), none⟩] [0, 1])
  (.seq (.seq (.region [⟨(some 6), .mov (.tmp 0), none⟩,
    ⟨(some 7), .len .slice (.tmp 6), none⟩,
    ⟨(some 8), .mov (.tmp 1), none⟩,
    ⟨(some 9), .len .slice (.tmp 8), none⟩,
    ⟨(some 10), .bin .neq (.tmp 7) (.tmp 9), none⟩] [0, 1, 10])
  (.cond (.tmp 10) (.seq (.region [⟨(some 4), .mov (.const (.bool false)), none⟩] [4])
  (.ret)) (.skip)))
  (.seq (.seq (.region [⟨(some 5), .mov (.const (.int .i64 0)), none⟩] [0, 1, 5])
  (.block 0 (.loop cuneiformref01_Same.b1)))
  (.seq (.region [⟨(some 4), .mov (.const (.bool true)), none⟩] [4])
  (.ret))))
def cuneiformref01_Same : AFun := ⟨26, 2, [.tmp 4], cuneiformref01_Same.body⟩
def varint_Put.b0 : ACode := .seq (.seq (.region [⟨(some 12), .mov (.tmp 5), none⟩,
    ⟨(some 13), .bin .geq (.tmp 12) (.const (.int .u64 128)), none⟩] [3, 5, 6, 7, 8, 13])
  (.cond (.tmp 13) (.skip) (.exit 2)))
  (.seq (.block 3 (.region [⟨(some 16), .mov (.tmp 3), none⟩,
    ⟨(some 17), .mov (.tmp 5), none⟩,
    ⟨(some 18), .conv .u8 (.tmp 17), none⟩,
    ⟨(some 19), .bin .or (.tmp 18) (.const (.int .u8 128)), none⟩,
    ⟨(some 20), .lit T.uint8 1 1 [(.int .u8 0)] [(0, 1, (.tmp 19))], none⟩,
    ⟨(some 21), .append T.uint8 1 1 (.tmp 16) (.tmp 20), none⟩,
    ⟨(some 3), .mov (.tmp 21), none⟩] [3, 5, 6, 7, 8]))
  (.region [⟨(some 14), .mov (.tmp 5), none⟩,
    ⟨(some 15), .bin .shr (.tmp 14) (.const (.int .u64 7)), none⟩,
    ⟨(some 5), .mov (.tmp 15), none⟩] [3, 5, 6, 7, 8]))
def varint_Put.b1 : ACode := .seq (.region [⟨(some 9), .bin .lss (.tmp 8) (.tmp 7), none⟩] [3, 6, 7, 8, 9])
  (.seq (.cond (.tmp 9) (.skip) (.exit 0))
  (.seq (.block 1 (.seq (.region [⟨(some 10), .idx 1 none (.tmp 6) (.tmp 8), none⟩,
    ⟨(some 11), .load none (.tmp 10), none⟩,
    ⟨(some 5), .mov (.tmp 11), none⟩] [3, 5, 6, 7, 8])
  (.seq (.block 2 (.loop varint_Put.b0))
  (.region [⟨(some 22), .mov (.tmp 3), none⟩,
    ⟨(some 23), .mov (.tmp 5), none⟩,
    ⟨(some 24), .conv .u8 (.tmp 23), none⟩,
    ⟨(some 25), .lit T.uint8 1 1 [(.int .u8 0)] [(0, 1, (.tmp 24))], none⟩,
    ⟨(some 26), .append T.uint8 1 1 (.tmp 22) (.tmp 25), none⟩,
    ⟨(some 3), .mov (.tmp 26), none⟩] [3, 6, 7, 8]))))
  (.region [⟨(some 27), .bin .add (.tmp 8) (.const (.int .i64 1)), none⟩,
    ⟨(some 8), .mov (.tmp 27), none⟩] [3, 6, 7, 8])))
def varint_Put.body : ACode := .seq (.region [⟨(some 2), .mov (.const .nils), none⟩] [0])
  (.seq (.region [⟨(some 3), .mov (.const .nils), none⟩] [0, 3])
  (.seq (.seq (.region [⟨(some 6), .mov (.tmp 0), none⟩,
    ⟨(some 7), .len .slice (.tmp 6), none⟩,
    ⟨(some 8), .mov (.const (.int .i64 0)), none⟩] [3, 6, 7, 8])
  (.block 0 (.loop varint_Put.b1)))
  (.seq (.region [⟨(some 28), .mov (.tmp 3), none⟩,
    ⟨(some 2), .mov (.tmp 28), none⟩] [2])
  (.ret))))
def varint_Put : AFun := ⟨29, 1, [.tmp 2], varint_Put.body⟩
def varint_Size.b0 : ACode := .seq (.seq (.region [⟨(some 4), .mov (.tmp 0), none⟩,
    ⟨(some 5), .bin .geq (.tmp 4) (.const (.int .u64 128)), none⟩] [0, 3, 5])
  (.cond (.tmp 5) (.skip) (.exit 0)))
  (.seq (.block 1 (.region [⟨(some 8), .mov (.tmp 3), none⟩,
    ⟨(some 9), .bin .add (.tmp 8) (.const (.int .i64 1)), none⟩,
    ⟨(some 3), .mov (.tmp 9), none⟩] [0, 3]))
  (.region [⟨(some 6), .mov (.tmp 0), none⟩,
    ⟨(some 7), .bin .shr (.tmp 6) (.const (.int .u64 7)), none⟩,
    ⟨(some 0), .mov (.tmp 7), none⟩] [0, 3]))
def varint_Size.body : ACode := .seq (.region [⟨(some 2), .mov (.const (.int .i64 0)), none⟩] [0])
  (.seq (.region [⟨(some 3), .mov (.const (.int .i64 1)), none⟩] [0, 3])
  (.seq (.block 0 (.loop varint_Size.b0))
  (.seq (.region [⟨(some 10), .mov (.tmp 3), none⟩,
    ⟨(some 2), .mov (.tmp 10), none⟩] [2])
  (.ret))))
def varint_Size : AFun := ⟨11, 1, [.tmp 2], varint_Size.body⟩
def cuneiformref01_Put.b0 : ACode := .seq (.seq (.region [⟨(some 16), .mov (.tmp 5), none⟩,
    ⟨(some 17), .bin .gtr (.tmp 16) (.const (.int .u64 127)), none⟩] [0, 3, 4, 5, 17])
  (.cond (.tmp 17) (.skip) (.exit 2)))
  (.block 3 (.seq (.region [⟨(some 18), .mov (.tmp 3), none⟩,
    ⟨(some 19), .mov (.tmp 5), none⟩,
    ⟨(some 20), .bin .rem (.tmp 19) (.const (.int .u64 128)), none⟩,
    ⟨(some 21), .bin .add (.const (.int .u64 128)) (.tmp 20), none⟩,
    ⟨(some 22), .conv .u8 (.tmp 21), none⟩,
    ⟨(some 23), .lit T.uint8 1 1 [(.int .u8 0)] [(0, 1, (.tmp 22))], none⟩,
    ⟨(some 24), .append T.uint8 1 1 (.tmp 18) (.tmp 23), none⟩,
    ⟨(some 3), .mov (.tmp 24), none⟩] [0, 3, 4, 5])
  (.region [⟨(some 25), .mov (.tmp 5), none⟩,
    ⟨(some 26), .bin .quo (.tmp 25) (.const (.int .u64 128)), none⟩,
    ⟨(some 5), .mov (.tmp 26), none⟩] [0, 3, 4, 5])))
def cuneiformref01_Put.b1 : ACode := .seq (.seq (.region [⟨(some 6), .mov (.tmp 4), none⟩,
    ⟨(some 7), .mov (.tmp 0), none⟩,
    ⟨(some 8), .len .slice (.tmp 7), none⟩,
    ⟨(some 9), .bin .lss (.tmp 6) (.tmp 8), none⟩] [0, 3, 4, 9])
  (.cond (.tmp 9) (.skip) (.exit 0)))
  (.seq (.block 1 (.seq (.region [⟨(some 12), .mov (.tmp 0), none⟩,
    ⟨(some 13), .mov (.tmp 4), none⟩,
    ⟨(some 14), .idx 1 none (.tmp 12) (.tmp 13), none⟩,
    ⟨(some 15), .load none (.tmp 14), none⟩,
    ⟨(some 5), .mov (.tmp 15), none⟩] [0, 3, 4, 5])
  (.seq (.block 2 (.loop cuneiformref01_Put.b0))
  (.region [⟨(some 27), .mov (.tmp 3), none⟩,
    ⟨(some 28), .mov (.tmp 5), none⟩,
    ⟨(some 29), .conv .u8 (.tmp 28), none⟩,
    ⟨(some 30), .lit T.uint8 1 1 [(.int .u8 0)] [(0, 1, (.tmp 29))], none⟩,
    ⟨(some 31), .append T.uint8 1 1 (.tmp 27) (.tmp 30), none⟩,
    ⟨(some 3), .mov (.tmp 31), none⟩] [0, 3, 4]))))
  (.region [⟨(some 10), .mov (.tmp 4), none⟩,
    ⟨(some 11), .bin .add (.tmp 10) (.const (.int .i64 1)), none⟩,
    ⟨(some 4), .mov (.tmp 11), none⟩] [0, 3, 4]))
def cuneiformref01_Put.body : ACode := .seq (.region [⟨(some 2), .mov (.const .nils), none⟩] [0])
  (.seq (.region [⟨(some 3), .mov (.const .nils), none⟩] [0, 3])
  (.seq (.seq (.region [⟨(some 4), .mov (.const (.int .i64 0)), none⟩] [0, 3, 4])
  (.block 0 (.loop cuneiformref01_Put.b1)))
  (.seq (.region [⟨(some 32), .mov (.tmp 3), none⟩,
    ⟨(some 2), .mov (.tmp 32), none⟩] [2])
  (.ret))))
def cuneiformref01_Put : AFun := ⟨33, 1, [.tmp 2], cuneiformref01_Put.body⟩
def varint_Zig.body : ACode := .seq (.region [⟨(some 2), .mov (.const (.int .u64 0)), none⟩] [0])
  (.seq (.region [⟨(some 3), .mov (.tmp 0), none⟩,
    ⟨(some 4), .conv .u64 (.tmp 3), none⟩,
    ⟨(some 5), .bin .shl (.tmp 4) (.const (.int .u64 1)), none⟩,
    ⟨(some 6), .mov (.tmp 0), none⟩,
    ⟨(some 7), .bin .shr (.tmp 6) (.const (.int .u64 63)), none⟩,
    ⟨(some 8), .conv .u64 (.tmp 7), none⟩,
    ⟨(some 9), .bin .xor (.tmp 5) (.tmp 8), none⟩,
    ⟨(some 2), .mov (.tmp 9), none⟩] [2])
  (.ret))
def varint_Zig : AFun := ⟨10, 1, [.tmp 2], varint_Zig.body⟩
def cuneiformref01_Zig.body : ACode := .seq (.region [⟨(some 2), .mov (.const (.int .u64 0)), none⟩] [0])
  (.seq (.seq (.region [⟨(some 3), .mov (.tmp 0), none⟩,
    ⟨(some 4), .bin .lss (.tmp 3) (.const (.int .i64 0)), none⟩] [0, 4])
  (.cond (.tmp 4) (.seq (.region [⟨(some 5), .mov (.tmp 0), none⟩,
    ⟨(some 6), .bin .add (.tmp 5) (.const (.int .i64 1)), none⟩,
    ⟨(some 7), .un .neg (.tmp 6), none⟩,
    ⟨(some 8), .conv .u64 (.tmp 7), none⟩,
    ⟨(some 9), .bin .mul (.const (.int .u64 2)) (.tmp 8), none⟩,
    ⟨(some 10), .bin .add (.tmp 9) (.const (.int .u64 1)), none⟩,
    ⟨(some 2), .mov (.tmp 10), none⟩] [2])
  (.ret)) (.skip)))
  (.seq (.region [⟨(some 11), .mov (.tmp 0), none⟩,
    ⟨(some 12), .conv .u64 (.tmp 11), none⟩,
    ⟨(some 13), .bin .mul (.const (.int .u64 2)) (.tmp 12), none⟩,
    ⟨(some 2), .mov (.tmp 13), none⟩] [2])
  (.ret)))
def cuneiformref01_Zig : AFun := ⟨14, 1, [.tmp 2], cuneiformref01_Zig.body⟩
def varint_Zag.body : ACode := .seq (.region [⟨(some 2), .mov (.const (.int .i64 0)), none⟩] [0])
  (.seq (.region [⟨(some 3), .mov (.tmp 0), none⟩,
    ⟨(some 4), .bin .shr (.tmp 3) (.const (.int .u64 1)), none⟩,
    ⟨(some 5), .conv .i64 (.tmp 4), none⟩,
    ⟨(some 6), .mov (.tmp 0), none⟩,
    ⟨(some 7), .bin .and (.tmp 6) (.const (.int .u64 1)), none⟩,
    ⟨(some 8), .conv .i64 (.tmp 7), none⟩,
    ⟨(some 9), .un .neg (.tmp 8), none⟩,
    ⟨(some 10), .bin .xor (.tmp 5) (.tmp 9), none⟩,
    ⟨(some 2), .mov (.tmp 10), none⟩] [2])
  (.ret))
def varint_Zag : AFun := ⟨11, 1, [.tmp 2], varint_Zag.body⟩
def cuneiformref01_Zag.body : ACode := .seq (.region [⟨(some 2), .mov (.const (.int .i64 0)), none⟩] [0])
  (.seq (.seq (.region [⟨(some 3), .mov (.tmp 0), none⟩,
    ⟨(some 4), .bin .rem (.tmp 3) (.const (.int .u64 2)), none⟩,
    ⟨(some 5), .bin .eql (.tmp 4) (.const (.int .u64 1)), none⟩] [0, 5])
  (.cond (.tmp 5) (.seq (.region [⟨(some 6), .mov (.tmp 0), none⟩,
    ⟨(some 7), .bin .quo (.tmp 6) (.const (.int .u64 2)), none⟩,
    ⟨(some 8), .conv .i64 (.tmp 7), none⟩,
    ⟨(some 9), .un .neg (.tmp 8), none⟩,
    ⟨(some 10), .bin .sub (.tmp 9) (.const (.int .i64 1)), none⟩,
    ⟨(some 2), .mov (.tmp 10), none⟩] [2])
  (.ret)) (.skip)))
  (.seq (.region [⟨(some 11), .mov (.tmp 0), none⟩,
    ⟨(some 12), .bin .quo (.tmp 11) (.const (.int .u64 2)), none⟩,
    ⟨(some 13), .conv .i64 (.tmp 12), none⟩,
    ⟨(some 2), .mov (.tmp 13), none⟩] [2])
  (.ret)))
def cuneiformref01_Zag : AFun := ⟨14, 1, [.tmp 2], cuneiformref01_Zag.body⟩
def cuneiformref01_All.b0 : ACode := .seq (.seq (.region [⟨(some 11), .mov (.tmp 7), none⟩,
    ⟨(some 12), .mov (.tmp 0), none⟩,
    ⟨(some 13), .len .slice (.tmp 12), none⟩,
    ⟨(some 14), .bin .lss (.tmp 11) (.tmp 13), none⟩] [0, 5, 6, 7, 14])
  (.cond (.tmp 14) (.skip) (.exit 0)))
  (.block 1 (.seq (.region [⟨(some 16), .mov (.tmp 0), none⟩,
    ⟨(some 17), .mov (.tmp 7), none⟩,
    ⟨(some 18), .call (.const (.fn F.cuneiformref01_Get [] [])) [(.tmp 16), (.tmp 17)], none⟩,
    ⟨(some 15), .mov (.tmp 18), none⟩,
    ⟨(some 19), .extract (.tmp 15) 0, none⟩,
    ⟨(some 20), .extract (.tmp 15) 1, none⟩,
    ⟨(some 21), .extract (.tmp 15) 2, none⟩,
    ⟨(some 8), .mov (.tmp 19), none⟩,
    ⟨(some 9), .mov (.tmp 20), none⟩,
    ⟨(some 10), .mov (.tmp 21), none⟩] [0, 5, 6, 7, 8, 9, 10])
  (.seq (.seq (.region [⟨(some 22), .mov (.tmp 10), none⟩,
    ⟨(some 23), .bin .neq (.tmp 22) (.const (.int .i64 0)), none⟩] [0, 5, 6, 7, 8, 9, 10, 23])
  (.cond (.tmp 23) (.seq (.region [⟨(some 24), .mov (.tmp 5), none⟩,
    ⟨(some 25), .mov (.tmp 6), none⟩,
    ⟨(some 26), .mov (.tmp 10), none⟩,
    ⟨(some 2), .mov (.tmp 24), none⟩,
    ⟨(some 3), .mov (.tmp 25), none⟩,
    ⟨(some 4), .mov (.tmp 26), none⟩] [2, 3, 4])
  (.ret)) (.skip)))
  (.seq (.region [⟨(some 27), .mov (.tmp 5), none⟩,
    ⟨(some 28), .mov (.tmp 7), none⟩,
    ⟨(some 29), .lit T.int 1 1 [(.int .i64 0)] [(0, 1, (.tmp 28))], none⟩,
    ⟨(some 30), .append T.int 1 8 (.tmp 27) (.tmp 29), none⟩,
    ⟨(some 31), .mov (.tmp 6), none⟩,
    ⟨(some 32), .mov (.tmp 8), none⟩,
    ⟨(some 33), .lit T.uint64 1 1 [(.int .u64 0)] [(0, 1, (.tmp 32))], none⟩,
    ⟨(some 34), .append T.uint64 1 8 (.tmp 31) (.tmp 33), none⟩,
    ⟨(some 5), .mov (.tmp 30), none⟩,
    ⟨(some 6), .mov (.tmp 34), none⟩] [0, 5, 6, 9])
  (.region [⟨(some 35), .mov (.tmp 9), none⟩,
    ⟨(some 7), .mov (.tmp 35), none⟩] [0, 5, 6, 7])))))
def cuneiformref01_All.body : ACode := .seq (.region [⟨(some 2), .mov (.const .nils), none⟩,
    ⟨(some 3), .mov (.const .nils), none⟩,
    ⟨(some 4), .mov (.const (.int .i64 0)), none⟩] [0])
  (.seq (.region [⟨(some 5), .mov (.const .nils), none⟩] [0, 5])
  (.seq (.region [⟨(some 6), .mov (.const .nils), none⟩] [0, 5, 6])
  (.seq (.region [⟨(some 7), .mov (.const (.int .i64 0)), none⟩] [0, 5, 6, 7])
  (.seq (.block 0 (.loop cuneiformref01_All.b0))
  (.seq (.region [⟨(some 36), .mov (.tmp 5), none⟩,
    ⟨(some 37), .mov (.tmp 6), none⟩,
    ⟨(some 2), .mov (.tmp 36), none⟩,
    ⟨(some 3), .mov (.tmp 37), none⟩,
    ⟨(some 4), .mov (.const (.int .i64 0)), none⟩] [2, 3, 4])
  (.ret))))))
def cuneiformref01_All : AFun := ⟨38, 1, [.tmp 2, .tmp 3, .tmp 4], cuneiformref01_All.body⟩
def varint_All.body : ACode := .seq (.region [⟨(some 1), .box T.sl_uint8 (.tmp 0), none⟩,
    ⟨(some 2), .mov (.const .nilf), none⟩] [1])
  (.seq (.region [⟨(some 3), .mkfn F.varint_All_1 [] [(.tmp 1)], none⟩,
    ⟨(some 2), .mov (.tmp 3), none⟩] [2])
  (.ret))
def varint_All : AFun := ⟨4, 1, [.tmp 2], varint_All.body⟩
def varint_Count.d0 : List AOper := [⟨(some 15), .load none (.tmp 4), none⟩,
    ⟨(some 16), .bin .add (.tmp 15) (.const (.int .i64 1)), none⟩,
    ⟨(some 17), .mov (.tmp 6), none⟩,
    ⟨(some 18), .mov (.tmp 7), none⟩,
    ⟨(some 19), .call (.const (.fn F.varint_Size [] [])) [(.tmp 18)], none⟩,
    ⟨(some 20), .bin .add (.tmp 17) (.tmp 19), none⟩,
    ⟨none, .store 1 (.tmp 4) (.tmp 16), none⟩,
    ⟨none, .store 1 (.tmp 5) (.tmp 20), none⟩]
def varint_Count.d0b : List (List Nat) := [[], [0], [], [], [3], [2, 3, 4], [0, 1, 3, 4], [0, 1, 2, 3, 4, 5, 6]]
def varint_Count.a1 : ACode := .seq (.region [⟨(some 6), .mov (.tmp 13), none⟩] [4, 5, 6, 14])
  (.region [⟨(some 7), .mov (.tmp 14), none⟩] [4, 5, 6, 7])
def varint_Count.b1 : ACode := .block 1 (.draw varint_Count.d0 varint_Count.d0b [[0, 1, 2, 3, 4, 5, 6, 7]] [(4, 0)] [])
def varint_Count.body : ACode := .seq (.region [⟨(some 2), .mov (.const (.int .i64 0)), none⟩,
    ⟨(some 3), .mov (.const (.int .i64 0)), none⟩] [0, 2, 3])
  (.seq (.region [⟨(some 4), .alloc T.int [(.int .i64 0)], none⟩,
    ⟨(some 5), .alloc T.int [(.int .i64 0)], none⟩,
    ⟨none, .store 1 (.tmp 4) (.const (.int .i64 0)), none⟩,
    ⟨none, .store 1 (.tmp 5) (.const (.int .i64 0)), none⟩] [0, 2, 3, 4, 5])
  (.seq (.seq (.region [⟨(some 11), .mov (.tmp 0), none⟩,
    ⟨(some 12), .call (.const (.fn F.varint_All [] [])) [(.tmp 11)], none⟩] [0, 2, 3, 4, 5, 12])
  (.block 0 (.range (.tmp 12) [13, 14] varint_Count.a1 varint_Count.b1)))
  (.seq (.seq (.region [⟨(some 21), .load none (.tmp 5), none⟩,
    ⟨(some 22), .mov (.tmp 0), none⟩,
    ⟨(some 23), .len .slice (.tmp 22), none⟩,
    ⟨(some 24), .bin .eql (.tmp 21) (.tmp 23), none⟩] [0, 4, 5, 24])
  (.cond (.tmp 24) (.seq (.region [⟨(some 25), .load none (.tmp 4), none⟩,
    ⟨(some 2), .mov (.tmp 25), none⟩,
    ⟨(some 3), .mov (.const (.int .i64 0)), none⟩] [2, 3])
  (.ret)) (.skip)))
  (.seq (.region [⟨(some 27), .mov (.tmp 0), none⟩,
    ⟨(some 28), .load none (.tmp 5), none⟩,
    ⟨(some 29), .slice 1 .slice (.tmp 27) (some (.tmp 28)) none none, none⟩,
    ⟨(some 30), .call (.const (.fn F.varint_Get [] [])) [(.tmp 29)], none⟩,
    ⟨(some 26), .mov (.tmp 30), none⟩,
    ⟨(some 31), .extract (.tmp 26) 0, none⟩,
    ⟨(some 32), .extract (.tmp 26) 1, none⟩,
    ⟨(some 33), .extract (.tmp 26) 2, none⟩,
    ⟨(some 8), .mov (.tmp 31), none⟩,
    ⟨(some 9), .mov (.tmp 32), none⟩,
    ⟨(some 10), .mov (.tmp 33), none⟩] [4, 10])
  (.seq (.region [⟨(some 34), .load none (.tmp 4), none⟩,
    ⟨(some 35), .mov (.tmp 10), none⟩,
    ⟨(some 2), .mov (.tmp 34), none⟩,
    ⟨(some 3), .mov (.tmp 35), none⟩] [2, 3])
  (.ret))))))
def varint_Count : AFun := ⟨36, 1, [.tmp 2, .tmp 3], varint_Count.body⟩
def varint_All_1.b0 : ACode := .block 1 (.seq (.region [⟨(some 8), .load none (.tmp 1), none⟩,
    ⟨(some 9), .mov (.tmp 3), none⟩,
    ⟨(some 10), .slice 1 .slice (.tmp 8) (some (.tmp 9)) none none, none⟩,
    ⟨(some 11), .call (.const (.fn F.varint_Get [] [])) [(.tmp 10)], none⟩,
    ⟨(some 7), .mov (.tmp 11), none⟩,
    ⟨(some 12), .extract (.tmp 7) 0, none⟩,
    ⟨(some 13), .extract (.tmp 7) 1, none⟩,
    ⟨(some 14), .extract (.tmp 7) 2, none⟩,
    ⟨(some 4), .mov (.tmp 12), none⟩,
    ⟨(some 5), .mov (.tmp 13), none⟩,
    ⟨(some 6), .mov (.tmp 14), none⟩] [0, 1, 3, 4, 5, 6])
  (.seq (.seq (.region [⟨(some 15), .mov (.tmp 6), none⟩,
    ⟨(some 16), .bin .neq (.tmp 15) (.const (.int .i64 0)), none⟩,
    ⟨(some 17), .mov (.tmp 16), none⟩,
    ⟨(some 18), .mov (.tmp 0), some (17, false)⟩,
    ⟨(some 19), .mov (.tmp 3), some (17, false)⟩,
    ⟨(some 20), .mov (.tmp 4), some (17, false)⟩,
    ⟨(some 21), .call (.tmp 18) [(.tmp 19), (.tmp 20)], some (17, false)⟩,
    ⟨(some 22), .un .not (.tmp 21), some (17, false)⟩,
    ⟨(some 23), .pick (.tmp 17) (.const (.bool true)) (.tmp 22), none⟩] [0, 1, 3, 5, 23])
  (.cond (.tmp 23) (.ret) (.skip)))
  (.region [⟨(some 24), .mov (.tmp 3), none⟩,
    ⟨(some 25), .mov (.tmp 5), none⟩,
    ⟨(some 26), .bin .add (.tmp 24) (.tmp 25), none⟩,
    ⟨(some 3), .mov (.tmp 26), none⟩] [0, 1, 3])))
def varint_All_1.body : ACode := .seq (.region [⟨(some 3), .mov (.const (.int .i64 0)), none⟩] [0, 1, 3])
  (.block 0 (.loop varint_All_1.b0))
def varint_All_1 : AFun := ⟨27, 2, [], varint_All_1.body⟩
theorem cuneiformlaw01_VarintGets_code : okFun Try.prog F.cuneiformlaw01_VarintGets cuneiformlaw01_VarintGets = true := by kernel_rfl
theorem cuneiformlaw01_VarintSizes_code : okFun Try.prog F.cuneiformlaw01_VarintSizes cuneiformlaw01_VarintSizes = true := by kernel_rfl
theorem cuneiformlaw01_VarintPuts_code : okFun Try.prog F.cuneiformlaw01_VarintPuts cuneiformlaw01_VarintPuts = true := by kernel_rfl
theorem cuneiformlaw01_VarintAll_code : okFun Try.prog F.cuneiformlaw01_VarintAll cuneiformlaw01_VarintAll = true := by kernel_rfl
theorem varint_Get_code : okFun Try.prog F.varint_Get varint_Get = true := by kernel_rfl
theorem cuneiformref01_Get_code : okFun Try.prog F.cuneiformref01_Get cuneiformref01_Get = true := by kernel_rfl
theorem cuneiformlaw01_known_code : okFun Try.prog F.cuneiformlaw01_known cuneiformlaw01_known = true := by kernel_rfl
theorem cuneiformref01_Same_code : okFun Try.prog F.cuneiformref01_Same cuneiformref01_Same = true := by kernel_rfl
theorem varint_Put_code : okFun Try.prog F.varint_Put varint_Put = true := by kernel_rfl
theorem varint_Size_code : okFun Try.prog F.varint_Size varint_Size = true := by kernel_rfl
theorem cuneiformref01_Put_code : okFun Try.prog F.cuneiformref01_Put cuneiformref01_Put = true := by kernel_rfl
theorem varint_Zig_code : okFun Try.prog F.varint_Zig varint_Zig = true := by kernel_rfl
theorem cuneiformref01_Zig_code : okFun Try.prog F.cuneiformref01_Zig cuneiformref01_Zig = true := by kernel_rfl
theorem varint_Zag_code : okFun Try.prog F.varint_Zag varint_Zag = true := by kernel_rfl
theorem cuneiformref01_Zag_code : okFun Try.prog F.cuneiformref01_Zag cuneiformref01_Zag = true := by kernel_rfl
theorem cuneiformref01_All_code : okFun Try.prog F.cuneiformref01_All cuneiformref01_All = true := by kernel_rfl
theorem varint_All_code : okFun Try.prog F.varint_All varint_All = true := by kernel_rfl
theorem varint_Count_code : okFun Try.prog F.varint_Count varint_Count = true := by kernel_rfl
theorem varint_All_1_code : okFun Try.prog F.varint_All_1 varint_All_1 = true := by kernel_rfl
end Go.Proofs.Ytdlhdaimjimmkaa
