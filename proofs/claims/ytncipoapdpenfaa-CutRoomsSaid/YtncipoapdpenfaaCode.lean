/-
  The code that the statements of this seat reach, in the form of that machine, and that it is the program's. By an AI agent. No person has read it.
-/
import Derived.Test.YtncipoapdpenfaaProg
import Derived.Test.YtncipoapdpenfaaAm6
import Derived.KernelRfl

/-
  The code of this seat in the form of the abstract machine, and that it is the program's. Printed by a program (wip/am/gen.py, code.py). By an AI agent.
-/
namespace Go.Proofs.Ytncipoapdpenfaa
open Go Go.Am
namespace F
def cuneiformlaw12_CutFrames : FuncId := 3
def cuneiformlaw12_CutWholes : FuncId := 4
def cuneiformlaw12_CutRooms : FuncId := 5
def cut_Frames : FuncId := 6
def cuneiformref12_Frames : FuncId := 7
def cuneiformlaw12_Same : FuncId := 8
def cuneiformlaw12_known : FuncId := 9
def cut_Whole : FuncId := 10
def cuneiformref01_Same : FuncId := 11
def cut_Count : FuncId := 12
def cuneiformlaw08_Cut : FuncId := 13
def cuneiformlaw08_Of : FuncId := 14
def cuneiformref12_Whole : FuncId := 15
def head_Check : FuncId := 16
def cut_Parts : FuncId := 17
def cuneiformref12_Parts : FuncId := 18
def cuneiformref07_Check : FuncId := 19
def cuneiformref08_Same : FuncId := 20
def head_Mates : FuncId := 21
def cuneiformref12_Mates : FuncId := 22
def head_wrong : FuncId := 23
def cut_Parts_1 : FuncId := 24
def head_wrong_1 : FuncId := 25
end F
namespace T
def int : TypeId := 3
def uint8 : TypeId := 5
def head_Head : TypeId := 24
def sl_uint8 : TypeId := 25
def sl_frame_Frame : TypeId := 26
def api_Errno : TypeId := 27
def cuneiformref07_H : TypeId := 33
def frame_Frame : TypeId := 42
def cuneiformref08_F : TypeId := 45
end T
def cuneiformlaw12_CutFrames.body : ACode := .seq (.region [⟨(some 3), .box T.head_Head (.tmp 0), none⟩,
    ⟨(some 6), .mov (.const (.bool false)), none⟩] [1, 2, 3])
  (.seq (.region [⟨(some 13), .mov (.tmp 1), none⟩,
    ⟨(some 14), .mov (.tmp 1), none⟩,
    ⟨(some 15), .len .slice (.tmp 14), none⟩,
    ⟨(some 16), .maxmin false (.tmp 15) (.const (.int .i64 200)), none⟩,
    ⟨(some 17), .slice 1 .slice (.tmp 13) none (some (.tmp 16)) none, none⟩,
    ⟨(some 1), .mov (.tmp 17), none⟩] [1, 2, 3])
  (.seq (.region [⟨(some 19), .load (some 5) (.tmp 3), none⟩,
    ⟨(some 20), .mov (.tmp 1), none⟩,
    ⟨(some 21), .mov (.tmp 2), none⟩,
    ⟨(some 22), .call (.const (.fn F.cut_Frames [] [])) [(.tmp 19), (.tmp 20), (.tmp 21)], none⟩,
    ⟨(some 18), .mov (.tmp 22), none⟩,
    ⟨(some 23), .extract (.tmp 18) 0, none⟩,
    ⟨(some 24), .extract (.tmp 18) 1, none⟩,
    ⟨(some 7), .mov (.tmp 23), none⟩,
    ⟨(some 8), .mov (.tmp 24), none⟩] [1, 2, 3, 7, 8])
  (.seq (.region [⟨(some 26), .load (some 5) (.tmp 3), none⟩,
    ⟨(some 27), .mov (.tmp 1), none⟩,
    ⟨(some 28), .mov (.tmp 2), none⟩,
    ⟨(some 29), .call (.const (.fn F.cuneiformref12_Frames [] [])) [(.tmp 26), (.tmp 27), (.tmp 28)], none⟩,
    ⟨(some 25), .mov (.tmp 29), none⟩,
    ⟨(some 30), .extract (.tmp 25) 0, none⟩,
    ⟨(some 31), .extract (.tmp 25) 1, none⟩,
    ⟨(some 9), .mov (.tmp 30), none⟩,
    ⟨(some 10), .mov (.tmp 31), none⟩] [1, 2, 7, 8, 9, 10])
  (.seq (.seq (.region [⟨(some 32), .mov (.tmp 8), none⟩,
    ⟨(some 33), .mov (.tmp 10), none⟩,
    ⟨(some 34), .bin .neq (.tmp 32) (.tmp 33), none⟩,
    ⟨(some 35), .mov (.tmp 34), none⟩,
    ⟨(some 36), .mov (.tmp 7), some (35, false)⟩,
    ⟨(some 37), .mov (.tmp 9), some (35, false)⟩,
    ⟨(some 38), .call (.const (.fn F.cuneiformlaw12_Same [] [])) [(.tmp 36), (.tmp 37)], some (35, false)⟩,
    ⟨(some 39), .un .not (.tmp 38), some (35, false)⟩,
    ⟨(some 40), .pick (.tmp 35) (.const (.bool true)) (.tmp 39), none⟩] [1, 2, 7, 8, 40])
  (.cond (.tmp 40) (.seq (.region [⟨(some 6), .mov (.const (.bool false)), none⟩] [6])
  (.ret)) (.skip)))
  (.seq (.seq (.region [⟨(some 41), .mov (.tmp 8), none⟩,
    ⟨(some 42), .bin .neq (.tmp 41) (.const (.int .i64 0)), none⟩] [1, 2, 7, 42])
  (.cond (.tmp 42) (.seq (.region [⟨(some 43), .call (.const (.fn F.cuneiformlaw12_known [] [])) [], none⟩,
    ⟨(some 6), .mov (.tmp 43), none⟩] [6])
  (.ret)) (.skip)))
  (.seq (.region [⟨(some 45), .mov (.tmp 7), none⟩,
    ⟨(some 46), .call (.const (.fn F.cut_Whole [] [])) [(.tmp 45)], none⟩,
    ⟨(some 44), .mov (.tmp 46), none⟩,
    ⟨(some 47), .extract (.tmp 44) 0, none⟩,
    ⟨(some 48), .extract (.tmp 44) 1, none⟩,
    ⟨(some 11), .mov (.tmp 47), none⟩,
    ⟨(some 12), .mov (.tmp 48), none⟩] [1, 2, 7, 11, 12])
  (.seq (.region [⟨(some 49), .call (.const (.fn F.cuneiformlaw12_known [] [])) [], none⟩,
    ⟨(some 50), .mov (.tmp 49), none⟩,
    ⟨(some 51), .mov (.tmp 12), some (50, true)⟩,
    ⟨(some 52), .bin .eql (.tmp 51) (.const (.int .i64 0)), some (50, true)⟩,
    ⟨(some 53), .pick (.tmp 50) (.tmp 52) (.const (.bool false)), none⟩,
    ⟨(some 54), .mov (.tmp 53), none⟩,
    ⟨(some 55), .mov (.tmp 11), some (54, true)⟩,
    ⟨(some 56), .mov (.tmp 1), some (54, true)⟩,
    ⟨(some 57), .call (.const (.fn F.cuneiformref01_Same [] [])) [(.tmp 55), (.tmp 56)], some (54, true)⟩,
    ⟨(some 58), .pick (.tmp 54) (.tmp 57) (.const (.bool false)), none⟩,
    ⟨(some 59), .mov (.tmp 58), none⟩,
    ⟨(some 60), .mov (.tmp 7), some (59, true)⟩,
    ⟨(some 61), .len .slice (.tmp 60), some (59, true)⟩,
    ⟨(some 62), .mov (.tmp 1), some (59, true)⟩,
    ⟨(some 63), .len .slice (.tmp 62), some (59, true)⟩,
    ⟨(some 64), .mov (.tmp 2), some (59, true)⟩,
    ⟨(some 65), .call (.const (.fn F.cut_Count [] [])) [(.tmp 63), (.tmp 64)], some (59, true)⟩,
    ⟨(some 66), .bin .eql (.tmp 61) (.tmp 65), some (59, true)⟩,
    ⟨(some 67), .pick (.tmp 59) (.tmp 66) (.const (.bool false)), none⟩,
    ⟨(some 6), .mov (.tmp 67), none⟩] [6])
  (.ret))))))))
def cuneiformlaw12_CutFrames : AFun := ⟨68, 3, [.tmp 6], cuneiformlaw12_CutFrames.body⟩
def cuneiformlaw12_CutWholes.b0 : ACode := .seq (.seq (.region [⟨(some 10), .mov (.tmp 5), none⟩,
    ⟨(some 11), .mov (.tmp 0), none⟩,
    ⟨(some 12), .len .slice (.tmp 11), none⟩,
    ⟨(some 13), .bin .lss (.tmp 10) (.tmp 12), none⟩,
    ⟨(some 14), .mov (.tmp 13), none⟩,
    ⟨(some 15), .mov (.tmp 5), some (14, true)⟩,
    ⟨(some 16), .bin .lss (.tmp 15) (.const (.int .i64 20)), some (14, true)⟩,
    ⟨(some 17), .pick (.tmp 14) (.tmp 16) (.const (.bool false)), none⟩] [0, 3, 4, 5, 17])
  (.cond (.tmp 17) (.skip) (.exit 0)))
  (.seq (.block 1 (.seq (.region [⟨(some 20), .mov (.tmp 3), none⟩,
    ⟨(some 21), .mov (.tmp 0), none⟩,
    ⟨(some 22), .mov (.tmp 5), none⟩,
    ⟨(some 23), .idx 6 none (.tmp 21) (.tmp 22), none⟩,
    ⟨(some 24), .load (some 6) (.tmp 23), none⟩,
    ⟨(some 25), .call (.const (.fn F.cuneiformlaw08_Cut [] [])) [(.tmp 24)], none⟩,
    ⟨(some 26), .lit T.frame_Frame 6 1 [(.int .i64 0), (.int .i64 0), (.int .u32 0), (.int .i64 0), (.int .i64 0), .nils] [(0, 6, (.tmp 25))], none⟩,
    ⟨(some 27), .append T.frame_Frame 6 64 (.tmp 20) (.tmp 26), none⟩,
    ⟨(some 3), .mov (.tmp 27), none⟩] [0, 3, 4, 5])
  (.region [⟨(some 28), .mov (.tmp 4), none⟩,
    ⟨(some 29), .mov (.tmp 0), none⟩,
    ⟨(some 30), .mov (.tmp 5), none⟩,
    ⟨(some 31), .idx 6 none (.tmp 29) (.tmp 30), none⟩,
    ⟨(some 32), .load (some 6) (.tmp 31), none⟩,
    ⟨(some 33), .call (.const (.fn F.cuneiformlaw08_Cut [] [])) [(.tmp 32)], none⟩,
    ⟨(some 34), .call (.const (.fn F.cuneiformlaw08_Of [] [])) [(.tmp 33)], none⟩,
    ⟨(some 35), .lit T.cuneiformref08_F 6 1 [(.int .i64 0), (.int .i64 0), (.int .u32 0), (.int .i64 0), (.int .i64 0), .nils] [(0, 6, (.tmp 34))], none⟩,
    ⟨(some 36), .append T.cuneiformref08_F 6 64 (.tmp 28) (.tmp 35), none⟩,
    ⟨(some 4), .mov (.tmp 36), none⟩] [0, 3, 4, 5])))
  (.region [⟨(some 18), .mov (.tmp 5), none⟩,
    ⟨(some 19), .bin .add (.tmp 18) (.const (.int .i64 1)), none⟩,
    ⟨(some 5), .mov (.tmp 19), none⟩] [0, 3, 4, 5]))
def cuneiformlaw12_CutWholes.body : ACode := .seq (.region [⟨(some 2), .mov (.const (.bool false)), none⟩] [0])
  (.seq (.region [⟨(some 3), .mov (.const .nils), none⟩] [0, 3])
  (.seq (.region [⟨(some 4), .mov (.const .nils), none⟩] [0, 3, 4])
  (.seq (.seq (.region [⟨(some 5), .mov (.const (.int .i64 0)), none⟩] [0, 3, 4, 5])
  (.block 0 (.loop cuneiformlaw12_CutWholes.b0)))
  (.seq (.region [⟨(some 38), .mov (.tmp 3), none⟩,
    ⟨(some 39), .call (.const (.fn F.cut_Whole [] [])) [(.tmp 38)], none⟩,
    ⟨(some 37), .mov (.tmp 39), none⟩,
    ⟨(some 40), .extract (.tmp 37) 0, none⟩,
    ⟨(some 41), .extract (.tmp 37) 1, none⟩,
    ⟨(some 6), .mov (.tmp 40), none⟩,
    ⟨(some 7), .mov (.tmp 41), none⟩] [4, 6, 7])
  (.seq (.region [⟨(some 43), .mov (.tmp 4), none⟩,
    ⟨(some 44), .call (.const (.fn F.cuneiformref12_Whole [] [])) [(.tmp 43)], none⟩,
    ⟨(some 42), .mov (.tmp 44), none⟩,
    ⟨(some 45), .extract (.tmp 42) 0, none⟩,
    ⟨(some 46), .extract (.tmp 42) 1, none⟩,
    ⟨(some 8), .mov (.tmp 45), none⟩,
    ⟨(some 9), .mov (.tmp 46), none⟩] [6, 7, 8, 9])
  (.seq (.region [⟨(some 47), .call (.const (.fn F.cuneiformlaw12_known [] [])) [], none⟩,
    ⟨(some 48), .mov (.tmp 47), none⟩,
    ⟨(some 49), .mov (.tmp 7), some (48, true)⟩,
    ⟨(some 50), .mov (.tmp 9), some (48, true)⟩,
    ⟨(some 51), .bin .eql (.tmp 49) (.tmp 50), some (48, true)⟩,
    ⟨(some 52), .pick (.tmp 48) (.tmp 51) (.const (.bool false)), none⟩,
    ⟨(some 53), .mov (.tmp 52), none⟩,
    ⟨(some 54), .mov (.tmp 6), some (53, true)⟩,
    ⟨(some 55), .mov (.tmp 8), some (53, true)⟩,
    ⟨(some 56), .call (.const (.fn F.cuneiformref01_Same [] [])) [(.tmp 54), (.tmp 55)], some (53, true)⟩,
    ⟨(some 57), .pick (.tmp 53) (.tmp 56) (.const (.bool false)), none⟩,
    ⟨(some 2), .mov (.tmp 57), none⟩] [2])
  (.ret)))))))
def cuneiformlaw12_CutWholes : AFun := ⟨58, 1, [.tmp 2], cuneiformlaw12_CutWholes.body⟩
def cuneiformlaw12_CutRooms.body : ACode := .seq (.region [⟨(some 4), .box T.head_Head (.tmp 0), none⟩,
    ⟨(some 8), .mov (.const (.bool false)), none⟩] [1, 2, 3, 4])
  (.seq (.region [⟨(some 17), .mov (.tmp 1), none⟩,
    ⟨(some 18), .mov (.tmp 1), none⟩,
    ⟨(some 19), .len .slice (.tmp 18), none⟩,
    ⟨(some 20), .maxmin false (.tmp 19) (.const (.int .i64 192)), none⟩,
    ⟨(some 21), .slice 1 .slice (.tmp 17) none (some (.tmp 20)) none, none⟩,
    ⟨(some 1), .mov (.tmp 21), none⟩] [1, 2, 3, 4])
  (.seq (.region [⟨(some 22), .mov (.tmp 2), none⟩,
    ⟨(some 23), .conv .u64 (.tmp 22), none⟩,
    ⟨(some 24), .bin .rem (.tmp 23) (.const (.int .u64 242)), none⟩,
    ⟨(some 25), .conv .i64 (.tmp 24), none⟩,
    ⟨(some 26), .bin .add (.const (.int .i64 1)) (.tmp 25), none⟩,
    ⟨(some 27), .mov (.tmp 3), none⟩,
    ⟨(some 28), .conv .u64 (.tmp 27), none⟩,
    ⟨(some 29), .bin .rem (.tmp 28) (.const (.int .u64 242)), none⟩,
    ⟨(some 30), .conv .i64 (.tmp 29), none⟩,
    ⟨(some 31), .bin .add (.const (.int .i64 1)) (.tmp 30), none⟩,
    ⟨(some 2), .mov (.tmp 26), none⟩,
    ⟨(some 3), .mov (.tmp 31), none⟩] [1, 2, 3, 4])
  (.seq (.region [⟨(some 33), .load (some 5) (.tmp 4), none⟩,
    ⟨(some 34), .mov (.tmp 1), none⟩,
    ⟨(some 35), .mov (.tmp 2), none⟩,
    ⟨(some 36), .mov (.tmp 3), none⟩,
    ⟨(some 37), .maxmin false (.tmp 35) (.tmp 36), none⟩,
    ⟨(some 38), .call (.const (.fn F.cut_Frames [] [])) [(.tmp 33), (.tmp 34), (.tmp 37)], none⟩,
    ⟨(some 32), .mov (.tmp 38), none⟩,
    ⟨(some 39), .extract (.tmp 32) 0, none⟩,
    ⟨(some 40), .extract (.tmp 32) 1, none⟩,
    ⟨(some 9), .mov (.tmp 39), none⟩,
    ⟨(some 10), .mov (.tmp 40), none⟩] [1, 2, 3, 4, 9, 10])
  (.seq (.region [⟨(some 42), .load (some 5) (.tmp 4), none⟩,
    ⟨(some 43), .mov (.tmp 1), none⟩,
    ⟨(some 44), .mov (.tmp 2), none⟩,
    ⟨(some 45), .mov (.tmp 3), none⟩,
    ⟨(some 46), .maxmin true (.tmp 44) (.tmp 45), none⟩,
    ⟨(some 47), .call (.const (.fn F.cut_Frames [] [])) [(.tmp 42), (.tmp 43), (.tmp 46)], none⟩,
    ⟨(some 41), .mov (.tmp 47), none⟩,
    ⟨(some 48), .extract (.tmp 41) 0, none⟩,
    ⟨(some 49), .extract (.tmp 41) 1, none⟩,
    ⟨(some 11), .mov (.tmp 48), none⟩,
    ⟨(some 12), .mov (.tmp 49), none⟩] [1, 9, 10, 11, 12])
  (.seq (.seq (.region [⟨(some 50), .mov (.tmp 10), none⟩,
    ⟨(some 51), .bin .neq (.tmp 50) (.const (.int .i64 0)), none⟩,
    ⟨(some 52), .mov (.tmp 51), none⟩,
    ⟨(some 53), .mov (.tmp 12), some (52, false)⟩,
    ⟨(some 54), .bin .neq (.tmp 53) (.const (.int .i64 0)), some (52, false)⟩,
    ⟨(some 55), .pick (.tmp 52) (.const (.bool true)) (.tmp 54), none⟩] [1, 9, 10, 11, 12, 55])
  (.cond (.tmp 55) (.seq (.region [⟨(some 56), .call (.const (.fn F.cuneiformlaw12_known [] [])) [], none⟩,
    ⟨(some 57), .mov (.tmp 56), none⟩,
    ⟨(some 58), .mov (.tmp 10), some (57, true)⟩,
    ⟨(some 59), .mov (.tmp 12), some (57, true)⟩,
    ⟨(some 60), .bin .eql (.tmp 58) (.tmp 59), some (57, true)⟩,
    ⟨(some 61), .pick (.tmp 57) (.tmp 60) (.const (.bool false)), none⟩,
    ⟨(some 8), .mov (.tmp 61), none⟩] [8])
  (.ret)) (.skip)))
  (.seq (.region [⟨(some 63), .mov (.tmp 9), none⟩,
    ⟨(some 64), .call (.const (.fn F.cut_Whole [] [])) [(.tmp 63)], none⟩,
    ⟨(some 62), .mov (.tmp 64), none⟩,
    ⟨(some 65), .extract (.tmp 62) 0, none⟩,
    ⟨(some 66), .extract (.tmp 62) 1, none⟩,
    ⟨(some 13), .mov (.tmp 65), none⟩,
    ⟨(some 14), .mov (.tmp 66), none⟩] [1, 9, 11, 13])
  (.seq (.region [⟨(some 68), .mov (.tmp 11), none⟩,
    ⟨(some 69), .call (.const (.fn F.cut_Whole [] [])) [(.tmp 68)], none⟩,
    ⟨(some 67), .mov (.tmp 69), none⟩,
    ⟨(some 70), .extract (.tmp 67) 0, none⟩,
    ⟨(some 71), .extract (.tmp 67) 1, none⟩,
    ⟨(some 15), .mov (.tmp 70), none⟩,
    ⟨(some 16), .mov (.tmp 71), none⟩] [1, 9, 11, 13, 15])
  (.seq (.region [⟨(some 72), .call (.const (.fn F.cuneiformlaw12_known [] [])) [], none⟩,
    ⟨(some 73), .mov (.tmp 72), none⟩,
    ⟨(some 74), .mov (.tmp 13), some (73, true)⟩,
    ⟨(some 75), .mov (.tmp 1), some (73, true)⟩,
    ⟨(some 76), .call (.const (.fn F.cuneiformref01_Same [] [])) [(.tmp 74), (.tmp 75)], some (73, true)⟩,
    ⟨(some 77), .pick (.tmp 73) (.tmp 76) (.const (.bool false)), none⟩,
    ⟨(some 78), .mov (.tmp 77), none⟩,
    ⟨(some 79), .mov (.tmp 15), some (78, true)⟩,
    ⟨(some 80), .mov (.tmp 1), some (78, true)⟩,
    ⟨(some 81), .call (.const (.fn F.cuneiformref01_Same [] [])) [(.tmp 79), (.tmp 80)], some (78, true)⟩,
    ⟨(some 82), .pick (.tmp 78) (.tmp 81) (.const (.bool false)), none⟩,
    ⟨(some 83), .mov (.tmp 82), none⟩,
    ⟨(some 84), .mov (.tmp 11), some (83, true)⟩,
    ⟨(some 85), .len .slice (.tmp 84), some (83, true)⟩,
    ⟨(some 86), .mov (.tmp 9), some (83, true)⟩,
    ⟨(some 87), .len .slice (.tmp 86), some (83, true)⟩,
    ⟨(some 88), .bin .leq (.tmp 85) (.tmp 87), some (83, true)⟩,
    ⟨(some 89), .pick (.tmp 83) (.tmp 88) (.const (.bool false)), none⟩,
    ⟨(some 90), .mov (.tmp 89), none⟩,
    ⟨(some 91), .mov (.tmp 11), some (90, true)⟩,
    ⟨(some 92), .len .slice (.tmp 91), some (90, true)⟩,
    ⟨(some 93), .bin .geq (.tmp 92) (.const (.int .i64 1)), some (90, true)⟩,
    ⟨(some 94), .pick (.tmp 90) (.tmp 93) (.const (.bool false)), none⟩,
    ⟨(some 95), .mov (.tmp 94), none⟩,
    ⟨(some 96), .mov (.tmp 9), some (95, true)⟩,
    ⟨(some 97), .len .slice (.tmp 96), some (95, true)⟩,
    ⟨(some 98), .mov (.tmp 1), some (95, true)⟩,
    ⟨(some 99), .len .slice (.tmp 98), some (95, true)⟩,
    ⟨(some 100), .bin .leq (.tmp 97) (.tmp 99), some (95, true)⟩,
    ⟨(some 101), .pick (.tmp 95) (.tmp 100) (.const (.bool false)), none⟩,
    ⟨(some 8), .mov (.tmp 101), none⟩] [8])
  (.ret)))))))))
def cuneiformlaw12_CutRooms : AFun := ⟨102, 4, [.tmp 8], cuneiformlaw12_CutRooms.body⟩
def cut_Frames.a0 : ACode := .seq (.region [⟨(some 10), .mov (.tmp 41), none⟩] [3, 9, 10, 42])
  (.region [⟨(some 11), .mov (.tmp 42), none⟩] [3, 9, 10, 11])
def cut_Frames.b0 : ACode := .block 2 (.seq (.region [⟨(some 43), .mov (.tmp 10), none⟩,
    ⟨(some 44), .field 3 (.tmp 3), none⟩,
    ⟨none, .store 1 (.tmp 44) (.tmp 43), none⟩] [3, 9, 11])
  (.region [⟨(some 45), .load none (.tmp 9), none⟩,
    ⟨(some 46), .load (some 5) (.tmp 3), none⟩,
    ⟨(some 47), .mov (.tmp 11), none⟩,
    ⟨(some 48), .build [(.int .i64 0), (.int .i64 0), (.int .u32 0), (.int .i64 0), (.int .i64 0), .nils] [(0, 5, (.tmp 46)), (5, 1, (.tmp 47))], none⟩,
    ⟨(some 49), .lit T.frame_Frame 6 1 [(.int .i64 0), (.int .i64 0), (.int .u32 0), (.int .i64 0), (.int .i64 0), .nils] [(0, 6, (.tmp 48))], none⟩,
    ⟨(some 50), .append T.frame_Frame 6 64 (.tmp 45) (.tmp 49), none⟩,
    ⟨none, .store 1 (.tmp 9) (.tmp 50), none⟩] []))
def cut_Frames.body : ACode := .seq (.region [⟨(some 3), .box T.head_Head (.tmp 0), none⟩,
    ⟨(some 6), .mov (.const .nils), none⟩,
    ⟨(some 7), .mov (.const (.int .i64 0)), none⟩] [1, 2, 3, 6, 7])
  (.seq (.block 0 (.seq (.region [⟨(some 13), .mov (.tmp 1), none⟩,
    ⟨(some 14), .len .slice (.tmp 13), none⟩,
    ⟨(some 15), .bin .eql (.tmp 14) (.const (.int .i64 0)), none⟩,
    ⟨(some 12), .mov (.tmp 15), none⟩] [1, 2, 3, 6, 7, 12])
  (.cond (.tmp 12) (.seq (.region [⟨(some 6), .mov (.const .nils), none⟩,
    ⟨(some 7), .mov (.const (.int .i64 13)), none⟩] [6, 7])
  (.ret)) (.seq (.region [⟨(some 17), .mov (.tmp 1), none⟩,
    ⟨(some 18), .len .slice (.tmp 17), none⟩,
    ⟨(some 19), .bin .gtr (.tmp 18) (.const (.int .i64 192)), none⟩,
    ⟨(some 16), .mov (.tmp 19), none⟩] [1, 2, 3, 6, 7, 16])
  (.cond (.tmp 16) (.seq (.region [⟨(some 6), .mov (.const .nils), none⟩,
    ⟨(some 7), .mov (.const (.int .i64 2)), none⟩] [6, 7])
  (.ret)) (.seq (.region [⟨(some 21), .mov (.tmp 2), none⟩,
    ⟨(some 22), .bin .lss (.tmp 21) (.const (.int .i64 1)), none⟩,
    ⟨(some 23), .mov (.tmp 22), none⟩,
    ⟨(some 24), .mov (.tmp 2), some (23, false)⟩,
    ⟨(some 25), .bin .gtr (.tmp 24) (.const (.int .i64 242)), some (23, false)⟩,
    ⟨(some 26), .pick (.tmp 23) (.const (.bool true)) (.tmp 25), none⟩,
    ⟨(some 20), .mov (.tmp 26), none⟩] [1, 2, 3, 6, 7, 20])
  (.cond (.tmp 20) (.seq (.region [⟨(some 6), .mov (.const .nils), none⟩,
    ⟨(some 7), .mov (.const (.int .i64 5)), none⟩] [6, 7])
  (.ret)) (.skip))))))))
  (.seq (.region [⟨(some 27), .mov (.tmp 1), none⟩,
    ⟨(some 28), .len .slice (.tmp 27), none⟩,
    ⟨(some 29), .mov (.tmp 2), none⟩,
    ⟨(some 30), .call (.const (.fn F.cut_Count [] [])) [(.tmp 28), (.tmp 29)], none⟩,
    ⟨(some 31), .field 3 (.tmp 3), none⟩,
    ⟨none, .store 1 (.tmp 31) (.const (.int .i64 0)), none⟩,
    ⟨(some 32), .field 4 (.tmp 3), none⟩,
    ⟨none, .store 1 (.tmp 32) (.tmp 30), none⟩] [1, 2, 3, 6, 7])
  (.seq (.seq (.region [⟨(some 33), .load (some 5) (.tmp 3), none⟩,
    ⟨(some 34), .call (.const (.fn F.head_Check [] [])) [(.tmp 33)], none⟩,
    ⟨(some 8), .mov (.tmp 34), none⟩] [1, 2, 3, 6, 7, 8])
  (.seq (.region [⟨(some 35), .mov (.tmp 8), none⟩,
    ⟨(some 36), .bin .neq (.tmp 35) (.const (.int .i64 0)), none⟩] [1, 2, 3, 6, 7, 8, 36])
  (.cond (.tmp 36) (.seq (.region [⟨(some 37), .mov (.tmp 8), none⟩,
    ⟨(some 6), .mov (.const .nils), none⟩,
    ⟨(some 7), .mov (.tmp 37), none⟩] [6, 7])
  (.ret)) (.skip))))
  (.seq (.region [⟨(some 9), .alloc T.sl_frame_Frame [.nils], none⟩] [1, 2, 3, 6, 7, 9])
  (.seq (.seq (.region [⟨(some 38), .mov (.tmp 1), none⟩,
    ⟨(some 39), .mov (.tmp 2), none⟩,
    ⟨(some 40), .call (.const (.fn F.cut_Parts [] [])) [(.tmp 38), (.tmp 39)], none⟩] [3, 6, 7, 9, 40])
  (.block 1 (.range (.tmp 40) [41, 42] cut_Frames.a0 cut_Frames.b0)))
  (.seq (.region [⟨(some 51), .load none (.tmp 9), none⟩,
    ⟨(some 6), .mov (.tmp 51), none⟩,
    ⟨(some 7), .mov (.const (.int .i64 0)), none⟩] [6, 7])
  (.ret)))))))
def cut_Frames : AFun := ⟨52, 3, [.tmp 6, .tmp 7], cut_Frames.body⟩
def cuneiformref12_Frames.d0 : List AOper := [⟨(some 44), .mov (.tmp 9), none⟩,
    ⟨(some 45), .load (some 5) (.tmp 11), none⟩,
    ⟨(some 46), .mov (.tmp 8), none⟩,
    ⟨(some 47), .mov (.tmp 10), none⟩,
    ⟨(some 48), .idx 1 none (.tmp 46) (.tmp 47), none⟩,
    ⟨(some 49), .load none (.tmp 48), none⟩,
    ⟨(some 50), .build [(.int .i64 0), (.int .i64 0), (.int .u32 0), (.int .i64 0), (.int .i64 0), .nils] [(0, 5, (.tmp 45)), (5, 1, (.tmp 49))], none⟩,
    ⟨(some 51), .lit T.cuneiformref08_F 6 1 [(.int .i64 0), (.int .i64 0), (.int .u32 0), (.int .i64 0), (.int .i64 0), .nils] [(0, 6, (.tmp 50))], none⟩,
    ⟨(some 52), .append T.cuneiformref08_F 6 64 (.tmp 44) (.tmp 51), none⟩,
    ⟨(some 9), .mov (.tmp 52), none⟩]
def cuneiformref12_Frames.d0b : List (List Nat) := [[], [], [], [], [2, 3], [2, 3, 4], [1, 2, 3, 4, 5], [1, 2, 3, 4, 5, 6], [0, 1, 2, 3, 4, 5, 6, 7], [0, 1, 2, 3, 4, 5, 6, 7, 8]]
def cuneiformref12_Frames.b1 : ACode := .seq (.seq (.region [⟨(some 27), .mov (.tmp 10), none⟩,
    ⟨(some 28), .mov (.tmp 8), none⟩,
    ⟨(some 29), .len .slice (.tmp 28), none⟩,
    ⟨(some 30), .bin .lss (.tmp 27) (.tmp 29), none⟩] [3, 8, 9, 10, 30])
  (.cond (.tmp 30) (.skip) (.exit 0)))
  (.seq (.block 1 (.seq (.region [⟨(some 33), .load (some 5) (.tmp 3), none⟩,
    ⟨(some 11), .alloc T.cuneiformref07_H [(.int .i64 0), (.int .i64 0), (.int .u32 0), (.int .i64 0), (.int .i64 0)], none⟩,
    ⟨none, .store 5 (.tmp 11) (.tmp 33), none⟩] [3, 8, 9, 10, 11])
  (.seq (.region [⟨(some 34), .mov (.tmp 10), none⟩,
    ⟨(some 35), .mov (.tmp 8), none⟩,
    ⟨(some 36), .len .slice (.tmp 35), none⟩,
    ⟨(some 37), .field 3 (.tmp 11), none⟩,
    ⟨none, .store 1 (.tmp 37) (.tmp 34), none⟩,
    ⟨(some 38), .field 4 (.tmp 11), none⟩,
    ⟨none, .store 1 (.tmp 38) (.tmp 36), none⟩] [3, 8, 9, 10, 11])
  (.seq (.seq (.region [⟨(some 39), .load (some 5) (.tmp 11), none⟩,
    ⟨(some 40), .call (.const (.fn F.cuneiformref07_Check [] [])) [(.tmp 39)], none⟩,
    ⟨(some 41), .bin .neq (.tmp 40) (.const (.int .i64 0)), none⟩] [3, 8, 9, 10, 11, 41])
  (.cond (.tmp 41) (.seq (.region [⟨(some 42), .load (some 5) (.tmp 11), none⟩,
    ⟨(some 43), .call (.const (.fn F.cuneiformref07_Check [] [])) [(.tmp 42)], none⟩,
    ⟨(some 6), .mov (.const .nils), none⟩,
    ⟨(some 7), .mov (.tmp 43), none⟩] [6, 7])
  (.ret)) (.skip)))
  (.draw cuneiformref12_Frames.d0 cuneiformref12_Frames.d0b [[0, 1, 2, 3, 4, 5, 6, 7, 8, 9]] [] [3, 8, 9, 10])))))
  (.region [⟨(some 31), .mov (.tmp 10), none⟩,
    ⟨(some 32), .bin .add (.tmp 31) (.const (.int .i64 1)), none⟩,
    ⟨(some 10), .mov (.tmp 32), none⟩] [3, 8, 9, 10]))
def cuneiformref12_Frames.body : ACode := .seq (.region [⟨(some 3), .box T.cuneiformref07_H (.tmp 0), none⟩,
    ⟨(some 6), .mov (.const .nils), none⟩,
    ⟨(some 7), .mov (.const (.int .i64 0)), none⟩] [1, 2, 3])
  (.seq (.seq (.region [⟨(some 12), .mov (.tmp 1), none⟩,
    ⟨(some 13), .len .slice (.tmp 12), none⟩,
    ⟨(some 14), .bin .eql (.tmp 13) (.const (.int .i64 0)), none⟩] [1, 2, 3, 14])
  (.cond (.tmp 14) (.seq (.region [⟨(some 6), .mov (.const .nils), none⟩,
    ⟨(some 7), .mov (.const (.int .i64 13)), none⟩] [6, 7])
  (.ret)) (.skip)))
  (.seq (.seq (.region [⟨(some 15), .mov (.tmp 1), none⟩,
    ⟨(some 16), .len .slice (.tmp 15), none⟩,
    ⟨(some 17), .bin .gtr (.tmp 16) (.const (.int .i64 192)), none⟩] [1, 2, 3, 17])
  (.cond (.tmp 17) (.seq (.region [⟨(some 6), .mov (.const .nils), none⟩,
    ⟨(some 7), .mov (.const (.int .i64 2)), none⟩] [6, 7])
  (.ret)) (.skip)))
  (.seq (.seq (.region [⟨(some 18), .mov (.tmp 2), none⟩,
    ⟨(some 19), .bin .lss (.tmp 18) (.const (.int .i64 1)), none⟩,
    ⟨(some 20), .mov (.tmp 19), none⟩,
    ⟨(some 21), .mov (.tmp 2), some (20, false)⟩,
    ⟨(some 22), .bin .gtr (.tmp 21) (.const (.int .i64 242)), some (20, false)⟩,
    ⟨(some 23), .pick (.tmp 20) (.const (.bool true)) (.tmp 22), none⟩] [1, 2, 3, 23])
  (.cond (.tmp 23) (.seq (.region [⟨(some 6), .mov (.const .nils), none⟩,
    ⟨(some 7), .mov (.const (.int .i64 5)), none⟩] [6, 7])
  (.ret)) (.skip)))
  (.seq (.region [⟨(some 24), .mov (.tmp 1), none⟩,
    ⟨(some 25), .mov (.tmp 2), none⟩,
    ⟨(some 26), .call (.const (.fn F.cuneiformref12_Parts [] [])) [(.tmp 24), (.tmp 25)], none⟩,
    ⟨(some 8), .mov (.tmp 26), none⟩] [3, 8])
  (.seq (.region [⟨(some 9), .mov (.const .nils), none⟩] [3, 8, 9])
  (.seq (.seq (.region [⟨(some 10), .mov (.const (.int .i64 0)), none⟩] [3, 8, 9, 10])
  (.block 0 (.loop cuneiformref12_Frames.b1)))
  (.seq (.region [⟨(some 53), .mov (.tmp 9), none⟩,
    ⟨(some 6), .mov (.tmp 53), none⟩,
    ⟨(some 7), .mov (.const (.int .i64 0)), none⟩] [6, 7])
  (.ret))))))))
def cuneiformref12_Frames : AFun := ⟨54, 3, [.tmp 6, .tmp 7], cuneiformref12_Frames.body⟩
def cuneiformlaw12_Same.d0 : List AOper := [⟨(some 17), .mov (.tmp 0), none⟩,
    ⟨(some 18), .mov (.tmp 5), none⟩,
    ⟨(some 19), .idx 6 none (.tmp 17) (.tmp 18), none⟩,
    ⟨(some 20), .load (some 6) (.tmp 19), none⟩,
    ⟨(some 21), .call (.const (.fn F.cuneiformlaw08_Of [] [])) [(.tmp 20)], none⟩,
    ⟨(some 22), .mov (.tmp 1), none⟩,
    ⟨(some 23), .mov (.tmp 5), none⟩,
    ⟨(some 24), .idx 6 none (.tmp 22) (.tmp 23), none⟩,
    ⟨(some 25), .load (some 6) (.tmp 24), none⟩,
    ⟨(some 26), .call (.const (.fn F.cuneiformref08_Same [] [])) [(.tmp 21), (.tmp 25)], none⟩,
    ⟨(some 27), .un .not (.tmp 26), none⟩]
def cuneiformlaw12_Same.d0b : List (List Nat) := [[], [], [0, 1], [0, 1, 2], [0, 1, 2, 3], [], [], [5, 6], [5, 6, 7], [0, 1, 2, 3, 4, 5, 6, 7, 8], [0, 1, 2, 3, 4, 5, 6, 7, 8, 9]]
def cuneiformlaw12_Same.b1 : ACode := .seq (.seq (.region [⟨(some 11), .mov (.tmp 5), none⟩,
    ⟨(some 12), .mov (.tmp 0), none⟩,
    ⟨(some 13), .len .slice (.tmp 12), none⟩,
    ⟨(some 14), .bin .lss (.tmp 11) (.tmp 13), none⟩] [0, 1, 5, 14])
  (.cond (.tmp 14) (.skip) (.exit 0)))
  (.seq (.block 1 (.seq (.draw cuneiformlaw12_Same.d0 cuneiformlaw12_Same.d0b [[0, 1, 2, 3, 5, 6, 7, 8, 4, 9, 10]] [(4, 7), (4, 8)] [0, 1, 5, 27])
  (.cond (.tmp 27) (.seq (.region [⟨(some 4), .mov (.const (.bool false)), none⟩] [4])
  (.ret)) (.skip))))
  (.region [⟨(some 15), .mov (.tmp 5), none⟩,
    ⟨(some 16), .bin .add (.tmp 15) (.const (.int .i64 1)), none⟩,
    ⟨(some 5), .mov (.tmp 16), none⟩] [0, 1, 5]))
def cuneiformlaw12_Same.body : ACode := .seq (.region [⟨(some 4), .mov (.const (.bool false)), none⟩] [0, 1])
  (.seq (.seq (.region [⟨(some 6), .mov (.tmp 0), none⟩,
    ⟨(some 7), .len .slice (.tmp 6), none⟩,
    ⟨(some 8), .mov (.tmp 1), none⟩,
    ⟨(some 9), .len .slice (.tmp 8), none⟩,
    ⟨(some 10), .bin .neq (.tmp 7) (.tmp 9), none⟩] [0, 1, 10])
  (.cond (.tmp 10) (.seq (.region [⟨(some 4), .mov (.const (.bool false)), none⟩] [4])
  (.ret)) (.skip)))
  (.seq (.seq (.region [⟨(some 5), .mov (.const (.int .i64 0)), none⟩] [0, 1, 5])
  (.block 0 (.loop cuneiformlaw12_Same.b1)))
  (.seq (.region [⟨(some 4), .mov (.const (.bool true)), none⟩] [4])
  (.ret))))
def cuneiformlaw12_Same : AFun := ⟨28, 2, [.tmp 4], cuneiformlaw12_Same.body⟩
def cuneiformlaw12_known.body : ACode := .seq (.region [⟨(some 0), .mov (.const (.bool false)), none⟩] [])
  (.seq (.region [⟨(some 4), .build [(.int .i64 0), (.int .i64 0), (.int .u32 0), (.int .i64 0), (.int .i64 0)] [(0, 1, (.const (.int .i64 1))), (1, 1, (.const (.int .i64 1)))], none⟩,
    ⟨(some 5), .mkslice T.uint8 1 1 [(.int .u8 0)] (.const (.int .i64 7)) (.const (.int .i64 7)), none⟩,
    ⟨(some 6), .call (.const (.fn F.cut_Frames [] [])) [(.tmp 4), (.tmp 5), (.const (.int .i64 3))], none⟩,
    ⟨(some 3), .mov (.tmp 6), none⟩,
    ⟨(some 7), .extract (.tmp 3) 0, none⟩,
    ⟨(some 8), .extract (.tmp 3) 1, none⟩,
    ⟨(some 1), .mov (.tmp 7), none⟩,
    ⟨(some 2), .mov (.tmp 8), none⟩] [1, 2])
  (.seq (.region [⟨(some 9), .mov (.tmp 2), none⟩,
    ⟨(some 10), .bin .eql (.tmp 9) (.const (.int .i64 0)), none⟩,
    ⟨(some 11), .mov (.tmp 10), none⟩,
    ⟨(some 12), .mov (.tmp 1), some (11, true)⟩,
    ⟨(some 13), .len .slice (.tmp 12), some (11, true)⟩,
    ⟨(some 14), .bin .eql (.tmp 13) (.const (.int .i64 3)), some (11, true)⟩,
    ⟨(some 15), .pick (.tmp 11) (.tmp 14) (.const (.bool false)), none⟩,
    ⟨(some 16), .mov (.tmp 15), none⟩,
    ⟨(some 17), .mov (.tmp 1), some (16, true)⟩,
    ⟨(some 18), .idx 6 none (.tmp 17) (.const (.int .i64 0)), some (16, true)⟩,
    ⟨(some 19), .field 5 (.tmp 18), some (16, true)⟩,
    ⟨(some 20), .load none (.tmp 19), some (16, true)⟩,
    ⟨(some 21), .len .slice (.tmp 20), some (16, true)⟩,
    ⟨(some 22), .bin .eql (.tmp 21) (.const (.int .i64 3)), some (16, true)⟩,
    ⟨(some 23), .pick (.tmp 16) (.tmp 22) (.const (.bool false)), none⟩,
    ⟨(some 24), .mov (.tmp 23), none⟩,
    ⟨(some 25), .mov (.tmp 1), some (24, true)⟩,
    ⟨(some 26), .idx 6 none (.tmp 25) (.const (.int .i64 2)), some (24, true)⟩,
    ⟨(some 27), .field 5 (.tmp 26), some (24, true)⟩,
    ⟨(some 28), .load none (.tmp 27), some (24, true)⟩,
    ⟨(some 29), .len .slice (.tmp 28), some (24, true)⟩,
    ⟨(some 30), .bin .eql (.tmp 29) (.const (.int .i64 1)), some (24, true)⟩,
    ⟨(some 31), .pick (.tmp 24) (.tmp 30) (.const (.bool false)), none⟩,
    ⟨(some 32), .mov (.tmp 31), none⟩,
    ⟨(some 33), .mov (.tmp 1), some (32, true)⟩,
    ⟨(some 34), .idx 6 none (.tmp 33) (.const (.int .i64 1)), some (32, true)⟩,
    ⟨(some 35), .field 0 (.tmp 34), some (32, true)⟩,
    ⟨(some 36), .field 3 (.tmp 35), some (32, true)⟩,
    ⟨(some 37), .load none (.tmp 36), some (32, true)⟩,
    ⟨(some 38), .bin .eql (.tmp 37) (.const (.int .i64 1)), some (32, true)⟩,
    ⟨(some 39), .pick (.tmp 32) (.tmp 38) (.const (.bool false)), none⟩,
    ⟨(some 40), .mov (.tmp 39), none⟩,
    ⟨(some 41), .mov (.tmp 1), some (40, true)⟩,
    ⟨(some 42), .idx 6 none (.tmp 41) (.const (.int .i64 1)), some (40, true)⟩,
    ⟨(some 43), .field 0 (.tmp 42), some (40, true)⟩,
    ⟨(some 44), .field 4 (.tmp 43), some (40, true)⟩,
    ⟨(some 45), .load none (.tmp 44), some (40, true)⟩,
    ⟨(some 46), .bin .eql (.tmp 45) (.const (.int .i64 3)), some (40, true)⟩,
    ⟨(some 47), .pick (.tmp 40) (.tmp 46) (.const (.bool false)), none⟩,
    ⟨(some 48), .mov (.tmp 47), none⟩,
    ⟨(some 49), .call (.const (.fn F.cut_Count [] [])) [(.const (.int .i64 7)), (.const (.int .i64 3))], some (48, true)⟩,
    ⟨(some 50), .bin .eql (.tmp 49) (.const (.int .i64 3)), some (48, true)⟩,
    ⟨(some 51), .pick (.tmp 48) (.tmp 50) (.const (.bool false)), none⟩,
    ⟨(some 0), .mov (.tmp 51), none⟩] [0])
  (.ret)))
def cuneiformlaw12_known : AFun := ⟨52, 0, [.tmp 0], cuneiformlaw12_known.body⟩
def cut_Whole.d0 : List AOper := [⟨(some 17), .field 0 (.tmp 7), none⟩,
    ⟨(some 18), .load (some 5) (.tmp 17), none⟩,
    ⟨(some 19), .mov (.tmp 0), none⟩,
    ⟨(some 20), .idx 6 none (.tmp 19) (.const (.int .i64 0)), none⟩,
    ⟨(some 21), .field 0 (.tmp 20), none⟩,
    ⟨(some 22), .load (some 5) (.tmp 21), none⟩,
    ⟨(some 23), .call (.const (.fn F.head_Mates [] [])) [(.tmp 18), (.tmp 22)], none⟩,
    ⟨(some 24), .un .not (.tmp 23), none⟩,
    ⟨(some 16), .mov (.tmp 24), none⟩]
def cut_Whole.d0b : List (List Nat) := [[], [0], [], [2], [2, 3], [2, 3, 4], [0, 1, 2, 3, 4, 5], [0, 1, 2, 3, 4, 5, 6], [0, 1, 2, 3, 4, 5, 6, 7]]
def cut_Whole.b1 : ACode := .seq (.region [⟨(some 12), .bin .lss (.tmp 11) (.tmp 10), none⟩] [0, 4, 5, 9, 10, 11, 12])
  (.seq (.cond (.tmp 12) (.skip) (.exit 0))
  (.seq (.block 1 (.seq (.region [⟨(some 13), .mov (.tmp 11), none⟩,
    ⟨(some 14), .idx 6 none (.tmp 9) (.tmp 11), none⟩,
    ⟨(some 15), .load (some 6) (.tmp 14), none⟩,
    ⟨(some 7), .alloc T.frame_Frame [(.int .i64 0), (.int .i64 0), (.int .u32 0), (.int .i64 0), (.int .i64 0), .nils], none⟩,
    ⟨(some 6), .mov (.tmp 13), none⟩,
    ⟨none, .store 6 (.tmp 7) (.tmp 15), none⟩] [0, 4, 5, 6, 7, 9, 10, 11])
  (.seq (.block 2 (.seq (.draw cut_Whole.d0 cut_Whole.d0b [[0, 1, 2, 3, 4, 5, 6, 7, 8]] [] [0, 4, 5, 6, 7, 9, 10, 11, 16])
  (.cond (.tmp 16) (.seq (.region [⟨(some 5), .mov (.const (.int .i64 17)), none⟩] [5])
  (.exit 0)) (.seq (.region [⟨(some 26), .field 0 (.tmp 7), none⟩,
    ⟨(some 27), .field 3 (.tmp 26), none⟩,
    ⟨(some 28), .load none (.tmp 27), none⟩,
    ⟨(some 29), .mov (.tmp 6), none⟩,
    ⟨(some 30), .bin .neq (.tmp 28) (.tmp 29), none⟩,
    ⟨(some 25), .mov (.tmp 30), none⟩] [0, 4, 5, 6, 7, 9, 10, 11, 25])
  (.cond (.tmp 25) (.seq (.region [⟨(some 5), .mov (.const (.int .i64 3)), none⟩] [5])
  (.exit 0)) (.skip))))))
  (.seq (.region [⟨(some 31), .mov (.tmp 4), none⟩,
    ⟨(some 32), .field 5 (.tmp 7), none⟩,
    ⟨(some 33), .load none (.tmp 32), none⟩,
    ⟨(some 34), .append T.uint8 1 1 (.tmp 31) (.tmp 33), none⟩,
    ⟨(some 4), .mov (.tmp 34), none⟩] [0, 4, 5, 6, 7, 9, 10, 11])
  (.seq (.region [⟨(some 35), .mov (.tmp 0), none⟩,
    ⟨(some 36), .len .slice (.tmp 35), none⟩,
    ⟨(some 8), .mov (.tmp 36), none⟩] [0, 4, 5, 6, 7, 8, 9, 10, 11])
  (.block 3 (.seq (.region [⟨(some 38), .mov (.tmp 6), none⟩,
    ⟨(some 39), .mov (.tmp 8), none⟩,
    ⟨(some 40), .bin .sub (.tmp 39) (.const (.int .i64 1)), none⟩,
    ⟨(some 41), .bin .lss (.tmp 38) (.tmp 40), none⟩,
    ⟨(some 37), .mov (.tmp 41), none⟩] [0, 4, 5, 7, 8, 9, 10, 11, 37])
  (.cond (.tmp 37) (.exit 1) (.seq (.region [⟨(some 43), .mov (.tmp 8), none⟩,
    ⟨(some 44), .field 0 (.tmp 7), none⟩,
    ⟨(some 45), .field 4 (.tmp 44), none⟩,
    ⟨(some 46), .load none (.tmp 45), none⟩,
    ⟨(some 47), .bin .eql (.tmp 43) (.tmp 46), none⟩,
    ⟨(some 42), .mov (.tmp 47), none⟩] [0, 4, 5, 7, 8, 9, 10, 11, 42])
  (.cond (.tmp 42) (.seq (.region [⟨(some 48), .mov (.tmp 4), none⟩,
    ⟨(some 2), .mov (.tmp 48), none⟩,
    ⟨(some 3), .mov (.const (.int .i64 0)), none⟩] [2, 3])
  (.ret)) (.seq (.region [⟨(some 50), .mov (.tmp 8), none⟩,
    ⟨(some 51), .field 0 (.tmp 7), none⟩,
    ⟨(some 52), .field 4 (.tmp 51), none⟩,
    ⟨(some 53), .load none (.tmp 52), none⟩,
    ⟨(some 54), .bin .gtr (.tmp 50) (.tmp 53), none⟩,
    ⟨(some 49), .mov (.tmp 54), none⟩] [0, 4, 5, 9, 10, 11, 49])
  (.cond (.tmp 49) (.region [⟨(some 5), .mov (.const (.int .i64 6)), none⟩] [0, 4, 5, 9, 10, 11]) (.skip)))))))))))))
  (.region [⟨(some 55), .bin .add (.tmp 11) (.const (.int .i64 1)), none⟩,
    ⟨(some 11), .mov (.tmp 55), none⟩] [0, 4, 5, 9, 10, 11])))
def cut_Whole.body : ACode := .seq (.region [⟨(some 2), .mov (.const .nils), none⟩,
    ⟨(some 3), .mov (.const (.int .i64 0)), none⟩] [0])
  (.scope (.seq (.region [⟨(some 4), .mov (.const .nils), none⟩] [0, 4])
  (.seq (.region [⟨(some 5), .mov (.const (.int .i64 13)), none⟩] [0, 4, 5])
  (.seq (.skip)
  (.seq (.seq (.region [⟨(some 9), .mov (.tmp 0), none⟩,
    ⟨(some 10), .len .slice (.tmp 9), none⟩,
    ⟨(some 11), .mov (.const (.int .i64 0)), none⟩] [0, 4, 5, 9, 10, 11])
  (.block 0 (.loop cut_Whole.b1)))
  (.seq (.region [⟨(some 56), .mov (.tmp 5), none⟩,
    ⟨(some 2), .mov (.const .nils), none⟩,
    ⟨(some 3), .mov (.tmp 56), none⟩] [2, 3])
  (.ret)))))))
def cut_Whole : AFun := ⟨57, 1, [.tmp 2, .tmp 3], cut_Whole.body⟩
def cuneiformref01_Same.d0 : List AOper := [⟨(some 17), .mov (.tmp 0), none⟩,
    ⟨(some 18), .mov (.tmp 5), none⟩,
    ⟨(some 19), .idx 1 none (.tmp 17) (.tmp 18), none⟩,
    ⟨(some 20), .load none (.tmp 19), none⟩,
    ⟨(some 21), .mov (.tmp 1), none⟩,
    ⟨(some 22), .mov (.tmp 5), none⟩,
    ⟨(some 23), .idx 1 none (.tmp 21) (.tmp 22), none⟩,
    ⟨(some 24), .load none (.tmp 23), none⟩,
    ⟨(some 25), .bin .neq (.tmp 20) (.tmp 24), none⟩]
def cuneiformref01_Same.d0b : List (List Nat) := [[], [], [0, 1], [0, 1, 2], [], [], [4, 5], [4, 5, 6], [0, 1, 2, 3, 4, 5, 6, 7]]
def cuneiformref01_Same.b1 : ACode := .seq (.seq (.region [⟨(some 11), .mov (.tmp 5), none⟩,
    ⟨(some 12), .mov (.tmp 0), none⟩,
    ⟨(some 13), .len .slice (.tmp 12), none⟩,
    ⟨(some 14), .bin .lss (.tmp 11) (.tmp 13), none⟩] [0, 1, 5, 14])
  (.cond (.tmp 14) (.skip) (.exit 0)))
  (.seq (.block 1 (.seq (.draw cuneiformref01_Same.d0 cuneiformref01_Same.d0b [[0, 1, 2, 3, 4, 5, 6, 7, 8]] [] [0, 1, 5, 25])
  (.cond (.tmp 25) (.seq (.region [⟨(some 4), .mov (.const (.bool false)), none⟩] [4])
  (.ret)) (.skip))))
  (.region [⟨(some 15), .mov (.tmp 5), none⟩,
    ⟨(some 16), .bin .add (.tmp 15) (.const (.int .i64 1)), none⟩,
    ⟨(some 5), .mov (.tmp 16), none⟩] [0, 1, 5]))
def cuneiformref01_Same.body : ACode := .seq (.region [⟨(some 4), .mov (.const (.bool false)), none⟩] [0, 1])
  (.seq (.seq (.region [⟨(some 6), .mov (.tmp 0), none⟩,
    ⟨(some 7), .len .slice (.tmp 6), none⟩,
    ⟨(some 8), .mov (.tmp 1), none⟩,
    ⟨(some 9), .len .slice (.tmp 8), none⟩,
    ⟨(some 10), .bin .neq (.tmp 7) (.tmp 9), none⟩] [0, 1, 10])
  (.cond (.tmp 10) (.seq (.region [⟨(some 4), .mov (.const (.bool false)), none⟩] [4])
  (.ret)) (.skip)))
  (.seq (.seq (.region [⟨(some 5), .mov (.const (.int .i64 0)), none⟩] [0, 1, 5])
  (.block 0 (.loop cuneiformref01_Same.b1)))
  (.seq (.region [⟨(some 4), .mov (.const (.bool true)), none⟩] [4])
  (.ret))))
def cuneiformref01_Same : AFun := ⟨26, 2, [.tmp 4], cuneiformref01_Same.body⟩
def cut_Count.body : ACode := .seq (.region [⟨(some 4), .mov (.const (.int .i64 0)), none⟩] [0, 1])
  (.seq (.block 0 (.seq (.region [⟨(some 6), .mov (.tmp 1), none⟩,
    ⟨(some 7), .bin .lss (.tmp 6) (.const (.int .i64 1)), none⟩,
    ⟨(some 5), .mov (.tmp 7), none⟩] [0, 1, 5])
  (.cond (.tmp 5) (.seq (.region [⟨(some 4), .mov (.const (.int .i64 0)), none⟩] [4])
  (.ret)) (.seq (.region [⟨(some 9), .mov (.tmp 0), none⟩,
    ⟨(some 10), .bin .lss (.tmp 9) (.const (.int .i64 1)), none⟩,
    ⟨(some 8), .mov (.tmp 10), none⟩] [0, 1, 8])
  (.cond (.tmp 8) (.seq (.region [⟨(some 4), .mov (.const (.int .i64 1)), none⟩] [4])
  (.ret)) (.skip))))))
  (.seq (.region [⟨(some 11), .mov (.tmp 0), none⟩,
    ⟨(some 12), .bin .sub (.tmp 11) (.const (.int .i64 1)), none⟩,
    ⟨(some 13), .mov (.tmp 1), none⟩,
    ⟨(some 14), .bin .quo (.tmp 12) (.tmp 13), none⟩,
    ⟨(some 15), .bin .add (.tmp 14) (.const (.int .i64 1)), none⟩,
    ⟨(some 4), .mov (.tmp 15), none⟩] [4])
  (.ret)))
def cut_Count : AFun := ⟨16, 2, [.tmp 4], cut_Count.body⟩
def cuneiformlaw08_Cut.body : ACode := .seq (.region [⟨(some 1), .box T.frame_Frame (.tmp 0), none⟩,
    ⟨(some 2), .alloc T.frame_Frame [(.int .i64 0), (.int .i64 0), (.int .u32 0), (.int .i64 0), (.int .i64 0), .nils], none⟩] [1, 2])
  (.seq (.region [⟨(some 3), .field 5 (.tmp 1), none⟩,
    ⟨(some 4), .load none (.tmp 3), none⟩,
    ⟨(some 5), .field 5 (.tmp 1), none⟩,
    ⟨(some 6), .load none (.tmp 5), none⟩,
    ⟨(some 7), .len .slice (.tmp 6), none⟩,
    ⟨(some 8), .maxmin false (.tmp 7) (.const (.int .i64 250)), none⟩,
    ⟨(some 9), .slice 1 .slice (.tmp 4) none (some (.tmp 8)) none, none⟩,
    ⟨(some 10), .field 5 (.tmp 1), none⟩,
    ⟨none, .store 1 (.tmp 10) (.tmp 9), none⟩] [1, 2])
  (.seq (.region [⟨(some 11), .load (some 6) (.tmp 1), none⟩,
    ⟨none, .store 6 (.tmp 2) (.tmp 11), none⟩] [2])
  (.ret)))
def cuneiformlaw08_Cut : AFun := ⟨12, 1, [.cell 2 (some 6)], cuneiformlaw08_Cut.body⟩
def cuneiformlaw08_Of.body : ACode := .seq (.region [⟨(some 1), .box T.frame_Frame (.tmp 0), none⟩,
    ⟨(some 2), .alloc T.cuneiformref08_F [(.int .i64 0), (.int .i64 0), (.int .u32 0), (.int .i64 0), (.int .i64 0), .nils], none⟩] [1, 2])
  (.seq (.region [⟨(some 3), .field 0 (.tmp 1), none⟩,
    ⟨(some 4), .load (some 5) (.tmp 3), none⟩,
    ⟨(some 5), .field 5 (.tmp 1), none⟩,
    ⟨(some 6), .load none (.tmp 5), none⟩,
    ⟨(some 7), .build [(.int .i64 0), (.int .i64 0), (.int .u32 0), (.int .i64 0), (.int .i64 0), .nils] [(0, 5, (.tmp 4)), (5, 1, (.tmp 6))], none⟩,
    ⟨none, .store 6 (.tmp 2) (.tmp 7), none⟩] [2])
  (.ret))
def cuneiformlaw08_Of : AFun := ⟨8, 1, [.cell 2 (some 6)], cuneiformlaw08_Of.body⟩
def cuneiformref12_Whole.d0 : List AOper := [⟨(some 12), .mov (.tmp 0), none⟩,
    ⟨(some 13), .mov (.tmp 5), none⟩,
    ⟨(some 14), .idx 6 none (.tmp 12) (.tmp 13), none⟩,
    ⟨(some 15), .field 0 (.tmp 14), none⟩,
    ⟨(some 16), .load (some 5) (.tmp 15), none⟩,
    ⟨(some 17), .mov (.tmp 0), none⟩,
    ⟨(some 18), .idx 6 none (.tmp 17) (.const (.int .i64 0)), none⟩,
    ⟨(some 19), .field 0 (.tmp 18), none⟩,
    ⟨(some 20), .load (some 5) (.tmp 19), none⟩,
    ⟨(some 21), .call (.const (.fn F.cuneiformref12_Mates [] [])) [(.tmp 16), (.tmp 20)], none⟩,
    ⟨(some 22), .un .not (.tmp 21), none⟩]
def cuneiformref12_Whole.d0b : List (List Nat) := [[], [], [0, 1], [0, 1, 2], [0, 1, 2, 3], [], [5], [5, 6], [5, 6, 7], [0, 1, 2, 3, 4, 5, 6, 7, 8], [0, 1, 2, 3, 4, 5, 6, 7, 8, 9]]
def cuneiformref12_Whole.b1 : ACode := .seq (.seq (.region [⟨(some 6), .mov (.tmp 5), none⟩,
    ⟨(some 7), .mov (.tmp 0), none⟩,
    ⟨(some 8), .len .slice (.tmp 7), none⟩,
    ⟨(some 9), .bin .lss (.tmp 6) (.tmp 8), none⟩] [0, 4, 5, 9])
  (.cond (.tmp 9) (.skip) (.exit 0)))
  (.seq (.block 1 (.seq (.seq (.draw cuneiformref12_Whole.d0 cuneiformref12_Whole.d0b [[0, 1, 2, 3, 4, 5, 6, 7, 8, 9, 10]] [] [0, 4, 5, 22])
  (.cond (.tmp 22) (.seq (.region [⟨(some 2), .mov (.const .nils), none⟩,
    ⟨(some 3), .mov (.const (.int .i64 17)), none⟩] [2, 3])
  (.ret)) (.skip)))
  (.seq (.seq (.region [⟨(some 23), .mov (.tmp 0), none⟩,
    ⟨(some 24), .mov (.tmp 5), none⟩,
    ⟨(some 25), .idx 6 none (.tmp 23) (.tmp 24), none⟩,
    ⟨(some 26), .field 0 (.tmp 25), none⟩,
    ⟨(some 27), .field 3 (.tmp 26), none⟩,
    ⟨(some 28), .load none (.tmp 27), none⟩,
    ⟨(some 29), .mov (.tmp 5), none⟩,
    ⟨(some 30), .bin .neq (.tmp 28) (.tmp 29), none⟩] [0, 4, 5, 30])
  (.cond (.tmp 30) (.seq (.region [⟨(some 2), .mov (.const .nils), none⟩,
    ⟨(some 3), .mov (.const (.int .i64 3)), none⟩] [2, 3])
  (.ret)) (.skip)))
  (.region [⟨(some 31), .mov (.tmp 4), none⟩,
    ⟨(some 32), .mov (.tmp 0), none⟩,
    ⟨(some 33), .mov (.tmp 5), none⟩,
    ⟨(some 34), .idx 6 none (.tmp 32) (.tmp 33), none⟩,
    ⟨(some 35), .field 5 (.tmp 34), none⟩,
    ⟨(some 36), .load none (.tmp 35), none⟩,
    ⟨(some 37), .append T.uint8 1 1 (.tmp 31) (.tmp 36), none⟩,
    ⟨(some 4), .mov (.tmp 37), none⟩] [0, 4, 5]))))
  (.region [⟨(some 10), .mov (.tmp 5), none⟩,
    ⟨(some 11), .bin .add (.tmp 10) (.const (.int .i64 1)), none⟩,
    ⟨(some 5), .mov (.tmp 11), none⟩] [0, 4, 5]))
def cuneiformref12_Whole.body : ACode := .seq (.region [⟨(some 2), .mov (.const .nils), none⟩,
    ⟨(some 3), .mov (.const (.int .i64 0)), none⟩] [0])
  (.seq (.region [⟨(some 4), .mov (.const .nils), none⟩] [0, 4])
  (.seq (.seq (.region [⟨(some 5), .mov (.const (.int .i64 0)), none⟩] [0, 4, 5])
  (.block 0 (.loop cuneiformref12_Whole.b1)))
  (.seq (.seq (.region [⟨(some 38), .mov (.tmp 0), none⟩,
    ⟨(some 39), .len .slice (.tmp 38), none⟩,
    ⟨(some 40), .bin .eql (.tmp 39) (.const (.int .i64 0)), none⟩,
    ⟨(some 41), .mov (.tmp 40), none⟩,
    ⟨(some 42), .mov (.tmp 0), some (41, false)⟩,
    ⟨(some 43), .len .slice (.tmp 42), some (41, false)⟩,
    ⟨(some 44), .mov (.tmp 0), some (41, false)⟩,
    ⟨(some 45), .idx 6 none (.tmp 44) (.const (.int .i64 0)), some (41, false)⟩,
    ⟨(some 46), .field 0 (.tmp 45), some (41, false)⟩,
    ⟨(some 47), .field 4 (.tmp 46), some (41, false)⟩,
    ⟨(some 48), .load none (.tmp 47), some (41, false)⟩,
    ⟨(some 49), .bin .lss (.tmp 43) (.tmp 48), some (41, false)⟩,
    ⟨(some 50), .pick (.tmp 41) (.const (.bool true)) (.tmp 49), none⟩] [0, 4, 50])
  (.cond (.tmp 50) (.seq (.region [⟨(some 2), .mov (.const .nils), none⟩,
    ⟨(some 3), .mov (.const (.int .i64 13)), none⟩] [2, 3])
  (.ret)) (.skip)))
  (.seq (.seq (.region [⟨(some 51), .mov (.tmp 0), none⟩,
    ⟨(some 52), .len .slice (.tmp 51), none⟩,
    ⟨(some 53), .mov (.tmp 0), none⟩,
    ⟨(some 54), .idx 6 none (.tmp 53) (.const (.int .i64 0)), none⟩,
    ⟨(some 55), .field 0 (.tmp 54), none⟩,
    ⟨(some 56), .field 4 (.tmp 55), none⟩,
    ⟨(some 57), .load none (.tmp 56), none⟩,
    ⟨(some 58), .bin .gtr (.tmp 52) (.tmp 57), none⟩] [4, 58])
  (.cond (.tmp 58) (.seq (.region [⟨(some 2), .mov (.const .nils), none⟩,
    ⟨(some 3), .mov (.const (.int .i64 6)), none⟩] [2, 3])
  (.ret)) (.skip)))
  (.seq (.region [⟨(some 59), .mov (.tmp 4), none⟩,
    ⟨(some 2), .mov (.tmp 59), none⟩,
    ⟨(some 3), .mov (.const (.int .i64 0)), none⟩] [2, 3])
  (.ret))))))
def cuneiformref12_Whole : AFun := ⟨60, 1, [.tmp 2, .tmp 3], cuneiformref12_Whole.body⟩
def head_Check.a0 : ACode := .seq (.region [⟨(some 4), .mov (.tmp 8), none⟩] [3, 4, 9])
  (.region [⟨(some 5), .mov (.tmp 9), none⟩] [3, 4, 5])
def head_Check.b0 : ACode := .block 1 (.seq (.region [⟨(some 10), .mov (.tmp 5), none⟩] [3, 4, 10])
  (.cond (.tmp 10) (.seq (.region [⟨(some 11), .mov (.tmp 4), none⟩,
    ⟨none, .store 1 (.tmp 3) (.tmp 11), none⟩] [])
  (.exit 0)) (.skip)))
def head_Check.body : ACode := .seq (.region [⟨(some 1), .box T.head_Head (.tmp 0), none⟩,
    ⟨(some 2), .mov (.const (.int .i64 0)), none⟩] [1, 2])
  (.scope (.seq (.region [⟨(some 3), .alloc T.api_Errno [(.int .i64 0)], none⟩,
    ⟨none, .store 1 (.tmp 3) (.const (.int .i64 0)), none⟩] [1, 2, 3])
  (.seq (.skip)
  (.seq (.seq (.region [⟨(some 6), .load (some 5) (.tmp 1), none⟩,
    ⟨(some 7), .call (.const (.fn F.head_wrong [] [])) [(.tmp 6)], none⟩] [2, 3, 7])
  (.block 0 (.range (.tmp 7) [8, 9] head_Check.a0 head_Check.b0)))
  (.seq (.region [⟨(some 12), .load none (.tmp 3), none⟩,
    ⟨(some 2), .mov (.tmp 12), none⟩] [2])
  (.ret))))))
def head_Check : AFun := ⟨13, 1, [.tmp 2], head_Check.body⟩
def cut_Parts.body : ACode := .seq (.region [⟨(some 2), .box T.sl_uint8 (.tmp 0), none⟩,
    ⟨(some 3), .box T.int (.tmp 1), none⟩,
    ⟨(some 4), .mov (.const .nilf), none⟩] [2, 3])
  (.seq (.region [⟨(some 5), .mkfn F.cut_Parts_1 [] [(.tmp 2), (.tmp 3)], none⟩,
    ⟨(some 4), .mov (.tmp 5), none⟩] [4])
  (.ret))
def cut_Parts : AFun := ⟨6, 2, [.tmp 4], cut_Parts.body⟩
def cuneiformref12_Parts.b0 : ACode := .seq (.seq (.region [⟨(some 8), .mov (.tmp 7), none⟩,
    ⟨(some 9), .mov (.tmp 0), none⟩,
    ⟨(some 10), .len .slice (.tmp 9), none⟩,
    ⟨(some 11), .bin .lss (.tmp 8) (.tmp 10), none⟩,
    ⟨(some 12), .mov (.tmp 11), none⟩,
    ⟨(some 13), .mov (.tmp 1), some (12, true)⟩,
    ⟨(some 14), .bin .gtr (.tmp 13) (.const (.int .i64 0)), some (12, true)⟩,
    ⟨(some 15), .pick (.tmp 12) (.tmp 14) (.const (.bool false)), none⟩] [0, 1, 5, 6, 7, 15])
  (.cond (.tmp 15) (.skip) (.exit 0)))
  (.seq (.block 1 (.seq (.region [⟨(some 18), .mov (.tmp 6), none⟩,
    ⟨(some 19), .mov (.tmp 0), none⟩,
    ⟨(some 20), .mov (.tmp 7), none⟩,
    ⟨(some 21), .idx 1 none (.tmp 19) (.tmp 20), none⟩,
    ⟨(some 22), .load none (.tmp 21), none⟩,
    ⟨(some 23), .lit T.uint8 1 1 [(.int .u8 0)] [(0, 1, (.tmp 22))], none⟩,
    ⟨(some 24), .append T.uint8 1 1 (.tmp 18) (.tmp 23), none⟩,
    ⟨(some 6), .mov (.tmp 24), none⟩] [0, 1, 5, 6, 7])
  (.seq (.region [⟨(some 25), .mov (.tmp 6), none⟩,
    ⟨(some 26), .len .slice (.tmp 25), none⟩,
    ⟨(some 27), .mov (.tmp 1), none⟩,
    ⟨(some 28), .bin .eql (.tmp 26) (.tmp 27), none⟩,
    ⟨(some 29), .mov (.tmp 28), none⟩,
    ⟨(some 30), .mov (.tmp 7), some (29, false)⟩,
    ⟨(some 31), .mov (.tmp 0), some (29, false)⟩,
    ⟨(some 32), .len .slice (.tmp 31), some (29, false)⟩,
    ⟨(some 33), .bin .sub (.tmp 32) (.const (.int .i64 1)), some (29, false)⟩,
    ⟨(some 34), .bin .eql (.tmp 30) (.tmp 33), some (29, false)⟩,
    ⟨(some 35), .pick (.tmp 29) (.const (.bool true)) (.tmp 34), none⟩] [0, 1, 5, 6, 7, 35])
  (.cond (.tmp 35) (.seq (.region [⟨(some 36), .mov (.tmp 5), none⟩,
    ⟨(some 37), .mov (.tmp 6), none⟩,
    ⟨(some 38), .lit T.sl_uint8 1 1 [.nils] [(0, 1, (.tmp 37))], none⟩,
    ⟨(some 39), .append T.sl_uint8 1 24 (.tmp 36) (.tmp 38), none⟩,
    ⟨(some 5), .mov (.tmp 39), none⟩] [0, 1, 5, 7])
  (.region [⟨(some 6), .mov (.const .nils), none⟩] [0, 1, 5, 6, 7])) (.skip)))))
  (.region [⟨(some 16), .mov (.tmp 7), none⟩,
    ⟨(some 17), .bin .add (.tmp 16) (.const (.int .i64 1)), none⟩,
    ⟨(some 7), .mov (.tmp 17), none⟩] [0, 1, 5, 6, 7]))
def cuneiformref12_Parts.body : ACode := .seq (.region [⟨(some 4), .mov (.const .nils), none⟩] [0, 1])
  (.seq (.region [⟨(some 5), .mov (.const .nils), none⟩] [0, 1, 5])
  (.seq (.region [⟨(some 6), .mov (.const .nils), none⟩] [0, 1, 5, 6])
  (.seq (.seq (.region [⟨(some 7), .mov (.const (.int .i64 0)), none⟩] [0, 1, 5, 6, 7])
  (.block 0 (.loop cuneiformref12_Parts.b0)))
  (.seq (.region [⟨(some 40), .mov (.tmp 5), none⟩,
    ⟨(some 4), .mov (.tmp 40), none⟩] [4])
  (.ret)))))
def cuneiformref12_Parts : AFun := ⟨41, 2, [.tmp 4], cuneiformref12_Parts.body⟩
def cuneiformref07_Check.body : ACode := .seq (.region [⟨(some 1), .box T.cuneiformref07_H (.tmp 0), none⟩,
    ⟨(some 2), .mov (.const (.int .i64 0)), none⟩] [1])
  (.seq (.seq (.region [⟨(some 3), .field 0 (.tmp 1), none⟩,
    ⟨(some 4), .load none (.tmp 3), none⟩,
    ⟨(some 5), .bin .neq (.tmp 4) (.const (.int .i64 1)), none⟩,
    ⟨(some 6), .mov (.tmp 5), none⟩,
    ⟨(some 7), .field 0 (.tmp 1), some (6, true)⟩,
    ⟨(some 8), .load none (.tmp 7), some (6, true)⟩,
    ⟨(some 9), .bin .neq (.tmp 8) (.const (.int .i64 2)), some (6, true)⟩,
    ⟨(some 10), .pick (.tmp 6) (.tmp 9) (.const (.bool false)), none⟩] [1, 10])
  (.cond (.tmp 10) (.seq (.region [⟨(some 2), .mov (.const (.int .i64 10)), none⟩] [2])
  (.ret)) (.skip)))
  (.seq (.seq (.region [⟨(some 11), .field 1 (.tmp 1), none⟩,
    ⟨(some 12), .load none (.tmp 11), none⟩,
    ⟨(some 13), .bin .lss (.tmp 12) (.const (.int .i64 1)), none⟩,
    ⟨(some 14), .mov (.tmp 13), none⟩,
    ⟨(some 15), .field 1 (.tmp 1), some (14, false)⟩,
    ⟨(some 16), .load none (.tmp 15), some (14, false)⟩,
    ⟨(some 17), .bin .gtr (.tmp 16) (.const (.int .i64 5)), some (14, false)⟩,
    ⟨(some 18), .pick (.tmp 14) (.const (.bool true)) (.tmp 17), none⟩] [1, 18])
  (.cond (.tmp 18) (.seq (.region [⟨(some 2), .mov (.const (.int .i64 9)), none⟩] [2])
  (.ret)) (.skip)))
  (.seq (.seq (.region [⟨(some 19), .field 4 (.tmp 1), none⟩,
    ⟨(some 20), .load none (.tmp 19), none⟩,
    ⟨(some 21), .bin .lss (.tmp 20) (.const (.int .i64 1)), none⟩,
    ⟨(some 22), .mov (.tmp 21), none⟩,
    ⟨(some 23), .field 4 (.tmp 1), some (22, false)⟩,
    ⟨(some 24), .load none (.tmp 23), some (22, false)⟩,
    ⟨(some 25), .bin .gtr (.tmp 24) (.const (.int .i64 255)), some (22, false)⟩,
    ⟨(some 26), .pick (.tmp 22) (.const (.bool true)) (.tmp 25), none⟩,
    ⟨(some 27), .mov (.tmp 26), none⟩,
    ⟨(some 28), .field 3 (.tmp 1), some (27, false)⟩,
    ⟨(some 29), .load none (.tmp 28), some (27, false)⟩,
    ⟨(some 30), .bin .lss (.tmp 29) (.const (.int .i64 0)), some (27, false)⟩,
    ⟨(some 31), .pick (.tmp 27) (.const (.bool true)) (.tmp 30), none⟩,
    ⟨(some 32), .mov (.tmp 31), none⟩,
    ⟨(some 33), .field 3 (.tmp 1), some (32, false)⟩,
    ⟨(some 34), .load none (.tmp 33), some (32, false)⟩,
    ⟨(some 35), .field 4 (.tmp 1), some (32, false)⟩,
    ⟨(some 36), .load none (.tmp 35), some (32, false)⟩,
    ⟨(some 37), .bin .geq (.tmp 34) (.tmp 36), some (32, false)⟩,
    ⟨(some 38), .pick (.tmp 32) (.const (.bool true)) (.tmp 37), none⟩] [38])
  (.cond (.tmp 38) (.seq (.region [⟨(some 2), .mov (.const (.int .i64 3)), none⟩] [2])
  (.ret)) (.skip)))
  (.seq (.region [⟨(some 2), .mov (.const (.int .i64 0)), none⟩] [2])
  (.ret)))))
def cuneiformref07_Check : AFun := ⟨39, 1, [.tmp 2], cuneiformref07_Check.body⟩
def cuneiformref08_Same.body : ACode := .seq (.region [⟨(some 2), .box T.cuneiformref08_F (.tmp 0), none⟩,
    ⟨(some 3), .box T.cuneiformref08_F (.tmp 1), none⟩,
    ⟨(some 4), .mov (.const (.bool false)), none⟩] [2, 3])
  (.seq (.region [⟨(some 5), .field 0 (.tmp 2), none⟩,
    ⟨(some 6), .load (some 5) (.tmp 5), none⟩,
    ⟨(some 7), .field 0 (.tmp 3), none⟩,
    ⟨(some 8), .load (some 5) (.tmp 7), none⟩,
    ⟨(some 9), .eq false (.cells [.int, .int, .int, .int, .int]) (.tmp 6) (.tmp 8), none⟩,
    ⟨(some 10), .mov (.tmp 9), none⟩,
    ⟨(some 11), .field 5 (.tmp 2), some (10, true)⟩,
    ⟨(some 12), .load none (.tmp 11), some (10, true)⟩,
    ⟨(some 13), .field 5 (.tmp 3), some (10, true)⟩,
    ⟨(some 14), .load none (.tmp 13), some (10, true)⟩,
    ⟨(some 15), .call (.const (.fn F.cuneiformref01_Same [] [])) [(.tmp 12), (.tmp 14)], some (10, true)⟩,
    ⟨(some 16), .pick (.tmp 10) (.tmp 15) (.const (.bool false)), none⟩,
    ⟨(some 4), .mov (.tmp 16), none⟩] [4])
  (.ret))
def cuneiformref08_Same : AFun := ⟨17, 2, [.tmp 4], cuneiformref08_Same.body⟩
def head_Mates.body : ACode := .seq (.region [⟨(some 2), .box T.head_Head (.tmp 0), none⟩,
    ⟨(some 3), .box T.head_Head (.tmp 1), none⟩,
    ⟨(some 4), .mov (.const (.bool false)), none⟩] [2, 3])
  (.seq (.region [⟨(some 5), .field 3 (.tmp 3), none⟩,
    ⟨(some 6), .load none (.tmp 5), none⟩,
    ⟨(some 7), .field 3 (.tmp 2), none⟩,
    ⟨none, .store 1 (.tmp 7) (.tmp 6), none⟩] [2, 3])
  (.seq (.region [⟨(some 8), .load (some 5) (.tmp 2), none⟩,
    ⟨(some 9), .load (some 5) (.tmp 3), none⟩,
    ⟨(some 10), .eq false (.cells [.int, .int, .int, .int, .int]) (.tmp 8) (.tmp 9), none⟩,
    ⟨(some 4), .mov (.tmp 10), none⟩] [4])
  (.ret)))
def head_Mates : AFun := ⟨11, 2, [.tmp 4], head_Mates.body⟩
def cuneiformref12_Mates.body : ACode := .seq (.region [⟨(some 2), .box T.cuneiformref07_H (.tmp 0), none⟩,
    ⟨(some 3), .box T.cuneiformref07_H (.tmp 1), none⟩,
    ⟨(some 4), .mov (.const (.bool false)), none⟩] [2, 3])
  (.seq (.region [⟨(some 5), .field 0 (.tmp 2), none⟩,
    ⟨(some 6), .load none (.tmp 5), none⟩,
    ⟨(some 7), .field 0 (.tmp 3), none⟩,
    ⟨(some 8), .load none (.tmp 7), none⟩,
    ⟨(some 9), .bin .eql (.tmp 6) (.tmp 8), none⟩,
    ⟨(some 10), .mov (.tmp 9), none⟩,
    ⟨(some 11), .field 1 (.tmp 2), some (10, true)⟩,
    ⟨(some 12), .load none (.tmp 11), some (10, true)⟩,
    ⟨(some 13), .field 1 (.tmp 3), some (10, true)⟩,
    ⟨(some 14), .load none (.tmp 13), some (10, true)⟩,
    ⟨(some 15), .bin .eql (.tmp 12) (.tmp 14), some (10, true)⟩,
    ⟨(some 16), .pick (.tmp 10) (.tmp 15) (.const (.bool false)), none⟩,
    ⟨(some 17), .mov (.tmp 16), none⟩,
    ⟨(some 18), .field 2 (.tmp 2), some (17, true)⟩,
    ⟨(some 19), .load none (.tmp 18), some (17, true)⟩,
    ⟨(some 20), .field 2 (.tmp 3), some (17, true)⟩,
    ⟨(some 21), .load none (.tmp 20), some (17, true)⟩,
    ⟨(some 22), .bin .eql (.tmp 19) (.tmp 21), some (17, true)⟩,
    ⟨(some 23), .pick (.tmp 17) (.tmp 22) (.const (.bool false)), none⟩,
    ⟨(some 24), .mov (.tmp 23), none⟩,
    ⟨(some 25), .field 4 (.tmp 2), some (24, true)⟩,
    ⟨(some 26), .load none (.tmp 25), some (24, true)⟩,
    ⟨(some 27), .field 4 (.tmp 3), some (24, true)⟩,
    ⟨(some 28), .load none (.tmp 27), some (24, true)⟩,
    ⟨(some 29), .bin .eql (.tmp 26) (.tmp 28), some (24, true)⟩,
    ⟨(some 30), .pick (.tmp 24) (.tmp 29) (.const (.bool false)), none⟩,
    ⟨(some 4), .mov (.tmp 30), none⟩] [4])
  (.ret))
def cuneiformref12_Mates : AFun := ⟨31, 2, [.tmp 4], cuneiformref12_Mates.body⟩
def head_wrong.body : ACode := .seq (.region [⟨(some 1), .box T.head_Head (.tmp 0), none⟩,
    ⟨(some 2), .mov (.const .nilf), none⟩] [1])
  (.seq (.region [⟨(some 3), .mkfn F.head_wrong_1 [] [(.tmp 1)], none⟩,
    ⟨(some 2), .mov (.tmp 3), none⟩] [2])
  (.ret))
def head_wrong : AFun := ⟨4, 1, [.tmp 2], head_wrong.body⟩
def cut_Parts_1.b0 : ACode := .seq (.seq (.region [⟨(some 6), .load none (.tmp 1), none⟩,
    ⟨(some 7), .len .slice (.tmp 6), none⟩,
    ⟨(some 8), .bin .gtr (.tmp 7) (.const (.int .i64 0)), none⟩,
    ⟨(some 9), .mov (.tmp 8), none⟩,
    ⟨(some 10), .load none (.tmp 2), some (9, true)⟩,
    ⟨(some 11), .bin .gtr (.tmp 10) (.const (.int .i64 0)), some (9, true)⟩,
    ⟨(some 12), .pick (.tmp 9) (.tmp 11) (.const (.bool false)), none⟩] [0, 1, 2, 4, 12])
  (.cond (.tmp 12) (.skip) (.exit 0)))
  (.seq (.block 1 (.seq (.region [⟨(some 15), .load none (.tmp 2), none⟩,
    ⟨(some 16), .load none (.tmp 1), none⟩,
    ⟨(some 17), .len .slice (.tmp 16), none⟩,
    ⟨(some 18), .maxmin false (.tmp 15) (.tmp 17), none⟩,
    ⟨(some 5), .mov (.tmp 18), none⟩] [0, 1, 2, 4, 5])
  (.seq (.seq (.region [⟨(some 19), .mov (.tmp 0), none⟩,
    ⟨(some 20), .mov (.tmp 4), none⟩,
    ⟨(some 21), .lit T.uint8 1 0 [] [], none⟩,
    ⟨(some 22), .load none (.tmp 1), none⟩,
    ⟨(some 23), .mov (.tmp 5), none⟩,
    ⟨(some 24), .mov (.tmp 5), none⟩,
    ⟨(some 25), .slice 1 .slice (.tmp 22) none (some (.tmp 23)) (some (.tmp 24)), none⟩,
    ⟨(some 26), .append T.uint8 1 1 (.tmp 21) (.tmp 25), none⟩,
    ⟨(some 27), .call (.tmp 19) [(.tmp 20), (.tmp 26)], none⟩,
    ⟨(some 28), .un .not (.tmp 27), none⟩] [0, 1, 2, 4, 5, 28])
  (.cond (.tmp 28) (.ret) (.skip)))
  (.region [⟨(some 29), .load none (.tmp 1), none⟩,
    ⟨(some 30), .mov (.tmp 5), none⟩,
    ⟨(some 31), .slice 1 .slice (.tmp 29) (some (.tmp 30)) none none, none⟩,
    ⟨none, .store 1 (.tmp 1) (.tmp 31), none⟩] [0, 1, 2, 4]))))
  (.region [⟨(some 13), .mov (.tmp 4), none⟩,
    ⟨(some 14), .bin .add (.tmp 13) (.const (.int .i64 1)), none⟩,
    ⟨(some 4), .mov (.tmp 14), none⟩] [0, 1, 2, 4]))
def cut_Parts_1.body : ACode := .seq (.region [⟨(some 4), .mov (.const (.int .i64 0)), none⟩] [0, 1, 2, 4])
  (.block 0 (.loop cut_Parts_1.b0))
def cut_Parts_1 : AFun := ⟨32, 3, [], cut_Parts_1.body⟩
def head_wrong_1.body : ACode := .region [⟨(some 3), .mov (.tmp 0), none⟩,
    ⟨(some 4), .field 0 (.tmp 1), none⟩,
    ⟨(some 5), .load none (.tmp 4), none⟩,
    ⟨(some 6), .bin .lss (.tmp 5) (.const (.int .i64 1)), none⟩,
    ⟨(some 7), .mov (.tmp 6), none⟩,
    ⟨(some 8), .field 0 (.tmp 1), some (7, false)⟩,
    ⟨(some 9), .load none (.tmp 8), some (7, false)⟩,
    ⟨(some 10), .bin .gtr (.tmp 9) (.const (.int .i64 2)), some (7, false)⟩,
    ⟨(some 11), .pick (.tmp 7) (.const (.bool true)) (.tmp 10), none⟩,
    ⟨(some 12), .call (.tmp 3) [(.const (.int .i64 10)), (.tmp 11)], none⟩,
    ⟨(some 13), .mov (.tmp 12), none⟩,
    ⟨(some 14), .mov (.tmp 0), some (13, true)⟩,
    ⟨(some 15), .field 1 (.tmp 1), some (13, true)⟩,
    ⟨(some 16), .load none (.tmp 15), some (13, true)⟩,
    ⟨(some 17), .bin .lss (.tmp 16) (.const (.int .i64 1)), some (13, true)⟩,
    ⟨(some 18), .mov (.tmp 17), some (13, true)⟩,
    ⟨(some 19), .field 1 (.tmp 1), some (18, false)⟩,
    ⟨(some 20), .load none (.tmp 19), some (18, false)⟩,
    ⟨(some 21), .bin .gtr (.tmp 20) (.const (.int .i64 5)), some (18, false)⟩,
    ⟨(some 22), .pick (.tmp 18) (.const (.bool true)) (.tmp 21), some (13, true)⟩,
    ⟨(some 23), .call (.tmp 14) [(.const (.int .i64 9)), (.tmp 22)], some (13, true)⟩,
    ⟨(some 24), .pick (.tmp 13) (.tmp 23) (.const (.bool false)), none⟩,
    ⟨(some 25), .mov (.tmp 24), none⟩,
    ⟨(some 26), .mov (.tmp 0), some (25, true)⟩,
    ⟨(some 27), .field 4 (.tmp 1), some (25, true)⟩,
    ⟨(some 28), .load none (.tmp 27), some (25, true)⟩,
    ⟨(some 29), .bin .lss (.tmp 28) (.const (.int .i64 1)), some (25, true)⟩,
    ⟨(some 30), .mov (.tmp 29), some (25, true)⟩,
    ⟨(some 31), .field 4 (.tmp 1), some (30, false)⟩,
    ⟨(some 32), .load none (.tmp 31), some (30, false)⟩,
    ⟨(some 33), .bin .gtr (.tmp 32) (.const (.int .i64 255)), some (30, false)⟩,
    ⟨(some 34), .pick (.tmp 30) (.const (.bool true)) (.tmp 33), some (25, true)⟩,
    ⟨(some 35), .mov (.tmp 34), some (25, true)⟩,
    ⟨(some 36), .field 3 (.tmp 1), some (35, false)⟩,
    ⟨(some 37), .load none (.tmp 36), some (35, false)⟩,
    ⟨(some 38), .bin .lss (.tmp 37) (.const (.int .i64 0)), some (35, false)⟩,
    ⟨(some 39), .pick (.tmp 35) (.const (.bool true)) (.tmp 38), some (25, true)⟩,
    ⟨(some 40), .mov (.tmp 39), some (25, true)⟩,
    ⟨(some 41), .field 3 (.tmp 1), some (40, false)⟩,
    ⟨(some 42), .load none (.tmp 41), some (40, false)⟩,
    ⟨(some 43), .field 4 (.tmp 1), some (40, false)⟩,
    ⟨(some 44), .load none (.tmp 43), some (40, false)⟩,
    ⟨(some 45), .bin .geq (.tmp 42) (.tmp 44), some (40, false)⟩,
    ⟨(some 46), .pick (.tmp 40) (.const (.bool true)) (.tmp 45), some (25, true)⟩,
    ⟨(some 47), .call (.tmp 26) [(.const (.int .i64 3)), (.tmp 46)], some (25, true)⟩,
    ⟨(some 48), .pick (.tmp 25) (.tmp 47) (.const (.bool false)), none⟩] []
def head_wrong_1 : AFun := ⟨49, 2, [], head_wrong_1.body⟩
theorem cuneiformlaw12_CutFrames_code : okFun Try.prog F.cuneiformlaw12_CutFrames cuneiformlaw12_CutFrames = true := by kernel_rfl
theorem cuneiformlaw12_CutWholes_code : okFun Try.prog F.cuneiformlaw12_CutWholes cuneiformlaw12_CutWholes = true := by kernel_rfl
theorem cuneiformlaw12_CutRooms_code : okFun Try.prog F.cuneiformlaw12_CutRooms cuneiformlaw12_CutRooms = true := by kernel_rfl
theorem cut_Frames_code : okFun Try.prog F.cut_Frames cut_Frames = true := by kernel_rfl
theorem cuneiformref12_Frames_code : okFun Try.prog F.cuneiformref12_Frames cuneiformref12_Frames = true := by kernel_rfl
theorem cuneiformlaw12_Same_code : okFun Try.prog F.cuneiformlaw12_Same cuneiformlaw12_Same = true := by kernel_rfl
theorem cuneiformlaw12_known_code : okFun Try.prog F.cuneiformlaw12_known cuneiformlaw12_known = true := by kernel_rfl
theorem cut_Whole_code : okFun Try.prog F.cut_Whole cut_Whole = true := by kernel_rfl
theorem cuneiformref01_Same_code : okFun Try.prog F.cuneiformref01_Same cuneiformref01_Same = true := by kernel_rfl
theorem cut_Count_code : okFun Try.prog F.cut_Count cut_Count = true := by kernel_rfl
theorem cuneiformlaw08_Cut_code : okFun Try.prog F.cuneiformlaw08_Cut cuneiformlaw08_Cut = true := by kernel_rfl
theorem cuneiformlaw08_Of_code : okFun Try.prog F.cuneiformlaw08_Of cuneiformlaw08_Of = true := by kernel_rfl
theorem cuneiformref12_Whole_code : okFun Try.prog F.cuneiformref12_Whole cuneiformref12_Whole = true := by kernel_rfl
theorem head_Check_code : okFun Try.prog F.head_Check head_Check = true := by kernel_rfl
theorem cut_Parts_code : okFun Try.prog F.cut_Parts cut_Parts = true := by kernel_rfl
theorem cuneiformref12_Parts_code : okFun Try.prog F.cuneiformref12_Parts cuneiformref12_Parts = true := by kernel_rfl
theorem cuneiformref07_Check_code : okFun Try.prog F.cuneiformref07_Check cuneiformref07_Check = true := by kernel_rfl
theorem cuneiformref08_Same_code : okFun Try.prog F.cuneiformref08_Same cuneiformref08_Same = true := by kernel_rfl
theorem head_Mates_code : okFun Try.prog F.head_Mates head_Mates = true := by kernel_rfl
theorem cuneiformref12_Mates_code : okFun Try.prog F.cuneiformref12_Mates cuneiformref12_Mates = true := by kernel_rfl
theorem head_wrong_code : okFun Try.prog F.head_wrong head_wrong = true := by kernel_rfl
theorem cut_Parts_1_code : okFun Try.prog F.cut_Parts_1 cut_Parts_1 = true := by kernel_rfl
theorem head_wrong_1_code : okFun Try.prog F.head_wrong_1 head_wrong_1 = true := by kernel_rfl
def codes : CT := [(F.cuneiformlaw12_CutFrames, cuneiformlaw12_CutFrames), (F.cuneiformlaw12_CutWholes, cuneiformlaw12_CutWholes), (F.cuneiformlaw12_CutRooms, cuneiformlaw12_CutRooms), (F.cut_Frames, cut_Frames), (F.cuneiformref12_Frames, cuneiformref12_Frames), (F.cuneiformlaw12_Same, cuneiformlaw12_Same), (F.cuneiformlaw12_known, cuneiformlaw12_known), (F.cut_Whole, cut_Whole), (F.cuneiformref01_Same, cuneiformref01_Same), (F.cut_Count, cut_Count), (F.cuneiformlaw08_Cut, cuneiformlaw08_Cut), (F.cuneiformlaw08_Of, cuneiformlaw08_Of), (F.cuneiformref12_Whole, cuneiformref12_Whole), (F.head_Check, head_Check), (F.cut_Parts, cut_Parts), (F.cuneiformref12_Parts, cuneiformref12_Parts), (F.cuneiformref07_Check, cuneiformref07_Check), (F.cuneiformref08_Same, cuneiformref08_Same), (F.head_Mates, head_Mates), (F.cuneiformref12_Mates, cuneiformref12_Mates), (F.head_wrong, head_wrong), (F.cut_Parts_1, cut_Parts_1), (F.head_wrong_1, head_wrong_1)]
theorem codes_ok : AllOk Try.prog codes := ⟨cuneiformlaw12_CutFrames_code, cuneiformlaw12_CutWholes_code, cuneiformlaw12_CutRooms_code, cut_Frames_code, cuneiformref12_Frames_code, cuneiformlaw12_Same_code, cuneiformlaw12_known_code, cut_Whole_code, cuneiformref01_Same_code, cut_Count_code, cuneiformlaw08_Cut_code, cuneiformlaw08_Of_code, cuneiformref12_Whole_code, head_Check_code, cut_Parts_code, cuneiformref12_Parts_code, cuneiformref07_Check_code, cuneiformref08_Same_code, head_Mates_code, cuneiformref12_Mates_code, head_wrong_code, cut_Parts_1_code, head_wrong_1_code, trivial⟩
end Go.Proofs.Ytncipoapdpenfaa
