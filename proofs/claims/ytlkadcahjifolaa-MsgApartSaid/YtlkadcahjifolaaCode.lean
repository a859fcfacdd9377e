/-
  The code that the statements of this seat reach, in the form of that machine, and that it is the program's. By an AI agent. No person has read it.
-/
import Derived.Test.YtlkadcahjifolaaProg
import Derived.Test.YtlkadcahjifolaaAm6
import Derived.KernelRfl
set_option linter.unusedSimpArgs false
set_option linter.unusedVariables false

/-
  The code of this seat in the form of the abstract machine, and that it is the program's. Printed by a program (wip/am/gen.py, code.py). By an AI agent.
-/
namespace Go.Proofs.Ytlkadcahjifolaa
open Go Go.Am
namespace F
def cuneiformlaw17_MsgApart : FuncId := 3
def cuneiformlaw17_MsgNumbers : FuncId := 4
def cuneiformlaw17_MsgChecks : FuncId := 5
def cuneiformlaw17_MsgNews : FuncId := 6
def cuneiformlaw17_Cut : FuncId := 7
def cuneiformlaw17_Of : FuncId := 8
def msg_Copy : FuncId := 9
def msg_Project : FuncId := 10
def msg_Set : FuncId := 11
def cuneiformlaw17_known : FuncId := 12
def cuneiformref17_Same : FuncId := 13
def cuneiformref16_All : FuncId := 14
def msg_Numbers : FuncId := 15
def cuneiformref16_Find : FuncId := 16
def msg_Get : FuncId := 17
def msg_Same : FuncId := 18
def msg_Check : FuncId := 19
def cuneiformref17_Check : FuncId := 20
def cuneiformref17_Project : FuncId := 21
def msg_New : FuncId := 22
def cuneiformref17_New : FuncId := 23
def slices_Clone_msg_Point_msg_Point : FuncId := 24
def slices_Clone_int_int : FuncId := 25
def field_Of : FuncId := 26
def msg_without : FuncId := 27
def field_Find : FuncId := 28
def cuneiformref01_Ints : FuncId := 29
def msg_Numbers_1 : FuncId := 30
def slices_Equal_msg_Point_msg_Point : FuncId := 31
def slices_Equal_int_int : FuncId := 32
def msg_wrong : FuncId := 33
def cuneiformref17_path : FuncId := 34
def cuneiformref17_cells : FuncId := 35
def cuneiformref17_text : FuncId := 36
def field_All : FuncId := 37
def field_robot : FuncId := 38
def msg_path : FuncId := 39
def msg_cells : FuncId := 40
def msg_text : FuncId := 41
def field_All_1 : FuncId := 42
def msg_many : FuncId := 43
end F
namespace T
def int : TypeId := 3
def bool : TypeId := 4
def msg_Msg : TypeId := 26
def cuneiformref17_M : TypeId := 30
def msg_Point : TypeId := 36
def sl_cuneiformref16_F : TypeId := 40
def cuneiformref16_F : TypeId := 46
def n2_int : TypeId := 61
def field_Field : TypeId := 66
def n7_bool : TypeId := 74
def n6_bool : TypeId := 75
end T
def cuneiformlaw17_MsgApart.d0 : List AOper := [⟨(some 22), .load (some 11) (.tmp 2), none⟩,
    ⟨(some 23), .call (.const (.fn F.msg_Copy [] [])) [(.tmp 22)], none⟩,
    ⟨(some 24), .load (some 11) (.tmp 2), none⟩,
    ⟨(some 25), .mov (.tmp 1), none⟩,
    ⟨(some 26), .call (.const (.fn F.msg_Project [] [])) [(.tmp 24), (.tmp 25)], none⟩,
    ⟨(some 6), .alloc T.msg_Msg [(.int .i64 0), (.int .i64 0), (.int .i64 0), (.int .i64 0), (.int .i64 0), (.int .i64 0), (.int .i64 0), .nils, .nils, (.str ⟨#[]⟩), (.str ⟨#[]⟩)], none⟩,
    ⟨(some 7), .alloc T.msg_Msg [(.int .i64 0), (.int .i64 0), (.int .i64 0), (.int .i64 0), (.int .i64 0), (.int .i64 0), (.int .i64 0), .nils, .nils, (.str ⟨#[]⟩), (.str ⟨#[]⟩)], none⟩,
    ⟨none, .store 11 (.tmp 6) (.tmp 23), none⟩,
    ⟨none, .store 11 (.tmp 7) (.tmp 26), none⟩]
def cuneiformlaw17_MsgApart.d0b : List (List Nat) := [[], [0], [], [], [0, 1, 2, 3], [], [], [0, 1, 2, 3, 4, 5, 6], [0, 1, 2, 3, 4, 5, 6, 7]]
def cuneiformlaw17_MsgApart.d1 : List AOper := [⟨(some 46), .field 7 (.tmp 6), none⟩,
    ⟨(some 47), .load none (.tmp 46), none⟩,
    ⟨(some 48), .mov (.tmp 10), none⟩,
    ⟨(some 49), .field 7 (.tmp 7), none⟩,
    ⟨(some 50), .load none (.tmp 49), none⟩,
    ⟨(some 51), .mov (.tmp 10), none⟩,
    ⟨(some 52), .field 7 (.tmp 8), none⟩,
    ⟨(some 53), .load none (.tmp 52), none⟩,
    ⟨(some 54), .mov (.tmp 10), none⟩,
    ⟨(some 55), .idx 2 none (.tmp 47) (.tmp 48), none⟩,
    ⟨(some 56), .field 0 (.tmp 55), none⟩,
    ⟨none, .store 1 (.tmp 56) (.const (.int .i64 5)), none⟩,
    ⟨(some 57), .idx 2 none (.tmp 50) (.tmp 51), none⟩,
    ⟨(some 58), .field 1 (.tmp 57), none⟩,
    ⟨none, .store 1 (.tmp 58) (.const (.int .i64 6)), none⟩,
    ⟨(some 59), .idx 2 none (.tmp 53) (.tmp 54), none⟩,
    ⟨(some 60), .field 0 (.tmp 59), none⟩,
    ⟨none, .store 1 (.tmp 60) (.const (.int .i64 7)), none⟩]
def cuneiformlaw17_MsgApart.d1b : List (List Nat) := [[], [0], [], [], [3], [], [], [6], [], [0, 1, 2], [0, 1, 2, 9], [0, 1, 2, 9, 10], [0, 1, 2, 3, 4, 5, 9, 10, 11], [0, 1, 2, 3, 4, 5, 9, 10, 11, 12], [0, 1, 2, 3, 4, 5, 9, 10, 11, 12, 13], [0, 1, 2, 3, 4, 5, 6, 7, 8, 9, 10, 11, 12, 13, 14], [0, 1, 2, 3, 4, 5, 6, 7, 8, 9, 10, 11, 12, 13, 14, 15], [0, 1, 2, 3, 4, 5, 6, 7, 8, 9, 10, 11, 12, 13, 14, 15, 16]]
def cuneiformlaw17_MsgApart.b2 : ACode := .seq (.seq (.region [⟨(some 32), .mov (.tmp 10), none⟩,
    ⟨(some 33), .field 7 (.tmp 6), none⟩,
    ⟨(some 34), .load none (.tmp 33), none⟩,
    ⟨(some 35), .len .slice (.tmp 34), none⟩,
    ⟨(some 36), .field 7 (.tmp 7), none⟩,
    ⟨(some 37), .load none (.tmp 36), none⟩,
    ⟨(some 38), .len .slice (.tmp 37), none⟩,
    ⟨(some 39), .field 7 (.tmp 8), none⟩,
    ⟨(some 40), .load none (.tmp 39), none⟩,
    ⟨(some 41), .len .slice (.tmp 40), none⟩,
    ⟨(some 42), .minN [(.tmp 35), (.tmp 38), (.tmp 41)], none⟩,
    ⟨(some 43), .bin .lss (.tmp 32) (.tmp 42), none⟩] [2, 5, 6, 7, 8, 10, 43])
  (.cond (.tmp 43) (.skip) (.exit 0)))
  (.seq (.block 1 (.draw cuneiformlaw17_MsgApart.d1 cuneiformlaw17_MsgApart.d1b [[0, 1, 2, 3, 4, 5, 6, 7, 8, 9, 10, 11, 12, 13, 14, 15, 16, 17]] [(11, 4), (11, 7), (14, 7)] [2, 5, 6, 7, 8, 10]))
  (.region [⟨(some 44), .mov (.tmp 10), none⟩,
    ⟨(some 45), .bin .add (.tmp 44) (.const (.int .i64 1)), none⟩,
    ⟨(some 10), .mov (.tmp 45), none⟩] [2, 5, 6, 7, 8, 10]))
def cuneiformlaw17_MsgApart.d3 : List AOper := [⟨(some 75), .field 8 (.tmp 6), none⟩,
    ⟨(some 76), .load none (.tmp 75), none⟩,
    ⟨(some 77), .mov (.tmp 11), none⟩,
    ⟨(some 78), .field 8 (.tmp 7), none⟩,
    ⟨(some 79), .load none (.tmp 78), none⟩,
    ⟨(some 80), .mov (.tmp 11), none⟩,
    ⟨(some 81), .field 8 (.tmp 8), none⟩,
    ⟨(some 82), .load none (.tmp 81), none⟩,
    ⟨(some 83), .mov (.tmp 11), none⟩,
    ⟨(some 84), .idx 1 none (.tmp 76) (.tmp 77), none⟩,
    ⟨none, .store 1 (.tmp 84) (.const (.int .i64 5)), none⟩,
    ⟨(some 85), .idx 1 none (.tmp 79) (.tmp 80), none⟩,
    ⟨none, .store 1 (.tmp 85) (.const (.int .i64 6)), none⟩,
    ⟨(some 86), .idx 1 none (.tmp 82) (.tmp 83), none⟩,
    ⟨none, .store 1 (.tmp 86) (.const (.int .i64 7)), none⟩]
def cuneiformlaw17_MsgApart.d3b : List (List Nat) := [[], [0], [], [], [3], [], [], [6], [], [0, 1, 2], [0, 1, 2, 9], [0, 1, 2, 3, 4, 5, 9, 10], [0, 1, 2, 3, 4, 5, 9, 10, 11], [0, 1, 2, 3, 4, 5, 6, 7, 8, 9, 10, 11, 12], [0, 1, 2, 3, 4, 5, 6, 7, 8, 9, 10, 11, 12, 13]]
def cuneiformlaw17_MsgApart.b4 : ACode := .seq (.seq (.region [⟨(some 61), .mov (.tmp 11), none⟩,
    ⟨(some 62), .field 8 (.tmp 6), none⟩,
    ⟨(some 63), .load none (.tmp 62), none⟩,
    ⟨(some 64), .len .slice (.tmp 63), none⟩,
    ⟨(some 65), .field 8 (.tmp 7), none⟩,
    ⟨(some 66), .load none (.tmp 65), none⟩,
    ⟨(some 67), .len .slice (.tmp 66), none⟩,
    ⟨(some 68), .field 8 (.tmp 8), none⟩,
    ⟨(some 69), .load none (.tmp 68), none⟩,
    ⟨(some 70), .len .slice (.tmp 69), none⟩,
    ⟨(some 71), .minN [(.tmp 64), (.tmp 67), (.tmp 70)], none⟩,
    ⟨(some 72), .bin .lss (.tmp 61) (.tmp 71), none⟩] [2, 5, 6, 7, 8, 11, 72])
  (.cond (.tmp 72) (.skip) (.exit 2)))
  (.seq (.block 3 (.draw cuneiformlaw17_MsgApart.d3 cuneiformlaw17_MsgApart.d3b [[0, 1, 2, 3, 4, 5, 6, 7, 8, 9, 10, 11, 12, 13, 14]] [(10, 4), (10, 7), (12, 7)] [2, 5, 6, 7, 8, 11]))
  (.region [⟨(some 73), .mov (.tmp 11), none⟩,
    ⟨(some 74), .bin .add (.tmp 73) (.const (.int .i64 1)), none⟩,
    ⟨(some 11), .mov (.tmp 74), none⟩] [2, 5, 6, 7, 8, 11]))
def cuneiformlaw17_MsgApart.d5 : List AOper := [⟨(some 87), .call (.const (.fn F.cuneiformlaw17_known [] [])) [], none⟩,
    ⟨(some 88), .mov (.tmp 87), none⟩,
    ⟨(some 89), .load (some 11) (.tmp 2), some (88, true)⟩,
    ⟨(some 90), .call (.const (.fn F.cuneiformlaw17_Of [] [])) [(.tmp 89)], some (88, true)⟩,
    ⟨(some 91), .load (some 11) (.tmp 5), some (88, true)⟩,
    ⟨(some 92), .call (.const (.fn F.cuneiformref17_Same [] [])) [(.tmp 90), (.tmp 91)], some (88, true)⟩,
    ⟨(some 93), .pick (.tmp 88) (.tmp 92) (.const (.bool false)), none⟩,
    ⟨(some 4), .mov (.tmp 93), none⟩]
def cuneiformlaw17_MsgApart.d5b : List (List Nat) := [[], [0], [0, 1], [0, 1, 2], [0, 1], [0, 1, 2, 3, 4], [0, 1, 2, 3, 4, 5], [0, 1, 2, 3, 4, 5, 6]]
def cuneiformlaw17_MsgApart.body : ACode := .seq (.region [⟨(some 2), .box T.msg_Msg (.tmp 0), none⟩,
    ⟨(some 4), .mov (.const (.bool false)), none⟩] [1, 2])
  (.seq (.region [⟨(some 12), .load (some 11) (.tmp 2), none⟩,
    ⟨(some 13), .call (.const (.fn F.cuneiformlaw17_Cut [] [])) [(.tmp 12)], none⟩,
    ⟨none, .store 11 (.tmp 2) (.tmp 13), none⟩] [1, 2])
  (.seq (.region [⟨(some 14), .load (some 11) (.tmp 2), none⟩,
    ⟨(some 15), .call (.const (.fn F.msg_Copy [] [])) [(.tmp 14)], none⟩,
    ⟨(some 16), .call (.const (.fn F.cuneiformlaw17_Of [] [])) [(.tmp 15)], none⟩,
    ⟨(some 5), .alloc T.cuneiformref17_M [(.int .i64 0), (.int .i64 0), (.int .i64 0), (.int .i64 0), (.int .i64 0), (.int .i64 0), (.int .i64 0), .nils, .nils, (.str ⟨#[]⟩), (.str ⟨#[]⟩)], none⟩,
    ⟨none, .store 11 (.tmp 5) (.tmp 16), none⟩] [1, 2, 5])
  (.seq (.region [⟨(some 17), .lit T.int 1 0 [] [], none⟩,
    ⟨(some 18), .field 8 (.tmp 5), none⟩,
    ⟨(some 19), .load none (.tmp 18), none⟩,
    ⟨(some 20), .append T.int 1 8 (.tmp 17) (.tmp 19), none⟩,
    ⟨(some 21), .field 8 (.tmp 5), none⟩,
    ⟨none, .store 1 (.tmp 21) (.tmp 20), none⟩] [1, 2, 5])
  (.seq (.draw cuneiformlaw17_MsgApart.d0 cuneiformlaw17_MsgApart.d0b [[0, 2, 3, 1, 4, 5, 6, 7, 8], [0, 2, 3, 1, 4, 6, 5, 7, 8], [0, 2, 3, 1, 5, 4, 6, 7, 8], [0, 2, 3, 1, 5, 6, 4, 7, 8], [0, 2, 3, 1, 6, 4, 5, 7, 8], [0, 2, 3, 1, 6, 5, 4, 7, 8], [0, 2, 3, 5, 1, 4, 6, 7, 8], [0, 2, 3, 5, 1, 6, 4, 7, 8], [0, 2, 3, 5, 6, 1, 4, 7, 8], [0, 2, 3, 6, 1, 4, 5, 7, 8], [0, 2, 3, 6, 1, 5, 4, 7, 8], [0, 2, 3, 6, 5, 1, 4, 7, 8]] [(1, 2), (5, 0), (5, 2), (6, 0), (6, 2)] [2, 5, 6, 7])
  (.seq (.region [⟨(some 28), .load (some 11) (.tmp 2), none⟩,
    ⟨(some 29), .call (.const (.fn F.msg_Set [] [])) [(.tmp 28), (.const (.str ⟨#[114, 111, 98, 111, 116]⟩)), (.const (.int .i64 3))], none⟩,
    ⟨(some 27), .mov (.tmp 29), none⟩,
    ⟨(some 30), .extract (.tmp 27) 0, none⟩,
    ⟨(some 31), .extract (.tmp 27) 1, none⟩,
    ⟨(some 8), .alloc T.msg_Msg [(.int .i64 0), (.int .i64 0), (.int .i64 0), (.int .i64 0), (.int .i64 0), (.int .i64 0), (.int .i64 0), .nils, .nils, (.str ⟨#[]⟩), (.str ⟨#[]⟩)], none⟩,
    ⟨none, .store 11 (.tmp 8) (.tmp 30), none⟩,
    ⟨(some 9), .mov (.tmp 31), none⟩] [2, 5, 6, 7, 8])
  (.seq (.seq (.region [⟨(some 10), .mov (.const (.int .i64 0)), none⟩] [2, 5, 6, 7, 8, 10])
  (.block 0 (.loop cuneiformlaw17_MsgApart.b2)))
  (.seq (.seq (.region [⟨(some 11), .mov (.const (.int .i64 0)), none⟩] [2, 5, 6, 7, 8, 11])
  (.block 2 (.loop cuneiformlaw17_MsgApart.b4)))
  (.seq (.draw cuneiformlaw17_MsgApart.d5 cuneiformlaw17_MsgApart.d5b [[0, 1, 2, 4, 3, 5, 6, 7]] [(3, 4)] [4])
  (.ret)))))))))
def cuneiformlaw17_MsgApart : AFun := ⟨94, 2, [.tmp 4], cuneiformlaw17_MsgApart.body⟩
def cuneiformlaw17_MsgNumbers.b0 : ACode := .seq (.seq (.region [⟨(some 39), .load none (.tmp 11), none⟩,
    ⟨(some 40), .load none (.tmp 10), none⟩,
    ⟨(some 41), .len .slice (.tmp 40), none⟩,
    ⟨(some 42), .bin .lss (.tmp 39) (.tmp 41), none⟩,
    ⟨(some 43), .mov (.tmp 42), none⟩,
    ⟨(some 44), .load none (.tmp 10), some (43, true)⟩,
    ⟨(some 45), .load none (.tmp 11), some (43, true)⟩,
    ⟨(some 46), .idx 7 none (.tmp 44) (.tmp 45), some (43, true)⟩,
    ⟨(some 47), .field 2 (.tmp 46), some (43, true)⟩,
    ⟨(some 48), .load none (.tmp 47), some (43, true)⟩,
    ⟨(some 49), .bin .lss (.tmp 48) (.const (.int .i64 0)), some (43, true)⟩,
    ⟨(some 50), .pick (.tmp 43) (.tmp 49) (.const (.bool false)), none⟩] [4, 10, 11, 12, 14, 15, 50])
  (.cond (.tmp 50) (.skip) (.exit 2)))
  (.block 3 (.region [⟨(some 51), .load none (.tmp 11), none⟩,
    ⟨(some 52), .bin .add (.tmp 51) (.const (.int .i64 1)), none⟩,
    ⟨none, .store 1 (.tmp 11) (.tmp 52), none⟩] [4, 10, 11, 12, 14, 15]))
def cuneiformlaw17_MsgNumbers.a1 : ACode := .seq (.region [⟨(some 14), .mov (.tmp 37), none⟩] [4, 10, 11, 12, 14, 38])
  (.region [⟨(some 15), .mov (.tmp 38), none⟩] [4, 10, 11, 12, 14, 15])
def cuneiformlaw17_MsgNumbers.b1 : ACode := .block 1 (.seq (.block 2 (.loop cuneiformlaw17_MsgNumbers.b0))
  (.seq (.region [⟨(some 53), .load none (.tmp 12), none⟩,
    ⟨(some 54), .mov (.tmp 53), none⟩,
    ⟨(some 55), .load none (.tmp 11), some (54, true)⟩,
    ⟨(some 56), .load none (.tmp 10), some (54, true)⟩,
    ⟨(some 57), .len .slice (.tmp 56), some (54, true)⟩,
    ⟨(some 58), .bin .lss (.tmp 55) (.tmp 57), some (54, true)⟩,
    ⟨(some 59), .pick (.tmp 54) (.tmp 58) (.const (.bool false)), none⟩,
    ⟨(some 60), .mov (.tmp 59), none⟩,
    ⟨(some 61), .mov (.tmp 14), some (60, true)⟩,
    ⟨(some 62), .load none (.tmp 10), some (60, true)⟩,
    ⟨(some 63), .load none (.tmp 11), some (60, true)⟩,
    ⟨(some 64), .idx 7 none (.tmp 62) (.tmp 63), some (60, true)⟩,
    ⟨(some 65), .field 0 (.tmp 64), some (60, true)⟩,
    ⟨(some 66), .load none (.tmp 65), some (60, true)⟩,
    ⟨(some 67), .bin .eql (.tmp 61) (.tmp 66), some (60, true)⟩,
    ⟨(some 68), .pick (.tmp 60) (.tmp 67) (.const (.bool false)), none⟩,
    ⟨(some 69), .mov (.tmp 68), none⟩,
    ⟨(some 70), .mov (.tmp 15), some (69, true)⟩,
    ⟨(some 71), .load none (.tmp 10), some (69, true)⟩,
    ⟨(some 72), .load none (.tmp 11), some (69, true)⟩,
    ⟨(some 73), .idx 7 none (.tmp 71) (.tmp 72), some (69, true)⟩,
    ⟨(some 74), .field 2 (.tmp 73), some (69, true)⟩,
    ⟨(some 75), .load none (.tmp 74), some (69, true)⟩,
    ⟨(some 76), .field 1 (.tmp 4), some (69, true)⟩,
    ⟨(some 77), .idx 1 (some 6) (.tmp 76) (.tmp 75), some (69, true)⟩,
    ⟨(some 78), .load none (.tmp 77), some (69, true)⟩,
    ⟨(some 79), .bin .eql (.tmp 70) (.tmp 78), some (69, true)⟩,
    ⟨(some 80), .pick (.tmp 69) (.tmp 79) (.const (.bool false)), none⟩,
    ⟨none, .store 1 (.tmp 12) (.tmp 80), none⟩] [11])
  (.region [⟨(some 81), .load none (.tmp 11), none⟩,
    ⟨(some 82), .bin .add (.tmp 81) (.const (.int .i64 1)), none⟩,
    ⟨none, .store 1 (.tmp 11) (.tmp 82), none⟩] [])))
def cuneiformlaw17_MsgNumbers.b2 : ACode := .seq (.seq (.region [⟨(some 83), .load none (.tmp 11), none⟩,
    ⟨(some 84), .load none (.tmp 10), none⟩,
    ⟨(some 85), .len .slice (.tmp 84), none⟩,
    ⟨(some 86), .bin .lss (.tmp 83) (.tmp 85), none⟩] [1, 2, 4, 7, 8, 9, 10, 11, 12, 86])
  (.cond (.tmp 86) (.skip) (.exit 4)))
  (.block 5 (.seq (.region [⟨(some 87), .load none (.tmp 12), none⟩,
    ⟨(some 88), .mov (.tmp 87), none⟩,
    ⟨(some 89), .load none (.tmp 10), some (88, true)⟩,
    ⟨(some 90), .load none (.tmp 11), some (88, true)⟩,
    ⟨(some 91), .idx 7 none (.tmp 89) (.tmp 90), some (88, true)⟩,
    ⟨(some 92), .field 2 (.tmp 91), some (88, true)⟩,
    ⟨(some 93), .load none (.tmp 92), some (88, true)⟩,
    ⟨(some 94), .bin .lss (.tmp 93) (.const (.int .i64 0)), some (88, true)⟩,
    ⟨(some 95), .pick (.tmp 88) (.tmp 94) (.const (.bool false)), none⟩,
    ⟨none, .store 1 (.tmp 12) (.tmp 95), none⟩] [1, 2, 4, 7, 8, 9, 10, 11, 12])
  (.region [⟨(some 96), .load none (.tmp 11), none⟩,
    ⟨(some 97), .bin .add (.tmp 96) (.const (.int .i64 1)), none⟩,
    ⟨none, .store 1 (.tmp 11) (.tmp 97), none⟩] [1, 2, 4, 7, 8, 9, 10, 11, 12])))
def cuneiformlaw17_MsgNumbers.a3 : ACode := .skip
def cuneiformlaw17_MsgNumbers.b3 : ACode := .block 7 (.seq (.seq (.region [⟨(some 105), .load none (.tmp 16), none⟩,
    ⟨(some 106), .load none (.tmp 7), none⟩,
    ⟨(some 107), .bin .eql (.tmp 105) (.tmp 106), none⟩] [16, 107])
  (.cond (.tmp 107) (.exit 6) (.skip)))
  (.region [⟨(some 108), .load none (.tmp 16), none⟩,
    ⟨(some 109), .bin .add (.tmp 108) (.const (.int .i64 1)), none⟩,
    ⟨none, .store 1 (.tmp 16) (.tmp 109), none⟩] []))
def cuneiformlaw17_MsgNumbers.d4 : List AOper := [⟨(some 160), .call (.const (.fn F.cuneiformlaw17_known [] [])) [], none⟩,
    ⟨(some 161), .mov (.tmp 160), none⟩,
    ⟨(some 162), .load none (.tmp 12), some (161, true)⟩,
    ⟨(some 163), .pick (.tmp 161) (.tmp 162) (.const (.bool false)), none⟩,
    ⟨(some 164), .mov (.tmp 163), none⟩,
    ⟨(some 165), .mov (.tmp 21), some (164, true)⟩,
    ⟨(some 166), .mov (.tmp 19), some (164, true)⟩,
    ⟨(some 167), .eq false .bool (.tmp 165) (.tmp 166), some (164, true)⟩,
    ⟨(some 168), .pick (.tmp 164) (.tmp 167) (.const (.bool false)), none⟩,
    ⟨(some 169), .mov (.tmp 168), none⟩,
    ⟨(some 170), .mov (.tmp 23), some (169, true)⟩,
    ⟨(some 171), .mov (.tmp 19), some (169, true)⟩,
    ⟨(some 172), .eq false .bool (.tmp 170) (.tmp 171), some (169, true)⟩,
    ⟨(some 173), .pick (.tmp 169) (.tmp 172) (.const (.bool false)), none⟩,
    ⟨(some 174), .mov (.tmp 173), none⟩,
    ⟨(some 175), .mov (.tmp 19), some (174, true)⟩,
    ⟨(some 176), .mov (.tmp 175), some (174, true)⟩,
    ⟨(some 177), .mov (.tmp 20), some (176, false)⟩,
    ⟨(some 178), .bin .eql (.tmp 177) (.const (.int .i64 0)), some (176, false)⟩,
    ⟨(some 179), .pick (.tmp 176) (.const (.bool true)) (.tmp 178), some (174, true)⟩,
    ⟨(some 180), .pick (.tmp 174) (.tmp 179) (.const (.bool false)), none⟩,
    ⟨(some 181), .mov (.tmp 180), none⟩,
    ⟨(some 182), .load (some 11) (.tmp 22), some (181, true)⟩,
    ⟨(some 183), .call (.const (.fn F.cuneiformlaw17_Of [] [])) [(.tmp 182)], some (181, true)⟩,
    ⟨(some 184), .load (some 11) (.tmp 24), some (181, true)⟩,
    ⟨(some 185), .call (.const (.fn F.cuneiformref17_Same [] [])) [(.tmp 183), (.tmp 184)], some (181, true)⟩,
    ⟨(some 186), .pick (.tmp 181) (.tmp 185) (.const (.bool false)), none⟩,
    ⟨(some 187), .mov (.tmp 186), none⟩,
    ⟨(some 188), .load (some 11) (.tmp 4), some (187, true)⟩,
    ⟨(some 189), .load (some 11) (.tmp 9), some (187, true)⟩,
    ⟨(some 190), .call (.const (.fn F.msg_Same [] [])) [(.tmp 188), (.tmp 189)], some (187, true)⟩,
    ⟨(some 191), .pick (.tmp 187) (.tmp 190) (.const (.bool false)), none⟩,
    ⟨(some 192), .mov (.tmp 191), none⟩,
    ⟨(some 193), .load none (.tmp 7), some (192, true)⟩,
    ⟨(some 194), .bin .lss (.tmp 193) (.const (.int .i64 0)), some (192, true)⟩,
    ⟨(some 195), .mov (.tmp 194), some (192, true)⟩,
    ⟨(some 196), .load none (.tmp 16), some (195, false)⟩,
    ⟨(some 197), .load none (.tmp 7), some (195, false)⟩,
    ⟨(some 198), .bin .leq (.tmp 196) (.tmp 197), some (195, false)⟩,
    ⟨(some 199), .pick (.tmp 195) (.const (.bool true)) (.tmp 198), some (192, true)⟩,
    ⟨(some 200), .pick (.tmp 192) (.tmp 199) (.const (.bool false)), none⟩,
    ⟨(some 8), .mov (.tmp 200), none⟩]
def cuneiformlaw17_MsgNumbers.d4b : List (List Nat) := [[], [0], [0, 1], [0, 1, 2], [0, 1, 2, 3], [0, 1, 2, 3, 4], [0, 1, 2, 3, 4], [0, 1, 2, 3, 4, 5, 6], [0, 1, 2, 3, 4, 5, 6, 7], [0, 1, 2, 3, 4, 5, 6, 7, 8], [0, 1, 2, 3, 4, 5, 6, 7, 8, 9], [0, 1, 2, 3, 4, 5, 6, 7, 8, 9], [0, 1, 2, 3, 4, 5, 6, 7, 8, 9, 10, 11], [0, 1, 2, 3, 4, 5, 6, 7, 8, 9, 10, 11, 12], [0, 1, 2, 3, 4, 5, 6, 7, 8, 9, 10, 11, 12, 13], [0, 1, 2, 3, 4, 5, 6, 7, 8, 9, 10, 11, 12, 13, 14], [0, 1, 2, 3, 4, 5, 6, 7, 8, 9, 10, 11, 12, 13, 14, 15], [0, 1, 2, 3, 4, 5, 6, 7, 8, 9, 10, 11, 12, 13, 14, 15, 16], [0, 1, 2, 3, 4, 5, 6, 7, 8, 9, 10, 11, 12, 13, 14, 15, 16, 17], [0, 1, 2, 3, 4, 5, 6, 7, 8, 9, 10, 11, 12, 13, 14, 15, 16, 17, 18], [0, 1, 2, 3, 4, 5, 6, 7, 8, 9, 10, 11, 12, 13, 14, 15, 16, 17, 18, 19], [0, 1, 2, 3, 4, 5, 6, 7, 8, 9, 10, 11, 12, 13, 14, 15, 16, 17, 18, 19, 20], [0, 1, 2, 3, 4, 5, 6, 7, 8, 9, 10, 11, 12, 13, 14, 15, 16, 17, 18, 19, 20, 21], [0, 1, 2, 3, 4, 5, 6, 7, 8, 9, 10, 11, 12, 13, 14, 15, 16, 17, 18, 19, 20, 21, 22], [0, 1, 2, 3, 4, 5, 6, 7, 8, 9, 10, 11, 12, 13, 14, 15, 16, 17, 18, 19, 20, 21], [0, 1, 2, 3, 4, 5, 6, 7, 8, 9, 10, 11, 12, 13, 14, 15, 16, 17, 18, 19, 20, 21, 22, 23, 24], [0, 1, 2, 3, 4, 5, 6, 7, 8, 9, 10, 11, 12, 13, 14, 15, 16, 17, 18, 19, 20, 21, 22, 23, 24, 25], [0, 1, 2, 3, 4, 5, 6, 7, 8, 9, 10, 11, 12, 13, 14, 15, 16, 17, 18, 19, 20, 21, 22, 23, 24, 25, 26], [0, 1, 2, 3, 4, 5, 6, 7, 8, 9, 10, 11, 12, 13, 14, 15, 16, 17, 18, 19, 20, 21, 22, 23, 24, 25, 26, 27], [0, 1, 2, 3, 4, 5, 6, 7, 8, 9, 10, 11, 12, 13, 14, 15, 16, 17, 18, 19, 20, 21, 22, 23, 24, 25, 26, 27], [0, 1, 2, 3, 4, 5, 6, 7, 8, 9, 10, 11, 12, 13, 14, 15, 16, 17, 18, 19, 20, 21, 22, 23, 24, 25, 26, 27, 28, 29], [0, 1, 2, 3, 4, 5, 6, 7, 8, 9, 10, 11, 12, 13, 14, 15, 16, 17, 18, 19, 20, 21, 22, 23, 24, 25, 26, 27, 28, 29, 30], [0, 1, 2, 3, 4, 5, 6, 7, 8, 9, 10, 11, 12, 13, 14, 15, 16, 17, 18, 19, 20, 21, 22, 23, 24, 25, 26, 27, 28, 29, 30, 31], [0, 1, 2, 3, 4, 5, 6, 7, 8, 9, 10, 11, 12, 13, 14, 15, 16, 17, 18, 19, 20, 21, 22, 23, 24, 25, 26, 27, 28, 29, 30, 31, 32], [0, 1, 2, 3, 4, 5, 6, 7, 8, 9, 10, 11, 12, 13, 14, 15, 16, 17, 18, 19, 20, 21, 22, 23, 24, 25, 26, 27, 28, 29, 30, 31, 32, 33], [0, 1, 2, 3, 4, 5, 6, 7, 8, 9, 10, 11, 12, 13, 14, 15, 16, 17, 18, 19, 20, 21, 22, 23, 24, 25, 26, 27, 28, 29, 30, 31, 32, 33, 34], [0, 1, 2, 3, 4, 5, 6, 7, 8, 9, 10, 11, 12, 13, 14, 15, 16, 17, 18, 19, 20, 21, 22, 23, 24, 25, 26, 27, 28, 29, 30, 31, 32, 33, 34, 35], [0, 1, 2, 3, 4, 5, 6, 7, 8, 9, 10, 11, 12, 13, 14, 15, 16, 17, 18, 19, 20, 21, 22, 23, 24, 25, 26, 27, 28, 29, 30, 31, 32, 33, 34, 35], [0, 1, 2, 3, 4, 5, 6, 7, 8, 9, 10, 11, 12, 13, 14, 15, 16, 17, 18, 19, 20, 21, 22, 23, 24, 25, 26, 27, 28, 29, 30, 31, 32, 33, 34, 35, 36, 37], [0, 1, 2, 3, 4, 5, 6, 7, 8, 9, 10, 11, 12, 13, 14, 15, 16, 17, 18, 19, 20, 21, 22, 23, 24, 25, 26, 27, 28, 29, 30, 31, 32, 33, 34, 35, 36, 37, 38], [0, 1, 2, 3, 4, 5, 6, 7, 8, 9, 10, 11, 12, 13, 14, 15, 16, 17, 18, 19, 20, 21, 22, 23, 24, 25, 26, 27, 28, 29, 30, 31, 32, 33, 34, 35, 36, 37, 38, 39], [0, 1, 2, 3, 4, 5, 6, 7, 8, 9, 10, 11, 12, 13, 14, 15, 16, 17, 18, 19, 20, 21, 22, 23, 24, 25, 26, 27, 28, 29, 30, 31, 32, 33, 34, 35, 36, 37, 38, 39, 40]]
def cuneiformlaw17_MsgNumbers.body : ACode := .seq (.region [⟨(some 4), .box T.msg_Msg (.tmp 0), none⟩,
    ⟨(some 7), .box T.int (.tmp 3), none⟩,
    ⟨(some 8), .mov (.const (.bool false)), none⟩] [1, 2, 4, 7, 8])
  (.seq (.region [⟨(some 25), .load (some 11) (.tmp 4), none⟩,
    ⟨(some 26), .call (.const (.fn F.cuneiformlaw17_Cut [] [])) [(.tmp 25)], none⟩,
    ⟨none, .store 11 (.tmp 4) (.tmp 26), none⟩] [1, 2, 4, 7, 8])
  (.seq (.region [⟨(some 27), .load (some 11) (.tmp 4), none⟩,
    ⟨(some 28), .call (.const (.fn F.msg_Copy [] [])) [(.tmp 27)], none⟩,
    ⟨(some 9), .alloc T.msg_Msg [(.int .i64 0), (.int .i64 0), (.int .i64 0), (.int .i64 0), (.int .i64 0), (.int .i64 0), (.int .i64 0), .nils, .nils, (.str ⟨#[]⟩), (.str ⟨#[]⟩)], none⟩,
    ⟨none, .store 11 (.tmp 9) (.tmp 28), none⟩] [1, 2, 4, 7, 8, 9])
  (.seq (.region [⟨(some 29), .field 0 (.tmp 4), none⟩,
    ⟨(some 30), .load none (.tmp 29), none⟩,
    ⟨(some 31), .call (.const (.fn F.cuneiformref16_All [] [])) [(.tmp 30)], none⟩,
    ⟨(some 10), .alloc T.sl_cuneiformref16_F [.nils], none⟩,
    ⟨none, .store 1 (.tmp 10) (.tmp 31), none⟩] [1, 2, 4, 7, 8, 9, 10])
  (.seq (.region [⟨(some 11), .alloc T.int [(.int .i64 0)], none⟩,
    ⟨(some 12), .alloc T.bool [(.bool false)], none⟩,
    ⟨none, .store 1 (.tmp 11) (.const (.int .i64 0)), none⟩,
    ⟨none, .store 1 (.tmp 12) (.const (.bool true)), none⟩] [1, 2, 4, 7, 8, 9, 10, 11, 12])
  (.seq (.region [⟨(some 32), .load (some 11) (.tmp 4), none⟩,
    ⟨(some 33), .call (.const (.fn F.msg_Numbers [] [])) [(.tmp 32)], none⟩,
    ⟨(some 13), .mov (.tmp 33), none⟩] [1, 2, 4, 7, 8, 9, 10, 11, 12, 13])
  (.seq (.seq (.region [⟨(some 34), .mov (.tmp 13), none⟩,
    ⟨(some 35), .eq false .func (.tmp 34) (.const .nilf), none⟩] [1, 2, 4, 7, 8, 9, 10, 11, 12, 13, 35])
  (.cond (.tmp 35) (.seq (.region [⟨(some 8), .mov (.const (.bool false)), none⟩] [8])
  (.ret)) (.skip)))
  (.seq (.seq (.region [⟨(some 36), .mov (.tmp 13), none⟩] [1, 2, 4, 7, 8, 9, 10, 11, 12, 36])
  (.block 0 (.range (.tmp 36) [37, 38] cuneiformlaw17_MsgNumbers.a1 cuneiformlaw17_MsgNumbers.b1)))
  (.seq (.block 4 (.loop cuneiformlaw17_MsgNumbers.b2))
  (.seq (.region [⟨(some 16), .alloc T.int [(.int .i64 0)], none⟩,
    ⟨none, .store 1 (.tmp 16) (.const (.int .i64 0)), none⟩] [1, 2, 4, 7, 8, 9, 10, 12, 16])
  (.seq (.region [⟨(some 98), .load (some 11) (.tmp 4), none⟩,
    ⟨(some 99), .call (.const (.fn F.msg_Numbers [] [])) [(.tmp 98)], none⟩,
    ⟨(some 17), .mov (.tmp 99), none⟩] [1, 2, 4, 7, 8, 9, 10, 12, 16, 17])
  (.seq (.seq (.region [⟨(some 100), .mov (.tmp 17), none⟩,
    ⟨(some 101), .eq false .func (.tmp 100) (.const .nilf), none⟩] [1, 2, 4, 7, 8, 9, 10, 12, 16, 17, 101])
  (.cond (.tmp 101) (.seq (.region [⟨(some 8), .mov (.const (.bool false)), none⟩] [8])
  (.ret)) (.skip)))
  (.seq (.seq (.region [⟨(some 102), .mov (.tmp 17), none⟩] [1, 2, 4, 7, 8, 9, 10, 12, 16, 102])
  (.block 6 (.range (.tmp 102) [103, 104] cuneiformlaw17_MsgNumbers.a3 cuneiformlaw17_MsgNumbers.b3)))
  (.seq (.region [⟨(some 110), .load none (.tmp 10), none⟩,
    ⟨(some 111), .mov (.tmp 1), none⟩,
    ⟨(some 112), .call (.const (.fn F.cuneiformref16_Find [] [])) [(.tmp 110), (.tmp 111)], none⟩,
    ⟨(some 18), .mov (.tmp 112), none⟩] [1, 2, 4, 7, 9, 10, 12, 16, 18])
  (.seq (.region [⟨(some 113), .mov (.tmp 18), none⟩,
    ⟨(some 114), .bin .geq (.tmp 113) (.const (.int .i64 0)), none⟩,
    ⟨(some 115), .mov (.tmp 114), none⟩,
    ⟨(some 116), .load none (.tmp 10), some (115, true)⟩,
    ⟨(some 117), .mov (.tmp 18), some (115, true)⟩,
    ⟨(some 118), .idx 7 none (.tmp 116) (.tmp 117), some (115, true)⟩,
    ⟨(some 119), .field 2 (.tmp 118), some (115, true)⟩,
    ⟨(some 120), .load none (.tmp 119), some (115, true)⟩,
    ⟨(some 121), .bin .geq (.tmp 120) (.const (.int .i64 0)), some (115, true)⟩,
    ⟨(some 122), .pick (.tmp 115) (.tmp 121) (.const (.bool false)), none⟩,
    ⟨(some 19), .mov (.tmp 122), none⟩] [1, 2, 4, 7, 9, 10, 12, 16, 18, 19])
  (.seq (.region [⟨(some 124), .load (some 11) (.tmp 4), none⟩,
    ⟨(some 125), .mov (.tmp 1), none⟩,
    ⟨(some 126), .call (.const (.fn F.msg_Get [] [])) [(.tmp 124), (.tmp 125)], none⟩,
    ⟨(some 123), .mov (.tmp 126), none⟩,
    ⟨(some 127), .extract (.tmp 123) 0, none⟩,
    ⟨(some 128), .extract (.tmp 123) 1, none⟩,
    ⟨(some 20), .mov (.tmp 127), none⟩,
    ⟨(some 21), .mov (.tmp 128), none⟩] [1, 2, 4, 7, 9, 10, 12, 16, 18, 19, 20, 21])
  (.seq (.region [⟨(some 130), .load (some 11) (.tmp 4), none⟩,
    ⟨(some 131), .mov (.tmp 1), none⟩,
    ⟨(some 132), .mov (.tmp 2), none⟩,
    ⟨(some 133), .call (.const (.fn F.msg_Set [] [])) [(.tmp 130), (.tmp 131), (.tmp 132)], none⟩,
    ⟨(some 129), .mov (.tmp 133), none⟩,
    ⟨(some 134), .extract (.tmp 129) 0, none⟩,
    ⟨(some 135), .extract (.tmp 129) 1, none⟩,
    ⟨(some 22), .alloc T.msg_Msg [(.int .i64 0), (.int .i64 0), (.int .i64 0), (.int .i64 0), (.int .i64 0), (.int .i64 0), (.int .i64 0), .nils, .nils, (.str ⟨#[]⟩), (.str ⟨#[]⟩)], none⟩,
    ⟨none, .store 11 (.tmp 22) (.tmp 134), none⟩,
    ⟨(some 23), .mov (.tmp 135), none⟩] [2, 4, 7, 9, 10, 12, 16, 18, 19, 20, 21, 22, 23])
  (.seq (.region [⟨(some 136), .load (some 11) (.tmp 4), none⟩,
    ⟨(some 137), .call (.const (.fn F.cuneiformlaw17_Of [] [])) [(.tmp 136)], none⟩,
    ⟨(some 24), .alloc T.cuneiformref17_M [(.int .i64 0), (.int .i64 0), (.int .i64 0), (.int .i64 0), (.int .i64 0), (.int .i64 0), (.int .i64 0), .nils, .nils, (.str ⟨#[]⟩), (.str ⟨#[]⟩)], none⟩,
    ⟨none, .store 11 (.tmp 24) (.tmp 137), none⟩] [2, 4, 7, 9, 10, 12, 16, 18, 19, 20, 21, 22, 23, 24])
  (.seq (.seq (.region [⟨(some 138), .mov (.tmp 19), none⟩] [2, 4, 7, 9, 10, 12, 16, 18, 19, 20, 21, 22, 23, 24, 138])
  (.cond (.tmp 138) (.seq (.region [⟨(some 139), .load none (.tmp 10), none⟩,
    ⟨(some 140), .mov (.tmp 18), none⟩,
    ⟨(some 141), .idx 7 none (.tmp 139) (.tmp 140), none⟩,
    ⟨(some 142), .field 2 (.tmp 141), none⟩,
    ⟨(some 143), .load none (.tmp 142), none⟩,
    ⟨(some 144), .mov (.tmp 2), none⟩,
    ⟨(some 145), .field 1 (.tmp 24), none⟩,
    ⟨(some 146), .idx 1 (some 6) (.tmp 145) (.tmp 143), none⟩,
    ⟨none, .store 1 (.tmp 146) (.tmp 144), none⟩] [4, 7, 9, 10, 12, 16, 18, 19, 20, 21, 22, 23, 24])
  (.region [⟨(some 147), .load none (.tmp 12), none⟩,
    ⟨(some 148), .mov (.tmp 147), none⟩,
    ⟨(some 149), .mov (.tmp 20), some (148, true)⟩,
    ⟨(some 150), .load none (.tmp 10), some (148, true)⟩,
    ⟨(some 151), .mov (.tmp 18), some (148, true)⟩,
    ⟨(some 152), .idx 7 none (.tmp 150) (.tmp 151), some (148, true)⟩,
    ⟨(some 153), .field 2 (.tmp 152), some (148, true)⟩,
    ⟨(some 154), .load none (.tmp 153), some (148, true)⟩,
    ⟨(some 155), .field 1 (.tmp 4), some (148, true)⟩,
    ⟨(some 156), .idx 1 (some 6) (.tmp 155) (.tmp 154), some (148, true)⟩,
    ⟨(some 157), .load none (.tmp 156), some (148, true)⟩,
    ⟨(some 158), .bin .eql (.tmp 149) (.tmp 157), some (148, true)⟩,
    ⟨(some 159), .pick (.tmp 148) (.tmp 158) (.const (.bool false)), none⟩,
    ⟨none, .store 1 (.tmp 12) (.tmp 159), none⟩] [4, 7, 9, 12, 16, 19, 20, 21, 22, 23, 24])) (.skip)))
  (.seq (.draw cuneiformlaw17_MsgNumbers.d4 cuneiformlaw17_MsgNumbers.d4b [[0, 1, 2, 3, 4, 5, 6, 7, 8, 9, 10, 11, 12, 13, 14, 15, 16, 17, 18, 19, 20, 21, 22, 24, 23, 25, 26, 27, 28, 29, 30, 31, 32, 33, 34, 35, 36, 37, 38, 39, 40, 41]] [(23, 24)] [8])
  (.ret))))))))))))))))))))
def cuneiformlaw17_MsgNumbers : AFun := ⟨201, 4, [.tmp 8], cuneiformlaw17_MsgNumbers.body⟩
def cuneiformlaw17_MsgChecks.d0 : List AOper := [⟨(some 12), .load (some 11) (.tmp 4), none⟩,
    ⟨(some 13), .call (.const (.fn F.cuneiformlaw17_Cut [] [])) [(.tmp 12)], none⟩,
    ⟨(some 14), .load (some 11) (.tmp 5), none⟩,
    ⟨(some 15), .call (.const (.fn F.cuneiformlaw17_Cut [] [])) [(.tmp 14)], none⟩,
    ⟨none, .store 11 (.tmp 4) (.tmp 13), none⟩,
    ⟨none, .store 11 (.tmp 5) (.tmp 15), none⟩]
def cuneiformlaw17_MsgChecks.d0b : List (List Nat) := [[], [0], [], [0, 1, 2], [0, 1, 2, 3], [0, 1, 2, 3, 4]]
def cuneiformlaw17_MsgChecks.d1 : List AOper := [⟨(some 21), .mov (.tmp 9), none⟩,
    ⟨(some 22), .load (some 11) (.tmp 4), none⟩,
    ⟨(some 23), .call (.const (.fn F.cuneiformlaw17_Of [] [])) [(.tmp 22)], none⟩,
    ⟨(some 24), .call (.const (.fn F.cuneiformref17_Check [] [])) [(.tmp 23)], none⟩,
    ⟨(some 25), .bin .neq (.tmp 21) (.tmp 24), none⟩,
    ⟨(some 26), .mov (.tmp 25), none⟩,
    ⟨(some 27), .load (some 11) (.tmp 10), some (26, false)⟩,
    ⟨(some 28), .call (.const (.fn F.cuneiformlaw17_Of [] [])) [(.tmp 27)], some (26, false)⟩,
    ⟨(some 29), .load (some 11) (.tmp 4), some (26, false)⟩,
    ⟨(some 30), .call (.const (.fn F.cuneiformlaw17_Of [] [])) [(.tmp 29)], some (26, false)⟩,
    ⟨(some 31), .mov (.tmp 2), some (26, false)⟩,
    ⟨(some 32), .call (.const (.fn F.cuneiformref17_Project [] [])) [(.tmp 30), (.tmp 31)], some (26, false)⟩,
    ⟨(some 33), .call (.const (.fn F.cuneiformref17_Same [] [])) [(.tmp 28), (.tmp 32)], some (26, false)⟩,
    ⟨(some 34), .un .not (.tmp 33), some (26, false)⟩,
    ⟨(some 35), .pick (.tmp 26) (.const (.bool true)) (.tmp 34), none⟩,
    ⟨(some 36), .mov (.tmp 35), none⟩,
    ⟨(some 37), .load (some 11) (.tmp 4), some (36, false)⟩,
    ⟨(some 38), .load (some 11) (.tmp 5), some (36, false)⟩,
    ⟨(some 39), .call (.const (.fn F.msg_Same [] [])) [(.tmp 37), (.tmp 38)], some (36, false)⟩,
    ⟨(some 40), .load (some 11) (.tmp 4), some (36, false)⟩,
    ⟨(some 41), .call (.const (.fn F.cuneiformlaw17_Of [] [])) [(.tmp 40)], some (36, false)⟩,
    ⟨(some 42), .load (some 11) (.tmp 5), some (36, false)⟩,
    ⟨(some 43), .call (.const (.fn F.cuneiformlaw17_Of [] [])) [(.tmp 42)], some (36, false)⟩,
    ⟨(some 44), .call (.const (.fn F.cuneiformref17_Same [] [])) [(.tmp 41), (.tmp 43)], some (36, false)⟩,
    ⟨(some 45), .eq true .bool (.tmp 39) (.tmp 44), some (36, false)⟩,
    ⟨(some 46), .pick (.tmp 36) (.const (.bool true)) (.tmp 45), none⟩,
    ⟨(some 47), .mov (.tmp 46), none⟩,
    ⟨(some 48), .load (some 11) (.tmp 10), some (47, false)⟩,
    ⟨(some 49), .mov (.tmp 2), some (47, false)⟩,
    ⟨(some 50), .call (.const (.fn F.msg_Project [] [])) [(.tmp 48), (.tmp 49)], some (47, false)⟩,
    ⟨(some 51), .load (some 11) (.tmp 10), some (47, false)⟩,
    ⟨(some 52), .call (.const (.fn F.msg_Same [] [])) [(.tmp 50), (.tmp 51)], some (47, false)⟩,
    ⟨(some 53), .un .not (.tmp 52), some (47, false)⟩,
    ⟨(some 54), .pick (.tmp 47) (.const (.bool true)) (.tmp 53), none⟩]
def cuneiformlaw17_MsgChecks.d1b : List (List Nat) := [[], [], [1], [1, 2], [0, 1, 2, 3], [0, 1, 2, 3, 4], [0, 1, 2, 3, 4, 5], [0, 1, 2, 3, 4, 5, 6], [0, 1, 2, 3, 4, 5], [0, 1, 2, 3, 4, 5, 6, 7, 8], [0, 1, 2, 3, 4, 5], [0, 1, 2, 3, 4, 5, 6, 7, 8, 9, 10], [0, 1, 2, 3, 4, 5, 6, 7, 8, 9, 10, 11], [0, 1, 2, 3, 4, 5, 6, 7, 8, 9, 10, 11, 12], [0, 1, 2, 3, 4, 5, 6, 7, 8, 9, 10, 11, 12, 13], [0, 1, 2, 3, 4, 5, 6, 7, 8, 9, 10, 11, 12, 13, 14], [0, 1, 2, 3, 4, 5, 6, 7, 8, 9, 10, 11, 12, 13, 14, 15], [0, 1, 2, 3, 4, 5, 6, 7, 8, 9, 10, 11, 12, 13, 14, 15], [0, 1, 2, 3, 4, 5, 6, 7, 8, 9, 10, 11, 12, 13, 14, 15, 16, 17], [0, 1, 2, 3, 4, 5, 6, 7, 8, 9, 10, 11, 12, 13, 14, 15], [0, 1, 2, 3, 4, 5, 6, 7, 8, 9, 10, 11, 12, 13, 14, 15, 16, 17, 18, 19], [0, 1, 2, 3, 4, 5, 6, 7, 8, 9, 10, 11, 12, 13, 14, 15], [0, 1, 2, 3, 4, 5, 6, 7, 8, 9, 10, 11, 12, 13, 14, 15, 16, 17, 18, 19, 20, 21], [0, 1, 2, 3, 4, 5, 6, 7, 8, 9, 10, 11, 12, 13, 14, 15, 16, 17, 18, 19, 20, 21, 22], [0, 1, 2, 3, 4, 5, 6, 7, 8, 9, 10, 11, 12, 13, 14, 15, 16, 17, 18, 19, 20, 21, 22, 23], [0, 1, 2, 3, 4, 5, 6, 7, 8, 9, 10, 11, 12, 13, 14, 15, 16, 17, 18, 19, 20, 21, 22, 23, 24], [0, 1, 2, 3, 4, 5, 6, 7, 8, 9, 10, 11, 12, 13, 14, 15, 16, 17, 18, 19, 20, 21, 22, 23, 24, 25], [0, 1, 2, 3, 4, 5, 6, 7, 8, 9, 10, 11, 12, 13, 14, 15, 16, 17, 18, 19, 20, 21, 22, 23, 24, 25, 26], [0, 1, 2, 3, 4, 5, 6, 7, 8, 9, 10, 11, 12, 13, 14, 15, 16, 17, 18, 19, 20, 21, 22, 23, 24, 25, 26], [0, 1, 2, 3, 4, 5, 6, 7, 8, 9, 10, 11, 12, 13, 14, 15, 16, 17, 18, 19, 20, 21, 22, 23, 24, 25, 26, 27, 28], [0, 1, 2, 3, 4, 5, 6, 7, 8, 9, 10, 11, 12, 13, 14, 15, 16, 17, 18, 19, 20, 21, 22, 23, 24, 25, 26], [0, 1, 2, 3, 4, 5, 6, 7, 8, 9, 10, 11, 12, 13, 14, 15, 16, 17, 18, 19, 20, 21, 22, 23, 24, 25, 26, 27, 28, 29, 30], [0, 1, 2, 3, 4, 5, 6, 7, 8, 9, 10, 11, 12, 13, 14, 15, 16, 17, 18, 19, 20, 21, 22, 23, 24, 25, 26, 27, 28, 29, 30, 31], [0, 1, 2, 3, 4, 5, 6, 7, 8, 9, 10, 11, 12, 13, 14, 15, 16, 17, 18, 19, 20, 21, 22, 23, 24, 25, 26, 27, 28, 29, 30, 31, 32]]
def cuneiformlaw17_MsgChecks.body : ACode := .seq (.region [⟨(some 4), .box T.msg_Msg (.tmp 0), none⟩,
    ⟨(some 5), .box T.msg_Msg (.tmp 1), none⟩,
    ⟨(some 8), .mov (.const (.bool false)), none⟩] [2, 3, 4, 5])
  (.seq (.draw cuneiformlaw17_MsgChecks.d0 cuneiformlaw17_MsgChecks.d0b [[0, 2, 1, 3, 4, 5]] [(1, 2)] [2, 3, 4, 5])
  (.seq (.region [⟨(some 16), .load (some 11) (.tmp 4), none⟩,
    ⟨(some 17), .call (.const (.fn F.msg_Check [] [])) [(.tmp 16)], none⟩,
    ⟨(some 9), .mov (.tmp 17), none⟩] [2, 3, 4, 5, 9])
  (.seq (.region [⟨(some 18), .load (some 11) (.tmp 4), none⟩,
    ⟨(some 19), .mov (.tmp 2), none⟩,
    ⟨(some 20), .call (.const (.fn F.msg_Project [] [])) [(.tmp 18), (.tmp 19)], none⟩,
    ⟨(some 10), .alloc T.msg_Msg [(.int .i64 0), (.int .i64 0), (.int .i64 0), (.int .i64 0), (.int .i64 0), (.int .i64 0), (.int .i64 0), .nils, .nils, (.str ⟨#[]⟩), (.str ⟨#[]⟩)], none⟩,
    ⟨none, .store 11 (.tmp 10) (.tmp 20), none⟩] [2, 3, 4, 5, 9, 10])
  (.seq (.seq (.draw cuneiformlaw17_MsgChecks.d1 cuneiformlaw17_MsgChecks.d1b [[0, 1, 2, 3, 4, 5, 6, 8, 10, 7, 9, 11, 12, 13, 14, 15, 16, 17, 19, 21, 18, 20, 22, 23, 24, 25, 26, 27, 28, 30, 29, 31, 32, 33]] [(7, 8), (18, 19), (18, 21), (20, 21), (29, 30)] [3, 9, 10, 54])
  (.cond (.tmp 54) (.seq (.region [⟨(some 8), .mov (.const (.bool false)), none⟩] [8])
  (.ret)) (.skip)))
  (.seq (.region [⟨(some 55), .mov (.tmp 3), none⟩,
    ⟨(some 56), .call (.const (.fn F.msg_New [] [])) [(.tmp 55)], none⟩,
    ⟨(some 11), .alloc T.msg_Msg [(.int .i64 0), (.int .i64 0), (.int .i64 0), (.int .i64 0), (.int .i64 0), (.int .i64 0), (.int .i64 0), .nils, .nils, (.str ⟨#[]⟩), (.str ⟨#[]⟩)], none⟩,
    ⟨none, .store 11 (.tmp 11) (.tmp 56), none⟩] [3, 9, 10, 11])
  (.seq (.region [⟨(some 57), .call (.const (.fn F.cuneiformlaw17_known [] [])) [], none⟩,
    ⟨(some 58), .mov (.tmp 57), none⟩,
    ⟨(some 59), .load (some 11) (.tmp 11), some (58, true)⟩,
    ⟨(some 60), .call (.const (.fn F.cuneiformlaw17_Of [] [])) [(.tmp 59)], some (58, true)⟩,
    ⟨(some 61), .mov (.tmp 3), some (58, true)⟩,
    ⟨(some 62), .call (.const (.fn F.cuneiformref17_New [] [])) [(.tmp 61)], some (58, true)⟩,
    ⟨(some 63), .call (.const (.fn F.cuneiformref17_Same [] [])) [(.tmp 60), (.tmp 62)], some (58, true)⟩,
    ⟨(some 64), .pick (.tmp 58) (.tmp 63) (.const (.bool false)), none⟩,
    ⟨(some 65), .mov (.tmp 64), none⟩,
    ⟨(some 66), .mov (.tmp 9), some (65, true)⟩,
    ⟨(some 67), .bin .neq (.tmp 66) (.const (.int .i64 0)), some (65, true)⟩,
    ⟨(some 68), .mov (.tmp 67), some (65, true)⟩,
    ⟨(some 69), .load (some 11) (.tmp 10), some (68, false)⟩,
    ⟨(some 70), .call (.const (.fn F.msg_Check [] [])) [(.tmp 69)], some (68, false)⟩,
    ⟨(some 71), .bin .eql (.tmp 70) (.const (.int .i64 0)), some (68, false)⟩,
    ⟨(some 72), .pick (.tmp 68) (.const (.bool true)) (.tmp 71), some (65, true)⟩,
    ⟨(some 73), .pick (.tmp 65) (.tmp 72) (.const (.bool false)), none⟩,
    ⟨(some 74), .mov (.tmp 73), none⟩,
    ⟨(some 75), .field 0 (.tmp 11), some (74, true)⟩,
    ⟨(some 76), .load none (.tmp 75), some (74, true)⟩,
    ⟨(some 77), .bin .eql (.tmp 76) (.const (.int .i64 0)), some (74, true)⟩,
    ⟨(some 78), .mov (.tmp 77), some (74, true)⟩,
    ⟨(some 79), .load (some 11) (.tmp 11), some (78, false)⟩,
    ⟨(some 80), .call (.const (.fn F.msg_Check [] [])) [(.tmp 79)], some (78, false)⟩,
    ⟨(some 81), .bin .eql (.tmp 80) (.const (.int .i64 0)), some (78, false)⟩,
    ⟨(some 82), .pick (.tmp 78) (.const (.bool true)) (.tmp 81), some (74, true)⟩,
    ⟨(some 83), .pick (.tmp 74) (.tmp 82) (.const (.bool false)), none⟩,
    ⟨(some 8), .mov (.tmp 83), none⟩] [8])
  (.ret)))))))
def cuneiformlaw17_MsgChecks : AFun := ⟨84, 4, [.tmp 8], cuneiformlaw17_MsgChecks.body⟩
def cuneiformlaw17_MsgNews.d0 : List AOper := [⟨(some 33), .load (some 11) (.tmp 9), none⟩,
    ⟨(some 34), .call (.const (.fn F.msg_Check [] [])) [(.tmp 33)], none⟩,
    ⟨(some 35), .bin .neq (.tmp 34) (.const (.int .i64 0)), none⟩,
    ⟨(some 36), .mov (.tmp 35), none⟩,
    ⟨(some 37), .load (some 11) (.tmp 9), some (36, false)⟩,
    ⟨(some 38), .call (.const (.fn F.msg_Project [] [])) [(.tmp 37), (.const (.int .i64 1))], some (36, false)⟩,
    ⟨(some 39), .load (some 11) (.tmp 9), some (36, false)⟩,
    ⟨(some 40), .call (.const (.fn F.msg_Same [] [])) [(.tmp 38), (.tmp 39)], some (36, false)⟩,
    ⟨(some 41), .un .not (.tmp 40), some (36, false)⟩,
    ⟨(some 42), .pick (.tmp 36) (.const (.bool true)) (.tmp 41), none⟩,
    ⟨(some 43), .mov (.tmp 42), none⟩,
    ⟨(some 44), .load (some 11) (.tmp 9), some (43, false)⟩,
    ⟨(some 45), .call (.const (.fn F.msg_Project [] [])) [(.tmp 44), (.const (.int .i64 2))], some (43, false)⟩,
    ⟨(some 46), .load (some 11) (.tmp 9), some (43, false)⟩,
    ⟨(some 47), .call (.const (.fn F.msg_Same [] [])) [(.tmp 45), (.tmp 46)], some (43, false)⟩,
    ⟨(some 48), .un .not (.tmp 47), some (43, false)⟩,
    ⟨(some 49), .pick (.tmp 43) (.const (.bool true)) (.tmp 48), none⟩]
def cuneiformlaw17_MsgNews.d0b : List (List Nat) := [[], [0], [0, 1], [0, 1, 2], [0, 1, 2, 3], [0, 1, 2, 3, 4], [0, 1, 2, 3], [0, 1, 2, 3, 4, 5, 6], [0, 1, 2, 3, 4, 5, 6, 7], [0, 1, 2, 3, 4, 5, 6, 7, 8], [0, 1, 2, 3, 4, 5, 6, 7, 8, 9], [0, 1, 2, 3, 4, 5, 6, 7, 8, 9, 10], [0, 1, 2, 3, 4, 5, 6, 7, 8, 9, 10, 11], [0, 1, 2, 3, 4, 5, 6, 7, 8, 9, 10], [0, 1, 2, 3, 4, 5, 6, 7, 8, 9, 10, 11, 12, 13], [0, 1, 2, 3, 4, 5, 6, 7, 8, 9, 10, 11, 12, 13, 14], [0, 1, 2, 3, 4, 5, 6, 7, 8, 9, 10, 11, 12, 13, 14, 15]]
def cuneiformlaw17_MsgNews.body : ACode := .seq (.region [⟨(some 6), .mov (.const (.bool false)), none⟩] [0, 1, 2])
  (.seq (.region [⟨(some 14), .mov (.tmp 0), none⟩,
    ⟨(some 15), .conv .u64 (.tmp 14), none⟩,
    ⟨(some 16), .bin .rem (.tmp 15) (.const (.int .u64 5)), none⟩,
    ⟨(some 17), .conv .i64 (.tmp 16), none⟩,
    ⟨(some 18), .bin .add (.const (.int .i64 1)) (.tmp 17), none⟩,
    ⟨(some 0), .mov (.tmp 18), none⟩] [0, 1, 2])
  (.seq (.region [⟨(some 19), .mov (.tmp 0), none⟩,
    ⟨(some 20), .call (.const (.fn F.cuneiformref16_All [] [])) [(.tmp 19)], none⟩,
    ⟨(some 7), .mov (.tmp 20), none⟩] [0, 1, 2, 7])
  (.seq (.region [⟨(some 21), .mov (.tmp 7), none⟩,
    ⟨(some 22), .mov (.tmp 1), none⟩,
    ⟨(some 23), .conv .u64 (.tmp 22), none⟩,
    ⟨(some 24), .mov (.tmp 7), none⟩,
    ⟨(some 25), .len .slice (.tmp 24), none⟩,
    ⟨(some 26), .conv .u64 (.tmp 25), none⟩,
    ⟨(some 27), .bin .rem (.tmp 23) (.tmp 26), none⟩,
    ⟨(some 28), .conv .i64 (.tmp 27), none⟩,
    ⟨(some 29), .idx 7 none (.tmp 21) (.tmp 28), none⟩,
    ⟨(some 30), .load (some 7) (.tmp 29), none⟩,
    ⟨(some 8), .alloc T.cuneiformref16_F [(.str ⟨#[]⟩), (.int .i64 0), (.int .i64 0), (.int .i64 0), (.int .i64 0), (.int .i64 0), (.int .i64 0)], none⟩,
    ⟨none, .store 7 (.tmp 8) (.tmp 30), none⟩] [0, 2, 8])
  (.seq (.region [⟨(some 31), .mov (.tmp 0), none⟩,
    ⟨(some 32), .call (.const (.fn F.msg_New [] [])) [(.tmp 31)], none⟩,
    ⟨(some 9), .alloc T.msg_Msg [(.int .i64 0), (.int .i64 0), (.int .i64 0), (.int .i64 0), (.int .i64 0), (.int .i64 0), (.int .i64 0), .nils, .nils, (.str ⟨#[]⟩), (.str ⟨#[]⟩)], none⟩,
    ⟨none, .store 11 (.tmp 9) (.tmp 32), none⟩] [2, 8, 9])
  (.seq (.seq (.draw cuneiformlaw17_MsgNews.d0 cuneiformlaw17_MsgNews.d0b [[0, 1, 2, 3, 4, 6, 5, 7, 8, 9, 10, 11, 13, 12, 14, 15, 16]] [(5, 6), (12, 13)] [2, 8, 9, 49])
  (.cond (.tmp 49) (.seq (.region [⟨(some 6), .mov (.const (.bool false)), none⟩] [6])
  (.ret)) (.skip)))
  (.seq (.region [⟨(some 51), .load (some 11) (.tmp 9), none⟩,
    ⟨(some 52), .field 0 (.tmp 8), none⟩,
    ⟨(some 53), .load none (.tmp 52), none⟩,
    ⟨(some 54), .mov (.tmp 2), none⟩,
    ⟨(some 55), .call (.const (.fn F.msg_Set [] [])) [(.tmp 51), (.tmp 53), (.tmp 54)], none⟩,
    ⟨(some 50), .mov (.tmp 55), none⟩,
    ⟨(some 56), .extract (.tmp 50) 0, none⟩,
    ⟨(some 57), .extract (.tmp 50) 1, none⟩,
    ⟨(some 10), .alloc T.msg_Msg [(.int .i64 0), (.int .i64 0), (.int .i64 0), (.int .i64 0), (.int .i64 0), (.int .i64 0), (.int .i64 0), .nils, .nils, (.str ⟨#[]⟩), (.str ⟨#[]⟩)], none⟩,
    ⟨none, .store 11 (.tmp 10) (.tmp 56), none⟩,
    ⟨(some 11), .mov (.tmp 57), none⟩] [2, 8, 9, 10, 11])
  (.seq (.seq (.region [⟨(some 58), .mov (.tmp 11), none⟩,
    ⟨(some 59), .field 2 (.tmp 8), none⟩,
    ⟨(some 60), .load none (.tmp 59), none⟩,
    ⟨(some 61), .bin .geq (.tmp 60) (.const (.int .i64 0)), none⟩,
    ⟨(some 62), .eq true .bool (.tmp 58) (.tmp 61), none⟩] [2, 8, 9, 10, 11, 62])
  (.cond (.tmp 62) (.seq (.region [⟨(some 6), .mov (.const (.bool false)), none⟩] [6])
  (.ret)) (.skip)))
  (.seq (.seq (.region [⟨(some 63), .mov (.tmp 11), none⟩,
    ⟨(some 64), .un .not (.tmp 63), none⟩] [2, 8, 9, 10, 64])
  (.cond (.tmp 64) (.seq (.region [⟨(some 65), .call (.const (.fn F.cuneiformlaw17_known [] [])) [], none⟩,
    ⟨(some 66), .mov (.tmp 65), none⟩,
    ⟨(some 67), .load (some 11) (.tmp 10), some (66, true)⟩,
    ⟨(some 68), .load (some 11) (.tmp 9), some (66, true)⟩,
    ⟨(some 69), .call (.const (.fn F.msg_Same [] [])) [(.tmp 67), (.tmp 68)], some (66, true)⟩,
    ⟨(some 70), .pick (.tmp 66) (.tmp 69) (.const (.bool false)), none⟩,
    ⟨(some 6), .mov (.tmp 70), none⟩] [6])
  (.ret)) (.skip)))
  (.seq (.region [⟨(some 71), .load (some 11) (.tmp 10), none⟩,
    ⟨(some 72), .call (.const (.fn F.msg_Check [] [])) [(.tmp 71)], none⟩,
    ⟨(some 12), .mov (.tmp 72), none⟩] [2, 8, 12])
  (.seq (.region [⟨(some 73), .mov (.tmp 2), none⟩,
    ⟨(some 74), .field 3 (.tmp 8), none⟩,
    ⟨(some 75), .load none (.tmp 74), none⟩,
    ⟨(some 76), .bin .geq (.tmp 73) (.tmp 75), none⟩,
    ⟨(some 77), .mov (.tmp 76), none⟩,
    ⟨(some 78), .mov (.tmp 2), some (77, true)⟩,
    ⟨(some 79), .field 4 (.tmp 8), some (77, true)⟩,
    ⟨(some 80), .load none (.tmp 79), some (77, true)⟩,
    ⟨(some 81), .bin .leq (.tmp 78) (.tmp 80), some (77, true)⟩,
    ⟨(some 82), .pick (.tmp 77) (.tmp 81) (.const (.bool false)), none⟩,
    ⟨(some 13), .mov (.tmp 82), none⟩] [12, 13])
  (.seq (.region [⟨(some 83), .call (.const (.fn F.cuneiformlaw17_known [] [])) [], none⟩,
    ⟨(some 84), .mov (.tmp 83), none⟩,
    ⟨(some 85), .mov (.tmp 12), some (84, true)⟩,
    ⟨(some 86), .bin .eql (.tmp 85) (.const (.int .i64 0)), some (84, true)⟩,
    ⟨(some 87), .mov (.tmp 13), some (84, true)⟩,
    ⟨(some 88), .eq false .bool (.tmp 86) (.tmp 87), some (84, true)⟩,
    ⟨(some 89), .pick (.tmp 84) (.tmp 88) (.const (.bool false)), none⟩,
    ⟨(some 90), .mov (.tmp 89), none⟩,
    ⟨(some 91), .mov (.tmp 13), some (90, true)⟩,
    ⟨(some 92), .mov (.tmp 91), some (90, true)⟩,
    ⟨(some 93), .mov (.tmp 12), some (92, false)⟩,
    ⟨(some 94), .bin .eql (.tmp 93) (.const (.int .i64 5)), some (92, false)⟩,
    ⟨(some 95), .pick (.tmp 92) (.const (.bool true)) (.tmp 94), some (90, true)⟩,
    ⟨(some 96), .pick (.tmp 90) (.tmp 95) (.const (.bool false)), none⟩,
    ⟨(some 6), .mov (.tmp 96), none⟩] [6])
  (.ret))))))))))))
def cuneiformlaw17_MsgNews : AFun := ⟨97, 3, [.tmp 6], cuneiformlaw17_MsgNews.body⟩
def cuneiformlaw17_Cut.d0 : List AOper := [⟨(some 3), .field 7 (.tmp 1), none⟩,
    ⟨(some 4), .load none (.tmp 3), none⟩,
    ⟨(some 5), .field 7 (.tmp 1), none⟩,
    ⟨(some 6), .load none (.tmp 5), none⟩,
    ⟨(some 7), .len .slice (.tmp 6), none⟩,
    ⟨(some 8), .maxmin false (.tmp 7) (.const (.int .i64 40)), none⟩,
    ⟨(some 9), .slice 2 .slice (.tmp 4) none (some (.tmp 8)) none, none⟩,
    ⟨(some 10), .field 8 (.tmp 1), none⟩,
    ⟨(some 11), .load none (.tmp 10), none⟩,
    ⟨(some 12), .field 8 (.tmp 1), none⟩,
    ⟨(some 13), .load none (.tmp 12), none⟩,
    ⟨(some 14), .len .slice (.tmp 13), none⟩,
    ⟨(some 15), .maxmin false (.tmp 14) (.const (.int .i64 40)), none⟩,
    ⟨(some 16), .slice 1 .slice (.tmp 11) none (some (.tmp 15)) none, none⟩,
    ⟨(some 17), .field 7 (.tmp 1), none⟩,
    ⟨none, .store 1 (.tmp 17) (.tmp 9), none⟩,
    ⟨(some 18), .field 8 (.tmp 1), none⟩,
    ⟨none, .store 1 (.tmp 18) (.tmp 16), none⟩]
def cuneiformlaw17_Cut.d0b : List (List Nat) := [[], [0], [], [2], [2, 3], [2, 3, 4], [0, 1, 2, 3, 4, 5], [], [7], [], [9], [9, 10], [9, 10, 11], [7, 8, 9, 10, 11, 12], [0, 1, 2, 3, 4, 5, 6, 7, 8, 9, 10], [0, 1, 2, 3, 4, 5, 6, 7, 8, 9, 10, 14], [0, 1, 2, 3, 4, 5, 6, 7, 8, 9, 10, 11, 12, 13, 14, 15], [0, 1, 2, 3, 4, 5, 6, 7, 8, 9, 10, 11, 12, 13, 14, 15, 16]]
def cuneiformlaw17_Cut.d1 : List AOper := [⟨(some 19), .field 9 (.tmp 1), none⟩,
    ⟨(some 20), .load none (.tmp 19), none⟩,
    ⟨(some 21), .field 9 (.tmp 1), none⟩,
    ⟨(some 22), .load none (.tmp 21), none⟩,
    ⟨(some 23), .len .str (.tmp 22), none⟩,
    ⟨(some 24), .maxmin false (.tmp 23) (.const (.int .i64 80)), none⟩,
    ⟨(some 25), .slice 1 .string (.tmp 20) none (some (.tmp 24)) none, none⟩,
    ⟨(some 26), .field 10 (.tmp 1), none⟩,
    ⟨(some 27), .load none (.tmp 26), none⟩,
    ⟨(some 28), .field 10 (.tmp 1), none⟩,
    ⟨(some 29), .load none (.tmp 28), none⟩,
    ⟨(some 30), .len .str (.tmp 29), none⟩,
    ⟨(some 31), .maxmin false (.tmp 30) (.const (.int .i64 80)), none⟩,
    ⟨(some 32), .slice 1 .string (.tmp 27) none (some (.tmp 31)) none, none⟩,
    ⟨(some 33), .field 9 (.tmp 1), none⟩,
    ⟨none, .store 1 (.tmp 33) (.tmp 25), none⟩,
    ⟨(some 34), .field 10 (.tmp 1), none⟩,
    ⟨none, .store 1 (.tmp 34) (.tmp 32), none⟩]
def cuneiformlaw17_Cut.d1b : List (List Nat) := [[], [0], [], [2], [2, 3], [2, 3, 4], [0, 1, 2, 3, 4, 5], [], [7], [], [9], [9, 10], [9, 10, 11], [7, 8, 9, 10, 11, 12], [0, 1, 2, 3, 4, 5, 6, 7, 8, 9, 10], [0, 1, 2, 3, 4, 5, 6, 7, 8, 9, 10, 14], [0, 1, 2, 3, 4, 5, 6, 7, 8, 9, 10, 11, 12, 13, 14, 15], [0, 1, 2, 3, 4, 5, 6, 7, 8, 9, 10, 11, 12, 13, 14, 15, 16]]
def cuneiformlaw17_Cut.body : ACode := .seq (.region [⟨(some 1), .box T.msg_Msg (.tmp 0), none⟩,
    ⟨(some 2), .alloc T.msg_Msg [(.int .i64 0), (.int .i64 0), (.int .i64 0), (.int .i64 0), (.int .i64 0), (.int .i64 0), (.int .i64 0), .nils, .nils, (.str ⟨#[]⟩), (.str ⟨#[]⟩)], none⟩] [1, 2])
  (.seq (.draw cuneiformlaw17_Cut.d0 cuneiformlaw17_Cut.d0b [[0, 1, 2, 3, 4, 5, 6, 7, 8, 9, 10, 11, 12, 13, 14, 15, 16, 17]] [] [1, 2])
  (.seq (.draw cuneiformlaw17_Cut.d1 cuneiformlaw17_Cut.d1b [[0, 1, 2, 3, 4, 5, 6, 7, 8, 9, 10, 11, 12, 13, 14, 15, 16, 17]] [] [1, 2])
  (.seq (.region [⟨(some 35), .load (some 11) (.tmp 1), none⟩,
    ⟨none, .store 11 (.tmp 2) (.tmp 35), none⟩] [2])
  (.ret))))
def cuneiformlaw17_Cut : AFun := ⟨36, 1, [.cell 2 (some 11)], cuneiformlaw17_Cut.body⟩
def cuneiformlaw17_Of.d0 : List AOper := [⟨(some 23), .field 7 (.tmp 3), none⟩,
    ⟨(some 24), .load none (.tmp 23), none⟩,
    ⟨(some 25), .field 7 (.tmp 1), none⟩,
    ⟨(some 26), .load none (.tmp 25), none⟩,
    ⟨(some 27), .mov (.tmp 4), none⟩,
    ⟨(some 28), .idx 2 none (.tmp 26) (.tmp 27), none⟩,
    ⟨(some 29), .field 0 (.tmp 28), none⟩,
    ⟨(some 30), .load none (.tmp 29), none⟩,
    ⟨(some 31), .field 7 (.tmp 1), none⟩,
    ⟨(some 32), .load none (.tmp 31), none⟩,
    ⟨(some 33), .mov (.tmp 4), none⟩,
    ⟨(some 34), .idx 2 none (.tmp 32) (.tmp 33), none⟩,
    ⟨(some 35), .field 1 (.tmp 34), none⟩,
    ⟨(some 36), .load none (.tmp 35), none⟩,
    ⟨(some 37), .build [(.int .i64 0), (.int .i64 0)] [(0, 1, (.tmp 30)), (1, 1, (.tmp 36))], none⟩,
    ⟨(some 38), .lit T.n2_int 2 1 [(.int .i64 0), (.int .i64 0)] [(0, 2, (.tmp 37))], none⟩,
    ⟨(some 39), .append T.n2_int 2 16 (.tmp 24) (.tmp 38), none⟩,
    ⟨(some 40), .field 7 (.tmp 3), none⟩,
    ⟨none, .store 1 (.tmp 40) (.tmp 39), none⟩]
def cuneiformlaw17_Of.d0b : List (List Nat) := [[], [0], [], [2], [], [2, 3, 4], [2, 3, 4, 5], [2, 3, 4, 5, 6], [], [8], [], [8, 9, 10], [8, 9, 10, 11], [8, 9, 10, 11, 12], [2, 3, 4, 5, 6, 7, 8, 9, 10, 11, 12, 13], [2, 3, 4, 5, 6, 7, 8, 9, 10, 11, 12, 13, 14], [0, 1, 2, 3, 4, 5, 6, 7, 8, 9, 10, 11, 12, 13, 14, 15], [0, 1, 2, 3, 4, 5, 6, 7, 8, 9, 10, 11, 12, 13, 14, 15, 16], [0, 1, 2, 3, 4, 5, 6, 7, 8, 9, 10, 11, 12, 13, 14, 15, 16, 17]]
def cuneiformlaw17_Of.b1 : ACode := .seq (.seq (.region [⟨(some 16), .mov (.tmp 4), none⟩,
    ⟨(some 17), .field 7 (.tmp 1), none⟩,
    ⟨(some 18), .load none (.tmp 17), none⟩,
    ⟨(some 19), .len .slice (.tmp 18), none⟩,
    ⟨(some 20), .bin .lss (.tmp 16) (.tmp 19), none⟩] [1, 2, 3, 4, 20])
  (.cond (.tmp 20) (.skip) (.exit 0)))
  (.seq (.block 1 (.draw cuneiformlaw17_Of.d0 cuneiformlaw17_Of.d0b [[0, 1, 2, 3, 4, 5, 6, 7, 8, 9, 10, 11, 12, 13, 14, 15, 16, 17, 18]] [(15, 1)] [1, 2, 3, 4]))
  (.region [⟨(some 21), .mov (.tmp 4), none⟩,
    ⟨(some 22), .bin .add (.tmp 21) (.const (.int .i64 1)), none⟩,
    ⟨(some 4), .mov (.tmp 22), none⟩] [1, 2, 3, 4]))
def cuneiformlaw17_Of.body : ACode := .seq (.region [⟨(some 1), .box T.msg_Msg (.tmp 0), none⟩,
    ⟨(some 2), .alloc T.cuneiformref17_M [(.int .i64 0), (.int .i64 0), (.int .i64 0), (.int .i64 0), (.int .i64 0), (.int .i64 0), (.int .i64 0), .nils, .nils, (.str ⟨#[]⟩), (.str ⟨#[]⟩)], none⟩] [1, 2])
  (.seq (.region [⟨(some 5), .field 0 (.tmp 1), none⟩,
    ⟨(some 6), .load none (.tmp 5), none⟩,
    ⟨(some 7), .field 1 (.tmp 1), none⟩,
    ⟨(some 8), .load (some 6) (.tmp 7), none⟩,
    ⟨(some 9), .field 8 (.tmp 1), none⟩,
    ⟨(some 10), .load none (.tmp 9), none⟩,
    ⟨(some 11), .field 9 (.tmp 1), none⟩,
    ⟨(some 12), .load none (.tmp 11), none⟩,
    ⟨(some 13), .field 10 (.tmp 1), none⟩,
    ⟨(some 14), .load none (.tmp 13), none⟩,
    ⟨(some 15), .build [(.int .i64 0), (.int .i64 0), (.int .i64 0), (.int .i64 0), (.int .i64 0), (.int .i64 0), (.int .i64 0), .nils, .nils, (.str ⟨#[]⟩), (.str ⟨#[]⟩)] [(0, 1, (.tmp 6)), (1, 6, (.tmp 8)), (8, 1, (.tmp 10)), (9, 1, (.tmp 12)), (10, 1, (.tmp 14))], none⟩,
    ⟨(some 3), .alloc T.cuneiformref17_M [(.int .i64 0), (.int .i64 0), (.int .i64 0), (.int .i64 0), (.int .i64 0), (.int .i64 0), (.int .i64 0), .nils, .nils, (.str ⟨#[]⟩), (.str ⟨#[]⟩)], none⟩,
    ⟨none, .store 11 (.tmp 3) (.tmp 15), none⟩] [1, 2, 3])
  (.seq (.seq (.region [⟨(some 4), .mov (.const (.int .i64 0)), none⟩] [1, 2, 3, 4])
  (.block 0 (.loop cuneiformlaw17_Of.b1)))
  (.seq (.region [⟨(some 41), .load (some 11) (.tmp 3), none⟩,
    ⟨none, .store 11 (.tmp 2) (.tmp 41), none⟩] [2])
  (.ret))))
def cuneiformlaw17_Of : AFun := ⟨42, 1, [.cell 2 (some 11)], cuneiformlaw17_Of.body⟩
def msg_Copy.d0 : List AOper := [⟨(some 3), .field 7 (.tmp 1), none⟩,
    ⟨(some 4), .load none (.tmp 3), none⟩,
    ⟨(some 5), .call (.const (.fn F.slices_Clone_msg_Point_msg_Point [] [])) [(.tmp 4)], none⟩,
    ⟨(some 6), .field 8 (.tmp 1), none⟩,
    ⟨(some 7), .load none (.tmp 6), none⟩,
    ⟨(some 8), .call (.const (.fn F.slices_Clone_int_int [] [])) [(.tmp 7)], none⟩,
    ⟨(some 9), .field 7 (.tmp 1), none⟩,
    ⟨none, .store 1 (.tmp 9) (.tmp 5), none⟩,
    ⟨(some 10), .field 8 (.tmp 1), none⟩,
    ⟨none, .store 1 (.tmp 10) (.tmp 8), none⟩]
def msg_Copy.d0b : List (List Nat) := [[], [0], [0, 1], [], [3], [0, 1, 2, 3, 4], [0, 1, 2, 3, 4], [0, 1, 2, 3, 4, 5, 6], [0, 1, 2, 3, 4, 5, 6, 7], [0, 1, 2, 3, 4, 5, 6, 7, 8]]
def msg_Copy.body : ACode := .seq (.region [⟨(some 1), .box T.msg_Msg (.tmp 0), none⟩,
    ⟨(some 2), .alloc T.msg_Msg [(.int .i64 0), (.int .i64 0), (.int .i64 0), (.int .i64 0), (.int .i64 0), (.int .i64 0), (.int .i64 0), .nils, .nils, (.str ⟨#[]⟩), (.str ⟨#[]⟩)], none⟩] [1, 2])
  (.seq (.draw msg_Copy.d0 msg_Copy.d0b [[0, 1, 3, 4, 2, 6, 5, 7, 8, 9]] [(2, 4)] [1, 2])
  (.seq (.region [⟨(some 11), .load (some 11) (.tmp 1), none⟩,
    ⟨none, .store 11 (.tmp 2) (.tmp 11), none⟩] [2])
  (.ret)))
def msg_Copy : AFun := ⟨12, 1, [.cell 2 (some 11)], msg_Copy.body⟩
def msg_Project.b0 : ACode := .seq (.region [⟨(some 14), .bin .lss (.tmp 13) (.tmp 12), none⟩] [1, 2, 4, 11, 12, 13, 14])
  (.seq (.cond (.tmp 14) (.skip) (.exit 0))
  (.seq (.block 1 (.seq (.region [⟨(some 15), .idx 7 none (.tmp 11) (.tmp 13), none⟩,
    ⟨(some 16), .load (some 7) (.tmp 15), none⟩,
    ⟨(some 6), .alloc T.field_Field [(.str ⟨#[]⟩), (.int .i64 0), (.int .i64 0), (.int .i64 0), (.int .i64 0), (.int .i64 0), (.int .i64 0)], none⟩,
    ⟨none, .store 7 (.tmp 6) (.tmp 16), none⟩] [1, 2, 4, 6, 11, 12, 13])
  (.seq (.seq (.region [⟨(some 17), .mov (.tmp 1), none⟩,
    ⟨(some 18), .bin .neq (.tmp 17) (.const (.int .i64 1)), none⟩,
    ⟨(some 19), .mov (.tmp 18), none⟩,
    ⟨(some 20), .field 5 (.tmp 6), some (19, false)⟩,
    ⟨(some 21), .load none (.tmp 20), some (19, false)⟩,
    ⟨(some 22), .bin .eql (.tmp 21) (.const (.int .i64 1)), some (19, false)⟩,
    ⟨(some 23), .pick (.tmp 19) (.const (.bool true)) (.tmp 22), none⟩] [1, 2, 4, 6, 11, 12, 13, 23])
  (.cond (.tmp 23) (.exit 1) (.skip)))
  (.seq (.region [⟨(some 24), .load (some 11) (.tmp 2), none⟩,
    ⟨(some 25), .load (some 7) (.tmp 6), none⟩,
    ⟨(some 26), .call (.const (.fn F.msg_without [] [])) [(.tmp 24), (.tmp 25)], none⟩,
    ⟨none, .store 11 (.tmp 2) (.tmp 26), none⟩] [1, 2, 4, 6, 11, 12, 13])
  (.seq (.region [⟨(some 27), .field 2 (.tmp 6), none⟩,
    ⟨(some 28), .load none (.tmp 27), none⟩,
    ⟨(some 29), .bin .geq (.tmp 28) (.const (.int .i64 0)), none⟩] [1, 2, 4, 6, 11, 12, 13, 29])
  (.cond (.tmp 29) (.region [⟨(some 30), .field 2 (.tmp 6), none⟩,
    ⟨(some 31), .load none (.tmp 30), none⟩,
    ⟨(some 32), .field 6 (.tmp 6), none⟩,
    ⟨(some 33), .load none (.tmp 32), none⟩,
    ⟨(some 34), .field 1 (.tmp 2), none⟩,
    ⟨(some 35), .idx 1 (some 6) (.tmp 34) (.tmp 31), none⟩,
    ⟨none, .store 1 (.tmp 35) (.tmp 33), none⟩] [1, 2, 4, 11, 12, 13]) (.skip)))))))
  (.region [⟨(some 36), .bin .add (.tmp 13) (.const (.int .i64 1)), none⟩,
    ⟨(some 13), .mov (.tmp 36), none⟩] [1, 2, 4, 11, 12, 13])))
def msg_Project.body : ACode := .seq (.region [⟨(some 2), .box T.msg_Msg (.tmp 0), none⟩,
    ⟨(some 4), .alloc T.msg_Msg [(.int .i64 0), (.int .i64 0), (.int .i64 0), (.int .i64 0), (.int .i64 0), (.int .i64 0), (.int .i64 0), .nils, .nils, (.str ⟨#[]⟩), (.str ⟨#[]⟩)], none⟩] [1, 2, 4])
  (.scope (.seq (.region [⟨(some 7), .load (some 11) (.tmp 2), none⟩,
    ⟨(some 8), .call (.const (.fn F.msg_Copy [] [])) [(.tmp 7)], none⟩,
    ⟨none, .store 11 (.tmp 2) (.tmp 8), none⟩] [1, 2, 4])
  (.seq (.skip)
  (.seq (.seq (.region [⟨(some 9), .field 0 (.tmp 2), none⟩,
    ⟨(some 10), .load none (.tmp 9), none⟩,
    ⟨(some 11), .call (.const (.fn F.field_Of [] [])) [(.tmp 10)], none⟩,
    ⟨(some 12), .len .slice (.tmp 11), none⟩,
    ⟨(some 13), .mov (.const (.int .i64 0)), none⟩] [1, 2, 4, 11, 12, 13])
  (.block 0 (.loop msg_Project.b0)))
  (.seq (.region [⟨(some 37), .load (some 11) (.tmp 2), none⟩,
    ⟨none, .store 11 (.tmp 4) (.tmp 37), none⟩] [4])
  (.ret))))))
def msg_Project : AFun := ⟨38, 2, [.cell 4 (some 11)], msg_Project.body⟩
def msg_Set.body : ACode := .seq (.region [⟨(some 3), .box T.msg_Msg (.tmp 0), none⟩,
    ⟨(some 6), .alloc T.msg_Msg [(.int .i64 0), (.int .i64 0), (.int .i64 0), (.int .i64 0), (.int .i64 0), (.int .i64 0), (.int .i64 0), .nils, .nils, (.str ⟨#[]⟩), (.str ⟨#[]⟩)], none⟩,
    ⟨(some 7), .mov (.const (.bool false)), none⟩] [1, 2, 3, 6])
  (.seq (.region [⟨(some 10), .load (some 11) (.tmp 3), none⟩,
    ⟨(some 11), .call (.const (.fn F.msg_Copy [] [])) [(.tmp 10)], none⟩,
    ⟨none, .store 11 (.tmp 3) (.tmp 11), none⟩] [1, 2, 3, 6])
  (.seq (.region [⟨(some 13), .field 0 (.tmp 3), none⟩,
    ⟨(some 14), .load none (.tmp 13), none⟩,
    ⟨(some 15), .mov (.tmp 1), none⟩,
    ⟨(some 16), .call (.const (.fn F.field_Find [] [])) [(.tmp 14), (.tmp 15)], none⟩,
    ⟨(some 12), .mov (.tmp 16), none⟩,
    ⟨(some 17), .extract (.tmp 12) 0, none⟩,
    ⟨(some 18), .extract (.tmp 12) 1, none⟩,
    ⟨(some 8), .alloc T.field_Field [(.str ⟨#[]⟩), (.int .i64 0), (.int .i64 0), (.int .i64 0), (.int .i64 0), (.int .i64 0), (.int .i64 0)], none⟩,
    ⟨none, .store 7 (.tmp 8) (.tmp 17), none⟩,
    ⟨(some 9), .mov (.tmp 18), none⟩] [2, 3, 6, 8, 9])
  (.seq (.seq (.region [⟨(some 19), .mov (.tmp 9), none⟩,
    ⟨(some 20), .un .not (.tmp 19), none⟩,
    ⟨(some 21), .mov (.tmp 20), none⟩,
    ⟨(some 22), .field 2 (.tmp 8), some (21, false)⟩,
    ⟨(some 23), .load none (.tmp 22), some (21, false)⟩,
    ⟨(some 24), .bin .lss (.tmp 23) (.const (.int .i64 0)), some (21, false)⟩,
    ⟨(some 25), .pick (.tmp 21) (.const (.bool true)) (.tmp 24), none⟩] [2, 3, 6, 8, 25])
  (.cond (.tmp 25) (.seq (.region [⟨(some 26), .load (some 11) (.tmp 3), none⟩,
    ⟨none, .store 11 (.tmp 6) (.tmp 26), none⟩,
    ⟨(some 7), .mov (.const (.bool false)), none⟩] [6, 7])
  (.ret)) (.skip)))
  (.seq (.region [⟨(some 27), .field 2 (.tmp 8), none⟩,
    ⟨(some 28), .load none (.tmp 27), none⟩,
    ⟨(some 29), .mov (.tmp 2), none⟩,
    ⟨(some 30), .field 1 (.tmp 3), none⟩,
    ⟨(some 31), .idx 1 (some 6) (.tmp 30) (.tmp 28), none⟩,
    ⟨none, .store 1 (.tmp 31) (.tmp 29), none⟩] [3, 6])
  (.seq (.region [⟨(some 32), .load (some 11) (.tmp 3), none⟩,
    ⟨none, .store 11 (.tmp 6) (.tmp 32), none⟩,
    ⟨(some 7), .mov (.const (.bool true)), none⟩] [6, 7])
  (.ret))))))
def msg_Set : AFun := ⟨33, 3, [.cell 6 (some 11), .tmp 7], msg_Set.body⟩
def cuneiformlaw17_known.body : ACode := .seq (.region [⟨(some 0), .mov (.const (.bool false)), none⟩] [])
  (.seq (.region [⟨(some 6), .call (.const (.fn F.msg_New [] [])) [(.const (.int .i64 2))], none⟩,
    ⟨(some 1), .alloc T.msg_Msg [(.int .i64 0), (.int .i64 0), (.int .i64 0), (.int .i64 0), (.int .i64 0), (.int .i64 0), (.int .i64 0), .nils, .nils, (.str ⟨#[]⟩), (.str ⟨#[]⟩)], none⟩,
    ⟨none, .store 11 (.tmp 1) (.tmp 6), none⟩] [1])
  (.seq (.region [⟨(some 8), .load (some 11) (.tmp 1), none⟩,
    ⟨(some 9), .call (.const (.fn F.msg_Set [] [])) [(.tmp 8), (.const (.str ⟨#[122, 111, 110, 101]⟩)), (.const (.int .i64 7))], none⟩,
    ⟨(some 7), .mov (.tmp 9), none⟩,
    ⟨(some 10), .extract (.tmp 7) 0, none⟩,
    ⟨(some 11), .extract (.tmp 7) 1, none⟩,
    ⟨(some 2), .alloc T.msg_Msg [(.int .i64 0), (.int .i64 0), (.int .i64 0), (.int .i64 0), (.int .i64 0), (.int .i64 0), (.int .i64 0), .nils, .nils, (.str ⟨#[]⟩), (.str ⟨#[]⟩)], none⟩,
    ⟨none, .store 11 (.tmp 2) (.tmp 10), none⟩,
    ⟨(some 3), .mov (.tmp 11), none⟩] [1, 2, 3])
  (.seq (.region [⟨(some 13), .load (some 11) (.tmp 2), none⟩,
    ⟨(some 14), .call (.const (.fn F.msg_Project [] [])) [(.tmp 13), (.const (.int .i64 1))], none⟩,
    ⟨(some 15), .call (.const (.fn F.msg_Get [] [])) [(.tmp 14), (.const (.str ⟨#[122, 111, 110, 101]⟩))], none⟩,
    ⟨(some 12), .mov (.tmp 15), none⟩,
    ⟨(some 16), .extract (.tmp 12) 0, none⟩,
    ⟨(some 17), .extract (.tmp 12) 1, none⟩,
    ⟨(some 4), .mov (.tmp 16), none⟩,
    ⟨(some 5), .mov (.tmp 17), none⟩] [1, 2, 3, 4, 5])
  (.seq (.region [⟨(some 18), .field 0 (.tmp 1), none⟩,
    ⟨(some 19), .load none (.tmp 18), none⟩,
    ⟨(some 20), .bin .eql (.tmp 19) (.const (.int .i64 2)), none⟩,
    ⟨(some 21), .mov (.tmp 20), none⟩,
    ⟨(some 22), .field 1 (.tmp 1), some (21, true)⟩,
    ⟨(some 23), .load (some 6) (.tmp 22), some (21, true)⟩,
    ⟨(some 24), .build [(.int .i64 0), (.int .i64 0), (.int .i64 0), (.int .i64 0), (.int .i64 0), (.int .i64 0)] [], some (21, true)⟩,
    ⟨(some 25), .eq false (.cells [.int, .int, .int, .int, .int, .int]) (.tmp 23) (.tmp 24), some (21, true)⟩,
    ⟨(some 26), .pick (.tmp 21) (.tmp 25) (.const (.bool false)), none⟩,
    ⟨(some 27), .mov (.tmp 26), none⟩,
    ⟨(some 28), .mov (.tmp 3), some (27, true)⟩,
    ⟨(some 29), .pick (.tmp 27) (.tmp 28) (.const (.bool false)), none⟩,
    ⟨(some 30), .mov (.tmp 29), none⟩,
    ⟨(some 31), .field 1 (.tmp 2), some (30, true)⟩,
    ⟨(some 32), .idx 1 (some 6) (.tmp 31) (.const (.int .i64 2)), some (30, true)⟩,
    ⟨(some 33), .load none (.tmp 32), some (30, true)⟩,
    ⟨(some 34), .bin .eql (.tmp 33) (.const (.int .i64 7)), some (30, true)⟩,
    ⟨(some 35), .pick (.tmp 30) (.tmp 34) (.const (.bool false)), none⟩,
    ⟨(some 36), .mov (.tmp 35), none⟩,
    ⟨(some 37), .mov (.tmp 4), some (36, true)⟩,
    ⟨(some 38), .bin .eql (.tmp 37) (.const (.int .i64 0)), some (36, true)⟩,
    ⟨(some 39), .pick (.tmp 36) (.tmp 38) (.const (.bool false)), none⟩,
    ⟨(some 40), .mov (.tmp 39), none⟩,
    ⟨(some 41), .mov (.tmp 5), some (40, true)⟩,
    ⟨(some 42), .pick (.tmp 40) (.tmp 41) (.const (.bool false)), none⟩,
    ⟨(some 0), .mov (.tmp 42), none⟩] [0])
  (.ret)))))
def cuneiformlaw17_known : AFun := ⟨43, 0, [.tmp 0], cuneiformlaw17_known.body⟩
def cuneiformref17_Same.d0 : List AOper := [⟨(some 56), .field 7 (.tmp 2), none⟩,
    ⟨(some 57), .load none (.tmp 56), none⟩,
    ⟨(some 58), .mov (.tmp 5), none⟩,
    ⟨(some 59), .idx 2 none (.tmp 57) (.tmp 58), none⟩,
    ⟨(some 60), .load (some 2) (.tmp 59), none⟩,
    ⟨(some 61), .field 7 (.tmp 3), none⟩,
    ⟨(some 62), .load none (.tmp 61), none⟩,
    ⟨(some 63), .mov (.tmp 5), none⟩,
    ⟨(some 64), .idx 2 none (.tmp 62) (.tmp 63), none⟩,
    ⟨(some 65), .load (some 2) (.tmp 64), none⟩,
    ⟨(some 66), .eq true (.cells [.int, .int]) (.tmp 60) (.tmp 65), none⟩]
def cuneiformref17_Same.d0b : List (List Nat) := [[], [0], [], [0, 1, 2], [0, 1, 2, 3], [], [5], [], [5, 6, 7], [5, 6, 7, 8], [0, 1, 2, 3, 4, 5, 6, 7, 8, 9]]
def cuneiformref17_Same.b1 : ACode := .seq (.seq (.region [⟨(some 49), .mov (.tmp 5), none⟩,
    ⟨(some 50), .field 7 (.tmp 2), none⟩,
    ⟨(some 51), .load none (.tmp 50), none⟩,
    ⟨(some 52), .len .slice (.tmp 51), none⟩,
    ⟨(some 53), .bin .lss (.tmp 49) (.tmp 52), none⟩] [2, 3, 5, 53])
  (.cond (.tmp 53) (.skip) (.exit 0)))
  (.seq (.block 1 (.seq (.draw cuneiformref17_Same.d0 cuneiformref17_Same.d0b [[0, 1, 2, 3, 4, 5, 6, 7, 8, 9, 10]] [] [2, 3, 5, 66])
  (.cond (.tmp 66) (.seq (.region [⟨(some 4), .mov (.const (.bool false)), none⟩] [4])
  (.ret)) (.skip))))
  (.region [⟨(some 54), .mov (.tmp 5), none⟩,
    ⟨(some 55), .bin .add (.tmp 54) (.const (.int .i64 1)), none⟩,
    ⟨(some 5), .mov (.tmp 55), none⟩] [2, 3, 5]))
def cuneiformref17_Same.body : ACode := .seq (.region [⟨(some 2), .box T.cuneiformref17_M (.tmp 0), none⟩,
    ⟨(some 3), .box T.cuneiformref17_M (.tmp 1), none⟩,
    ⟨(some 4), .mov (.const (.bool false)), none⟩] [2, 3])
  (.seq (.seq (.region [⟨(some 6), .field 0 (.tmp 2), none⟩,
    ⟨(some 7), .load none (.tmp 6), none⟩,
    ⟨(some 8), .field 0 (.tmp 3), none⟩,
    ⟨(some 9), .load none (.tmp 8), none⟩,
    ⟨(some 10), .bin .neq (.tmp 7) (.tmp 9), none⟩,
    ⟨(some 11), .mov (.tmp 10), none⟩,
    ⟨(some 12), .field 1 (.tmp 2), some (11, false)⟩,
    ⟨(some 13), .load (some 6) (.tmp 12), some (11, false)⟩,
    ⟨(some 14), .field 1 (.tmp 3), some (11, false)⟩,
    ⟨(some 15), .load (some 6) (.tmp 14), some (11, false)⟩,
    ⟨(some 16), .eq true (.cells [.int, .int, .int, .int, .int, .int]) (.tmp 13) (.tmp 15), some (11, false)⟩,
    ⟨(some 17), .pick (.tmp 11) (.const (.bool true)) (.tmp 16), none⟩,
    ⟨(some 18), .mov (.tmp 17), none⟩,
    ⟨(some 19), .field 7 (.tmp 2), some (18, false)⟩,
    ⟨(some 20), .load none (.tmp 19), some (18, false)⟩,
    ⟨(some 21), .len .slice (.tmp 20), some (18, false)⟩,
    ⟨(some 22), .field 7 (.tmp 3), some (18, false)⟩,
    ⟨(some 23), .load none (.tmp 22), some (18, false)⟩,
    ⟨(some 24), .len .slice (.tmp 23), some (18, false)⟩,
    ⟨(some 25), .bin .neq (.tmp 21) (.tmp 24), some (18, false)⟩,
    ⟨(some 26), .pick (.tmp 18) (.const (.bool true)) (.tmp 25), none⟩,
    ⟨(some 27), .mov (.tmp 26), none⟩,
    ⟨(some 28), .field 8 (.tmp 2), some (27, false)⟩,
    ⟨(some 29), .load none (.tmp 28), some (27, false)⟩,
    ⟨(some 30), .field 8 (.tmp 3), some (27, false)⟩,
    ⟨(some 31), .load none (.tmp 30), some (27, false)⟩,
    ⟨(some 32), .call (.const (.fn F.cuneiformref01_Ints [] [])) [(.tmp 29), (.tmp 31)], some (27, false)⟩,
    ⟨(some 33), .un .not (.tmp 32), some (27, false)⟩,
    ⟨(some 34), .pick (.tmp 27) (.const (.bool true)) (.tmp 33), none⟩,
    ⟨(some 35), .mov (.tmp 34), none⟩,
    ⟨(some 36), .field 9 (.tmp 2), some (35, false)⟩,
    ⟨(some 37), .load none (.tmp 36), some (35, false)⟩,
    ⟨(some 38), .field 9 (.tmp 3), some (35, false)⟩,
    ⟨(some 39), .load none (.tmp 38), some (35, false)⟩,
    ⟨(some 40), .bin .neq (.tmp 37) (.tmp 39), some (35, false)⟩,
    ⟨(some 41), .pick (.tmp 35) (.const (.bool true)) (.tmp 40), none⟩,
    ⟨(some 42), .mov (.tmp 41), none⟩,
    ⟨(some 43), .field 10 (.tmp 2), some (42, false)⟩,
    ⟨(some 44), .load none (.tmp 43), some (42, false)⟩,
    ⟨(some 45), .field 10 (.tmp 3), some (42, false)⟩,
    ⟨(some 46), .load none (.tmp 45), some (42, false)⟩,
    ⟨(some 47), .bin .neq (.tmp 44) (.tmp 46), some (42, false)⟩,
    ⟨(some 48), .pick (.tmp 42) (.const (.bool true)) (.tmp 47), none⟩] [2, 3, 48])
  (.cond (.tmp 48) (.seq (.region [⟨(some 4), .mov (.const (.bool false)), none⟩] [4])
  (.ret)) (.skip)))
  (.seq (.seq (.region [⟨(some 5), .mov (.const (.int .i64 0)), none⟩] [2, 3, 5])
  (.block 0 (.loop cuneiformref17_Same.b1)))
  (.seq (.region [⟨(some 4), .mov (.const (.bool true)), none⟩] [4])
  (.ret))))
def cuneiformref17_Same : AFun := ⟨67, 2, [.tmp 4], cuneiformref17_Same.body⟩
def cuneiformref16_All.b0 : ACode := .seq (.seq (.region [⟨(some 49), .mov (.tmp 6), none⟩,
    ⟨(some 50), .mov (.tmp 5), none⟩,
    ⟨(some 51), .len .slice (.tmp 50), none⟩,
    ⟨(some 52), .bin .lss (.tmp 49) (.tmp 51), none⟩] [3, 4, 5, 6, 52])
  (.cond (.tmp 52) (.skip) (.exit 1)))
  (.seq (.block 2 (.seq (.region [⟨(some 55), .mov (.tmp 5), none⟩,
    ⟨(some 56), .mov (.tmp 6), none⟩,
    ⟨(some 57), .idx 7 none (.tmp 55) (.tmp 56), none⟩,
    ⟨(some 58), .load (some 7) (.tmp 57), none⟩,
    ⟨(some 7), .alloc T.cuneiformref16_F [(.str ⟨#[]⟩), (.int .i64 0), (.int .i64 0), (.int .i64 0), (.int .i64 0), (.int .i64 0), (.int .i64 0)], none⟩,
    ⟨none, .store 7 (.tmp 7) (.tmp 58), none⟩] [3, 4, 5, 6, 7])
  (.seq (.region [⟨(some 59), .field 2 (.tmp 7), none⟩,
    ⟨none, .store 1 (.tmp 59) (.const (.int .i64 (-1))), none⟩] [3, 4, 5, 6, 7])
  (.seq (.seq (.region [⟨(some 60), .field 1 (.tmp 7), none⟩,
    ⟨(some 61), .load none (.tmp 60), none⟩,
    ⟨(some 62), .bin .lss (.tmp 61) (.const (.int .i64 3)), none⟩] [3, 4, 5, 6, 7, 62])
  (.cond (.tmp 62) (.seq (.region [⟨(some 63), .mov (.tmp 4), none⟩,
    ⟨(some 64), .field 2 (.tmp 7), none⟩,
    ⟨none, .store 1 (.tmp 64) (.tmp 63), none⟩] [3, 4, 5, 6, 7])
  (.region [⟨(some 65), .mov (.tmp 4), none⟩,
    ⟨(some 66), .bin .add (.tmp 65) (.const (.int .i64 1)), none⟩,
    ⟨(some 4), .mov (.tmp 66), none⟩] [3, 4, 5, 6, 7])) (.skip)))
  (.region [⟨(some 67), .mov (.tmp 3), none⟩,
    ⟨(some 68), .load (some 7) (.tmp 7), none⟩,
    ⟨(some 69), .lit T.cuneiformref16_F 7 1 [(.str ⟨#[]⟩), (.int .i64 0), (.int .i64 0), (.int .i64 0), (.int .i64 0), (.int .i64 0), (.int .i64 0)] [(0, 7, (.tmp 68))], none⟩,
    ⟨(some 70), .append T.cuneiformref16_F 7 64 (.tmp 67) (.tmp 69), none⟩,
    ⟨(some 3), .mov (.tmp 70), none⟩] [3, 4, 5, 6])))))
  (.region [⟨(some 53), .mov (.tmp 6), none⟩,
    ⟨(some 54), .bin .add (.tmp 53) (.const (.int .i64 1)), none⟩,
    ⟨(some 6), .mov (.tmp 54), none⟩] [3, 4, 5, 6]))
def cuneiformref16_All.body : ACode := .seq (.region [⟨(some 2), .mov (.const .nils), none⟩] [0])
  (.seq (.region [⟨(some 3), .mov (.const .nils), none⟩] [0, 3])
  (.seq (.region [⟨(some 4), .mov (.const (.int .i64 0)), none⟩] [0, 3, 4])
  (.seq (.region [⟨(some 8), .lit T.cuneiformref16_F 7 0 [] [], none⟩,
    ⟨(some 5), .mov (.tmp 8), none⟩] [0, 3, 4, 5])
  (.seq (.seq (.region [⟨(some 9), .mov (.tmp 0), none⟩] [3, 4, 5, 9])
  (.block 0 (.seq (.region [⟨(some 11), .bin .eql (.tmp 9) (.const (.int .i64 1)), none⟩,
    ⟨(some 10), .mov (.tmp 11), none⟩] [3, 4, 5, 9, 10])
  (.cond (.tmp 10) (.region [⟨(some 12), .build [(.str ⟨#[]⟩), (.int .i64 0), (.int .i64 0), (.int .i64 0), (.int .i64 0), (.int .i64 0), (.int .i64 0)] [(0, 1, (.const (.str ⟨#[114, 111, 98, 111, 116]⟩))), (1, 1, (.const (.int .i64 1))), (2, 1, (.const (.int .i64 0))), (3, 1, (.const (.int .i64 0))), (4, 1, (.const (.int .i64 65535))), (5, 1, (.const (.int .i64 1))), (6, 1, (.const (.int .i64 0)))], none⟩,
    ⟨(some 13), .build [(.str ⟨#[]⟩), (.int .i64 0), (.int .i64 0), (.int .i64 0), (.int .i64 0), (.int .i64 0), (.int .i64 0)] [(0, 1, (.const (.str ⟨#[115, 112, 101, 101, 100]⟩))), (1, 1, (.const (.int .i64 1))), (2, 1, (.const (.int .i64 0))), (3, 1, (.const (.int .i64 1))), (4, 1, (.const (.int .i64 5000))), (5, 1, (.const (.int .i64 1))), (6, 1, (.const (.int .i64 0)))], none⟩,
    ⟨(some 14), .build [(.str ⟨#[]⟩), (.int .i64 0), (.int .i64 0), (.int .i64 0), (.int .i64 0), (.int .i64 0), (.int .i64 0)] [(0, 1, (.const (.str ⟨#[97, 99, 99, 101, 108]⟩))), (1, 1, (.const (.int .i64 1))), (2, 1, (.const (.int .i64 0))), (3, 1, (.const (.int .i64 1))), (4, 1, (.const (.int .i64 10000))), (5, 1, (.const (.int .i64 2))), (6, 1, (.const (.int .i64 500)))], none⟩,
    ⟨(some 15), .build [(.str ⟨#[]⟩), (.int .i64 0), (.int .i64 0), (.int .i64 0), (.int .i64 0), (.int .i64 0), (.int .i64 0)] [(0, 1, (.const (.str ⟨#[112, 97, 116, 104]⟩))), (1, 1, (.const (.int .i64 3))), (2, 1, (.const (.int .i64 0))), (3, 1, (.const (.int .i64 1))), (4, 1, (.const (.int .i64 16))), (5, 1, (.const (.int .i64 1))), (6, 1, (.const (.int .i64 0)))], none⟩,
    ⟨(some 16), .build [(.str ⟨#[]⟩), (.int .i64 0), (.int .i64 0), (.int .i64 0), (.int .i64 0), (.int .i64 0), (.int .i64 0)] [(0, 1, (.const (.str ⟨#[116, 97, 103]⟩))), (1, 1, (.const (.int .i64 6))), (2, 1, (.const (.int .i64 0))), (3, 1, (.const (.int .i64 0))), (4, 1, (.const (.int .i64 16))), (5, 1, (.const (.int .i64 2))), (6, 1, (.const (.int .i64 0)))], none⟩,
    ⟨(some 17), .lit T.cuneiformref16_F 7 5 [(.str ⟨#[]⟩), (.int .i64 0), (.int .i64 0), (.int .i64 0), (.int .i64 0), (.int .i64 0), (.int .i64 0), (.str ⟨#[]⟩), (.int .i64 0), (.int .i64 0), (.int .i64 0), (.int .i64 0), (.int .i64 0), (.int .i64 0), (.str ⟨#[]⟩), (.int .i64 0), (.int .i64 0), (.int .i64 0), (.int .i64 0), (.int .i64 0), (.int .i64 0), (.str ⟨#[]⟩), (.int .i64 0), (.int .i64 0), (.int .i64 0), (.int .i64 0), (.int .i64 0), (.int .i64 0), (.str ⟨#[]⟩), (.int .i64 0), (.int .i64 0), (.int .i64 0), (.int .i64 0), (.int .i64 0), (.int .i64 0)] [(0, 7, (.tmp 12)), (7, 7, (.tmp 13)), (14, 7, (.tmp 14)), (21, 7, (.tmp 15)), (28, 7, (.tmp 16))], none⟩,
    ⟨(some 5), .mov (.tmp 17), none⟩] [3, 4, 5]) (.seq (.region [⟨(some 19), .bin .eql (.tmp 9) (.const (.int .i64 2)), none⟩,
    ⟨(some 18), .mov (.tmp 19), none⟩] [3, 4, 5, 9, 18])
  (.cond (.tmp 18) (.region [⟨(some 20), .build [(.str ⟨#[]⟩), (.int .i64 0), (.int .i64 0), (.int .i64 0), (.int .i64 0), (.int .i64 0), (.int .i64 0)] [(0, 1, (.const (.str ⟨#[114, 111, 98, 111, 116]⟩))), (1, 1, (.const (.int .i64 1))), (2, 1, (.const (.int .i64 0))), (3, 1, (.const (.int .i64 0))), (4, 1, (.const (.int .i64 65535))), (5, 1, (.const (.int .i64 1))), (6, 1, (.const (.int .i64 0)))], none⟩,
    ⟨(some 21), .build [(.str ⟨#[]⟩), (.int .i64 0), (.int .i64 0), (.int .i64 0), (.int .i64 0), (.int .i64 0), (.int .i64 0)] [(0, 1, (.const (.str ⟨#[114, 101, 97, 115, 111, 110]⟩))), (1, 1, (.const (.int .i64 1))), (2, 1, (.const (.int .i64 0))), (3, 1, (.const (.int .i64 0))), (4, 1, (.const (.int .i64 15))), (5, 1, (.const (.int .i64 1))), (6, 1, (.const (.int .i64 0)))], none⟩,
    ⟨(some 22), .build [(.str ⟨#[]⟩), (.int .i64 0), (.int .i64 0), (.int .i64 0), (.int .i64 0), (.int .i64 0), (.int .i64 0)] [(0, 1, (.const (.str ⟨#[122, 111, 110, 101]⟩))), (1, 1, (.const (.int .i64 1))), (2, 1, (.const (.int .i64 0))), (3, 1, (.const (.int .i64 0))), (4, 1, (.const (.int .i64 4095))), (5, 1, (.const (.int .i64 2))), (6, 1, (.const (.int .i64 0)))], none⟩,
    ⟨(some 23), .lit T.cuneiformref16_F 7 3 [(.str ⟨#[]⟩), (.int .i64 0), (.int .i64 0), (.int .i64 0), (.int .i64 0), (.int .i64 0), (.int .i64 0), (.str ⟨#[]⟩), (.int .i64 0), (.int .i64 0), (.int .i64 0), (.int .i64 0), (.int .i64 0), (.int .i64 0), (.str ⟨#[]⟩), (.int .i64 0), (.int .i64 0), (.int .i64 0), (.int .i64 0), (.int .i64 0), (.int .i64 0)] [(0, 7, (.tmp 20)), (7, 7, (.tmp 21)), (14, 7, (.tmp 22))], none⟩,
    ⟨(some 5), .mov (.tmp 23), none⟩] [3, 4, 5]) (.seq (.region [⟨(some 25), .bin .eql (.tmp 9) (.const (.int .i64 3)), none⟩,
    ⟨(some 24), .mov (.tmp 25), none⟩] [3, 4, 5, 9, 24])
  (.cond (.tmp 24) (.region [⟨(some 26), .build [(.str ⟨#[]⟩), (.int .i64 0), (.int .i64 0), (.int .i64 0), (.int .i64 0), (.int .i64 0), (.int .i64 0)] [(0, 1, (.const (.str ⟨#[114, 111, 98, 111, 116]⟩))), (1, 1, (.const (.int .i64 1))), (2, 1, (.const (.int .i64 0))), (3, 1, (.const (.int .i64 0))), (4, 1, (.const (.int .i64 65535))), (5, 1, (.const (.int .i64 1))), (6, 1, (.const (.int .i64 0)))], none⟩,
    ⟨(some 27), .build [(.str ⟨#[]⟩), (.int .i64 0), (.int .i64 0), (.int .i64 0), (.int .i64 0), (.int .i64 0), (.int .i64 0)] [(0, 1, (.const (.str ⟨#[122, 111, 110, 101]⟩))), (1, 1, (.const (.int .i64 1))), (2, 1, (.const (.int .i64 0))), (3, 1, (.const (.int .i64 0))), (4, 1, (.const (.int .i64 4095))), (5, 1, (.const (.int .i64 1))), (6, 1, (.const (.int .i64 0)))], none⟩,
    ⟨(some 28), .build [(.str ⟨#[]⟩), (.int .i64 0), (.int .i64 0), (.int .i64 0), (.int .i64 0), (.int .i64 0), (.int .i64 0)] [(0, 1, (.const (.str ⟨#[108, 101, 97, 115, 101]⟩))), (1, 1, (.const (.int .i64 1))), (2, 1, (.const (.int .i64 0))), (3, 1, (.const (.int .i64 1))), (4, 1, (.const (.int .i64 255))), (5, 1, (.const (.int .i64 2))), (6, 1, (.const (.int .i64 1)))], none⟩,
    ⟨(some 29), .build [(.str ⟨#[]⟩), (.int .i64 0), (.int .i64 0), (.int .i64 0), (.int .i64 0), (.int .i64 0), (.int .i64 0)] [(0, 1, (.const (.str ⟨#[99, 101, 108, 108, 115]⟩))), (1, 1, (.const (.int .i64 4))), (2, 1, (.const (.int .i64 0))), (3, 1, (.const (.int .i64 1))), (4, 1, (.const (.int .i64 32))), (5, 1, (.const (.int .i64 1))), (6, 1, (.const (.int .i64 0)))], none⟩,
    ⟨(some 30), .lit T.cuneiformref16_F 7 4 [(.str ⟨#[]⟩), (.int .i64 0), (.int .i64 0), (.int .i64 0), (.int .i64 0), (.int .i64 0), (.int .i64 0), (.str ⟨#[]⟩), (.int .i64 0), (.int .i64 0), (.int .i64 0), (.int .i64 0), (.int .i64 0), (.int .i64 0), (.str ⟨#[]⟩), (.int .i64 0), (.int .i64 0), (.int .i64 0), (.int .i64 0), (.int .i64 0), (.int .i64 0), (.str ⟨#[]⟩), (.int .i64 0), (.int .i64 0), (.int .i64 0), (.int .i64 0), (.int .i64 0), (.int .i64 0)] [(0, 7, (.tmp 26)), (7, 7, (.tmp 27)), (14, 7, (.tmp 28)), (21, 7, (.tmp 29))], none⟩,
    ⟨(some 5), .mov (.tmp 30), none⟩] [3, 4, 5]) (.seq (.region [⟨(some 32), .bin .eql (.tmp 9) (.const (.int .i64 4)), none⟩,
    ⟨(some 31), .mov (.tmp 32), none⟩] [3, 4, 5, 9, 31])
  (.cond (.tmp 31) (.region [⟨(some 33), .build [(.str ⟨#[]⟩), (.int .i64 0), (.int .i64 0), (.int .i64 0), (.int .i64 0), (.int .i64 0), (.int .i64 0)] [(0, 1, (.const (.str ⟨#[114, 111, 98, 111, 116]⟩))), (1, 1, (.const (.int .i64 1))), (2, 1, (.const (.int .i64 0))), (3, 1, (.const (.int .i64 0))), (4, 1, (.const (.int .i64 65535))), (5, 1, (.const (.int .i64 1))), (6, 1, (.const (.int .i64 0)))], none⟩,
    ⟨(some 34), .build [(.str ⟨#[]⟩), (.int .i64 0), (.int .i64 0), (.int .i64 0), (.int .i64 0), (.int .i64 0), (.int .i64 0)] [(0, 1, (.const (.str ⟨#[120]⟩))), (1, 1, (.const (.int .i64 2))), (2, 1, (.const (.int .i64 0))), (3, 1, (.const (.int .i64 (-1000000)))), (4, 1, (.const (.int .i64 1000000))), (5, 1, (.const (.int .i64 1))), (6, 1, (.const (.int .i64 0)))], none⟩,
    ⟨(some 35), .build [(.str ⟨#[]⟩), (.int .i64 0), (.int .i64 0), (.int .i64 0), (.int .i64 0), (.int .i64 0), (.int .i64 0)] [(0, 1, (.const (.str ⟨#[121]⟩))), (1, 1, (.const (.int .i64 2))), (2, 1, (.const (.int .i64 0))), (3, 1, (.const (.int .i64 (-1000000)))), (4, 1, (.const (.int .i64 1000000))), (5, 1, (.const (.int .i64 1))), (6, 1, (.const (.int .i64 0)))], none⟩,
    ⟨(some 36), .build [(.str ⟨#[]⟩), (.int .i64 0), (.int .i64 0), (.int .i64 0), (.int .i64 0), (.int .i64 0), (.int .i64 0)] [(0, 1, (.const (.str ⟨#[104, 101, 97, 100, 105, 110, 103]⟩))), (1, 1, (.const (.int .i64 1))), (2, 1, (.const (.int .i64 0))), (3, 1, (.const (.int .i64 0))), (4, 1, (.const (.int .i64 35999))), (5, 1, (.const (.int .i64 1))), (6, 1, (.const (.int .i64 0)))], none⟩,
    ⟨(some 37), .build [(.str ⟨#[]⟩), (.int .i64 0), (.int .i64 0), (.int .i64 0), (.int .i64 0), (.int .i64 0), (.int .i64 0)] [(0, 1, (.const (.str ⟨#[98, 97, 116, 116, 101, 114, 121]⟩))), (1, 1, (.const (.int .i64 1))), (2, 1, (.const (.int .i64 0))), (3, 1, (.const (.int .i64 0))), (4, 1, (.const (.int .i64 1000))), (5, 1, (.const (.int .i64 1))), (6, 1, (.const (.int .i64 0)))], none⟩,
    ⟨(some 38), .build [(.str ⟨#[]⟩), (.int .i64 0), (.int .i64 0), (.int .i64 0), (.int .i64 0), (.int .i64 0), (.int .i64 0)] [(0, 1, (.const (.str ⟨#[115, 117, 114, 101]⟩))), (1, 1, (.const (.int .i64 1))), (2, 1, (.const (.int .i64 0))), (3, 1, (.const (.int .i64 0))), (4, 1, (.const (.int .i64 100))), (5, 1, (.const (.int .i64 2))), (6, 1, (.const (.int .i64 100)))], none⟩,
    ⟨(some 39), .lit T.cuneiformref16_F 7 6 [(.str ⟨#[]⟩), (.int .i64 0), (.int .i64 0), (.int .i64 0), (.int .i64 0), (.int .i64 0), (.int .i64 0), (.str ⟨#[]⟩), (.int .i64 0), (.int .i64 0), (.int .i64 0), (.int .i64 0), (.int .i64 0), (.int .i64 0), (.str ⟨#[]⟩), (.int .i64 0), (.int .i64 0), (.int .i64 0), (.int .i64 0), (.int .i64 0), (.int .i64 0), (.str ⟨#[]⟩), (.int .i64 0), (.int .i64 0), (.int .i64 0), (.int .i64 0), (.int .i64 0), (.int .i64 0), (.str ⟨#[]⟩), (.int .i64 0), (.int .i64 0), (.int .i64 0), (.int .i64 0), (.int .i64 0), (.int .i64 0), (.str ⟨#[]⟩), (.int .i64 0), (.int .i64 0), (.int .i64 0), (.int .i64 0), (.int .i64 0), (.int .i64 0)] [(0, 7, (.tmp 33)), (7, 7, (.tmp 34)), (14, 7, (.tmp 35)), (21, 7, (.tmp 36)), (28, 7, (.tmp 37)), (35, 7, (.tmp 38))], none⟩,
    ⟨(some 5), .mov (.tmp 39), none⟩] [3, 4, 5]) (.seq (.region [⟨(some 41), .bin .eql (.tmp 9) (.const (.int .i64 5)), none⟩,
    ⟨(some 40), .mov (.tmp 41), none⟩] [3, 4, 5, 40])
  (.cond (.tmp 40) (.region [⟨(some 42), .build [(.str ⟨#[]⟩), (.int .i64 0), (.int .i64 0), (.int .i64 0), (.int .i64 0), (.int .i64 0), (.int .i64 0)] [(0, 1, (.const (.str ⟨#[114, 111, 98, 111, 116]⟩))), (1, 1, (.const (.int .i64 1))), (2, 1, (.const (.int .i64 0))), (3, 1, (.const (.int .i64 0))), (4, 1, (.const (.int .i64 65535))), (5, 1, (.const (.int .i64 1))), (6, 1, (.const (.int .i64 0)))], none⟩,
    ⟨(some 43), .build [(.str ⟨#[]⟩), (.int .i64 0), (.int .i64 0), (.int .i64 0), (.int .i64 0), (.int .i64 0), (.int .i64 0)] [(0, 1, (.const (.str ⟨#[99, 111, 100, 101]⟩))), (1, 1, (.const (.int .i64 1))), (2, 1, (.const (.int .i64 0))), (3, 1, (.const (.int .i64 1))), (4, 1, (.const (.int .i64 9999))), (5, 1, (.const (.int .i64 1))), (6, 1, (.const (.int .i64 0)))], none⟩,
    ⟨(some 44), .build [(.str ⟨#[]⟩), (.int .i64 0), (.int .i64 0), (.int .i64 0), (.int .i64 0), (.int .i64 0), (.int .i64 0)] [(0, 1, (.const (.str ⟨#[115, 101, 118, 101, 114, 105, 116, 121]⟩))), (1, 1, (.const (.int .i64 1))), (2, 1, (.const (.int .i64 0))), (3, 1, (.const (.int .i64 0))), (4, 1, (.const (.int .i64 4))), (5, 1, (.const (.int .i64 1))), (6, 1, (.const (.int .i64 0)))], none⟩,
    ⟨(some 45), .build [(.str ⟨#[]⟩), (.int .i64 0), (.int .i64 0), (.int .i64 0), (.int .i64 0), (.int .i64 0), (.int .i64 0)] [(0, 1, (.const (.str ⟨#[112, 97, 114, 116]⟩))), (1, 1, (.const (.int .i64 1))), (2, 1, (.const (.int .i64 0))), (3, 1, (.const (.int .i64 0))), (4, 1, (.const (.int .i64 255))), (5, 1, (.const (.int .i64 2))), (6, 1, (.const (.int .i64 0)))], none⟩,
    ⟨(some 46), .build [(.str ⟨#[]⟩), (.int .i64 0), (.int .i64 0), (.int .i64 0), (.int .i64 0), (.int .i64 0), (.int .i64 0)] [(0, 1, (.const (.str ⟨#[116, 105, 109, 101, 115]⟩))), (1, 1, (.const (.int .i64 1))), (2, 1, (.const (.int .i64 0))), (3, 1, (.const (.int .i64 1))), (4, 1, (.const (.int .i64 1000000))), (5, 1, (.const (.int .i64 2))), (6, 1, (.const (.int .i64 1)))], none⟩,
    ⟨(some 47), .build [(.str ⟨#[]⟩), (.int .i64 0), (.int .i64 0), (.int .i64 0), (.int .i64 0), (.int .i64 0), (.int .i64 0)] [(0, 1, (.const (.str ⟨#[116, 101, 120, 116]⟩))), (1, 1, (.const (.int .i64 5))), (2, 1, (.const (.int .i64 0))), (3, 1, (.const (.int .i64 0))), (4, 1, (.const (.int .i64 64))), (5, 1, (.const (.int .i64 1))), (6, 1, (.const (.int .i64 0)))], none⟩,
    ⟨(some 48), .lit T.cuneiformref16_F 7 6 [(.str ⟨#[]⟩), (.int .i64 0), (.int .i64 0), (.int .i64 0), (.int .i64 0), (.int .i64 0), (.int .i64 0), (.str ⟨#[]⟩), (.int .i64 0), (.int .i64 0), (.int .i64 0), (.int .i64 0), (.int .i64 0), (.int .i64 0), (.str ⟨#[]⟩), (.int .i64 0), (.int .i64 0), (.int .i64 0), (.int .i64 0), (.int .i64 0), (.int .i64 0), (.str ⟨#[]⟩), (.int .i64 0), (.int .i64 0), (.int .i64 0), (.int .i64 0), (.int .i64 0), (.int .i64 0), (.str ⟨#[]⟩), (.int .i64 0), (.int .i64 0), (.int .i64 0), (.int .i64 0), (.int .i64 0), (.int .i64 0), (.str ⟨#[]⟩), (.int .i64 0), (.int .i64 0), (.int .i64 0), (.int .i64 0), (.int .i64 0), (.int .i64 0)] [(0, 7, (.tmp 42)), (7, 7, (.tmp 43)), (14, 7, (.tmp 44)), (21, 7, (.tmp 45)), (28, 7, (.tmp 46)), (35, 7, (.tmp 47))], none⟩,
    ⟨(some 5), .mov (.tmp 48), none⟩] [3, 4, 5]) (.skip)))))))))))))
  (.seq (.seq (.region [⟨(some 6), .mov (.const (.int .i64 0)), none⟩] [3, 4, 5, 6])
  (.block 1 (.loop cuneiformref16_All.b0)))
  (.seq (.region [⟨(some 71), .mov (.tmp 3), none⟩,
    ⟨(some 2), .mov (.tmp 71), none⟩] [2])
  (.ret)))))))
def cuneiformref16_All : AFun := ⟨72, 1, [.tmp 2], cuneiformref16_All.body⟩
def msg_Numbers.body : ACode := .seq (.region [⟨(some 1), .box T.msg_Msg (.tmp 0), none⟩,
    ⟨(some 2), .mov (.const .nilf), none⟩] [1])
  (.seq (.region [⟨(some 3), .mkfn F.msg_Numbers_1 [] [(.tmp 1)], none⟩,
    ⟨(some 2), .mov (.tmp 3), none⟩] [2])
  (.ret))
def msg_Numbers : AFun := ⟨4, 1, [.tmp 2], msg_Numbers.body⟩
def cuneiformref16_Find.b0 : ACode := .seq (.seq (.region [⟨(some 6), .mov (.tmp 5), none⟩,
    ⟨(some 7), .mov (.tmp 0), none⟩,
    ⟨(some 8), .len .slice (.tmp 7), none⟩,
    ⟨(some 9), .bin .lss (.tmp 6) (.tmp 8), none⟩] [0, 1, 5, 9])
  (.cond (.tmp 9) (.skip) (.exit 0)))
  (.seq (.block 1 (.seq (.region [⟨(some 12), .mov (.tmp 0), none⟩,
    ⟨(some 13), .mov (.tmp 5), none⟩,
    ⟨(some 14), .idx 7 none (.tmp 12) (.tmp 13), none⟩,
    ⟨(some 15), .field 0 (.tmp 14), none⟩,
    ⟨(some 16), .load none (.tmp 15), none⟩,
    ⟨(some 17), .mov (.tmp 1), none⟩,
    ⟨(some 18), .bin .eql (.tmp 16) (.tmp 17), none⟩] [0, 1, 5, 18])
  (.cond (.tmp 18) (.seq (.region [⟨(some 19), .mov (.tmp 5), none⟩,
    ⟨(some 4), .mov (.tmp 19), none⟩] [4])
  (.ret)) (.skip))))
  (.region [⟨(some 10), .mov (.tmp 5), none⟩,
    ⟨(some 11), .bin .add (.tmp 10) (.const (.int .i64 1)), none⟩,
    ⟨(some 5), .mov (.tmp 11), none⟩] [0, 1, 5]))
def cuneiformref16_Find.body : ACode := .seq (.region [⟨(some 4), .mov (.const (.int .i64 0)), none⟩] [0, 1])
  (.seq (.seq (.region [⟨(some 5), .mov (.const (.int .i64 0)), none⟩] [0, 1, 5])
  (.block 0 (.loop cuneiformref16_Find.b0)))
  (.seq (.region [⟨(some 4), .mov (.const (.int .i64 (-1))), none⟩] [4])
  (.ret)))
def cuneiformref16_Find : AFun := ⟨20, 2, [.tmp 4], cuneiformref16_Find.body⟩
def msg_Get.body : ACode := .seq (.region [⟨(some 2), .box T.msg_Msg (.tmp 0), none⟩,
    ⟨(some 4), .mov (.const (.int .i64 0)), none⟩,
    ⟨(some 5), .mov (.const (.bool false)), none⟩] [1, 2])
  (.seq (.region [⟨(some 9), .field 0 (.tmp 2), none⟩,
    ⟨(some 10), .load none (.tmp 9), none⟩,
    ⟨(some 11), .mov (.tmp 1), none⟩,
    ⟨(some 12), .call (.const (.fn F.field_Find [] [])) [(.tmp 10), (.tmp 11)], none⟩,
    ⟨(some 8), .mov (.tmp 12), none⟩,
    ⟨(some 13), .extract (.tmp 8) 0, none⟩,
    ⟨(some 14), .extract (.tmp 8) 1, none⟩,
    ⟨(some 6), .alloc T.field_Field [(.str ⟨#[]⟩), (.int .i64 0), (.int .i64 0), (.int .i64 0), (.int .i64 0), (.int .i64 0), (.int .i64 0)], none⟩,
    ⟨none, .store 7 (.tmp 6) (.tmp 13), none⟩,
    ⟨(some 7), .mov (.tmp 14), none⟩] [2, 6, 7])
  (.seq (.seq (.region [⟨(some 15), .mov (.tmp 7), none⟩,
    ⟨(some 16), .un .not (.tmp 15), none⟩,
    ⟨(some 17), .mov (.tmp 16), none⟩,
    ⟨(some 18), .field 2 (.tmp 6), some (17, false)⟩,
    ⟨(some 19), .load none (.tmp 18), some (17, false)⟩,
    ⟨(some 20), .bin .lss (.tmp 19) (.const (.int .i64 0)), some (17, false)⟩,
    ⟨(some 21), .pick (.tmp 17) (.const (.bool true)) (.tmp 20), none⟩] [2, 6, 21])
  (.cond (.tmp 21) (.seq (.region [⟨(some 4), .mov (.const (.int .i64 0)), none⟩,
    ⟨(some 5), .mov (.const (.bool false)), none⟩] [4, 5])
  (.ret)) (.skip)))
  (.seq (.region [⟨(some 22), .field 2 (.tmp 6), none⟩,
    ⟨(some 23), .load none (.tmp 22), none⟩,
    ⟨(some 24), .field 1 (.tmp 2), none⟩,
    ⟨(some 25), .idx 1 (some 6) (.tmp 24) (.tmp 23), none⟩,
    ⟨(some 26), .load none (.tmp 25), none⟩,
    ⟨(some 4), .mov (.tmp 26), none⟩,
    ⟨(some 5), .mov (.const (.bool true)), none⟩] [4, 5])
  (.ret))))
def msg_Get : AFun := ⟨27, 2, [.tmp 4, .tmp 5], msg_Get.body⟩
def msg_Same.body : ACode := .seq (.region [⟨(some 2), .box T.msg_Msg (.tmp 0), none⟩,
    ⟨(some 3), .box T.msg_Msg (.tmp 1), none⟩,
    ⟨(some 4), .mov (.const (.bool false)), none⟩] [2, 3])
  (.seq (.region [⟨(some 5), .field 0 (.tmp 2), none⟩,
    ⟨(some 6), .load none (.tmp 5), none⟩,
    ⟨(some 7), .field 0 (.tmp 3), none⟩,
    ⟨(some 8), .load none (.tmp 7), none⟩,
    ⟨(some 9), .bin .eql (.tmp 6) (.tmp 8), none⟩,
    ⟨(some 10), .mov (.tmp 9), none⟩,
    ⟨(some 11), .field 1 (.tmp 2), some (10, true)⟩,
    ⟨(some 12), .load (some 6) (.tmp 11), some (10, true)⟩,
    ⟨(some 13), .field 1 (.tmp 3), some (10, true)⟩,
    ⟨(some 14), .load (some 6) (.tmp 13), some (10, true)⟩,
    ⟨(some 15), .eq false (.cells [.int, .int, .int, .int, .int, .int]) (.tmp 12) (.tmp 14), some (10, true)⟩,
    ⟨(some 16), .pick (.tmp 10) (.tmp 15) (.const (.bool false)), none⟩,
    ⟨(some 17), .mov (.tmp 16), none⟩,
    ⟨(some 18), .field 7 (.tmp 2), some (17, true)⟩,
    ⟨(some 19), .load none (.tmp 18), some (17, true)⟩,
    ⟨(some 20), .field 7 (.tmp 3), some (17, true)⟩,
    ⟨(some 21), .load none (.tmp 20), some (17, true)⟩,
    ⟨(some 22), .call (.const (.fn F.slices_Equal_msg_Point_msg_Point [] [])) [(.tmp 19), (.tmp 21)], some (17, true)⟩,
    ⟨(some 23), .pick (.tmp 17) (.tmp 22) (.const (.bool false)), none⟩,
    ⟨(some 24), .mov (.tmp 23), none⟩,
    ⟨(some 25), .field 8 (.tmp 2), some (24, true)⟩,
    ⟨(some 26), .load none (.tmp 25), some (24, true)⟩,
    ⟨(some 27), .field 8 (.tmp 3), some (24, true)⟩,
    ⟨(some 28), .load none (.tmp 27), some (24, true)⟩,
    ⟨(some 29), .call (.const (.fn F.slices_Equal_int_int [] [])) [(.tmp 26), (.tmp 28)], some (24, true)⟩,
    ⟨(some 30), .pick (.tmp 24) (.tmp 29) (.const (.bool false)), none⟩,
    ⟨(some 31), .mov (.tmp 30), none⟩,
    ⟨(some 32), .field 9 (.tmp 2), some (31, true)⟩,
    ⟨(some 33), .load none (.tmp 32), some (31, true)⟩,
    ⟨(some 34), .field 9 (.tmp 3), some (31, true)⟩,
    ⟨(some 35), .load none (.tmp 34), some (31, true)⟩,
    ⟨(some 36), .bin .eql (.tmp 33) (.tmp 35), some (31, true)⟩,
    ⟨(some 37), .pick (.tmp 31) (.tmp 36) (.const (.bool false)), none⟩,
    ⟨(some 38), .mov (.tmp 37), none⟩,
    ⟨(some 39), .field 10 (.tmp 2), some (38, true)⟩,
    ⟨(some 40), .load none (.tmp 39), some (38, true)⟩,
    ⟨(some 41), .field 10 (.tmp 3), some (38, true)⟩,
    ⟨(some 42), .load none (.tmp 41), some (38, true)⟩,
    ⟨(some 43), .bin .eql (.tmp 40) (.tmp 42), some (38, true)⟩,
    ⟨(some 44), .pick (.tmp 38) (.tmp 43) (.const (.bool false)), none⟩,
    ⟨(some 4), .mov (.tmp 44), none⟩] [4])
  (.ret))
def msg_Same : AFun := ⟨45, 2, [.tmp 4], msg_Same.body⟩
def msg_Check.d0 : List AOper := [⟨(some 7), .load (some 11) (.tmp 1), none⟩,
    ⟨(some 4), .alloc T.msg_Msg [(.int .i64 0), (.int .i64 0), (.int .i64 0), (.int .i64 0), (.int .i64 0), (.int .i64 0), (.int .i64 0), .nils, .nils, (.str ⟨#[]⟩), (.str ⟨#[]⟩)], none⟩,
    ⟨(some 3), .mov (.const (.int .i64 9)), none⟩,
    ⟨none, .store 11 (.tmp 4) (.tmp 7), none⟩]
def msg_Check.d0b : List (List Nat) := [[], [], [1], [0, 1, 2]]
def msg_Check.b1 : ACode := .seq (.region [⟨(some 13), .bin .lss (.tmp 12) (.tmp 11), none⟩] [1, 3, 4, 10, 11, 12, 13])
  (.seq (.cond (.tmp 13) (.skip) (.exit 0))
  (.seq (.block 1 (.seq (.region [⟨(some 14), .idx 7 none (.tmp 10) (.tmp 12), none⟩,
    ⟨(some 15), .load (some 7) (.tmp 14), none⟩,
    ⟨(some 6), .alloc T.field_Field [(.str ⟨#[]⟩), (.int .i64 0), (.int .i64 0), (.int .i64 0), (.int .i64 0), (.int .i64 0), (.int .i64 0)], none⟩,
    ⟨none, .store 7 (.tmp 6) (.tmp 15), none⟩] [1, 4, 6, 10, 11, 12])
  (.seq (.seq (.region [⟨(some 16), .load (some 11) (.tmp 1), none⟩,
    ⟨(some 17), .load (some 7) (.tmp 6), none⟩,
    ⟨(some 18), .call (.const (.fn F.msg_wrong [] [])) [(.tmp 16), (.tmp 17)], none⟩,
    ⟨(some 3), .mov (.tmp 18), none⟩] [1, 3, 4, 6, 10, 11, 12])
  (.seq (.region [⟨(some 19), .mov (.tmp 3), none⟩,
    ⟨(some 20), .bin .neq (.tmp 19) (.const (.int .i64 0)), none⟩] [1, 3, 4, 6, 10, 11, 12, 20])
  (.cond (.tmp 20) (.exit 0) (.skip))))
  (.region [⟨(some 21), .load (some 11) (.tmp 4), none⟩,
    ⟨(some 22), .load (some 7) (.tmp 6), none⟩,
    ⟨(some 23), .call (.const (.fn F.msg_without [] [])) [(.tmp 21), (.tmp 22)], none⟩,
    ⟨none, .store 11 (.tmp 4) (.tmp 23), none⟩] [1, 3, 4, 10, 11, 12]))))
  (.region [⟨(some 24), .bin .add (.tmp 12) (.const (.int .i64 1)), none⟩,
    ⟨(some 12), .mov (.tmp 24), none⟩] [1, 3, 4, 10, 11, 12])))
def msg_Check.body : ACode := .seq (.region [⟨(some 1), .box T.msg_Msg (.tmp 0), none⟩,
    ⟨(some 2), .mov (.const (.int .i64 0)), none⟩] [1])
  (.scope (.seq (.draw msg_Check.d0 msg_Check.d0b [[0, 1, 2, 3]] [(1, 0)] [1, 3, 4])
  (.seq (.skip)
  (.seq (.seq (.region [⟨(some 8), .field 0 (.tmp 1), none⟩,
    ⟨(some 9), .load none (.tmp 8), none⟩,
    ⟨(some 10), .call (.const (.fn F.field_Of [] [])) [(.tmp 9)], none⟩,
    ⟨(some 11), .len .slice (.tmp 10), none⟩,
    ⟨(some 12), .mov (.const (.int .i64 0)), none⟩] [1, 3, 4, 10, 11, 12])
  (.block 0 (.loop msg_Check.b1)))
  (.seq (.seq (.region [⟨(some 25), .mov (.tmp 3), none⟩,
    ⟨(some 26), .bin .eql (.tmp 25) (.const (.int .i64 0)), none⟩,
    ⟨(some 27), .mov (.tmp 26), none⟩,
    ⟨(some 28), .load (some 11) (.tmp 4), some (27, true)⟩,
    ⟨(some 29), .field 0 (.tmp 1), some (27, true)⟩,
    ⟨(some 30), .load none (.tmp 29), some (27, true)⟩,
    ⟨(some 31), .build [(.int .i64 0), (.int .i64 0), (.int .i64 0), (.int .i64 0), (.int .i64 0), (.int .i64 0), (.int .i64 0), .nils, .nils, (.str ⟨#[]⟩), (.str ⟨#[]⟩)] [(0, 1, (.tmp 30))], some (27, true)⟩,
    ⟨(some 32), .call (.const (.fn F.msg_Same [] [])) [(.tmp 28), (.tmp 31)], some (27, true)⟩,
    ⟨(some 33), .un .not (.tmp 32), some (27, true)⟩,
    ⟨(some 34), .pick (.tmp 27) (.tmp 33) (.const (.bool false)), none⟩] [3, 34])
  (.cond (.tmp 34) (.seq (.region [⟨(some 2), .mov (.const (.int .i64 3)), none⟩] [2])
  (.ret)) (.skip)))
  (.seq (.region [⟨(some 35), .mov (.tmp 3), none⟩,
    ⟨(some 2), .mov (.tmp 35), none⟩] [2])
  (.ret)))))))
def msg_Check : AFun := ⟨36, 1, [.tmp 2], msg_Check.body⟩
def cuneiformref17_Check.d0 : List AOper := [⟨(some 38), .mov (.tmp 3), none⟩,
    ⟨(some 39), .mov (.tmp 6), none⟩,
    ⟨(some 40), .idx 7 none (.tmp 38) (.tmp 39), none⟩,
    ⟨(some 41), .field 2 (.tmp 40), none⟩,
    ⟨(some 42), .load none (.tmp 41), none⟩,
    ⟨(some 43), .field 1 (.tmp 1), none⟩,
    ⟨(some 44), .idx 1 (some 6) (.tmp 43) (.tmp 42), none⟩,
    ⟨(some 45), .load none (.tmp 44), none⟩,
    ⟨(some 46), .mov (.tmp 3), none⟩,
    ⟨(some 47), .mov (.tmp 6), none⟩,
    ⟨(some 48), .idx 7 none (.tmp 46) (.tmp 47), none⟩,
    ⟨(some 49), .field 3 (.tmp 48), none⟩,
    ⟨(some 50), .load none (.tmp 49), none⟩,
    ⟨(some 51), .bin .lss (.tmp 45) (.tmp 50), none⟩,
    ⟨(some 52), .mov (.tmp 51), none⟩,
    ⟨(some 53), .mov (.tmp 3), some (52, false)⟩,
    ⟨(some 54), .mov (.tmp 6), some (52, false)⟩,
    ⟨(some 55), .idx 7 none (.tmp 53) (.tmp 54), some (52, false)⟩,
    ⟨(some 56), .field 2 (.tmp 55), some (52, false)⟩,
    ⟨(some 57), .load none (.tmp 56), some (52, false)⟩,
    ⟨(some 58), .field 1 (.tmp 1), some (52, false)⟩,
    ⟨(some 59), .idx 1 (some 6) (.tmp 58) (.tmp 57), some (52, false)⟩,
    ⟨(some 60), .load none (.tmp 59), some (52, false)⟩,
    ⟨(some 61), .mov (.tmp 3), some (52, false)⟩,
    ⟨(some 62), .mov (.tmp 6), some (52, false)⟩,
    ⟨(some 63), .idx 7 none (.tmp 61) (.tmp 62), some (52, false)⟩,
    ⟨(some 64), .field 4 (.tmp 63), some (52, false)⟩,
    ⟨(some 65), .load none (.tmp 64), some (52, false)⟩,
    ⟨(some 66), .bin .gtr (.tmp 60) (.tmp 65), some (52, false)⟩,
    ⟨(some 67), .pick (.tmp 52) (.const (.bool true)) (.tmp 66), none⟩]
def cuneiformref17_Check.d0b : List (List Nat) := [[], [], [0, 1], [0, 1, 2], [0, 1, 2, 3], [], [0, 1, 2, 3, 4, 5], [0, 1, 2, 3, 4, 5, 6], [], [], [8, 9], [8, 9, 10], [8, 9, 10, 11], [0, 1, 2, 3, 4, 5, 6, 7, 8, 9, 10, 11, 12], [0, 1, 2, 3, 4, 5, 6, 7, 8, 9, 10, 11, 12, 13], [0, 1, 2, 3, 4, 5, 6, 7, 8, 9, 10, 11, 12, 13, 14], [0, 1, 2, 3, 4, 5, 6, 7, 8, 9, 10, 11, 12, 13, 14], [0, 1, 2, 3, 4, 5, 6, 7, 8, 9, 10, 11, 12, 13, 14, 15, 16], [0, 1, 2, 3, 4, 5, 6, 7, 8, 9, 10, 11, 12, 13, 14, 15, 16, 17], [0, 1, 2, 3, 4, 5, 6, 7, 8, 9, 10, 11, 12, 13, 14, 15, 16, 17, 18], [0, 1, 2, 3, 4, 5, 6, 7, 8, 9, 10, 11, 12, 13, 14], [0, 1, 2, 3, 4, 5, 6, 7, 8, 9, 10, 11, 12, 13, 14, 15, 16, 17, 18, 19, 20], [0, 1, 2, 3, 4, 5, 6, 7, 8, 9, 10, 11, 12, 13, 14, 15, 16, 17, 18, 19, 20, 21], [0, 1, 2, 3, 4, 5, 6, 7, 8, 9, 10, 11, 12, 13, 14], [0, 1, 2, 3, 4, 5, 6, 7, 8, 9, 10, 11, 12, 13, 14], [0, 1, 2, 3, 4, 5, 6, 7, 8, 9, 10, 11, 12, 13, 14, 23, 24], [0, 1, 2, 3, 4, 5, 6, 7, 8, 9, 10, 11, 12, 13, 14, 23, 24, 25], [0, 1, 2, 3, 4, 5, 6, 7, 8, 9, 10, 11, 12, 13, 14, 23, 24, 25, 26], [0, 1, 2, 3, 4, 5, 6, 7, 8, 9, 10, 11, 12, 13, 14, 15, 16, 17, 18, 19, 20, 21, 22, 23, 24, 25, 26, 27], [0, 1, 2, 3, 4, 5, 6, 7, 8, 9, 10, 11, 12, 13, 14, 15, 16, 17, 18, 19, 20, 21, 22, 23, 24, 25, 26, 27, 28]]
def cuneiformref17_Check.b1 : ACode := .seq (.seq (.region [⟨(some 15), .mov (.tmp 6), none⟩,
    ⟨(some 16), .mov (.tmp 3), none⟩,
    ⟨(some 17), .len .slice (.tmp 16), none⟩,
    ⟨(some 18), .bin .lss (.tmp 15) (.tmp 17), none⟩] [1, 3, 4, 5, 6, 18])
  (.cond (.tmp 18) (.skip) (.exit 0)))
  (.seq (.block 1 (.seq (.region [⟨(some 7), .mov (.const (.int .i64 0)), none⟩] [1, 3, 4, 5, 6, 7])
  (.seq (.region [⟨(some 21), .mov (.tmp 3), none⟩,
    ⟨(some 22), .mov (.tmp 6), none⟩,
    ⟨(some 23), .idx 7 none (.tmp 21) (.tmp 22), none⟩,
    ⟨(some 24), .field 1 (.tmp 23), none⟩,
    ⟨(some 25), .load none (.tmp 24), none⟩,
    ⟨(some 26), .idx 1 (some 7) (.tmp 4) (.tmp 25), none⟩,
    ⟨none, .store 1 (.tmp 26) (.const (.bool true)), none⟩] [1, 3, 4, 5, 6, 7])
  (.seq (.seq (.region [⟨(some 27), .mov (.tmp 3), none⟩,
    ⟨(some 28), .mov (.tmp 6), none⟩,
    ⟨(some 29), .idx 7 none (.tmp 27) (.tmp 28), none⟩,
    ⟨(some 30), .field 1 (.tmp 29), none⟩,
    ⟨(some 31), .load none (.tmp 30), none⟩] [1, 3, 4, 5, 6, 7, 31])
  (.block 2 (.seq (.region [⟨(some 69), .bin .eql (.tmp 31) (.const (.int .i64 3)), none⟩,
    ⟨(some 68), .mov (.tmp 69), none⟩] [1, 3, 4, 5, 6, 7, 31, 68])
  (.cond (.tmp 68) (.region [⟨(some 70), .field 7 (.tmp 1), none⟩,
    ⟨(some 71), .load none (.tmp 70), none⟩,
    ⟨(some 72), .call (.const (.fn F.cuneiformref17_path [] [])) [(.tmp 71)], none⟩,
    ⟨(some 7), .mov (.tmp 72), none⟩] [1, 3, 4, 5, 6, 7]) (.seq (.region [⟨(some 74), .bin .eql (.tmp 31) (.const (.int .i64 4)), none⟩,
    ⟨(some 73), .mov (.tmp 74), none⟩] [1, 3, 4, 5, 6, 7, 31, 73])
  (.cond (.tmp 73) (.region [⟨(some 75), .field 8 (.tmp 1), none⟩,
    ⟨(some 76), .load none (.tmp 75), none⟩,
    ⟨(some 77), .call (.const (.fn F.cuneiformref17_cells [] [])) [(.tmp 76)], none⟩,
    ⟨(some 7), .mov (.tmp 77), none⟩] [1, 3, 4, 5, 6, 7]) (.seq (.region [⟨(some 79), .bin .eql (.tmp 31) (.const (.int .i64 5)), none⟩,
    ⟨(some 78), .mov (.tmp 79), none⟩] [1, 3, 4, 5, 6, 7, 31, 78])
  (.cond (.tmp 78) (.region [⟨(some 80), .field 9 (.tmp 1), none⟩,
    ⟨(some 81), .load none (.tmp 80), none⟩,
    ⟨(some 82), .call (.const (.fn F.cuneiformref17_text [] [])) [(.tmp 81), (.const (.int .i64 64))], none⟩,
    ⟨(some 7), .mov (.tmp 82), none⟩] [1, 3, 4, 5, 6, 7]) (.seq (.region [⟨(some 84), .bin .eql (.tmp 31) (.const (.int .i64 6)), none⟩,
    ⟨(some 83), .mov (.tmp 84), none⟩] [1, 3, 4, 5, 6, 7, 83])
  (.cond (.tmp 83) (.region [⟨(some 85), .field 10 (.tmp 1), none⟩,
    ⟨(some 86), .load none (.tmp 85), none⟩,
    ⟨(some 87), .call (.const (.fn F.cuneiformref17_text [] [])) [(.tmp 86), (.const (.int .i64 16))], none⟩,
    ⟨(some 7), .mov (.tmp 87), none⟩] [1, 3, 4, 5, 6, 7]) (.seq (.region [⟨(some 32), .mov (.tmp 3), none⟩,
    ⟨(some 33), .mov (.tmp 6), none⟩,
    ⟨(some 34), .idx 7 none (.tmp 32) (.tmp 33), none⟩,
    ⟨(some 35), .field 2 (.tmp 34), none⟩,
    ⟨(some 36), .load none (.tmp 35), none⟩,
    ⟨(some 37), .idx 1 (some 6) (.tmp 5) (.tmp 36), none⟩,
    ⟨none, .store 1 (.tmp 37) (.const (.bool true)), none⟩] [1, 3, 4, 5, 6, 7])
  (.seq (.draw cuneiformref17_Check.d0 cuneiformref17_Check.d0b [[0, 1, 2, 3, 4, 5, 6, 7, 8, 9, 10, 11, 12, 13, 14, 15, 16, 17, 18, 19, 20, 21, 22, 23, 24, 25, 26, 27, 28, 29]] [] [1, 3, 4, 5, 6, 7, 67])
  (.cond (.tmp 67) (.region [⟨(some 7), .mov (.const (.int .i64 5)), none⟩] [1, 3, 4, 5, 6, 7]) (.skip))))))))))))))
  (.seq (.region [⟨(some 88), .mov (.tmp 7), none⟩,
    ⟨(some 89), .bin .neq (.tmp 88) (.const (.int .i64 0)), none⟩] [1, 3, 4, 5, 6, 7, 89])
  (.cond (.tmp 89) (.seq (.region [⟨(some 90), .mov (.tmp 7), none⟩,
    ⟨(some 2), .mov (.tmp 90), none⟩] [2])
  (.ret)) (.skip)))))))
  (.region [⟨(some 19), .mov (.tmp 6), none⟩,
    ⟨(some 20), .bin .add (.tmp 19) (.const (.int .i64 1)), none⟩,
    ⟨(some 6), .mov (.tmp 20), none⟩] [1, 3, 4, 5, 6]))
def cuneiformref17_Check.b2 : ACode := .seq (.seq (.region [⟨(some 91), .mov (.tmp 8), none⟩,
    ⟨(some 92), .bin .lss (.tmp 91) (.const (.int .i64 6)), none⟩] [1, 4, 5, 8, 92])
  (.cond (.tmp 92) (.skip) (.exit 3)))
  (.seq (.block 4 (.seq (.region [⟨(some 95), .mov (.tmp 8), none⟩,
    ⟨(some 96), .idx 1 (some 6) (.tmp 5) (.tmp 95), none⟩,
    ⟨(some 97), .load none (.tmp 96), none⟩,
    ⟨(some 98), .un .not (.tmp 97), none⟩,
    ⟨(some 99), .mov (.tmp 98), none⟩,
    ⟨(some 100), .mov (.tmp 8), some (99, true)⟩,
    ⟨(some 101), .field 1 (.tmp 1), some (99, true)⟩,
    ⟨(some 102), .idx 1 (some 6) (.tmp 101) (.tmp 100), some (99, true)⟩,
    ⟨(some 103), .load none (.tmp 102), some (99, true)⟩,
    ⟨(some 104), .bin .neq (.tmp 103) (.const (.int .i64 0)), some (99, true)⟩,
    ⟨(some 105), .pick (.tmp 99) (.tmp 104) (.const (.bool false)), none⟩] [1, 4, 5, 8, 105])
  (.cond (.tmp 105) (.seq (.region [⟨(some 2), .mov (.const (.int .i64 3)), none⟩] [2])
  (.ret)) (.skip))))
  (.region [⟨(some 93), .mov (.tmp 8), none⟩,
    ⟨(some 94), .bin .add (.tmp 93) (.const (.int .i64 1)), none⟩,
    ⟨(some 8), .mov (.tmp 94), none⟩] [1, 4, 5, 8]))
def cuneiformref17_Check.body : ACode := .seq (.region [⟨(some 1), .box T.cuneiformref17_M (.tmp 0), none⟩,
    ⟨(some 2), .mov (.const (.int .i64 0)), none⟩] [1])
  (.seq (.region [⟨(some 9), .field 0 (.tmp 1), none⟩,
    ⟨(some 10), .load none (.tmp 9), none⟩,
    ⟨(some 11), .call (.const (.fn F.cuneiformref16_All [] [])) [(.tmp 10)], none⟩,
    ⟨(some 3), .mov (.tmp 11), none⟩] [1, 3])
  (.seq (.seq (.region [⟨(some 12), .mov (.tmp 3), none⟩,
    ⟨(some 13), .len .slice (.tmp 12), none⟩,
    ⟨(some 14), .bin .eql (.tmp 13) (.const (.int .i64 0)), none⟩] [1, 3, 14])
  (.cond (.tmp 14) (.seq (.region [⟨(some 2), .mov (.const (.int .i64 9)), none⟩] [2])
  (.ret)) (.skip)))
  (.seq (.region [⟨(some 4), .alloc T.n7_bool [(.bool false), (.bool false), (.bool false), (.bool false), (.bool false), (.bool false), (.bool false)], none⟩] [1, 3, 4])
  (.seq (.region [⟨(some 5), .alloc T.n6_bool [(.bool false), (.bool false), (.bool false), (.bool false), (.bool false), (.bool false)], none⟩] [1, 3, 4, 5])
  (.seq (.seq (.region [⟨(some 6), .mov (.const (.int .i64 0)), none⟩] [1, 3, 4, 5, 6])
  (.block 0 (.loop cuneiformref17_Check.b1)))
  (.seq (.seq (.region [⟨(some 8), .mov (.const (.int .i64 0)), none⟩] [1, 4, 5, 8])
  (.block 3 (.loop cuneiformref17_Check.b2)))
  (.seq (.seq (.region [⟨(some 106), .idx 1 (some 7) (.tmp 4) (.const (.int .i64 3)), none⟩,
    ⟨(some 107), .load none (.tmp 106), none⟩,
    ⟨(some 108), .un .not (.tmp 107), none⟩,
    ⟨(some 109), .mov (.tmp 108), none⟩,
    ⟨(some 110), .field 7 (.tmp 1), some (109, true)⟩,
    ⟨(some 111), .load none (.tmp 110), some (109, true)⟩,
    ⟨(some 112), .len .slice (.tmp 111), some (109, true)⟩,
    ⟨(some 113), .bin .gtr (.tmp 112) (.const (.int .i64 0)), some (109, true)⟩,
    ⟨(some 114), .pick (.tmp 109) (.tmp 113) (.const (.bool false)), none⟩,
    ⟨(some 115), .mov (.tmp 114), none⟩,
    ⟨(some 116), .idx 1 (some 7) (.tmp 4) (.const (.int .i64 4)), some (115, false)⟩,
    ⟨(some 117), .load none (.tmp 116), some (115, false)⟩,
    ⟨(some 118), .un .not (.tmp 117), some (115, false)⟩,
    ⟨(some 119), .mov (.tmp 118), some (115, false)⟩,
    ⟨(some 120), .field 8 (.tmp 1), some (119, true)⟩,
    ⟨(some 121), .load none (.tmp 120), some (119, true)⟩,
    ⟨(some 122), .len .slice (.tmp 121), some (119, true)⟩,
    ⟨(some 123), .bin .gtr (.tmp 122) (.const (.int .i64 0)), some (119, true)⟩,
    ⟨(some 124), .pick (.tmp 119) (.tmp 123) (.const (.bool false)), some (115, false)⟩,
    ⟨(some 125), .pick (.tmp 115) (.const (.bool true)) (.tmp 124), none⟩,
    ⟨(some 126), .mov (.tmp 125), none⟩,
    ⟨(some 127), .idx 1 (some 7) (.tmp 4) (.const (.int .i64 5)), some (126, false)⟩,
    ⟨(some 128), .load none (.tmp 127), some (126, false)⟩,
    ⟨(some 129), .un .not (.tmp 128), some (126, false)⟩,
    ⟨(some 130), .mov (.tmp 129), some (126, false)⟩,
    ⟨(some 131), .field 9 (.tmp 1), some (130, true)⟩,
    ⟨(some 132), .load none (.tmp 131), some (130, true)⟩,
    ⟨(some 133), .bin .neq (.tmp 132) (.const (.str ⟨#[]⟩)), some (130, true)⟩,
    ⟨(some 134), .pick (.tmp 130) (.tmp 133) (.const (.bool false)), some (126, false)⟩,
    ⟨(some 135), .pick (.tmp 126) (.const (.bool true)) (.tmp 134), none⟩,
    ⟨(some 136), .mov (.tmp 135), none⟩,
    ⟨(some 137), .idx 1 (some 7) (.tmp 4) (.const (.int .i64 6)), some (136, false)⟩,
    ⟨(some 138), .load none (.tmp 137), some (136, false)⟩,
    ⟨(some 139), .un .not (.tmp 138), some (136, false)⟩,
    ⟨(some 140), .mov (.tmp 139), some (136, false)⟩,
    ⟨(some 141), .field 10 (.tmp 1), some (140, true)⟩,
    ⟨(some 142), .load none (.tmp 141), some (140, true)⟩,
    ⟨(some 143), .bin .neq (.tmp 142) (.const (.str ⟨#[]⟩)), some (140, true)⟩,
    ⟨(some 144), .pick (.tmp 140) (.tmp 143) (.const (.bool false)), some (136, false)⟩,
    ⟨(some 145), .pick (.tmp 136) (.const (.bool true)) (.tmp 144), none⟩] [145])
  (.cond (.tmp 145) (.seq (.region [⟨(some 2), .mov (.const (.int .i64 3)), none⟩] [2])
  (.ret)) (.skip)))
  (.seq (.region [⟨(some 2), .mov (.const (.int .i64 0)), none⟩] [2])
  (.ret)))))))))
def cuneiformref17_Check : AFun := ⟨146, 1, [.tmp 2], cuneiformref17_Check.body⟩
def cuneiformref17_Project.d0 : List AOper := [⟨(some 48), .mov (.tmp 5), none⟩,
    ⟨(some 49), .mov (.tmp 6), none⟩,
    ⟨(some 50), .idx 7 none (.tmp 48) (.tmp 49), none⟩,
    ⟨(some 51), .field 2 (.tmp 50), none⟩,
    ⟨(some 52), .load none (.tmp 51), none⟩,
    ⟨(some 53), .mov (.tmp 5), none⟩,
    ⟨(some 54), .mov (.tmp 6), none⟩,
    ⟨(some 55), .idx 7 none (.tmp 53) (.tmp 54), none⟩,
    ⟨(some 56), .field 6 (.tmp 55), none⟩,
    ⟨(some 57), .load none (.tmp 56), none⟩,
    ⟨(some 58), .field 1 (.tmp 2), none⟩,
    ⟨(some 59), .idx 1 (some 6) (.tmp 58) (.tmp 52), none⟩,
    ⟨none, .store 1 (.tmp 59) (.tmp 57), none⟩]
def cuneiformref17_Project.d0b : List (List Nat) := [[], [], [0, 1], [0, 1, 2], [0, 1, 2, 3], [], [], [5, 6], [5, 6, 7], [5, 6, 7, 8], [], [0, 1, 2, 3, 4, 5, 6, 7, 8, 9, 10], [0, 1, 2, 3, 4, 5, 6, 7, 8, 9, 10, 11]]
def cuneiformref17_Project.b1 : ACode := .seq (.seq (.region [⟨(some 13), .mov (.tmp 6), none⟩,
    ⟨(some 14), .mov (.tmp 5), none⟩,
    ⟨(some 15), .len .slice (.tmp 14), none⟩,
    ⟨(some 16), .bin .lss (.tmp 13) (.tmp 15), none⟩] [2, 4, 5, 6, 16])
  (.cond (.tmp 16) (.skip) (.exit 0)))
  (.seq (.block 1 (.seq (.seq (.region [⟨(some 19), .mov (.tmp 5), none⟩,
    ⟨(some 20), .mov (.tmp 6), none⟩,
    ⟨(some 21), .idx 7 none (.tmp 19) (.tmp 20), none⟩,
    ⟨(some 22), .field 5 (.tmp 21), none⟩,
    ⟨(some 23), .load none (.tmp 22), none⟩,
    ⟨(some 24), .bin .eql (.tmp 23) (.const (.int .i64 2)), none⟩,
    ⟨(some 25), .mov (.tmp 24), none⟩,
    ⟨(some 26), .mov (.tmp 5), some (25, true)⟩,
    ⟨(some 27), .mov (.tmp 6), some (25, true)⟩,
    ⟨(some 28), .idx 7 none (.tmp 26) (.tmp 27), some (25, true)⟩,
    ⟨(some 29), .field 1 (.tmp 28), some (25, true)⟩,
    ⟨(some 30), .load none (.tmp 29), some (25, true)⟩,
    ⟨(some 31), .bin .eql (.tmp 30) (.const (.int .i64 6)), some (25, true)⟩,
    ⟨(some 32), .pick (.tmp 25) (.tmp 31) (.const (.bool false)), none⟩] [2, 4, 5, 6, 32])
  (.cond (.tmp 32) (.region [⟨(some 33), .field 10 (.tmp 2), none⟩,
    ⟨none, .store 1 (.tmp 33) (.const (.str ⟨#[]⟩)), none⟩] [2, 4, 5, 6]) (.skip)))
  (.seq (.region [⟨(some 34), .mov (.tmp 5), none⟩,
    ⟨(some 35), .mov (.tmp 6), none⟩,
    ⟨(some 36), .idx 7 none (.tmp 34) (.tmp 35), none⟩,
    ⟨(some 37), .field 5 (.tmp 36), none⟩,
    ⟨(some 38), .load none (.tmp 37), none⟩,
    ⟨(some 39), .bin .eql (.tmp 38) (.const (.int .i64 2)), none⟩,
    ⟨(some 40), .mov (.tmp 39), none⟩,
    ⟨(some 41), .mov (.tmp 5), some (40, true)⟩,
    ⟨(some 42), .mov (.tmp 6), some (40, true)⟩,
    ⟨(some 43), .idx 7 none (.tmp 41) (.tmp 42), some (40, true)⟩,
    ⟨(some 44), .field 2 (.tmp 43), some (40, true)⟩,
    ⟨(some 45), .load none (.tmp 44), some (40, true)⟩,
    ⟨(some 46), .bin .geq (.tmp 45) (.const (.int .i64 0)), some (40, true)⟩,
    ⟨(some 47), .pick (.tmp 40) (.tmp 46) (.const (.bool false)), none⟩] [2, 4, 5, 6, 47])
  (.cond (.tmp 47) (.draw cuneiformref17_Project.d0 cuneiformref17_Project.d0b [[0, 1, 2, 3, 4, 5, 6, 7, 8, 9, 10, 11, 12]] [] [2, 4, 5, 6]) (.skip)))))
  (.region [⟨(some 17), .mov (.tmp 6), none⟩,
    ⟨(some 18), .bin .add (.tmp 17) (.const (.int .i64 1)), none⟩,
    ⟨(some 6), .mov (.tmp 18), none⟩] [2, 4, 5, 6]))
def cuneiformref17_Project.body : ACode := .seq (.region [⟨(some 2), .box T.cuneiformref17_M (.tmp 0), none⟩,
    ⟨(some 4), .alloc T.cuneiformref17_M [(.int .i64 0), (.int .i64 0), (.int .i64 0), (.int .i64 0), (.int .i64 0), (.int .i64 0), (.int .i64 0), .nils, .nils, (.str ⟨#[]⟩), (.str ⟨#[]⟩)], none⟩] [1, 2, 4])
  (.seq (.seq (.region [⟨(some 7), .mov (.tmp 1), none⟩,
    ⟨(some 8), .bin .neq (.tmp 7) (.const (.int .i64 1)), none⟩] [2, 4, 8])
  (.cond (.tmp 8) (.seq (.region [⟨(some 9), .load (some 11) (.tmp 2), none⟩,
    ⟨none, .store 11 (.tmp 4) (.tmp 9), none⟩] [4])
  (.ret)) (.skip)))
  (.seq (.region [⟨(some 10), .field 0 (.tmp 2), none⟩,
    ⟨(some 11), .load none (.tmp 10), none⟩,
    ⟨(some 12), .call (.const (.fn F.cuneiformref16_All [] [])) [(.tmp 11)], none⟩,
    ⟨(some 5), .mov (.tmp 12), none⟩] [2, 4, 5])
  (.seq (.seq (.region [⟨(some 6), .mov (.const (.int .i64 0)), none⟩] [2, 4, 5, 6])
  (.block 0 (.loop cuneiformref17_Project.b1)))
  (.seq (.region [⟨(some 60), .load (some 11) (.tmp 2), none⟩,
    ⟨none, .store 11 (.tmp 4) (.tmp 60), none⟩] [4])
  (.ret)))))
def cuneiformref17_Project : AFun := ⟨61, 2, [.cell 4 (some 11)], cuneiformref17_Project.body⟩
def msg_New.a0 : ACode := .region [⟨(some 4), .alloc T.field_Field [(.str ⟨#[]⟩), (.int .i64 0), (.int .i64 0), (.int .i64 0), (.int .i64 0), (.int .i64 0), (.int .i64 0)], none⟩,
    ⟨none, .store 7 (.tmp 4) (.tmp 7), none⟩] [1, 3, 4]
def msg_New.b0 : ACode := .block 1 (.seq (.region [⟨(some 8), .load none (.tmp 1), none⟩,
    ⟨(some 9), .field 0 (.tmp 3), none⟩,
    ⟨none, .store 1 (.tmp 9) (.tmp 8), none⟩] [3, 4])
  (.block 2 (.seq (.region [⟨(some 11), .field 1 (.tmp 4), none⟩,
    ⟨(some 12), .load none (.tmp 11), none⟩,
    ⟨(some 13), .bin .eql (.tmp 12) (.const (.int .i64 3)), none⟩,
    ⟨(some 10), .mov (.tmp 13), none⟩] [3, 4, 10])
  (.cond (.tmp 10) (.region [⟨(some 14), .build [(.int .i64 0), (.int .i64 0)] [], none⟩,
    ⟨(some 15), .lit T.msg_Point 2 1 [(.int .i64 0), (.int .i64 0)] [(0, 2, (.tmp 14))], none⟩,
    ⟨(some 16), .field 7 (.tmp 3), none⟩,
    ⟨none, .store 1 (.tmp 16) (.tmp 15), none⟩] []) (.seq (.region [⟨(some 18), .field 1 (.tmp 4), none⟩,
    ⟨(some 19), .load none (.tmp 18), none⟩,
    ⟨(some 20), .bin .eql (.tmp 19) (.const (.int .i64 4)), none⟩,
    ⟨(some 17), .mov (.tmp 20), none⟩] [3, 4, 17])
  (.cond (.tmp 17) (.region [⟨(some 21), .lit T.int 1 1 [(.int .i64 0)] [(0, 1, (.const (.int .i64 0)))], none⟩,
    ⟨(some 22), .field 8 (.tmp 3), none⟩,
    ⟨none, .store 1 (.tmp 22) (.tmp 21), none⟩] []) (.seq (.region [⟨(some 24), .field 2 (.tmp 4), none⟩,
    ⟨(some 25), .load none (.tmp 24), none⟩,
    ⟨(some 26), .bin .geq (.tmp 25) (.const (.int .i64 0)), none⟩,
    ⟨(some 23), .mov (.tmp 26), none⟩] [3, 4, 23])
  (.cond (.tmp 23) (.seq (.region [⟨(some 27), .field 2 (.tmp 4), none⟩,
    ⟨(some 28), .load none (.tmp 27), none⟩,
    ⟨(some 29), .field 3 (.tmp 4), none⟩,
    ⟨(some 30), .load none (.tmp 29), none⟩,
    ⟨(some 31), .maxmin true (.tmp 30) (.const (.int .i64 0)), none⟩,
    ⟨(some 32), .field 1 (.tmp 3), none⟩,
    ⟨(some 33), .idx 1 (some 6) (.tmp 32) (.tmp 28), none⟩,
    ⟨none, .store 1 (.tmp 33) (.tmp 31), none⟩] [3, 4])
  (.seq (.region [⟨(some 34), .field 5 (.tmp 4), none⟩,
    ⟨(some 35), .load none (.tmp 34), none⟩,
    ⟨(some 36), .bin .gtr (.tmp 35) (.const (.int .i64 1)), none⟩] [3, 4, 36])
  (.cond (.tmp 36) (.region [⟨(some 37), .field 2 (.tmp 4), none⟩,
    ⟨(some 38), .load none (.tmp 37), none⟩,
    ⟨(some 39), .field 6 (.tmp 4), none⟩,
    ⟨(some 40), .load none (.tmp 39), none⟩,
    ⟨(some 41), .field 1 (.tmp 3), none⟩,
    ⟨(some 42), .idx 1 (some 6) (.tmp 41) (.tmp 38), none⟩,
    ⟨none, .store 1 (.tmp 42) (.tmp 40), none⟩] []) (.skip)))) (.skip)))))))))
def msg_New.body : ACode := .seq (.region [⟨(some 1), .box T.int (.tmp 0), none⟩,
    ⟨(some 2), .alloc T.msg_Msg [(.int .i64 0), (.int .i64 0), (.int .i64 0), (.int .i64 0), (.int .i64 0), (.int .i64 0), (.int .i64 0), .nils, .nils, (.str ⟨#[]⟩), (.str ⟨#[]⟩)], none⟩] [1, 2])
  (.seq (.region [⟨(some 3), .alloc T.msg_Msg [(.int .i64 0), (.int .i64 0), (.int .i64 0), (.int .i64 0), (.int .i64 0), (.int .i64 0), (.int .i64 0), .nils, .nils, (.str ⟨#[]⟩), (.str ⟨#[]⟩)], none⟩] [1, 2, 3])
  (.seq (.seq (.region [⟨(some 5), .load none (.tmp 1), none⟩,
    ⟨(some 6), .call (.const (.fn F.field_All [] [])) [(.tmp 5), (.const (.int .i64 2))], none⟩] [1, 2, 3, 6])
  (.block 0 (.range (.tmp 6) [7] msg_New.a0 msg_New.b0)))
  (.seq (.region [⟨(some 43), .load (some 11) (.tmp 3), none⟩,
    ⟨none, .store 11 (.tmp 2) (.tmp 43), none⟩] [2])
  (.ret))))
def msg_New : AFun := ⟨44, 1, [.cell 2 (some 11)], msg_New.body⟩
def cuneiformref17_New.d0 : List AOper := [⟨(some 39), .mov (.tmp 4), none⟩,
    ⟨(some 40), .mov (.tmp 5), none⟩,
    ⟨(some 41), .idx 7 none (.tmp 39) (.tmp 40), none⟩,
    ⟨(some 42), .field 2 (.tmp 41), none⟩,
    ⟨(some 43), .load none (.tmp 42), none⟩,
    ⟨(some 44), .mov (.tmp 4), none⟩,
    ⟨(some 45), .mov (.tmp 5), none⟩,
    ⟨(some 46), .idx 7 none (.tmp 44) (.tmp 45), none⟩,
    ⟨(some 47), .field 3 (.tmp 46), none⟩,
    ⟨(some 48), .load none (.tmp 47), none⟩,
    ⟨(some 49), .field 1 (.tmp 3), none⟩,
    ⟨(some 50), .idx 1 (some 6) (.tmp 49) (.tmp 43), none⟩,
    ⟨none, .store 1 (.tmp 50) (.tmp 48), none⟩]
def cuneiformref17_New.d0b : List (List Nat) := [[], [], [0, 1], [0, 1, 2], [0, 1, 2, 3], [], [], [5, 6], [5, 6, 7], [5, 6, 7, 8], [], [0, 1, 2, 3, 4, 5, 6, 7, 8, 9, 10], [0, 1, 2, 3, 4, 5, 6, 7, 8, 9, 10, 11]]
def cuneiformref17_New.d1 : List AOper := [⟨(some 70), .mov (.tmp 4), none⟩,
    ⟨(some 71), .mov (.tmp 5), none⟩,
    ⟨(some 72), .idx 7 none (.tmp 70) (.tmp 71), none⟩,
    ⟨(some 73), .field 2 (.tmp 72), none⟩,
    ⟨(some 74), .load none (.tmp 73), none⟩,
    ⟨(some 75), .mov (.tmp 4), none⟩,
    ⟨(some 76), .mov (.tmp 5), none⟩,
    ⟨(some 77), .idx 7 none (.tmp 75) (.tmp 76), none⟩,
    ⟨(some 78), .field 6 (.tmp 77), none⟩,
    ⟨(some 79), .load none (.tmp 78), none⟩,
    ⟨(some 80), .field 1 (.tmp 3), none⟩,
    ⟨(some 81), .idx 1 (some 6) (.tmp 80) (.tmp 74), none⟩,
    ⟨none, .store 1 (.tmp 81) (.tmp 79), none⟩]
def cuneiformref17_New.d1b : List (List Nat) := [[], [], [0, 1], [0, 1, 2], [0, 1, 2, 3], [], [], [5, 6], [5, 6, 7], [5, 6, 7, 8], [], [0, 1, 2, 3, 4, 5, 6, 7, 8, 9, 10], [0, 1, 2, 3, 4, 5, 6, 7, 8, 9, 10, 11]]
def cuneiformref17_New.b2 : ACode := .seq (.seq (.region [⟨(some 8), .mov (.tmp 5), none⟩,
    ⟨(some 9), .mov (.tmp 4), none⟩,
    ⟨(some 10), .len .slice (.tmp 9), none⟩,
    ⟨(some 11), .bin .lss (.tmp 8) (.tmp 10), none⟩] [0, 2, 3, 4, 5, 11])
  (.cond (.tmp 11) (.skip) (.exit 0)))
  (.seq (.block 1 (.seq (.region [⟨(some 14), .mov (.tmp 0), none⟩,
    ⟨(some 15), .field 0 (.tmp 3), none⟩,
    ⟨none, .store 1 (.tmp 15) (.tmp 14), none⟩] [0, 2, 3, 4, 5])
  (.seq (.seq (.region [⟨(some 16), .mov (.tmp 4), none⟩,
    ⟨(some 17), .mov (.tmp 5), none⟩,
    ⟨(some 18), .idx 7 none (.tmp 16) (.tmp 17), none⟩,
    ⟨(some 19), .field 1 (.tmp 18), none⟩,
    ⟨(some 20), .load none (.tmp 19), none⟩,
    ⟨(some 21), .bin .eql (.tmp 20) (.const (.int .i64 3)), none⟩] [0, 2, 3, 4, 5, 21])
  (.cond (.tmp 21) (.region [⟨(some 22), .build [(.int .i64 0), (.int .i64 0)] [(0, 1, (.const (.int .i64 0))), (1, 1, (.const (.int .i64 0)))], none⟩,
    ⟨(some 23), .lit T.n2_int 2 1 [(.int .i64 0), (.int .i64 0)] [(0, 2, (.tmp 22))], none⟩,
    ⟨(some 24), .field 7 (.tmp 3), none⟩,
    ⟨none, .store 1 (.tmp 24) (.tmp 23), none⟩] [0, 2, 3, 4, 5]) (.skip)))
  (.seq (.seq (.region [⟨(some 25), .mov (.tmp 4), none⟩,
    ⟨(some 26), .mov (.tmp 5), none⟩,
    ⟨(some 27), .idx 7 none (.tmp 25) (.tmp 26), none⟩,
    ⟨(some 28), .field 1 (.tmp 27), none⟩,
    ⟨(some 29), .load none (.tmp 28), none⟩,
    ⟨(some 30), .bin .eql (.tmp 29) (.const (.int .i64 4)), none⟩] [0, 2, 3, 4, 5, 30])
  (.cond (.tmp 30) (.region [⟨(some 31), .lit T.int 1 1 [(.int .i64 0)] [(0, 1, (.const (.int .i64 0)))], none⟩,
    ⟨(some 32), .field 8 (.tmp 3), none⟩,
    ⟨none, .store 1 (.tmp 32) (.tmp 31), none⟩] [0, 2, 3, 4, 5]) (.skip)))
  (.seq (.region [⟨(some 33), .mov (.tmp 4), none⟩,
    ⟨(some 34), .mov (.tmp 5), none⟩,
    ⟨(some 35), .idx 7 none (.tmp 33) (.tmp 34), none⟩,
    ⟨(some 36), .field 2 (.tmp 35), none⟩,
    ⟨(some 37), .load none (.tmp 36), none⟩,
    ⟨(some 38), .bin .geq (.tmp 37) (.const (.int .i64 0)), none⟩] [0, 2, 3, 4, 5, 38])
  (.cond (.tmp 38) (.seq (.draw cuneiformref17_New.d0 cuneiformref17_New.d0b [[0, 1, 2, 3, 4, 5, 6, 7, 8, 9, 10, 11, 12]] [] [0, 2, 3, 4, 5])
  (.seq (.seq (.region [⟨(some 51), .mov (.tmp 4), none⟩,
    ⟨(some 52), .mov (.tmp 5), none⟩,
    ⟨(some 53), .idx 7 none (.tmp 51) (.tmp 52), none⟩,
    ⟨(some 54), .field 3 (.tmp 53), none⟩,
    ⟨(some 55), .load none (.tmp 54), none⟩,
    ⟨(some 56), .bin .lss (.tmp 55) (.const (.int .i64 0)), none⟩] [0, 2, 3, 4, 5, 56])
  (.cond (.tmp 56) (.region [⟨(some 57), .mov (.tmp 4), none⟩,
    ⟨(some 58), .mov (.tmp 5), none⟩,
    ⟨(some 59), .idx 7 none (.tmp 57) (.tmp 58), none⟩,
    ⟨(some 60), .field 2 (.tmp 59), none⟩,
    ⟨(some 61), .load none (.tmp 60), none⟩,
    ⟨(some 62), .field 1 (.tmp 3), none⟩,
    ⟨(some 63), .idx 1 (some 6) (.tmp 62) (.tmp 61), none⟩,
    ⟨none, .store 1 (.tmp 63) (.const (.int .i64 0)), none⟩] [0, 2, 3, 4, 5]) (.skip)))
  (.seq (.region [⟨(some 64), .mov (.tmp 4), none⟩,
    ⟨(some 65), .mov (.tmp 5), none⟩,
    ⟨(some 66), .idx 7 none (.tmp 64) (.tmp 65), none⟩,
    ⟨(some 67), .field 5 (.tmp 66), none⟩,
    ⟨(some 68), .load none (.tmp 67), none⟩,
    ⟨(some 69), .bin .eql (.tmp 68) (.const (.int .i64 2)), none⟩] [0, 2, 3, 4, 5, 69])
  (.cond (.tmp 69) (.draw cuneiformref17_New.d1 cuneiformref17_New.d1b [[0, 1, 2, 3, 4, 5, 6, 7, 8, 9, 10, 11, 12]] [] [0, 2, 3, 4, 5]) (.skip))))) (.skip)))))))
  (.region [⟨(some 12), .mov (.tmp 5), none⟩,
    ⟨(some 13), .bin .add (.tmp 12) (.const (.int .i64 1)), none⟩,
    ⟨(some 5), .mov (.tmp 13), none⟩] [0, 2, 3, 4, 5]))
def cuneiformref17_New.body : ACode := .seq (.region [⟨(some 2), .alloc T.cuneiformref17_M [(.int .i64 0), (.int .i64 0), (.int .i64 0), (.int .i64 0), (.int .i64 0), (.int .i64 0), (.int .i64 0), .nils, .nils, (.str ⟨#[]⟩), (.str ⟨#[]⟩)], none⟩] [0, 2])
  (.seq (.region [⟨(some 3), .alloc T.cuneiformref17_M [(.int .i64 0), (.int .i64 0), (.int .i64 0), (.int .i64 0), (.int .i64 0), (.int .i64 0), (.int .i64 0), .nils, .nils, (.str ⟨#[]⟩), (.str ⟨#[]⟩)], none⟩] [0, 2, 3])
  (.seq (.region [⟨(some 6), .mov (.tmp 0), none⟩,
    ⟨(some 7), .call (.const (.fn F.cuneiformref16_All [] [])) [(.tmp 6)], none⟩,
    ⟨(some 4), .mov (.tmp 7), none⟩] [0, 2, 3, 4])
  (.seq (.seq (.region [⟨(some 5), .mov (.const (.int .i64 0)), none⟩] [0, 2, 3, 4, 5])
  (.block 0 (.loop cuneiformref17_New.b2)))
  (.seq (.region [⟨(some 82), .load (some 11) (.tmp 3), none⟩,
    ⟨none, .store 11 (.tmp 2) (.tmp 82), none⟩] [2])
  (.ret)))))
def cuneiformref17_New : AFun := ⟨83, 1, [.cell 2 (some 11)], cuneiformref17_New.body⟩
def slices_Clone_msg_Point_msg_Point.body : ACode := .seq (.region [⟨(some 2), .mov (.const .nils), none⟩] [0])
  (.seq (.seq (.region [⟨(some 3), .mov (.tmp 0), none⟩,
    ⟨(some 4), .eq false .slice (.tmp 3) (.const .nils), none⟩] [0, 4])
  (.cond (.tmp 4) (.seq (.region [⟨(some 2), .mov (.const .nils), none⟩] [2])
  (.ret)) (.skip)))
  (.seq (.region [⟨(some 5), .lit T.msg_Point 2 0 [] [], none⟩,
    ⟨(some 6), .mov (.tmp 0), none⟩,
    ⟨(some 7), .append T.msg_Point 2 16 (.tmp 5) (.tmp 6), none⟩,
    ⟨(some 2), .mov (.tmp 7), none⟩] [2])
  (.ret)))
def slices_Clone_msg_Point_msg_Point : AFun := ⟨8, 1, [.tmp 2], slices_Clone_msg_Point_msg_Point.body⟩
def slices_Clone_int_int.body : ACode := .seq (.region [⟨(some 2), .mov (.const .nils), none⟩] [0])
  (.seq (.seq (.region [⟨(some 3), .mov (.tmp 0), none⟩,
    ⟨(some 4), .eq false .slice (.tmp 3) (.const .nils), none⟩] [0, 4])
  (.cond (.tmp 4) (.seq (.region [⟨(some 2), .mov (.const .nils), none⟩] [2])
  (.ret)) (.skip)))
  (.seq (.region [⟨(some 5), .lit T.int 1 0 [] [], none⟩,
    ⟨(some 6), .mov (.tmp 0), none⟩,
    ⟨(some 7), .append T.int 1 8 (.tmp 5) (.tmp 6), none⟩,
    ⟨(some 2), .mov (.tmp 7), none⟩] [2])
  (.ret)))
def slices_Clone_int_int : AFun := ⟨8, 1, [.tmp 2], slices_Clone_int_int.body⟩
def field_Of.body : ACode := .seq (.region [⟨(some 2), .mov (.const .nils), none⟩] [0])
  (.seq (.seq (.region [⟨(some 3), .mov (.tmp 0), none⟩] [3])
  (.block 0 (.seq (.region [⟨(some 5), .bin .eql (.tmp 3) (.const (.int .i64 1)), none⟩,
    ⟨(some 4), .mov (.tmp 5), none⟩] [3, 4])
  (.cond (.tmp 4) (.seq (.region [⟨(some 6), .call (.const (.fn F.field_robot [] [])) [], none⟩,
    ⟨(some 7), .build [(.str ⟨#[]⟩), (.int .i64 0), (.int .i64 0), (.int .i64 0), (.int .i64 0), (.int .i64 0), (.int .i64 0)] [(0, 1, (.const (.str ⟨#[115, 112, 101, 101, 100]⟩))), (1, 1, (.const (.int .i64 1))), (2, 1, (.const (.int .i64 1))), (3, 1, (.const (.int .i64 1))), (4, 1, (.const (.int .i64 5000))), (5, 1, (.const (.int .i64 1))), (6, 1, (.const (.int .i64 0)))], none⟩,
    ⟨(some 8), .build [(.str ⟨#[]⟩), (.int .i64 0), (.int .i64 0), (.int .i64 0), (.int .i64 0), (.int .i64 0), (.int .i64 0)] [(0, 1, (.const (.str ⟨#[97, 99, 99, 101, 108]⟩))), (1, 1, (.const (.int .i64 1))), (2, 1, (.const (.int .i64 2))), (3, 1, (.const (.int .i64 1))), (4, 1, (.const (.int .i64 10000))), (5, 1, (.const (.int .i64 2))), (6, 1, (.const (.int .i64 500)))], none⟩,
    ⟨(some 9), .build [(.str ⟨#[]⟩), (.int .i64 0), (.int .i64 0), (.int .i64 0), (.int .i64 0), (.int .i64 0), (.int .i64 0)] [(0, 1, (.const (.str ⟨#[112, 97, 116, 104]⟩))), (1, 1, (.const (.int .i64 3))), (2, 1, (.const (.int .i64 (-1)))), (3, 1, (.const (.int .i64 1))), (4, 1, (.const (.int .i64 16))), (5, 1, (.const (.int .i64 1))), (6, 1, (.const (.int .i64 0)))], none⟩,
    ⟨(some 10), .build [(.str ⟨#[]⟩), (.int .i64 0), (.int .i64 0), (.int .i64 0), (.int .i64 0), (.int .i64 0), (.int .i64 0)] [(0, 1, (.const (.str ⟨#[116, 97, 103]⟩))), (1, 1, (.const (.int .i64 6))), (2, 1, (.const (.int .i64 (-1)))), (3, 1, (.const (.int .i64 0))), (4, 1, (.const (.int .i64 16))), (5, 1, (.const (.int .i64 2))), (6, 1, (.const (.int .i64 0)))], none⟩,
    ⟨(some 11), .lit T.field_Field 7 5 [(.str ⟨#[]⟩), (.int .i64 0), (.int .i64 0), (.int .i64 0), (.int .i64 0), (.int .i64 0), (.int .i64 0), (.str ⟨#[]⟩), (.int .i64 0), (.int .i64 0), (.int .i64 0), (.int .i64 0), (.int .i64 0), (.int .i64 0), (.str ⟨#[]⟩), (.int .i64 0), (.int .i64 0), (.int .i64 0), (.int .i64 0), (.int .i64 0), (.int .i64 0), (.str ⟨#[]⟩), (.int .i64 0), (.int .i64 0), (.int .i64 0), (.int .i64 0), (.int .i64 0), (.int .i64 0), (.str ⟨#[]⟩), (.int .i64 0), (.int .i64 0), (.int .i64 0), (.int .i64 0), (.int .i64 0), (.int .i64 0)] [(0, 7, (.tmp 6)), (7, 7, (.tmp 7)), (14, 7, (.tmp 8)), (21, 7, (.tmp 9)), (28, 7, (.tmp 10))], none⟩,
    ⟨(some 2), .mov (.tmp 11), none⟩] [2])
  (.ret)) (.seq (.region [⟨(some 13), .bin .eql (.tmp 3) (.const (.int .i64 2)), none⟩,
    ⟨(some 12), .mov (.tmp 13), none⟩] [3, 12])
  (.cond (.tmp 12) (.seq (.region [⟨(some 14), .call (.const (.fn F.field_robot [] [])) [], none⟩,
    ⟨(some 15), .build [(.str ⟨#[]⟩), (.int .i64 0), (.int .i64 0), (.int .i64 0), (.int .i64 0), (.int .i64 0), (.int .i64 0)] [(0, 1, (.const (.str ⟨#[114, 101, 97, 115, 111, 110]⟩))), (1, 1, (.const (.int .i64 1))), (2, 1, (.const (.int .i64 1))), (3, 1, (.const (.int .i64 0))), (4, 1, (.const (.int .i64 15))), (5, 1, (.const (.int .i64 1))), (6, 1, (.const (.int .i64 0)))], none⟩,
    ⟨(some 16), .build [(.str ⟨#[]⟩), (.int .i64 0), (.int .i64 0), (.int .i64 0), (.int .i64 0), (.int .i64 0), (.int .i64 0)] [(0, 1, (.const (.str ⟨#[122, 111, 110, 101]⟩))), (1, 1, (.const (.int .i64 1))), (2, 1, (.const (.int .i64 2))), (3, 1, (.const (.int .i64 0))), (4, 1, (.const (.int .i64 4095))), (5, 1, (.const (.int .i64 2))), (6, 1, (.const (.int .i64 0)))], none⟩,
    ⟨(some 17), .lit T.field_Field 7 3 [(.str ⟨#[]⟩), (.int .i64 0), (.int .i64 0), (.int .i64 0), (.int .i64 0), (.int .i64 0), (.int .i64 0), (.str ⟨#[]⟩), (.int .i64 0), (.int .i64 0), (.int .i64 0), (.int .i64 0), (.int .i64 0), (.int .i64 0), (.str ⟨#[]⟩), (.int .i64 0), (.int .i64 0), (.int .i64 0), (.int .i64 0), (.int .i64 0), (.int .i64 0)] [(0, 7, (.tmp 14)), (7, 7, (.tmp 15)), (14, 7, (.tmp 16))], none⟩,
    ⟨(some 2), .mov (.tmp 17), none⟩] [2])
  (.ret)) (.seq (.region [⟨(some 19), .bin .eql (.tmp 3) (.const (.int .i64 3)), none⟩,
    ⟨(some 18), .mov (.tmp 19), none⟩] [3, 18])
  (.cond (.tmp 18) (.seq (.region [⟨(some 20), .call (.const (.fn F.field_robot [] [])) [], none⟩,
    ⟨(some 21), .build [(.str ⟨#[]⟩), (.int .i64 0), (.int .i64 0), (.int .i64 0), (.int .i64 0), (.int .i64 0), (.int .i64 0)] [(0, 1, (.const (.str ⟨#[122, 111, 110, 101]⟩))), (1, 1, (.const (.int .i64 1))), (2, 1, (.const (.int .i64 1))), (3, 1, (.const (.int .i64 0))), (4, 1, (.const (.int .i64 4095))), (5, 1, (.const (.int .i64 1))), (6, 1, (.const (.int .i64 0)))], none⟩,
    ⟨(some 22), .build [(.str ⟨#[]⟩), (.int .i64 0), (.int .i64 0), (.int .i64 0), (.int .i64 0), (.int .i64 0), (.int .i64 0)] [(0, 1, (.const (.str ⟨#[108, 101, 97, 115, 101]⟩))), (1, 1, (.const (.int .i64 1))), (2, 1, (.const (.int .i64 2))), (3, 1, (.const (.int .i64 1))), (4, 1, (.const (.int .i64 255))), (5, 1, (.const (.int .i64 2))), (6, 1, (.const (.int .i64 1)))], none⟩,
    ⟨(some 23), .build [(.str ⟨#[]⟩), (.int .i64 0), (.int .i64 0), (.int .i64 0), (.int .i64 0), (.int .i64 0), (.int .i64 0)] [(0, 1, (.const (.str ⟨#[99, 101, 108, 108, 115]⟩))), (1, 1, (.const (.int .i64 4))), (2, 1, (.const (.int .i64 (-1)))), (3, 1, (.const (.int .i64 1))), (4, 1, (.const (.int .i64 32))), (5, 1, (.const (.int .i64 1))), (6, 1, (.const (.int .i64 0)))], none⟩,
    ⟨(some 24), .lit T.field_Field 7 4 [(.str ⟨#[]⟩), (.int .i64 0), (.int .i64 0), (.int .i64 0), (.int .i64 0), (.int .i64 0), (.int .i64 0), (.str ⟨#[]⟩), (.int .i64 0), (.int .i64 0), (.int .i64 0), (.int .i64 0), (.int .i64 0), (.int .i64 0), (.str ⟨#[]⟩), (.int .i64 0), (.int .i64 0), (.int .i64 0), (.int .i64 0), (.int .i64 0), (.int .i64 0), (.str ⟨#[]⟩), (.int .i64 0), (.int .i64 0), (.int .i64 0), (.int .i64 0), (.int .i64 0), (.int .i64 0)] [(0, 7, (.tmp 20)), (7, 7, (.tmp 21)), (14, 7, (.tmp 22)), (21, 7, (.tmp 23))], none⟩,
    ⟨(some 2), .mov (.tmp 24), none⟩] [2])
  (.ret)) (.seq (.region [⟨(some 26), .bin .eql (.tmp 3) (.const (.int .i64 4)), none⟩,
    ⟨(some 25), .mov (.tmp 26), none⟩] [3, 25])
  (.cond (.tmp 25) (.seq (.region [⟨(some 27), .call (.const (.fn F.field_robot [] [])) [], none⟩,
    ⟨(some 28), .build [(.str ⟨#[]⟩), (.int .i64 0), (.int .i64 0), (.int .i64 0), (.int .i64 0), (.int .i64 0), (.int .i64 0)] [(0, 1, (.const (.str ⟨#[120]⟩))), (1, 1, (.const (.int .i64 2))), (2, 1, (.const (.int .i64 1))), (3, 1, (.const (.int .i64 (-1000000)))), (4, 1, (.const (.int .i64 1000000))), (5, 1, (.const (.int .i64 1))), (6, 1, (.const (.int .i64 0)))], none⟩,
    ⟨(some 29), .build [(.str ⟨#[]⟩), (.int .i64 0), (.int .i64 0), (.int .i64 0), (.int .i64 0), (.int .i64 0), (.int .i64 0)] [(0, 1, (.const (.str ⟨#[121]⟩))), (1, 1, (.const (.int .i64 2))), (2, 1, (.const (.int .i64 2))), (3, 1, (.const (.int .i64 (-1000000)))), (4, 1, (.const (.int .i64 1000000))), (5, 1, (.const (.int .i64 1))), (6, 1, (.const (.int .i64 0)))], none⟩,
    ⟨(some 30), .build [(.str ⟨#[]⟩), (.int .i64 0), (.int .i64 0), (.int .i64 0), (.int .i64 0), (.int .i64 0), (.int .i64 0)] [(0, 1, (.const (.str ⟨#[104, 101, 97, 100, 105, 110, 103]⟩))), (1, 1, (.const (.int .i64 1))), (2, 1, (.const (.int .i64 3))), (3, 1, (.const (.int .i64 0))), (4, 1, (.const (.int .i64 35999))), (5, 1, (.const (.int .i64 1))), (6, 1, (.const (.int .i64 0)))], none⟩,
    ⟨(some 31), .build [(.str ⟨#[]⟩), (.int .i64 0), (.int .i64 0), (.int .i64 0), (.int .i64 0), (.int .i64 0), (.int .i64 0)] [(0, 1, (.const (.str ⟨#[98, 97, 116, 116, 101, 114, 121]⟩))), (1, 1, (.const (.int .i64 1))), (2, 1, (.const (.int .i64 4))), (3, 1, (.const (.int .i64 0))), (4, 1, (.const (.int .i64 1000))), (5, 1, (.const (.int .i64 1))), (6, 1, (.const (.int .i64 0)))], none⟩,
    ⟨(some 32), .build [(.str ⟨#[]⟩), (.int .i64 0), (.int .i64 0), (.int .i64 0), (.int .i64 0), (.int .i64 0), (.int .i64 0)] [(0, 1, (.const (.str ⟨#[115, 117, 114, 101]⟩))), (1, 1, (.const (.int .i64 1))), (2, 1, (.const (.int .i64 5))), (3, 1, (.const (.int .i64 0))), (4, 1, (.const (.int .i64 100))), (5, 1, (.const (.int .i64 2))), (6, 1, (.const (.int .i64 100)))], none⟩,
    ⟨(some 33), .lit T.field_Field 7 6 [(.str ⟨#[]⟩), (.int .i64 0), (.int .i64 0), (.int .i64 0), (.int .i64 0), (.int .i64 0), (.int .i64 0), (.str ⟨#[]⟩), (.int .i64 0), (.int .i64 0), (.int .i64 0), (.int .i64 0), (.int .i64 0), (.int .i64 0), (.str ⟨#[]⟩), (.int .i64 0), (.int .i64 0), (.int .i64 0), (.int .i64 0), (.int .i64 0), (.int .i64 0), (.str ⟨#[]⟩), (.int .i64 0), (.int .i64 0), (.int .i64 0), (.int .i64 0), (.int .i64 0), (.int .i64 0), (.str ⟨#[]⟩), (.int .i64 0), (.int .i64 0), (.int .i64 0), (.int .i64 0), (.int .i64 0), (.int .i64 0), (.str ⟨#[]⟩), (.int .i64 0), (.int .i64 0), (.int .i64 0), (.int .i64 0), (.int .i64 0), (.int .i64 0)] [(0, 7, (.tmp 27)), (7, 7, (.tmp 28)), (14, 7, (.tmp 29)), (21, 7, (.tmp 30)), (28, 7, (.tmp 31)), (35, 7, (.tmp 32))], none⟩,
    ⟨(some 2), .mov (.tmp 33), none⟩] [2])
  (.ret)) (.seq (.region [⟨(some 35), .bin .eql (.tmp 3) (.const (.int .i64 5)), none⟩,
    ⟨(some 34), .mov (.tmp 35), none⟩] [34])
  (.cond (.tmp 34) (.seq (.region [⟨(some 36), .call (.const (.fn F.field_robot [] [])) [], none⟩,
    ⟨(some 37), .build [(.str ⟨#[]⟩), (.int .i64 0), (.int .i64 0), (.int .i64 0), (.int .i64 0), (.int .i64 0), (.int .i64 0)] [(0, 1, (.const (.str ⟨#[99, 111, 100, 101]⟩))), (1, 1, (.const (.int .i64 1))), (2, 1, (.const (.int .i64 1))), (3, 1, (.const (.int .i64 1))), (4, 1, (.const (.int .i64 9999))), (5, 1, (.const (.int .i64 1))), (6, 1, (.const (.int .i64 0)))], none⟩,
    ⟨(some 38), .build [(.str ⟨#[]⟩), (.int .i64 0), (.int .i64 0), (.int .i64 0), (.int .i64 0), (.int .i64 0), (.int .i64 0)] [(0, 1, (.const (.str ⟨#[115, 101, 118, 101, 114, 105, 116, 121]⟩))), (1, 1, (.const (.int .i64 1))), (2, 1, (.const (.int .i64 2))), (3, 1, (.const (.int .i64 0))), (4, 1, (.const (.int .i64 4))), (5, 1, (.const (.int .i64 1))), (6, 1, (.const (.int .i64 0)))], none⟩,
    ⟨(some 39), .build [(.str ⟨#[]⟩), (.int .i64 0), (.int .i64 0), (.int .i64 0), (.int .i64 0), (.int .i64 0), (.int .i64 0)] [(0, 1, (.const (.str ⟨#[112, 97, 114, 116]⟩))), (1, 1, (.const (.int .i64 1))), (2, 1, (.const (.int .i64 3))), (3, 1, (.const (.int .i64 0))), (4, 1, (.const (.int .i64 255))), (5, 1, (.const (.int .i64 2))), (6, 1, (.const (.int .i64 0)))], none⟩,
    ⟨(some 40), .build [(.str ⟨#[]⟩), (.int .i64 0), (.int .i64 0), (.int .i64 0), (.int .i64 0), (.int .i64 0), (.int .i64 0)] [(0, 1, (.const (.str ⟨#[116, 105, 109, 101, 115]⟩))), (1, 1, (.const (.int .i64 1))), (2, 1, (.const (.int .i64 4))), (3, 1, (.const (.int .i64 1))), (4, 1, (.const (.int .i64 1000000))), (5, 1, (.const (.int .i64 2))), (6, 1, (.const (.int .i64 1)))], none⟩,
    ⟨(some 41), .build [(.str ⟨#[]⟩), (.int .i64 0), (.int .i64 0), (.int .i64 0), (.int .i64 0), (.int .i64 0), (.int .i64 0)] [(0, 1, (.const (.str ⟨#[116, 101, 120, 116]⟩))), (1, 1, (.const (.int .i64 5))), (2, 1, (.const (.int .i64 (-1)))), (3, 1, (.const (.int .i64 0))), (4, 1, (.const (.int .i64 64))), (5, 1, (.const (.int .i64 1))), (6, 1, (.const (.int .i64 0)))], none⟩,
    ⟨(some 42), .lit T.field_Field 7 6 [(.str ⟨#[]⟩), (.int .i64 0), (.int .i64 0), (.int .i64 0), (.int .i64 0), (.int .i64 0), (.int .i64 0), (.str ⟨#[]⟩), (.int .i64 0), (.int .i64 0), (.int .i64 0), (.int .i64 0), (.int .i64 0), (.int .i64 0), (.str ⟨#[]⟩), (.int .i64 0), (.int .i64 0), (.int .i64 0), (.int .i64 0), (.int .i64 0), (.int .i64 0), (.str ⟨#[]⟩), (.int .i64 0), (.int .i64 0), (.int .i64 0), (.int .i64 0), (.int .i64 0), (.int .i64 0), (.str ⟨#[]⟩), (.int .i64 0), (.int .i64 0), (.int .i64 0), (.int .i64 0), (.int .i64 0), (.int .i64 0), (.str ⟨#[]⟩), (.int .i64 0), (.int .i64 0), (.int .i64 0), (.int .i64 0), (.int .i64 0), (.int .i64 0)] [(0, 7, (.tmp 36)), (7, 7, (.tmp 37)), (14, 7, (.tmp 38)), (21, 7, (.tmp 39)), (28, 7, (.tmp 40)), (35, 7, (.tmp 41))], none⟩,
    ⟨(some 2), .mov (.tmp 42), none⟩] [2])
  (.ret)) (.skip)))))))))))))
  (.seq (.region [⟨(some 2), .mov (.const .nils), none⟩] [2])
  (.ret)))
def field_Of : AFun := ⟨43, 1, [.tmp 2], field_Of.body⟩
def msg_without.body : ACode := .seq (.region [⟨(some 2), .box T.msg_Msg (.tmp 0), none⟩,
    ⟨(some 3), .box T.field_Field (.tmp 1), none⟩,
    ⟨(some 4), .alloc T.msg_Msg [(.int .i64 0), (.int .i64 0), (.int .i64 0), (.int .i64 0), (.int .i64 0), (.int .i64 0), (.int .i64 0), .nils, .nils, (.str ⟨#[]⟩), (.str ⟨#[]⟩)], none⟩] [2, 3, 4])
  (.seq (.seq (.region [⟨(some 5), .field 1 (.tmp 3), none⟩,
    ⟨(some 6), .load none (.tmp 5), none⟩] [2, 3, 4, 6])
  (.block 0 (.seq (.region [⟨(some 12), .bin .eql (.tmp 6) (.const (.int .i64 3)), none⟩,
    ⟨(some 11), .mov (.tmp 12), none⟩] [2, 3, 4, 6, 11])
  (.cond (.tmp 11) (.region [⟨(some 13), .field 7 (.tmp 2), none⟩,
    ⟨none, .store 1 (.tmp 13) (.const .nils), none⟩] [2, 4]) (.seq (.region [⟨(some 15), .bin .eql (.tmp 6) (.const (.int .i64 4)), none⟩,
    ⟨(some 14), .mov (.tmp 15), none⟩] [2, 3, 4, 6, 14])
  (.cond (.tmp 14) (.region [⟨(some 16), .field 8 (.tmp 2), none⟩,
    ⟨none, .store 1 (.tmp 16) (.const .nils), none⟩] [2, 4]) (.seq (.region [⟨(some 18), .bin .eql (.tmp 6) (.const (.int .i64 5)), none⟩,
    ⟨(some 17), .mov (.tmp 18), none⟩] [2, 3, 4, 6, 17])
  (.cond (.tmp 17) (.region [⟨(some 19), .field 9 (.tmp 2), none⟩,
    ⟨none, .store 1 (.tmp 19) (.const (.str ⟨#[]⟩)), none⟩] [2, 4]) (.seq (.region [⟨(some 21), .bin .eql (.tmp 6) (.const (.int .i64 6)), none⟩,
    ⟨(some 20), .mov (.tmp 21), none⟩] [2, 3, 4, 20])
  (.cond (.tmp 20) (.region [⟨(some 22), .field 10 (.tmp 2), none⟩,
    ⟨none, .store 1 (.tmp 22) (.const (.str ⟨#[]⟩)), none⟩] [2, 4]) (.region [⟨(some 7), .field 2 (.tmp 3), none⟩,
    ⟨(some 8), .load none (.tmp 7), none⟩,
    ⟨(some 9), .field 1 (.tmp 2), none⟩,
    ⟨(some 10), .idx 1 (some 6) (.tmp 9) (.tmp 8), none⟩,
    ⟨none, .store 1 (.tmp 10) (.const (.int .i64 0)), none⟩] [2, 4])))))))))))
  (.seq (.region [⟨(some 23), .load (some 11) (.tmp 2), none⟩,
    ⟨none, .store 11 (.tmp 4) (.tmp 23), none⟩] [4])
  (.ret)))
def msg_without : AFun := ⟨24, 2, [.cell 4 (some 11)], msg_without.body⟩
def field_Find.b0 : ACode := .seq (.region [⟨(some 13), .bin .lss (.tmp 12) (.tmp 11), none⟩] [1, 4, 6, 10, 11, 12, 13])
  (.seq (.cond (.tmp 13) (.skip) (.exit 0))
  (.seq (.block 1 (.seq (.region [⟨(some 14), .idx 7 none (.tmp 10) (.tmp 12), none⟩,
    ⟨(some 15), .load (some 7) (.tmp 14), none⟩,
    ⟨(some 8), .alloc T.field_Field [(.str ⟨#[]⟩), (.int .i64 0), (.int .i64 0), (.int .i64 0), (.int .i64 0), (.int .i64 0), (.int .i64 0)], none⟩,
    ⟨none, .store 7 (.tmp 8) (.tmp 15), none⟩] [1, 4, 6, 8, 10, 11, 12])
  (.seq (.region [⟨(some 16), .field 0 (.tmp 8), none⟩,
    ⟨(some 17), .load none (.tmp 16), none⟩,
    ⟨(some 18), .mov (.tmp 1), none⟩,
    ⟨(some 19), .bin .eql (.tmp 17) (.tmp 18), none⟩] [1, 4, 6, 8, 10, 11, 12, 19])
  (.cond (.tmp 19) (.seq (.region [⟨(some 20), .load (some 7) (.tmp 8), none⟩,
    ⟨none, .store 7 (.tmp 6) (.tmp 20), none⟩] [4, 6])
  (.exit 0)) (.skip)))))
  (.region [⟨(some 21), .bin .add (.tmp 12) (.const (.int .i64 1)), none⟩,
    ⟨(some 12), .mov (.tmp 21), none⟩] [1, 4, 6, 10, 11, 12])))
def field_Find.d1 : List AOper := [⟨(some 22), .load (some 7) (.tmp 6), none⟩,
    ⟨(some 23), .load (some 7) (.tmp 6), none⟩,
    ⟨(some 24), .build [(.str ⟨#[]⟩), (.int .i64 0), (.int .i64 0), (.int .i64 0), (.int .i64 0), (.int .i64 0), (.int .i64 0)] [], none⟩,
    ⟨(some 25), .eq true (.cells [.str, .int, .int, .int, .int, .int, .int]) (.tmp 23) (.tmp 24), none⟩,
    ⟨none, .store 7 (.tmp 4) (.tmp 22), none⟩,
    ⟨(some 5), .mov (.tmp 25), none⟩]
def field_Find.d1b : List (List Nat) := [[], [], [], [1, 2], [0], [0, 1, 2, 3, 4]]
def field_Find.body : ACode := .seq (.region [⟨(some 4), .alloc T.field_Field [(.str ⟨#[]⟩), (.int .i64 0), (.int .i64 0), (.int .i64 0), (.int .i64 0), (.int .i64 0), (.int .i64 0)], none⟩,
    ⟨(some 5), .mov (.const (.bool false)), none⟩] [0, 1, 4])
  (.scope (.seq (.region [⟨(some 6), .alloc T.field_Field [(.str ⟨#[]⟩), (.int .i64 0), (.int .i64 0), (.int .i64 0), (.int .i64 0), (.int .i64 0), (.int .i64 0)], none⟩] [0, 1, 4, 6])
  (.seq (.skip)
  (.seq (.seq (.region [⟨(some 9), .mov (.tmp 0), none⟩,
    ⟨(some 10), .call (.const (.fn F.field_Of [] [])) [(.tmp 9)], none⟩,
    ⟨(some 11), .len .slice (.tmp 10), none⟩,
    ⟨(some 12), .mov (.const (.int .i64 0)), none⟩] [1, 4, 6, 10, 11, 12])
  (.block 0 (.loop field_Find.b0)))
  (.seq (.draw field_Find.d1 field_Find.d1b [[0, 1, 2, 3, 4, 5]] [(4, 1)] [4, 5])
  (.ret))))))
def field_Find : AFun := ⟨26, 2, [.cell 4 (some 7), .tmp 5], field_Find.body⟩
def cuneiformref01_Ints.d0 : List AOper := [⟨(some 17), .mov (.tmp 0), none⟩,
    ⟨(some 18), .mov (.tmp 5), none⟩,
    ⟨(some 19), .idx 1 none (.tmp 17) (.tmp 18), none⟩,
    ⟨(some 20), .load none (.tmp 19), none⟩,
    ⟨(some 21), .mov (.tmp 1), none⟩,
    ⟨(some 22), .mov (.tmp 5), none⟩,
    ⟨(some 23), .idx 1 none (.tmp 21) (.tmp 22), none⟩,
    ⟨(some 24), .load none (.tmp 23), none⟩,
    ⟨(some 25), .bin .neq (.tmp 20) (.tmp 24), none⟩]
def cuneiformref01_Ints.d0b : List (List Nat) := [[], [], [0, 1], [0, 1, 2], [], [], [4, 5], [4, 5, 6], [0, 1, 2, 3, 4, 5, 6, 7]]
def cuneiformref01_Ints.b1 : ACode := .seq (.seq (.region [⟨(some 11), .mov (.tmp 5), none⟩,
    ⟨(some 12), .mov (.tmp 0), none⟩,
    ⟨(some 13), .len .slice (.tmp 12), none⟩,
    ⟨(some 14), .bin .lss (.tmp 11) (.tmp 13), none⟩] [0, 1, 5, 14])
  (.cond (.tmp 14) (.skip) (.exit 0)))
  (.seq (.block 1 (.seq (.draw cuneiformref01_Ints.d0 cuneiformref01_Ints.d0b [[0, 1, 2, 3, 4, 5, 6, 7, 8]] [] [0, 1, 5, 25])
  (.cond (.tmp 25) (.seq (.region [⟨(some 4), .mov (.const (.bool false)), none⟩] [4])
  (.ret)) (.skip))))
  (.region [⟨(some 15), .mov (.tmp 5), none⟩,
    ⟨(some 16), .bin .add (.tmp 15) (.const (.int .i64 1)), none⟩,
    ⟨(some 5), .mov (.tmp 16), none⟩] [0, 1, 5]))
def cuneiformref01_Ints.body : ACode := .seq (.region [⟨(some 4), .mov (.const (.bool false)), none⟩] [0, 1])
  (.seq (.seq (.region [⟨(some 6), .mov (.tmp 0), none⟩,
    ⟨(some 7), .len .slice (.tmp 6), none⟩,
    ⟨(some 8), .mov (.tmp 1), none⟩,
    ⟨(some 9), .len .slice (.tmp 8), none⟩,
    ⟨(some 10), .bin .neq (.tmp 7) (.tmp 9), none⟩] [0, 1, 10])
  (.cond (.tmp 10) (.seq (.region [⟨(some 4), .mov (.const (.bool false)), none⟩] [4])
  (.ret)) (.skip)))
  (.seq (.seq (.region [⟨(some 5), .mov (.const (.int .i64 0)), none⟩] [0, 1, 5])
  (.block 0 (.loop cuneiformref01_Ints.b1)))
  (.seq (.region [⟨(some 4), .mov (.const (.bool true)), none⟩] [4])
  (.ret))))
def cuneiformref01_Ints : AFun := ⟨26, 2, [.tmp 4], cuneiformref01_Ints.body⟩
def msg_Numbers_1.d0 : List AOper := [⟨(some 18), .mov (.tmp 0), none⟩,
    ⟨(some 19), .field 0 (.tmp 4), none⟩,
    ⟨(some 20), .load none (.tmp 19), none⟩,
    ⟨(some 21), .field 2 (.tmp 4), none⟩,
    ⟨(some 22), .load none (.tmp 21), none⟩,
    ⟨(some 23), .field 1 (.tmp 1), none⟩,
    ⟨(some 24), .idx 1 (some 6) (.tmp 23) (.tmp 22), none⟩,
    ⟨(some 25), .load none (.tmp 24), none⟩,
    ⟨(some 26), .call (.tmp 18) [(.tmp 20), (.tmp 25)], none⟩,
    ⟨(some 27), .un .not (.tmp 26), none⟩,
    ⟨(some 17), .mov (.tmp 27), none⟩]
def msg_Numbers_1.d0b : List (List Nat) := [[], [], [1], [], [3], [], [3, 4, 5], [3, 4, 5, 6], [0, 1, 2, 3, 4, 5, 6, 7], [0, 1, 2, 3, 4, 5, 6, 7, 8], [0, 1, 2, 3, 4, 5, 6, 7, 8, 9]]
def msg_Numbers_1.b1 : ACode := .seq (.region [⟨(some 10), .bin .lss (.tmp 9) (.tmp 8), none⟩] [0, 1, 7, 8, 9, 10])
  (.seq (.cond (.tmp 10) (.skip) (.exit 0))
  (.seq (.block 1 (.seq (.region [⟨(some 11), .idx 7 none (.tmp 7) (.tmp 9), none⟩,
    ⟨(some 12), .load (some 7) (.tmp 11), none⟩,
    ⟨(some 4), .alloc T.field_Field [(.str ⟨#[]⟩), (.int .i64 0), (.int .i64 0), (.int .i64 0), (.int .i64 0), (.int .i64 0), (.int .i64 0)], none⟩,
    ⟨none, .store 7 (.tmp 4) (.tmp 12), none⟩] [0, 1, 4, 7, 8, 9])
  (.block 2 (.seq (.region [⟨(some 14), .field 2 (.tmp 4), none⟩,
    ⟨(some 15), .load none (.tmp 14), none⟩,
    ⟨(some 16), .bin .lss (.tmp 15) (.const (.int .i64 0)), none⟩,
    ⟨(some 13), .mov (.tmp 16), none⟩] [0, 1, 4, 7, 8, 9, 13])
  (.cond (.tmp 13) (.exit 1) (.seq (.draw msg_Numbers_1.d0 msg_Numbers_1.d0b [[0, 1, 2, 3, 4, 5, 6, 7, 8, 9, 10]] [] [0, 1, 7, 8, 9, 17])
  (.cond (.tmp 17) (.exit 0) (.skip))))))))
  (.region [⟨(some 28), .bin .add (.tmp 9) (.const (.int .i64 1)), none⟩,
    ⟨(some 9), .mov (.tmp 28), none⟩] [0, 1, 7, 8, 9])))
def msg_Numbers_1.body : ACode := .scope (.seq (.skip)
  (.seq (.region [⟨(some 5), .field 0 (.tmp 1), none⟩,
    ⟨(some 6), .load none (.tmp 5), none⟩,
    ⟨(some 7), .call (.const (.fn F.field_Of [] [])) [(.tmp 6)], none⟩,
    ⟨(some 8), .len .slice (.tmp 7), none⟩,
    ⟨(some 9), .mov (.const (.int .i64 0)), none⟩] [0, 1, 7, 8, 9])
  (.block 0 (.loop msg_Numbers_1.b1))))
def msg_Numbers_1 : AFun := ⟨29, 2, [], msg_Numbers_1.body⟩
def slices_Equal_msg_Point_msg_Point.d0 : List AOper := [⟨(some 16), .mov (.tmp 0), none⟩,
    ⟨(some 17), .mov (.tmp 5), none⟩,
    ⟨(some 18), .idx 2 none (.tmp 16) (.tmp 17), none⟩,
    ⟨(some 19), .load (some 2) (.tmp 18), none⟩,
    ⟨(some 20), .mov (.tmp 1), none⟩,
    ⟨(some 21), .mov (.tmp 5), none⟩,
    ⟨(some 22), .idx 2 none (.tmp 20) (.tmp 21), none⟩,
    ⟨(some 23), .load (some 2) (.tmp 22), none⟩,
    ⟨(some 24), .eq true (.cells [.int, .int]) (.tmp 19) (.tmp 23), none⟩]
def slices_Equal_msg_Point_msg_Point.d0b : List (List Nat) := [[], [], [0, 1], [0, 1, 2], [], [], [4, 5], [4, 5, 6], [0, 1, 2, 3, 4, 5, 6, 7]]
def slices_Equal_msg_Point_msg_Point.b1 : ACode := .seq (.region [⟨(some 14), .bin .lss (.tmp 13) (.tmp 12), none⟩] [0, 1, 12, 13, 14])
  (.seq (.cond (.tmp 14) (.skip) (.exit 0))
  (.seq (.block 1 (.seq (.region [⟨(some 15), .mov (.tmp 13), none⟩,
    ⟨(some 5), .mov (.tmp 15), none⟩] [0, 1, 5, 12, 13])
  (.seq (.draw slices_Equal_msg_Point_msg_Point.d0 slices_Equal_msg_Point_msg_Point.d0b [[0, 1, 2, 3, 4, 5, 6, 7, 8]] [] [0, 1, 12, 13, 24])
  (.cond (.tmp 24) (.seq (.region [⟨(some 4), .mov (.const (.bool false)), none⟩] [4])
  (.ret)) (.skip)))))
  (.region [⟨(some 25), .bin .add (.tmp 13) (.const (.int .i64 1)), none⟩,
    ⟨(some 13), .mov (.tmp 25), none⟩] [0, 1, 12, 13])))
def slices_Equal_msg_Point_msg_Point.body : ACode := .seq (.region [⟨(some 4), .mov (.const (.bool false)), none⟩] [0, 1])
  (.seq (.seq (.region [⟨(some 6), .mov (.tmp 0), none⟩,
    ⟨(some 7), .len .slice (.tmp 6), none⟩,
    ⟨(some 8), .mov (.tmp 1), none⟩,
    ⟨(some 9), .len .slice (.tmp 8), none⟩,
    ⟨(some 10), .bin .neq (.tmp 7) (.tmp 9), none⟩] [0, 1, 10])
  (.cond (.tmp 10) (.seq (.region [⟨(some 4), .mov (.const (.bool false)), none⟩] [4])
  (.ret)) (.skip)))
  (.seq (.seq (.region [⟨(some 11), .mov (.tmp 0), none⟩,
    ⟨(some 12), .len .slice (.tmp 11), none⟩,
    ⟨(some 13), .mov (.const (.int .i64 0)), none⟩] [0, 1, 12, 13])
  (.block 0 (.loop slices_Equal_msg_Point_msg_Point.b1)))
  (.seq (.region [⟨(some 4), .mov (.const (.bool true)), none⟩] [4])
  (.ret))))
def slices_Equal_msg_Point_msg_Point : AFun := ⟨26, 2, [.tmp 4], slices_Equal_msg_Point_msg_Point.body⟩
def slices_Equal_int_int.d0 : List AOper := [⟨(some 16), .mov (.tmp 0), none⟩,
    ⟨(some 17), .mov (.tmp 5), none⟩,
    ⟨(some 18), .idx 1 none (.tmp 16) (.tmp 17), none⟩,
    ⟨(some 19), .load none (.tmp 18), none⟩,
    ⟨(some 20), .mov (.tmp 1), none⟩,
    ⟨(some 21), .mov (.tmp 5), none⟩,
    ⟨(some 22), .idx 1 none (.tmp 20) (.tmp 21), none⟩,
    ⟨(some 23), .load none (.tmp 22), none⟩,
    ⟨(some 24), .bin .neq (.tmp 19) (.tmp 23), none⟩]
def slices_Equal_int_int.d0b : List (List Nat) := [[], [], [0, 1], [0, 1, 2], [], [], [4, 5], [4, 5, 6], [0, 1, 2, 3, 4, 5, 6, 7]]
def slices_Equal_int_int.b1 : ACode := .seq (.region [⟨(some 14), .bin .lss (.tmp 13) (.tmp 12), none⟩] [0, 1, 12, 13, 14])
  (.seq (.cond (.tmp 14) (.skip) (.exit 0))
  (.seq (.block 1 (.seq (.region [⟨(some 15), .mov (.tmp 13), none⟩,
    ⟨(some 5), .mov (.tmp 15), none⟩] [0, 1, 5, 12, 13])
  (.seq (.draw slices_Equal_int_int.d0 slices_Equal_int_int.d0b [[0, 1, 2, 3, 4, 5, 6, 7, 8]] [] [0, 1, 12, 13, 24])
  (.cond (.tmp 24) (.seq (.region [⟨(some 4), .mov (.const (.bool false)), none⟩] [4])
  (.ret)) (.skip)))))
  (.region [⟨(some 25), .bin .add (.tmp 13) (.const (.int .i64 1)), none⟩,
    ⟨(some 13), .mov (.tmp 25), none⟩] [0, 1, 12, 13])))
def slices_Equal_int_int.body : ACode := .seq (.region [⟨(some 4), .mov (.const (.bool false)), none⟩] [0, 1])
  (.seq (.seq (.region [⟨(some 6), .mov (.tmp 0), none⟩,
    ⟨(some 7), .len .slice (.tmp 6), none⟩,
    ⟨(some 8), .mov (.tmp 1), none⟩,
    ⟨(some 9), .len .slice (.tmp 8), none⟩,
    ⟨(some 10), .bin .neq (.tmp 7) (.tmp 9), none⟩] [0, 1, 10])
  (.cond (.tmp 10) (.seq (.region [⟨(some 4), .mov (.const (.bool false)), none⟩] [4])
  (.ret)) (.skip)))
  (.seq (.seq (.region [⟨(some 11), .mov (.tmp 0), none⟩,
    ⟨(some 12), .len .slice (.tmp 11), none⟩,
    ⟨(some 13), .mov (.const (.int .i64 0)), none⟩] [0, 1, 12, 13])
  (.block 0 (.loop slices_Equal_int_int.b1)))
  (.seq (.region [⟨(some 4), .mov (.const (.bool true)), none⟩] [4])
  (.ret))))
def slices_Equal_int_int : AFun := ⟨26, 2, [.tmp 4], slices_Equal_int_int.body⟩
def msg_wrong.body : ACode := .seq (.region [⟨(some 2), .box T.msg_Msg (.tmp 0), none⟩,
    ⟨(some 3), .box T.field_Field (.tmp 1), none⟩,
    ⟨(some 4), .mov (.const (.int .i64 0)), none⟩] [2, 3])
  (.seq (.seq (.region [⟨(some 6), .field 1 (.tmp 3), none⟩,
    ⟨(some 7), .load none (.tmp 6), none⟩] [2, 3, 7])
  (.block 0 (.seq (.region [⟨(some 9), .bin .eql (.tmp 7) (.const (.int .i64 3)), none⟩,
    ⟨(some 8), .mov (.tmp 9), none⟩] [2, 3, 7, 8])
  (.cond (.tmp 8) (.seq (.region [⟨(some 10), .field 7 (.tmp 2), none⟩,
    ⟨(some 11), .load none (.tmp 10), none⟩,
    ⟨(some 12), .load (some 7) (.tmp 3), none⟩,
    ⟨(some 13), .call (.const (.fn F.msg_path [] [])) [(.tmp 11), (.tmp 12)], none⟩,
    ⟨(some 4), .mov (.tmp 13), none⟩] [4])
  (.ret)) (.seq (.region [⟨(some 15), .bin .eql (.tmp 7) (.const (.int .i64 4)), none⟩,
    ⟨(some 14), .mov (.tmp 15), none⟩] [2, 3, 7, 14])
  (.cond (.tmp 14) (.seq (.region [⟨(some 16), .field 8 (.tmp 2), none⟩,
    ⟨(some 17), .load none (.tmp 16), none⟩,
    ⟨(some 18), .load (some 7) (.tmp 3), none⟩,
    ⟨(some 19), .call (.const (.fn F.msg_cells [] [])) [(.tmp 17), (.tmp 18)], none⟩,
    ⟨(some 4), .mov (.tmp 19), none⟩] [4])
  (.ret)) (.seq (.region [⟨(some 21), .bin .eql (.tmp 7) (.const (.int .i64 5)), none⟩,
    ⟨(some 20), .mov (.tmp 21), none⟩] [2, 3, 7, 20])
  (.cond (.tmp 20) (.seq (.region [⟨(some 22), .field 9 (.tmp 2), none⟩,
    ⟨(some 23), .load none (.tmp 22), none⟩,
    ⟨(some 24), .load (some 7) (.tmp 3), none⟩,
    ⟨(some 25), .call (.const (.fn F.msg_text [] [])) [(.tmp 23), (.tmp 24)], none⟩,
    ⟨(some 4), .mov (.tmp 25), none⟩] [4])
  (.ret)) (.seq (.region [⟨(some 27), .bin .eql (.tmp 7) (.const (.int .i64 6)), none⟩,
    ⟨(some 26), .mov (.tmp 27), none⟩] [2, 3, 26])
  (.cond (.tmp 26) (.seq (.region [⟨(some 28), .field 10 (.tmp 2), none⟩,
    ⟨(some 29), .load none (.tmp 28), none⟩,
    ⟨(some 30), .load (some 7) (.tmp 3), none⟩,
    ⟨(some 31), .call (.const (.fn F.msg_text [] [])) [(.tmp 29), (.tmp 30)], none⟩,
    ⟨(some 4), .mov (.tmp 31), none⟩] [4])
  (.ret)) (.skip)))))))))))
  (.seq (.seq (.region [⟨(some 32), .field 2 (.tmp 3), none⟩,
    ⟨(some 33), .load none (.tmp 32), none⟩,
    ⟨(some 34), .field 1 (.tmp 2), none⟩,
    ⟨(some 35), .idx 1 (some 6) (.tmp 34) (.tmp 33), none⟩,
    ⟨(some 36), .load none (.tmp 35), none⟩,
    ⟨(some 5), .mov (.tmp 36), none⟩] [3, 5])
  (.seq (.region [⟨(some 37), .mov (.tmp 5), none⟩,
    ⟨(some 38), .field 3 (.tmp 3), none⟩,
    ⟨(some 39), .load none (.tmp 38), none⟩,
    ⟨(some 40), .bin .lss (.tmp 37) (.tmp 39), none⟩,
    ⟨(some 41), .mov (.tmp 40), none⟩,
    ⟨(some 42), .mov (.tmp 5), some (41, false)⟩,
    ⟨(some 43), .field 4 (.tmp 3), some (41, false)⟩,
    ⟨(some 44), .load none (.tmp 43), some (41, false)⟩,
    ⟨(some 45), .bin .gtr (.tmp 42) (.tmp 44), some (41, false)⟩,
    ⟨(some 46), .pick (.tmp 41) (.const (.bool true)) (.tmp 45), none⟩] [46])
  (.cond (.tmp 46) (.seq (.region [⟨(some 4), .mov (.const (.int .i64 5)), none⟩] [4])
  (.ret)) (.skip))))
  (.seq (.region [⟨(some 4), .mov (.const (.int .i64 0)), none⟩] [4])
  (.ret))))
def msg_wrong : AFun := ⟨47, 2, [.tmp 4], msg_wrong.body⟩
def cuneiformref17_path.b0 : ACode := .seq (.seq (.region [⟨(some 17), .mov (.tmp 4), none⟩,
    ⟨(some 18), .bin .lss (.tmp 17) (.const (.int .i64 2)), none⟩] [0, 3, 4, 18])
  (.cond (.tmp 18) (.skip) (.exit 2)))
  (.seq (.block 3 (.seq (.region [⟨(some 21), .mov (.tmp 0), none⟩,
    ⟨(some 22), .mov (.tmp 3), none⟩,
    ⟨(some 23), .mov (.tmp 4), none⟩,
    ⟨(some 24), .idx 2 none (.tmp 21) (.tmp 22), none⟩,
    ⟨(some 25), .idx 1 (some 2) (.tmp 24) (.tmp 23), none⟩,
    ⟨(some 26), .load none (.tmp 25), none⟩,
    ⟨(some 27), .bin .lss (.tmp 26) (.const (.int .i64 (-1000000))), none⟩,
    ⟨(some 28), .mov (.tmp 27), none⟩,
    ⟨(some 29), .mov (.tmp 0), some (28, false)⟩,
    ⟨(some 30), .mov (.tmp 3), some (28, false)⟩,
    ⟨(some 31), .mov (.tmp 4), some (28, false)⟩,
    ⟨(some 32), .idx 2 none (.tmp 29) (.tmp 30), some (28, false)⟩,
    ⟨(some 33), .idx 1 (some 2) (.tmp 32) (.tmp 31), some (28, false)⟩,
    ⟨(some 34), .load none (.tmp 33), some (28, false)⟩,
    ⟨(some 35), .bin .gtr (.tmp 34) (.const (.int .i64 1000000)), some (28, false)⟩,
    ⟨(some 36), .pick (.tmp 28) (.const (.bool true)) (.tmp 35), none⟩] [0, 3, 4, 36])
  (.cond (.tmp 36) (.seq (.region [⟨(some 2), .mov (.const (.int .i64 5)), none⟩] [2])
  (.ret)) (.skip))))
  (.region [⟨(some 19), .mov (.tmp 4), none⟩,
    ⟨(some 20), .bin .add (.tmp 19) (.const (.int .i64 1)), none⟩,
    ⟨(some 4), .mov (.tmp 20), none⟩] [0, 3, 4]))
def cuneiformref17_path.b1 : ACode := .seq (.seq (.region [⟨(some 11), .mov (.tmp 3), none⟩,
    ⟨(some 12), .mov (.tmp 0), none⟩,
    ⟨(some 13), .len .slice (.tmp 12), none⟩,
    ⟨(some 14), .bin .lss (.tmp 11) (.tmp 13), none⟩] [0, 3, 14])
  (.cond (.tmp 14) (.skip) (.exit 0)))
  (.seq (.block 1 (.seq (.region [⟨(some 4), .mov (.const (.int .i64 0)), none⟩] [0, 3, 4])
  (.block 2 (.loop cuneiformref17_path.b0))))
  (.region [⟨(some 15), .mov (.tmp 3), none⟩,
    ⟨(some 16), .bin .add (.tmp 15) (.const (.int .i64 1)), none⟩,
    ⟨(some 3), .mov (.tmp 16), none⟩] [0, 3]))
def cuneiformref17_path.body : ACode := .seq (.region [⟨(some 2), .mov (.const (.int .i64 0)), none⟩] [0])
  (.seq (.seq (.region [⟨(some 5), .mov (.tmp 0), none⟩,
    ⟨(some 6), .len .slice (.tmp 5), none⟩,
    ⟨(some 7), .bin .eql (.tmp 6) (.const (.int .i64 0)), none⟩] [0, 7])
  (.cond (.tmp 7) (.seq (.region [⟨(some 2), .mov (.const (.int .i64 13)), none⟩] [2])
  (.ret)) (.skip)))
  (.seq (.seq (.region [⟨(some 8), .mov (.tmp 0), none⟩,
    ⟨(some 9), .len .slice (.tmp 8), none⟩,
    ⟨(some 10), .bin .gtr (.tmp 9) (.const (.int .i64 16)), none⟩] [0, 10])
  (.cond (.tmp 10) (.seq (.region [⟨(some 2), .mov (.const (.int .i64 6)), none⟩] [2])
  (.ret)) (.skip)))
  (.seq (.seq (.region [⟨(some 3), .mov (.const (.int .i64 0)), none⟩] [0, 3])
  (.block 0 (.loop cuneiformref17_path.b1)))
  (.seq (.region [⟨(some 2), .mov (.const (.int .i64 0)), none⟩] [2])
  (.ret)))))
def cuneiformref17_path : AFun := ⟨37, 1, [.tmp 2], cuneiformref17_path.body⟩
def cuneiformref17_cells.d0 : List AOper := [⟨(some 28), .mov (.tmp 3), none⟩,
    ⟨(some 29), .bin .gtr (.tmp 28) (.const (.int .i64 0)), none⟩,
    ⟨(some 30), .mov (.tmp 29), none⟩,
    ⟨(some 31), .mov (.tmp 0), some (30, true)⟩,
    ⟨(some 32), .mov (.tmp 3), some (30, true)⟩,
    ⟨(some 33), .idx 1 none (.tmp 31) (.tmp 32), some (30, true)⟩,
    ⟨(some 34), .load none (.tmp 33), some (30, true)⟩,
    ⟨(some 35), .mov (.tmp 0), some (30, true)⟩,
    ⟨(some 36), .mov (.tmp 3), some (30, true)⟩,
    ⟨(some 37), .bin .sub (.tmp 36) (.const (.int .i64 1)), some (30, true)⟩,
    ⟨(some 38), .idx 1 none (.tmp 35) (.tmp 37), some (30, true)⟩,
    ⟨(some 39), .load none (.tmp 38), some (30, true)⟩,
    ⟨(some 40), .bin .leq (.tmp 34) (.tmp 39), some (30, true)⟩,
    ⟨(some 41), .pick (.tmp 30) (.tmp 40) (.const (.bool false)), none⟩]
def cuneiformref17_cells.d0b : List (List Nat) := [[], [0], [0, 1], [0, 1, 2], [0, 1, 2], [0, 1, 2, 3, 4], [0, 1, 2, 3, 4, 5], [0, 1, 2], [0, 1, 2], [0, 1, 2, 8], [0, 1, 2, 7, 8, 9], [0, 1, 2, 7, 8, 9, 10], [0, 1, 2, 3, 4, 5, 6, 7, 8, 9, 10, 11], [0, 1, 2, 3, 4, 5, 6, 7, 8, 9, 10, 11, 12]]
def cuneiformref17_cells.b1 : ACode := .seq (.seq (.region [⟨(some 10), .mov (.tmp 3), none⟩,
    ⟨(some 11), .mov (.tmp 0), none⟩,
    ⟨(some 12), .len .slice (.tmp 11), none⟩,
    ⟨(some 13), .bin .lss (.tmp 10) (.tmp 12), none⟩] [0, 3, 13])
  (.cond (.tmp 13) (.skip) (.exit 0)))
  (.seq (.block 1 (.seq (.seq (.region [⟨(some 16), .mov (.tmp 0), none⟩,
    ⟨(some 17), .mov (.tmp 3), none⟩,
    ⟨(some 18), .idx 1 none (.tmp 16) (.tmp 17), none⟩,
    ⟨(some 19), .load none (.tmp 18), none⟩,
    ⟨(some 20), .bin .lss (.tmp 19) (.const (.int .i64 0)), none⟩,
    ⟨(some 21), .mov (.tmp 20), none⟩,
    ⟨(some 22), .mov (.tmp 0), some (21, false)⟩,
    ⟨(some 23), .mov (.tmp 3), some (21, false)⟩,
    ⟨(some 24), .idx 1 none (.tmp 22) (.tmp 23), some (21, false)⟩,
    ⟨(some 25), .load none (.tmp 24), some (21, false)⟩,
    ⟨(some 26), .bin .gtr (.tmp 25) (.const (.int .i64 65535)), some (21, false)⟩,
    ⟨(some 27), .pick (.tmp 21) (.const (.bool true)) (.tmp 26), none⟩] [0, 3, 27])
  (.cond (.tmp 27) (.seq (.region [⟨(some 2), .mov (.const (.int .i64 5)), none⟩] [2])
  (.ret)) (.skip)))
  (.seq (.draw cuneiformref17_cells.d0 cuneiformref17_cells.d0b [[0, 1, 2, 3, 4, 5, 6, 7, 8, 9, 10, 11, 12, 13]] [] [0, 3, 41])
  (.cond (.tmp 41) (.seq (.region [⟨(some 2), .mov (.const (.int .i64 3)), none⟩] [2])
  (.ret)) (.skip)))))
  (.region [⟨(some 14), .mov (.tmp 3), none⟩,
    ⟨(some 15), .bin .add (.tmp 14) (.const (.int .i64 1)), none⟩,
    ⟨(some 3), .mov (.tmp 15), none⟩] [0, 3]))
def cuneiformref17_cells.body : ACode := .seq (.region [⟨(some 2), .mov (.const (.int .i64 0)), none⟩] [0])
  (.seq (.seq (.region [⟨(some 4), .mov (.tmp 0), none⟩,
    ⟨(some 5), .len .slice (.tmp 4), none⟩,
    ⟨(some 6), .bin .eql (.tmp 5) (.const (.int .i64 0)), none⟩] [0, 6])
  (.cond (.tmp 6) (.seq (.region [⟨(some 2), .mov (.const (.int .i64 13)), none⟩] [2])
  (.ret)) (.skip)))
  (.seq (.seq (.region [⟨(some 7), .mov (.tmp 0), none⟩,
    ⟨(some 8), .len .slice (.tmp 7), none⟩,
    ⟨(some 9), .bin .gtr (.tmp 8) (.const (.int .i64 32)), none⟩] [0, 9])
  (.cond (.tmp 9) (.seq (.region [⟨(some 2), .mov (.const (.int .i64 6)), none⟩] [2])
  (.ret)) (.skip)))
  (.seq (.seq (.region [⟨(some 3), .mov (.const (.int .i64 0)), none⟩] [0, 3])
  (.block 0 (.loop cuneiformref17_cells.b1)))
  (.seq (.region [⟨(some 2), .mov (.const (.int .i64 0)), none⟩] [2])
  (.ret)))))
def cuneiformref17_cells : AFun := ⟨42, 1, [.tmp 2], cuneiformref17_cells.body⟩
def cuneiformref17_text.b0 : ACode := .seq (.seq (.region [⟨(some 10), .mov (.tmp 5), none⟩,
    ⟨(some 11), .mov (.tmp 0), none⟩,
    ⟨(some 12), .len .str (.tmp 11), none⟩,
    ⟨(some 13), .bin .lss (.tmp 10) (.tmp 12), none⟩] [0, 5, 13])
  (.cond (.tmp 13) (.skip) (.exit 0)))
  (.seq (.block 1 (.seq (.region [⟨(some 16), .mov (.tmp 0), none⟩,
    ⟨(some 17), .mov (.tmp 5), none⟩,
    ⟨(some 18), .sidx (.tmp 16) (.tmp 17), none⟩,
    ⟨(some 19), .bin .lss (.tmp 18) (.const (.int .u8 32)), none⟩,
    ⟨(some 20), .mov (.tmp 19), none⟩,
    ⟨(some 21), .mov (.tmp 0), some (20, false)⟩,
    ⟨(some 22), .mov (.tmp 5), some (20, false)⟩,
    ⟨(some 23), .sidx (.tmp 21) (.tmp 22), some (20, false)⟩,
    ⟨(some 24), .bin .gtr (.tmp 23) (.const (.int .u8 126)), some (20, false)⟩,
    ⟨(some 25), .pick (.tmp 20) (.const (.bool true)) (.tmp 24), none⟩] [0, 5, 25])
  (.cond (.tmp 25) (.seq (.region [⟨(some 4), .mov (.const (.int .i64 19)), none⟩] [4])
  (.ret)) (.skip))))
  (.region [⟨(some 14), .mov (.tmp 5), none⟩,
    ⟨(some 15), .bin .add (.tmp 14) (.const (.int .i64 1)), none⟩,
    ⟨(some 5), .mov (.tmp 15), none⟩] [0, 5]))
def cuneiformref17_text.body : ACode := .seq (.region [⟨(some 4), .mov (.const (.int .i64 0)), none⟩] [0, 1])
  (.seq (.seq (.region [⟨(some 6), .mov (.tmp 0), none⟩,
    ⟨(some 7), .len .str (.tmp 6), none⟩,
    ⟨(some 8), .mov (.tmp 1), none⟩,
    ⟨(some 9), .bin .gtr (.tmp 7) (.tmp 8), none⟩] [0, 9])
  (.cond (.tmp 9) (.seq (.region [⟨(some 4), .mov (.const (.int .i64 6)), none⟩] [4])
  (.ret)) (.skip)))
  (.seq (.seq (.region [⟨(some 5), .mov (.const (.int .i64 0)), none⟩] [0, 5])
  (.block 0 (.loop cuneiformref17_text.b0)))
  (.seq (.region [⟨(some 4), .mov (.const (.int .i64 0)), none⟩] [4])
  (.ret))))
def cuneiformref17_text : AFun := ⟨26, 2, [.tmp 4], cuneiformref17_text.body⟩
def field_All.body : ACode := .seq (.region [⟨(some 2), .box T.int (.tmp 0), none⟩,
    ⟨(some 3), .box T.int (.tmp 1), none⟩,
    ⟨(some 4), .mov (.const .nilf), none⟩] [2, 3])
  (.seq (.region [⟨(some 5), .mkfn F.field_All_1 [] [(.tmp 2), (.tmp 3)], none⟩,
    ⟨(some 4), .mov (.tmp 5), none⟩] [4])
  (.ret))
def field_All : AFun := ⟨6, 2, [.tmp 4], field_All.body⟩
def field_robot.body : ACode := .seq (.region [⟨(some 0), .alloc T.field_Field [(.str ⟨#[]⟩), (.int .i64 0), (.int .i64 0), (.int .i64 0), (.int .i64 0), (.int .i64 0), (.int .i64 0)], none⟩] [0])
  (.seq (.region [⟨(some 1), .build [(.str ⟨#[]⟩), (.int .i64 0), (.int .i64 0), (.int .i64 0), (.int .i64 0), (.int .i64 0), (.int .i64 0)] [(0, 1, (.const (.str ⟨#[114, 111, 98, 111, 116]⟩))), (1, 1, (.const (.int .i64 1))), (2, 1, (.const (.int .i64 0))), (3, 1, (.const (.int .i64 0))), (4, 1, (.const (.int .i64 65535))), (5, 1, (.const (.int .i64 1))), (6, 1, (.const (.int .i64 0)))], none⟩,
    ⟨none, .store 7 (.tmp 0) (.tmp 1), none⟩] [0])
  (.ret))
def field_robot : AFun := ⟨2, 0, [.cell 0 (some 7)], field_robot.body⟩
def msg_path.b0 : ACode := .seq (.region [⟨(some 18), .bin .lss (.tmp 17) (.tmp 16), none⟩] [15, 16, 17, 18])
  (.seq (.cond (.tmp 18) (.skip) (.exit 0))
  (.seq (.block 1 (.seq (.region [⟨(some 19), .idx 2 none (.tmp 15) (.tmp 17), none⟩,
    ⟨(some 20), .load (some 2) (.tmp 19), none⟩,
    ⟨(some 7), .alloc T.msg_Point [(.int .i64 0), (.int .i64 0)], none⟩,
    ⟨none, .store 2 (.tmp 7) (.tmp 20), none⟩] [7, 15, 16, 17])
  (.seq (.region [⟨(some 21), .field 0 (.tmp 7), none⟩,
    ⟨(some 22), .load none (.tmp 21), none⟩,
    ⟨(some 23), .field 1 (.tmp 7), none⟩,
    ⟨(some 24), .load none (.tmp 23), none⟩,
    ⟨(some 25), .maxmin true (.tmp 22) (.tmp 24), none⟩,
    ⟨(some 26), .bin .gtr (.tmp 25) (.const (.int .i64 1000000)), none⟩,
    ⟨(some 27), .mov (.tmp 26), none⟩,
    ⟨(some 28), .field 0 (.tmp 7), some (27, false)⟩,
    ⟨(some 29), .load none (.tmp 28), some (27, false)⟩,
    ⟨(some 30), .field 1 (.tmp 7), some (27, false)⟩,
    ⟨(some 31), .load none (.tmp 30), some (27, false)⟩,
    ⟨(some 32), .maxmin false (.tmp 29) (.tmp 31), some (27, false)⟩,
    ⟨(some 33), .bin .lss (.tmp 32) (.const (.int .i64 (-1000000))), some (27, false)⟩,
    ⟨(some 34), .pick (.tmp 27) (.const (.bool true)) (.tmp 33), none⟩] [15, 16, 17, 34])
  (.cond (.tmp 34) (.seq (.region [⟨(some 4), .mov (.const (.int .i64 5)), none⟩] [4])
  (.ret)) (.skip)))))
  (.region [⟨(some 35), .bin .add (.tmp 17) (.const (.int .i64 1)), none⟩,
    ⟨(some 17), .mov (.tmp 35), none⟩] [15, 16, 17])))
def msg_path.body : ACode := .seq (.region [⟨(some 3), .box T.field_Field (.tmp 1), none⟩,
    ⟨(some 4), .mov (.const (.int .i64 0)), none⟩] [0, 3])
  (.seq (.seq (.region [⟨(some 8), .mov (.tmp 0), none⟩,
    ⟨(some 9), .len .slice (.tmp 8), none⟩,
    ⟨(some 10), .load (some 7) (.tmp 3), none⟩,
    ⟨(some 11), .call (.const (.fn F.msg_many [] [])) [(.tmp 9), (.tmp 10)], none⟩,
    ⟨(some 5), .mov (.tmp 11), none⟩] [0, 5])
  (.seq (.region [⟨(some 12), .mov (.tmp 5), none⟩,
    ⟨(some 13), .bin .neq (.tmp 12) (.const (.int .i64 0)), none⟩] [0, 5, 13])
  (.cond (.tmp 13) (.seq (.region [⟨(some 14), .mov (.tmp 5), none⟩,
    ⟨(some 4), .mov (.tmp 14), none⟩] [4])
  (.ret)) (.skip))))
  (.seq (.seq (.region [⟨(some 15), .mov (.tmp 0), none⟩,
    ⟨(some 16), .len .slice (.tmp 15), none⟩,
    ⟨(some 17), .mov (.const (.int .i64 0)), none⟩] [15, 16, 17])
  (.block 0 (.loop msg_path.b0)))
  (.seq (.region [⟨(some 4), .mov (.const (.int .i64 0)), none⟩] [4])
  (.ret))))
def msg_path : AFun := ⟨36, 2, [.tmp 4], msg_path.body⟩
def msg_cells.b0 : ACode := .seq (.region [⟨(some 19), .bin .lss (.tmp 18) (.tmp 17), none⟩] [6, 16, 17, 18, 19])
  (.seq (.cond (.tmp 19) (.skip) (.exit 0))
  (.seq (.block 1 (.seq (.region [⟨(some 20), .idx 1 none (.tmp 16) (.tmp 18), none⟩,
    ⟨(some 21), .load none (.tmp 20), none⟩,
    ⟨(some 8), .mov (.tmp 21), none⟩] [6, 8, 16, 17, 18])
  (.seq (.block 2 (.seq (.region [⟨(some 23), .mov (.tmp 8), none⟩,
    ⟨(some 24), .bin .lss (.tmp 23) (.const (.int .i64 0)), none⟩,
    ⟨(some 25), .mov (.tmp 24), none⟩,
    ⟨(some 26), .mov (.tmp 8), some (25, false)⟩,
    ⟨(some 27), .bin .gtr (.tmp 26) (.const (.int .i64 65535)), some (25, false)⟩,
    ⟨(some 28), .pick (.tmp 25) (.const (.bool true)) (.tmp 27), none⟩,
    ⟨(some 22), .mov (.tmp 28), none⟩] [6, 8, 16, 17, 18, 22])
  (.cond (.tmp 22) (.seq (.region [⟨(some 4), .mov (.const (.int .i64 5)), none⟩] [4])
  (.ret)) (.seq (.region [⟨(some 30), .mov (.tmp 8), none⟩,
    ⟨(some 31), .mov (.tmp 6), none⟩,
    ⟨(some 32), .bin .leq (.tmp 30) (.tmp 31), none⟩,
    ⟨(some 29), .mov (.tmp 32), none⟩] [8, 16, 17, 18, 29])
  (.cond (.tmp 29) (.seq (.region [⟨(some 4), .mov (.const (.int .i64 3)), none⟩] [4])
  (.ret)) (.skip))))))
  (.region [⟨(some 33), .mov (.tmp 8), none⟩,
    ⟨(some 6), .mov (.tmp 33), none⟩] [6, 16, 17, 18]))))
  (.region [⟨(some 34), .bin .add (.tmp 18) (.const (.int .i64 1)), none⟩,
    ⟨(some 18), .mov (.tmp 34), none⟩] [6, 16, 17, 18])))
def msg_cells.body : ACode := .seq (.region [⟨(some 3), .box T.field_Field (.tmp 1), none⟩,
    ⟨(some 4), .mov (.const (.int .i64 0)), none⟩] [0, 3])
  (.seq (.seq (.region [⟨(some 9), .mov (.tmp 0), none⟩,
    ⟨(some 10), .len .slice (.tmp 9), none⟩,
    ⟨(some 11), .load (some 7) (.tmp 3), none⟩,
    ⟨(some 12), .call (.const (.fn F.msg_many [] [])) [(.tmp 10), (.tmp 11)], none⟩,
    ⟨(some 5), .mov (.tmp 12), none⟩] [0, 5])
  (.seq (.region [⟨(some 13), .mov (.tmp 5), none⟩,
    ⟨(some 14), .bin .neq (.tmp 13) (.const (.int .i64 0)), none⟩] [0, 5, 14])
  (.cond (.tmp 14) (.seq (.region [⟨(some 15), .mov (.tmp 5), none⟩,
    ⟨(some 4), .mov (.tmp 15), none⟩] [4])
  (.ret)) (.skip))))
  (.seq (.region [⟨(some 6), .mov (.const (.int .i64 (-1))), none⟩] [0, 6])
  (.seq (.seq (.region [⟨(some 16), .mov (.tmp 0), none⟩,
    ⟨(some 17), .len .slice (.tmp 16), none⟩,
    ⟨(some 18), .mov (.const (.int .i64 0)), none⟩] [6, 16, 17, 18])
  (.block 0 (.loop msg_cells.b0)))
  (.seq (.region [⟨(some 4), .mov (.const (.int .i64 0)), none⟩] [4])
  (.ret)))))
def msg_cells : AFun := ⟨35, 2, [.tmp 4], msg_cells.body⟩
def msg_text.b0 : ACode := .seq (.region [⟨(some 19), .bin .lss (.tmp 18) (.tmp 17), none⟩] [16, 17, 18, 19])
  (.seq (.cond (.tmp 19) (.skip) (.exit 0))
  (.seq (.block 1 (.seq (.region [⟨(some 20), .idx 1 none (.tmp 16) (.tmp 18), none⟩,
    ⟨(some 21), .load none (.tmp 20), none⟩,
    ⟨(some 7), .mov (.tmp 21), none⟩] [7, 16, 17, 18])
  (.seq (.region [⟨(some 22), .mov (.tmp 7), none⟩,
    ⟨(some 23), .bin .lss (.tmp 22) (.const (.int .u8 32)), none⟩,
    ⟨(some 24), .mov (.tmp 23), none⟩,
    ⟨(some 25), .mov (.tmp 7), some (24, false)⟩,
    ⟨(some 26), .bin .gtr (.tmp 25) (.const (.int .u8 126)), some (24, false)⟩,
    ⟨(some 27), .pick (.tmp 24) (.const (.bool true)) (.tmp 26), none⟩] [16, 17, 18, 27])
  (.cond (.tmp 27) (.seq (.region [⟨(some 4), .mov (.const (.int .i64 19)), none⟩] [4])
  (.ret)) (.skip)))))
  (.region [⟨(some 28), .bin .add (.tmp 18) (.const (.int .i64 1)), none⟩,
    ⟨(some 18), .mov (.tmp 28), none⟩] [16, 17, 18])))
def msg_text.body : ACode := .seq (.region [⟨(some 3), .box T.field_Field (.tmp 1), none⟩,
    ⟨(some 4), .mov (.const (.int .i64 0)), none⟩] [0, 3])
  (.seq (.seq (.region [⟨(some 8), .mov (.tmp 0), none⟩,
    ⟨(some 9), .len .str (.tmp 8), none⟩,
    ⟨(some 10), .load (some 7) (.tmp 3), none⟩,
    ⟨(some 11), .call (.const (.fn F.msg_many [] [])) [(.tmp 9), (.tmp 10)], none⟩,
    ⟨(some 5), .mov (.tmp 11), none⟩] [0, 5])
  (.seq (.region [⟨(some 12), .mov (.tmp 5), none⟩,
    ⟨(some 13), .bin .neq (.tmp 12) (.const (.int .i64 0)), none⟩] [0, 5, 13])
  (.cond (.tmp 13) (.seq (.region [⟨(some 14), .mov (.tmp 5), none⟩,
    ⟨(some 4), .mov (.tmp 14), none⟩] [4])
  (.ret)) (.skip))))
  (.seq (.seq (.region [⟨(some 15), .mov (.tmp 0), none⟩,
    ⟨(some 16), .s2b (.tmp 15), none⟩,
    ⟨(some 17), .len .slice (.tmp 16), none⟩,
    ⟨(some 18), .mov (.const (.int .i64 0)), none⟩] [16, 17, 18])
  (.block 0 (.loop msg_text.b0)))
  (.seq (.region [⟨(some 4), .mov (.const (.int .i64 0)), none⟩] [4])
  (.ret))))
def msg_text : AFun := ⟨29, 2, [.tmp 4], msg_text.body⟩
def field_All_1.b0 : ACode := .seq (.region [⟨(some 10), .bin .lss (.tmp 9) (.tmp 8), none⟩] [0, 2, 7, 8, 9, 10])
  (.seq (.cond (.tmp 10) (.skip) (.exit 0))
  (.seq (.block 1 (.seq (.region [⟨(some 11), .idx 7 none (.tmp 7) (.tmp 9), none⟩,
    ⟨(some 12), .load (some 7) (.tmp 11), none⟩,
    ⟨(some 5), .alloc T.field_Field [(.str ⟨#[]⟩), (.int .i64 0), (.int .i64 0), (.int .i64 0), (.int .i64 0), (.int .i64 0), (.int .i64 0)], none⟩,
    ⟨none, .store 7 (.tmp 5) (.tmp 12), none⟩] [0, 2, 5, 7, 8, 9])
  (.seq (.seq (.region [⟨(some 13), .field 5 (.tmp 5), none⟩,
    ⟨(some 14), .load none (.tmp 13), none⟩,
    ⟨(some 15), .load none (.tmp 2), none⟩,
    ⟨(some 16), .bin .gtr (.tmp 14) (.tmp 15), none⟩] [0, 2, 5, 7, 8, 9, 16])
  (.cond (.tmp 16) (.exit 1) (.skip)))
  (.seq (.region [⟨(some 17), .mov (.tmp 0), none⟩,
    ⟨(some 18), .load (some 7) (.tmp 5), none⟩,
    ⟨(some 19), .call (.tmp 17) [(.tmp 18)], none⟩,
    ⟨(some 20), .un .not (.tmp 19), none⟩] [0, 2, 7, 8, 9, 20])
  (.cond (.tmp 20) (.exit 0) (.skip))))))
  (.region [⟨(some 21), .bin .add (.tmp 9) (.const (.int .i64 1)), none⟩,
    ⟨(some 9), .mov (.tmp 21), none⟩] [0, 2, 7, 8, 9])))
def field_All_1.body : ACode := .scope (.seq (.skip)
  (.seq (.region [⟨(some 6), .load none (.tmp 1), none⟩,
    ⟨(some 7), .call (.const (.fn F.field_Of [] [])) [(.tmp 6)], none⟩,
    ⟨(some 8), .len .slice (.tmp 7), none⟩,
    ⟨(some 9), .mov (.const (.int .i64 0)), none⟩] [0, 2, 7, 8, 9])
  (.block 0 (.loop field_All_1.b0))))
def field_All_1 : AFun := ⟨22, 3, [], field_All_1.body⟩
def msg_many.body : ACode := .seq (.region [⟨(some 3), .box T.field_Field (.tmp 1), none⟩,
    ⟨(some 4), .mov (.const (.int .i64 0)), none⟩] [0, 3])
  (.seq (.block 0 (.seq (.region [⟨(some 6), .mov (.tmp 0), none⟩,
    ⟨(some 7), .field 3 (.tmp 3), none⟩,
    ⟨(some 8), .load none (.tmp 7), none⟩,
    ⟨(some 9), .bin .lss (.tmp 6) (.tmp 8), none⟩,
    ⟨(some 5), .mov (.tmp 9), none⟩] [0, 3, 5])
  (.cond (.tmp 5) (.seq (.region [⟨(some 4), .mov (.const (.int .i64 13)), none⟩] [4])
  (.ret)) (.seq (.region [⟨(some 11), .mov (.tmp 0), none⟩,
    ⟨(some 12), .field 4 (.tmp 3), none⟩,
    ⟨(some 13), .load none (.tmp 12), none⟩,
    ⟨(some 14), .bin .gtr (.tmp 11) (.tmp 13), none⟩,
    ⟨(some 10), .mov (.tmp 14), none⟩] [10])
  (.cond (.tmp 10) (.seq (.region [⟨(some 4), .mov (.const (.int .i64 6)), none⟩] [4])
  (.ret)) (.skip))))))
  (.seq (.region [⟨(some 4), .mov (.const (.int .i64 0)), none⟩] [4])
  (.ret)))
def msg_many : AFun := ⟨15, 2, [.tmp 4], msg_many.body⟩
theorem cuneiformlaw17_MsgApart_code : okFun Try.prog F.cuneiformlaw17_MsgApart cuneiformlaw17_MsgApart = true := by kernel_rfl
theorem cuneiformlaw17_MsgNumbers_code : okFun Try.prog F.cuneiformlaw17_MsgNumbers cuneiformlaw17_MsgNumbers = true := by kernel_rfl
theorem cuneiformlaw17_MsgChecks_code : okFun Try.prog F.cuneiformlaw17_MsgChecks cuneiformlaw17_MsgChecks = true := by kernel_rfl
theorem cuneiformlaw17_MsgNews_code : okFun Try.prog F.cuneiformlaw17_MsgNews cuneiformlaw17_MsgNews = true := by kernel_rfl
theorem cuneiformlaw17_Cut_code : okFun Try.prog F.cuneiformlaw17_Cut cuneiformlaw17_Cut = true := by kernel_rfl
theorem cuneiformlaw17_Of_code : okFun Try.prog F.cuneiformlaw17_Of cuneiformlaw17_Of = true := by kernel_rfl
theorem msg_Copy_code : okFun Try.prog F.msg_Copy msg_Copy = true := by kernel_rfl
theorem msg_Project_code : okFun Try.prog F.msg_Project msg_Project = true := by kernel_rfl
theorem msg_Set_code : okFun Try.prog F.msg_Set msg_Set = true := by kernel_rfl
theorem cuneiformlaw17_known_code : okFun Try.prog F.cuneiformlaw17_known cuneiformlaw17_known = true := by kernel_rfl
theorem cuneiformref17_Same_code : okFun Try.prog F.cuneiformref17_Same cuneiformref17_Same = true := by kernel_rfl
theorem cuneiformref16_All_code : okFun Try.prog F.cuneiformref16_All cuneiformref16_All = true := by kernel_rfl
theorem msg_Numbers_code : okFun Try.prog F.msg_Numbers msg_Numbers = true := by kernel_rfl
theorem cuneiformref16_Find_code : okFun Try.prog F.cuneiformref16_Find cuneiformref16_Find = true := by kernel_rfl
theorem msg_Get_code : okFun Try.prog F.msg_Get msg_Get = true := by kernel_rfl
theorem msg_Same_code : okFun Try.prog F.msg_Same msg_Same = true := by kernel_rfl
theorem msg_Check_code : okFun Try.prog F.msg_Check msg_Check = true := by kernel_rfl
theorem cuneiformref17_Check_code : okFun Try.prog F.cuneiformref17_Check cuneiformref17_Check = true := by kernel_rfl
theorem cuneiformref17_Project_code : okFun Try.prog F.cuneiformref17_Project cuneiformref17_Project = true := by kernel_rfl
theorem msg_New_code : okFun Try.prog F.msg_New msg_New = true := by kernel_rfl
theorem cuneiformref17_New_code : okFun Try.prog F.cuneiformref17_New cuneiformref17_New = true := by kernel_rfl
theorem slices_Clone_msg_Point_msg_Point_code : okFun Try.prog F.slices_Clone_msg_Point_msg_Point slices_Clone_msg_Point_msg_Point = true := by kernel_rfl
theorem slices_Clone_int_int_code : okFun Try.prog F.slices_Clone_int_int slices_Clone_int_int = true := by kernel_rfl
theorem field_Of_code : okFun Try.prog F.field_Of field_Of = true := by kernel_rfl
theorem msg_without_code : okFun Try.prog F.msg_without msg_without = true := by kernel_rfl
theorem field_Find_code : okFun Try.prog F.field_Find field_Find = true := by kernel_rfl
theorem cuneiformref01_Ints_code : okFun Try.prog F.cuneiformref01_Ints cuneiformref01_Ints = true := by kernel_rfl
theorem msg_Numbers_1_code : okFun Try.prog F.msg_Numbers_1 msg_Numbers_1 = true := by kernel_rfl
theorem slices_Equal_msg_Point_msg_Point_code : okFun Try.prog F.slices_Equal_msg_Point_msg_Point slices_Equal_msg_Point_msg_Point = true := by kernel_rfl
theorem slices_Equal_int_int_code : okFun Try.prog F.slices_Equal_int_int slices_Equal_int_int = true := by kernel_rfl
theorem msg_wrong_code : okFun Try.prog F.msg_wrong msg_wrong = true := by kernel_rfl
theorem cuneiformref17_path_code : okFun Try.prog F.cuneiformref17_path cuneiformref17_path = true := by kernel_rfl
theorem cuneiformref17_cells_code : okFun Try.prog F.cuneiformref17_cells cuneiformref17_cells = true := by kernel_rfl
theorem cuneiformref17_text_code : okFun Try.prog F.cuneiformref17_text cuneiformref17_text = true := by kernel_rfl
theorem field_All_code : okFun Try.prog F.field_All field_All = true := by kernel_rfl
theorem field_robot_code : okFun Try.prog F.field_robot field_robot = true := by kernel_rfl
theorem msg_path_code : okFun Try.prog F.msg_path msg_path = true := by kernel_rfl
theorem msg_cells_code : okFun Try.prog F.msg_cells msg_cells = true := by kernel_rfl
theorem msg_text_code : okFun Try.prog F.msg_text msg_text = true := by kernel_rfl
theorem field_All_1_code : okFun Try.prog F.field_All_1 field_All_1 = true := by kernel_rfl
theorem msg_many_code : okFun Try.prog F.msg_many msg_many = true := by kernel_rfl
def codes : CT := [(F.cuneiformlaw17_MsgApart, cuneiformlaw17_MsgApart), (F.cuneiformlaw17_MsgNumbers, cuneiformlaw17_MsgNumbers), (F.cuneiformlaw17_MsgChecks, cuneiformlaw17_MsgChecks), (F.cuneiformlaw17_MsgNews, cuneiformlaw17_MsgNews), (F.cuneiformlaw17_Cut, cuneiformlaw17_Cut), (F.cuneiformlaw17_Of, cuneiformlaw17_Of), (F.msg_Copy, msg_Copy), (F.msg_Project, msg_Project), (F.msg_Set, msg_Set), (F.cuneiformlaw17_known, cuneiformlaw17_known), (F.cuneiformref17_Same, cuneiformref17_Same), (F.cuneiformref16_All, cuneiformref16_All), (F.msg_Numbers, msg_Numbers), (F.cuneiformref16_Find, cuneiformref16_Find), (F.msg_Get, msg_Get), (F.msg_Same, msg_Same), (F.msg_Check, msg_Check), (F.cuneiformref17_Check, cuneiformref17_Check), (F.cuneiformref17_Project, cuneiformref17_Project), (F.msg_New, msg_New), (F.cuneiformref17_New, cuneiformref17_New), (F.slices_Clone_msg_Point_msg_Point, slices_Clone_msg_Point_msg_Point), (F.slices_Clone_int_int, slices_Clone_int_int), (F.field_Of, field_Of), (F.msg_without, msg_without), (F.field_Find, field_Find), (F.cuneiformref01_Ints, cuneiformref01_Ints), (F.msg_Numbers_1, msg_Numbers_1), (F.slices_Equal_msg_Point_msg_Point, slices_Equal_msg_Point_msg_Point), (F.slices_Equal_int_int, slices_Equal_int_int), (F.msg_wrong, msg_wrong), (F.cuneiformref17_path, cuneiformref17_path), (F.cuneiformref17_cells, cuneiformref17_cells), (F.cuneiformref17_text, cuneiformref17_text), (F.field_All, field_All), (F.field_robot, field_robot), (F.msg_path, msg_path), (F.msg_cells, msg_cells), (F.msg_text, msg_text), (F.field_All_1, field_All_1), (F.msg_many, msg_many)]
theorem codes_ok : AllOk Try.prog codes := ⟨cuneiformlaw17_MsgApart_code, cuneiformlaw17_MsgNumbers_code, cuneiformlaw17_MsgChecks_code, cuneiformlaw17_MsgNews_code, cuneiformlaw17_Cut_code, cuneiformlaw17_Of_code, msg_Copy_code, msg_Project_code, msg_Set_code, cuneiformlaw17_known_code, cuneiformref17_Same_code, cuneiformref16_All_code, msg_Numbers_code, cuneiformref16_Find_code, msg_Get_code, msg_Same_code, msg_Check_code, cuneiformref17_Check_code, cuneiformref17_Project_code, msg_New_code, cuneiformref17_New_code, slices_Clone_msg_Point_msg_Point_code, slices_Clone_int_int_code, field_Of_code, msg_without_code, field_Find_code, cuneiformref01_Ints_code, msg_Numbers_1_code, slices_Equal_msg_Point_msg_Point_code, slices_Equal_int_int_code, msg_wrong_code, cuneiformref17_path_code, cuneiformref17_cells_code, cuneiformref17_text_code, field_All_code, field_robot_code, msg_path_code, msg_cells_code, msg_text_code, field_All_1_code, msg_many_code, trivial⟩
end Go.Proofs.Ytlkadcahjifolaa
