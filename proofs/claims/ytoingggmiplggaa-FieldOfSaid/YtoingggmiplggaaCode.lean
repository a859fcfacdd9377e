/-
  The code that the statements of this seat reach, in the form of that machine, and that it is the program's. By an AI agent. No person has read it.
-/
import Derived.Test.YtoingggmiplggaaProg
import Derived.Test.YtoingggmiplggaaAm6
import Derived.KernelRfl

/-
  The code of this seat in the form of the abstract machine, and that it is the program's. Printed by a program (wip/am/gen.py, code.py). By an AI agent.
-/
namespace Go.Proofs.Ytoingggmiplggaa
open Go Go.Am
namespace F
def cuneiformlaw16_FieldPlaces : FuncId := 3
def cuneiformlaw16_FieldVersions : FuncId := 4
def cuneiformlaw16_FieldOf : FuncId := 5
def cuneiformlaw16_FieldKinds : FuncId := 6
def field_Of : FuncId := 7
def cuneiformlaw16_known : FuncId := 8
def field_All : FuncId := 9
def field_Find : FuncId := 10
def cuneiformref16_All : FuncId := 11
def field_Word : FuncId := 12
def cuneiformref16_Word : FuncId := 13
def cuneiformref16_Find : FuncId := 14
def field_Kinds : FuncId := 15
def field_Kind : FuncId := 16
def field_robot : FuncId := 17
def field_All_1 : FuncId := 18
def field_Kinds_1 : FuncId := 19
end F
namespace T
def int : TypeId := 3
def bool : TypeId := 4
def string : TypeId := 9
def field_Field : TypeId := 26
def sl_string : TypeId := 29
def sl_cuneiformref16_F : TypeId := 36
def cuneiformref16_F : TypeId := 39
end T
def cuneiformlaw16_FieldPlaces.d0 : List AOper := [⟨(some 86), .mov (.tmp 4), none⟩,
    ⟨(some 87), .mov (.tmp 9), none⟩,
    ⟨(some 88), .idx 7 none (.tmp 86) (.tmp 87), none⟩,
    ⟨(some 89), .field 0 (.tmp 88), none⟩,
    ⟨(some 90), .load none (.tmp 89), none⟩,
    ⟨(some 91), .field 0 (.tmp 7), none⟩,
    ⟨(some 92), .load none (.tmp 91), none⟩,
    ⟨(some 93), .bin .eql (.tmp 90) (.tmp 92), none⟩]
def cuneiformlaw16_FieldPlaces.d0b : List (List Nat) := [[], [], [0, 1], [0, 1, 2], [0, 1, 2, 3], [], [5], [0, 1, 2, 3, 4, 5, 6]]
def cuneiformlaw16_FieldPlaces.b1 : ACode := .seq (.seq (.region [⟨(some 81), .mov (.tmp 9), none⟩,
    ⟨(some 82), .mov (.tmp 6), none⟩,
    ⟨(some 83), .bin .lss (.tmp 81) (.tmp 82), none⟩] [4, 5, 6, 7, 9, 83])
  (.cond (.tmp 83) (.skip) (.exit 2)))
  (.seq (.block 3 (.seq (.draw cuneiformlaw16_FieldPlaces.d0 cuneiformlaw16_FieldPlaces.d0b [[0, 1, 2, 3, 4, 5, 6, 7]] [] [4, 5, 6, 7, 9, 93])
  (.cond (.tmp 93) (.seq (.region [⟨(some 2), .mov (.const (.bool false)), none⟩] [2])
  (.ret)) (.skip))))
  (.region [⟨(some 84), .mov (.tmp 9), none⟩,
    ⟨(some 85), .bin .add (.tmp 84) (.const (.int .i64 1)), none⟩,
    ⟨(some 9), .mov (.tmp 85), none⟩] [4, 5, 6, 7, 9]))
def cuneiformlaw16_FieldPlaces.b2 : ACode := .seq (.seq (.region [⟨(some 17), .mov (.tmp 6), none⟩,
    ⟨(some 18), .mov (.tmp 4), none⟩,
    ⟨(some 19), .len .slice (.tmp 18), none⟩,
    ⟨(some 20), .bin .lss (.tmp 17) (.tmp 19), none⟩] [4, 5, 6, 20])
  (.cond (.tmp 20) (.skip) (.exit 0)))
  (.seq (.block 1 (.seq (.region [⟨(some 23), .mov (.tmp 4), none⟩,
    ⟨(some 24), .mov (.tmp 6), none⟩,
    ⟨(some 25), .idx 7 none (.tmp 23) (.tmp 24), none⟩,
    ⟨(some 26), .load (some 7) (.tmp 25), none⟩,
    ⟨(some 7), .alloc T.field_Field [(.str ⟨#[]⟩), (.int .i64 0), (.int .i64 0), (.int .i64 0), (.int .i64 0), (.int .i64 0), (.int .i64 0)], none⟩,
    ⟨none, .store 7 (.tmp 7) (.tmp 26), none⟩] [4, 5, 6, 7])
  (.seq (.region [⟨(some 27), .field 1 (.tmp 7), none⟩,
    ⟨(some 28), .load none (.tmp 27), none⟩,
    ⟨(some 29), .bin .eql (.tmp 28) (.const (.int .i64 1)), none⟩,
    ⟨(some 30), .mov (.tmp 29), none⟩,
    ⟨(some 31), .field 1 (.tmp 7), some (30, false)⟩,
    ⟨(some 32), .load none (.tmp 31), some (30, false)⟩,
    ⟨(some 33), .bin .eql (.tmp 32) (.const (.int .i64 2)), some (30, false)⟩,
    ⟨(some 34), .pick (.tmp 30) (.const (.bool true)) (.tmp 33), none⟩,
    ⟨(some 8), .mov (.tmp 34), none⟩] [4, 5, 6, 7, 8])
  (.seq (.seq (.region [⟨(some 35), .mov (.tmp 8), none⟩] [4, 5, 6, 7, 35])
  (.cond (.tmp 35) (.seq (.seq (.region [⟨(some 36), .field 2 (.tmp 7), none⟩,
    ⟨(some 37), .load none (.tmp 36), none⟩,
    ⟨(some 38), .mov (.tmp 5), none⟩,
    ⟨(some 39), .bin .neq (.tmp 37) (.tmp 38), none⟩,
    ⟨(some 40), .mov (.tmp 39), none⟩,
    ⟨(some 41), .field 3 (.tmp 7), some (40, false)⟩,
    ⟨(some 42), .load none (.tmp 41), some (40, false)⟩,
    ⟨(some 43), .field 4 (.tmp 7), some (40, false)⟩,
    ⟨(some 44), .load none (.tmp 43), some (40, false)⟩,
    ⟨(some 45), .bin .gtr (.tmp 42) (.tmp 44), some (40, false)⟩,
    ⟨(some 46), .pick (.tmp 40) (.const (.bool true)) (.tmp 45), none⟩,
    ⟨(some 47), .mov (.tmp 46), none⟩,
    ⟨(some 48), .field 5 (.tmp 7), some (47, false)⟩,
    ⟨(some 49), .load none (.tmp 48), some (47, false)⟩,
    ⟨(some 50), .bin .eql (.tmp 49) (.const (.int .i64 2)), some (47, false)⟩,
    ⟨(some 51), .mov (.tmp 50), some (47, false)⟩,
    ⟨(some 52), .field 6 (.tmp 7), some (51, true)⟩,
    ⟨(some 53), .load none (.tmp 52), some (51, true)⟩,
    ⟨(some 54), .field 3 (.tmp 7), some (51, true)⟩,
    ⟨(some 55), .load none (.tmp 54), some (51, true)⟩,
    ⟨(some 56), .bin .lss (.tmp 53) (.tmp 55), some (51, true)⟩,
    ⟨(some 57), .mov (.tmp 56), some (51, true)⟩,
    ⟨(some 58), .field 6 (.tmp 7), some (57, false)⟩,
    ⟨(some 59), .load none (.tmp 58), some (57, false)⟩,
    ⟨(some 60), .field 4 (.tmp 7), some (57, false)⟩,
    ⟨(some 61), .load none (.tmp 60), some (57, false)⟩,
    ⟨(some 62), .bin .gtr (.tmp 59) (.tmp 61), some (57, false)⟩,
    ⟨(some 63), .pick (.tmp 57) (.const (.bool true)) (.tmp 62), some (51, true)⟩,
    ⟨(some 64), .pick (.tmp 51) (.tmp 63) (.const (.bool false)), some (47, false)⟩,
    ⟨(some 65), .pick (.tmp 47) (.const (.bool true)) (.tmp 64), none⟩,
    ⟨(some 66), .mov (.tmp 65), none⟩,
    ⟨(some 67), .field 5 (.tmp 7), some (66, false)⟩,
    ⟨(some 68), .load none (.tmp 67), some (66, false)⟩,
    ⟨(some 69), .bin .eql (.tmp 68) (.const (.int .i64 1)), some (66, false)⟩,
    ⟨(some 70), .mov (.tmp 69), some (66, false)⟩,
    ⟨(some 71), .field 6 (.tmp 7), some (70, true)⟩,
    ⟨(some 72), .load none (.tmp 71), some (70, true)⟩,
    ⟨(some 73), .bin .neq (.tmp 72) (.const (.int .i64 0)), some (70, true)⟩,
    ⟨(some 74), .pick (.tmp 70) (.tmp 73) (.const (.bool false)), some (66, false)⟩,
    ⟨(some 75), .pick (.tmp 66) (.const (.bool true)) (.tmp 74), none⟩] [4, 5, 6, 7, 75])
  (.cond (.tmp 75) (.seq (.region [⟨(some 2), .mov (.const (.bool false)), none⟩] [2])
  (.ret)) (.skip)))
  (.region [⟨(some 76), .mov (.tmp 5), none⟩,
    ⟨(some 77), .bin .add (.tmp 76) (.const (.int .i64 1)), none⟩,
    ⟨(some 5), .mov (.tmp 77), none⟩] [4, 5, 6, 7])) (.seq (.region [⟨(some 78), .field 2 (.tmp 7), none⟩,
    ⟨(some 79), .load none (.tmp 78), none⟩,
    ⟨(some 80), .bin .neq (.tmp 79) (.const (.int .i64 (-1))), none⟩] [4, 5, 6, 7, 80])
  (.cond (.tmp 80) (.seq (.region [⟨(some 2), .mov (.const (.bool false)), none⟩] [2])
  (.ret)) (.skip)))))
  (.seq (.region [⟨(some 9), .mov (.const (.int .i64 0)), none⟩] [4, 5, 6, 7, 9])
  (.block 2 (.loop cuneiformlaw16_FieldPlaces.b1)))))))
  (.region [⟨(some 21), .mov (.tmp 6), none⟩,
    ⟨(some 22), .bin .add (.tmp 21) (.const (.int .i64 1)), none⟩,
    ⟨(some 6), .mov (.tmp 22), none⟩] [4, 5, 6]))
def cuneiformlaw16_FieldPlaces.body : ACode := .seq (.region [⟨(some 2), .mov (.const (.bool false)), none⟩] [0])
  (.seq (.region [⟨(some 10), .mov (.tmp 0), none⟩,
    ⟨(some 11), .conv .u64 (.tmp 10), none⟩,
    ⟨(some 12), .bin .rem (.tmp 11) (.const (.int .u64 5)), none⟩,
    ⟨(some 13), .conv .i64 (.tmp 12), none⟩,
    ⟨(some 14), .bin .add (.const (.int .i64 1)) (.tmp 13), none⟩,
    ⟨(some 3), .mov (.tmp 14), none⟩] [3])
  (.seq (.region [⟨(some 15), .mov (.tmp 3), none⟩,
    ⟨(some 16), .call (.const (.fn F.field_Of [] [])) [(.tmp 15)], none⟩,
    ⟨(some 4), .mov (.tmp 16), none⟩] [4])
  (.seq (.region [⟨(some 5), .mov (.const (.int .i64 0)), none⟩] [4, 5])
  (.seq (.seq (.region [⟨(some 6), .mov (.const (.int .i64 0)), none⟩] [4, 5, 6])
  (.block 0 (.loop cuneiformlaw16_FieldPlaces.b2)))
  (.seq (.region [⟨(some 94), .call (.const (.fn F.cuneiformlaw16_known [] [])) [], none⟩,
    ⟨(some 95), .mov (.tmp 94), none⟩,
    ⟨(some 96), .mov (.tmp 4), some (95, true)⟩,
    ⟨(some 97), .len .slice (.tmp 96), some (95, true)⟩,
    ⟨(some 98), .bin .gtr (.tmp 97) (.const (.int .i64 0)), some (95, true)⟩,
    ⟨(some 99), .pick (.tmp 95) (.tmp 98) (.const (.bool false)), none⟩,
    ⟨(some 100), .mov (.tmp 99), none⟩,
    ⟨(some 101), .mov (.tmp 4), some (100, true)⟩,
    ⟨(some 102), .idx 7 none (.tmp 101) (.const (.int .i64 0)), some (100, true)⟩,
    ⟨(some 103), .field 0 (.tmp 102), some (100, true)⟩,
    ⟨(some 104), .load none (.tmp 103), some (100, true)⟩,
    ⟨(some 105), .bin .eql (.tmp 104) (.const (.str ⟨#[114, 111, 98, 111, 116]⟩)), some (100, true)⟩,
    ⟨(some 106), .pick (.tmp 100) (.tmp 105) (.const (.bool false)), none⟩,
    ⟨(some 107), .mov (.tmp 106), none⟩,
    ⟨(some 108), .mov (.tmp 5), some (107, true)⟩,
    ⟨(some 109), .bin .leq (.tmp 108) (.const (.int .i64 6)), some (107, true)⟩,
    ⟨(some 110), .pick (.tmp 107) (.tmp 109) (.const (.bool false)), none⟩,
    ⟨(some 2), .mov (.tmp 110), none⟩] [2])
  (.ret))))))
def cuneiformlaw16_FieldPlaces : AFun := ⟨111, 1, [.tmp 2], cuneiformlaw16_FieldPlaces.body⟩
def cuneiformlaw16_FieldVersions.a0 : ACode := .region [⟨(some 10), .alloc T.field_Field [(.str ⟨#[]⟩), (.int .i64 0), (.int .i64 0), (.int .i64 0), (.int .i64 0), (.int .i64 0), (.int .i64 0)], none⟩,
    ⟨none, .store 7 (.tmp 10) (.tmp 34), none⟩] [4, 6, 10]
def cuneiformlaw16_FieldVersions.b0 : ACode := .block 1 (.seq (.region [⟨(some 35), .load none (.tmp 6), none⟩,
    ⟨(some 36), .field 0 (.tmp 10), none⟩,
    ⟨(some 37), .load none (.tmp 36), none⟩,
    ⟨(some 38), .lit T.string 1 1 [(.str ⟨#[]⟩)] [(0, 1, (.tmp 37))], none⟩,
    ⟨(some 39), .append T.string 1 16 (.tmp 35) (.tmp 38), none⟩,
    ⟨none, .store 1 (.tmp 6) (.tmp 39), none⟩] [4, 10])
  (.seq (.region [⟨(some 40), .field 5 (.tmp 10), none⟩,
    ⟨(some 41), .load none (.tmp 40), none⟩,
    ⟨(some 42), .bin .neq (.tmp 41) (.const (.int .i64 1)), none⟩] [4, 42])
  (.cond (.tmp 42) (.seq (.region [⟨none, .store 1 (.tmp 4) (.const (.bool false)), none⟩] [])
  (.ret)) (.skip))))
def cuneiformlaw16_FieldVersions.a1 : ACode := .region [⟨(some 12), .alloc T.field_Field [(.str ⟨#[]⟩), (.int .i64 0), (.int .i64 0), (.int .i64 0), (.int .i64 0), (.int .i64 0), (.int .i64 0)], none⟩,
    ⟨none, .store 7 (.tmp 12) (.tmp 48), none⟩] [7, 12]
def cuneiformlaw16_FieldVersions.b1 : ACode := .block 3 (.region [⟨(some 49), .load none (.tmp 7), none⟩,
    ⟨(some 50), .field 0 (.tmp 12), none⟩,
    ⟨(some 51), .load none (.tmp 50), none⟩,
    ⟨(some 52), .lit T.string 1 1 [(.str ⟨#[]⟩)] [(0, 1, (.tmp 51))], none⟩,
    ⟨(some 53), .append T.string 1 16 (.tmp 49) (.tmp 52), none⟩,
    ⟨none, .store 1 (.tmp 7) (.tmp 53), none⟩] [])
def cuneiformlaw16_FieldVersions.a2 : ACode := .region [⟨(some 14), .alloc T.field_Field [(.str ⟨#[]⟩), (.int .i64 0), (.int .i64 0), (.int .i64 0), (.int .i64 0), (.int .i64 0), (.int .i64 0)], none⟩,
    ⟨none, .store 7 (.tmp 14) (.tmp 60), none⟩] [8, 14]
def cuneiformlaw16_FieldVersions.b2 : ACode := .block 5 (.region [⟨(some 61), .load none (.tmp 8), none⟩,
    ⟨(some 62), .field 0 (.tmp 14), none⟩,
    ⟨(some 63), .load none (.tmp 62), none⟩,
    ⟨(some 64), .lit T.string 1 1 [(.str ⟨#[]⟩)] [(0, 1, (.tmp 63))], none⟩,
    ⟨(some 65), .append T.string 1 16 (.tmp 61) (.tmp 64), none⟩,
    ⟨none, .store 1 (.tmp 8) (.tmp 65), none⟩] [])
def cuneiformlaw16_FieldVersions.d3 : List AOper := [⟨(some 81), .mov (.tmp 18), none⟩,
    ⟨(some 82), .un .not (.tmp 81), none⟩,
    ⟨(some 83), .mov (.tmp 82), none⟩,
    ⟨(some 84), .mov (.tmp 16), some (83, false)⟩,
    ⟨(some 85), .load none (.tmp 8), some (83, false)⟩,
    ⟨(some 86), .len .slice (.tmp 85), some (83, false)⟩,
    ⟨(some 87), .bin .geq (.tmp 84) (.tmp 86), some (83, false)⟩,
    ⟨(some 88), .pick (.tmp 83) (.const (.bool true)) (.tmp 87), none⟩,
    ⟨(some 89), .mov (.tmp 88), none⟩,
    ⟨(some 90), .load none (.tmp 8), some (89, false)⟩,
    ⟨(some 91), .mov (.tmp 16), some (89, false)⟩,
    ⟨(some 92), .idx 1 none (.tmp 90) (.tmp 91), some (89, false)⟩,
    ⟨(some 93), .load none (.tmp 92), some (89, false)⟩,
    ⟨(some 94), .load none (.tmp 7), some (89, false)⟩,
    ⟨(some 95), .mov (.tmp 16), some (89, false)⟩,
    ⟨(some 96), .idx 1 none (.tmp 94) (.tmp 95), some (89, false)⟩,
    ⟨(some 97), .load none (.tmp 96), some (89, false)⟩,
    ⟨(some 98), .bin .neq (.tmp 93) (.tmp 97), some (89, false)⟩,
    ⟨(some 99), .pick (.tmp 89) (.const (.bool true)) (.tmp 98), none⟩]
def cuneiformlaw16_FieldVersions.d3b : List (List Nat) := [[], [0], [0, 1], [0, 1, 2], [0, 1, 2], [0, 1, 2, 4], [0, 1, 2, 3, 4, 5], [0, 1, 2, 3, 4, 5, 6], [0, 1, 2, 3, 4, 5, 6, 7], [0, 1, 2, 3, 4, 5, 6, 7, 8], [0, 1, 2, 3, 4, 5, 6, 7, 8], [0, 1, 2, 3, 4, 5, 6, 7, 8, 9, 10], [0, 1, 2, 3, 4, 5, 6, 7, 8, 9, 10, 11], [0, 1, 2, 3, 4, 5, 6, 7, 8], [0, 1, 2, 3, 4, 5, 6, 7, 8], [0, 1, 2, 3, 4, 5, 6, 7, 8, 13, 14], [0, 1, 2, 3, 4, 5, 6, 7, 8, 13, 14, 15], [0, 1, 2, 3, 4, 5, 6, 7, 8, 9, 10, 11, 12, 13, 14, 15, 16], [0, 1, 2, 3, 4, 5, 6, 7, 8, 9, 10, 11, 12, 13, 14, 15, 16, 17]]
def cuneiformlaw16_FieldVersions.d4 : List AOper := [⟨(some 103), .mov (.tmp 15), none⟩,
    ⟨(some 104), .load none (.tmp 6), none⟩,
    ⟨(some 105), .len .slice (.tmp 104), none⟩,
    ⟨(some 106), .bin .geq (.tmp 103) (.tmp 105), none⟩,
    ⟨(some 107), .mov (.tmp 106), none⟩,
    ⟨(some 108), .load none (.tmp 6), some (107, false)⟩,
    ⟨(some 109), .mov (.tmp 15), some (107, false)⟩,
    ⟨(some 110), .idx 1 none (.tmp 108) (.tmp 109), some (107, false)⟩,
    ⟨(some 111), .load none (.tmp 110), some (107, false)⟩,
    ⟨(some 112), .load none (.tmp 7), some (107, false)⟩,
    ⟨(some 113), .mov (.tmp 16), some (107, false)⟩,
    ⟨(some 114), .idx 1 none (.tmp 112) (.tmp 113), some (107, false)⟩,
    ⟨(some 115), .load none (.tmp 114), some (107, false)⟩,
    ⟨(some 116), .bin .neq (.tmp 111) (.tmp 115), some (107, false)⟩,
    ⟨(some 117), .pick (.tmp 107) (.const (.bool true)) (.tmp 116), none⟩]
def cuneiformlaw16_FieldVersions.d4b : List (List Nat) := [[], [], [1], [0, 1, 2], [0, 1, 2, 3], [0, 1, 2, 3, 4], [0, 1, 2, 3, 4], [0, 1, 2, 3, 4, 5, 6], [0, 1, 2, 3, 4, 5, 6, 7], [0, 1, 2, 3, 4], [0, 1, 2, 3, 4], [0, 1, 2, 3, 4, 9, 10], [0, 1, 2, 3, 4, 9, 10, 11], [0, 1, 2, 3, 4, 5, 6, 7, 8, 9, 10, 11, 12], [0, 1, 2, 3, 4, 5, 6, 7, 8, 9, 10, 11, 12, 13]]
def cuneiformlaw16_FieldVersions.b5 : ACode := .seq (.seq (.region [⟨(some 66), .mov (.tmp 16), none⟩,
    ⟨(some 67), .load none (.tmp 7), none⟩,
    ⟨(some 68), .len .slice (.tmp 67), none⟩,
    ⟨(some 69), .bin .lss (.tmp 66) (.tmp 68), none⟩] [4, 5, 6, 7, 8, 15, 16, 69])
  (.cond (.tmp 69) (.skip) (.exit 6)))
  (.seq (.block 7 (.seq (.region [⟨(some 73), .mov (.tmp 5), none⟩,
    ⟨(some 74), .load none (.tmp 7), none⟩,
    ⟨(some 75), .mov (.tmp 16), none⟩,
    ⟨(some 76), .idx 1 none (.tmp 74) (.tmp 75), none⟩,
    ⟨(some 77), .load none (.tmp 76), none⟩,
    ⟨(some 78), .call (.const (.fn F.field_Find [] [])) [(.tmp 73), (.tmp 77)], none⟩,
    ⟨(some 72), .mov (.tmp 78), none⟩,
    ⟨(some 79), .extract (.tmp 72) 0, none⟩,
    ⟨(some 80), .extract (.tmp 72) 1, none⟩,
    ⟨(some 17), .alloc T.field_Field [(.str ⟨#[]⟩), (.int .i64 0), (.int .i64 0), (.int .i64 0), (.int .i64 0), (.int .i64 0), (.int .i64 0)], none⟩,
    ⟨none, .store 7 (.tmp 17) (.tmp 79), none⟩,
    ⟨(some 18), .mov (.tmp 80), none⟩] [4, 5, 6, 7, 8, 15, 16, 17, 18])
  (.seq (.seq (.draw cuneiformlaw16_FieldVersions.d3 cuneiformlaw16_FieldVersions.d3b [[0, 1, 2, 3, 4, 5, 6, 7, 8, 9, 10, 11, 12, 13, 14, 15, 16, 17, 18]] [] [4, 5, 6, 7, 8, 15, 16, 17, 99])
  (.cond (.tmp 99) (.seq (.region [⟨none, .store 1 (.tmp 4) (.const (.bool false)), none⟩] [4])
  (.ret)) (.skip)))
  (.seq (.region [⟨(some 100), .field 5 (.tmp 17), none⟩,
    ⟨(some 101), .load none (.tmp 100), none⟩,
    ⟨(some 102), .bin .eql (.tmp 101) (.const (.int .i64 1)), none⟩] [4, 5, 6, 7, 8, 15, 16, 102])
  (.cond (.tmp 102) (.seq (.seq (.draw cuneiformlaw16_FieldVersions.d4 cuneiformlaw16_FieldVersions.d4b [[0, 1, 2, 3, 4, 5, 6, 7, 8, 9, 10, 11, 12, 13, 14]] [] [4, 5, 6, 7, 8, 15, 16, 117])
  (.cond (.tmp 117) (.seq (.region [⟨none, .store 1 (.tmp 4) (.const (.bool false)), none⟩] [4])
  (.ret)) (.skip)))
  (.region [⟨(some 118), .mov (.tmp 15), none⟩,
    ⟨(some 119), .bin .add (.tmp 118) (.const (.int .i64 1)), none⟩,
    ⟨(some 15), .mov (.tmp 119), none⟩] [4, 5, 6, 7, 8, 15, 16])) (.skip))))))
  (.region [⟨(some 70), .mov (.tmp 16), none⟩,
    ⟨(some 71), .bin .add (.tmp 70) (.const (.int .i64 1)), none⟩,
    ⟨(some 16), .mov (.tmp 71), none⟩] [4, 5, 6, 7, 8, 15, 16]))
def cuneiformlaw16_FieldVersions.body : ACode := .seq (.region [⟨(some 4), .alloc T.bool [(.bool false)], none⟩] [0, 1, 4])
  (.seq (.region [⟨(some 19), .mov (.tmp 0), none⟩,
    ⟨(some 20), .conv .u64 (.tmp 19), none⟩,
    ⟨(some 21), .bin .rem (.tmp 20) (.const (.int .u64 5)), none⟩,
    ⟨(some 22), .conv .i64 (.tmp 21), none⟩,
    ⟨(some 23), .bin .add (.const (.int .i64 1)) (.tmp 22), none⟩,
    ⟨(some 5), .mov (.tmp 23), none⟩] [1, 4, 5])
  (.seq (.region [⟨(some 24), .mov (.tmp 1), none⟩,
    ⟨(some 25), .conv .u64 (.tmp 24), none⟩,
    ⟨(some 26), .bin .rem (.tmp 25) (.const (.int .u64 1000)), none⟩,
    ⟨(some 27), .conv .i64 (.tmp 26), none⟩,
    ⟨(some 28), .bin .add (.const (.int .i64 2)) (.tmp 27), none⟩,
    ⟨(some 1), .mov (.tmp 28), none⟩] [1, 4, 5])
  (.seq (.region [⟨(some 6), .alloc T.sl_string [.nils], none⟩,
    ⟨(some 7), .alloc T.sl_string [.nils], none⟩,
    ⟨(some 8), .alloc T.sl_string [.nils], none⟩] [1, 4, 5, 6, 7, 8])
  (.seq (.region [⟨(some 29), .mov (.tmp 5), none⟩,
    ⟨(some 30), .call (.const (.fn F.field_All [] [])) [(.tmp 29), (.const (.int .i64 1))], none⟩,
    ⟨(some 9), .mov (.tmp 30), none⟩] [1, 4, 5, 6, 7, 8, 9])
  (.seq (.seq (.region [⟨(some 31), .mov (.tmp 9), none⟩,
    ⟨(some 32), .eq false .func (.tmp 31) (.const .nilf), none⟩] [1, 4, 5, 6, 7, 8, 9, 32])
  (.cond (.tmp 32) (.seq (.region [⟨none, .store 1 (.tmp 4) (.const (.bool false)), none⟩] [4])
  (.ret)) (.skip)))
  (.seq (.seq (.region [⟨(some 33), .mov (.tmp 9), none⟩] [1, 4, 5, 6, 7, 8, 33])
  (.block 0 (.range (.tmp 33) [34] cuneiformlaw16_FieldVersions.a0 cuneiformlaw16_FieldVersions.b0)))
  (.seq (.region [⟨(some 43), .mov (.tmp 5), none⟩,
    ⟨(some 44), .call (.const (.fn F.field_All [] [])) [(.tmp 43), (.const (.int .i64 2))], none⟩,
    ⟨(some 11), .mov (.tmp 44), none⟩] [1, 4, 5, 6, 7, 8, 11])
  (.seq (.seq (.region [⟨(some 45), .mov (.tmp 11), none⟩,
    ⟨(some 46), .eq false .func (.tmp 45) (.const .nilf), none⟩] [1, 4, 5, 6, 7, 8, 11, 46])
  (.cond (.tmp 46) (.seq (.region [⟨none, .store 1 (.tmp 4) (.const (.bool false)), none⟩] [4])
  (.ret)) (.skip)))
  (.seq (.seq (.region [⟨(some 47), .mov (.tmp 11), none⟩] [1, 4, 5, 6, 7, 8, 47])
  (.block 2 (.range (.tmp 47) [48] cuneiformlaw16_FieldVersions.a1 cuneiformlaw16_FieldVersions.b1)))
  (.seq (.region [⟨(some 54), .mov (.tmp 5), none⟩,
    ⟨(some 55), .mov (.tmp 1), none⟩,
    ⟨(some 56), .call (.const (.fn F.field_All [] [])) [(.tmp 54), (.tmp 55)], none⟩,
    ⟨(some 13), .mov (.tmp 56), none⟩] [4, 5, 6, 7, 8, 13])
  (.seq (.seq (.region [⟨(some 57), .mov (.tmp 13), none⟩,
    ⟨(some 58), .eq false .func (.tmp 57) (.const .nilf), none⟩] [4, 5, 6, 7, 8, 13, 58])
  (.cond (.tmp 58) (.seq (.region [⟨none, .store 1 (.tmp 4) (.const (.bool false)), none⟩] [4])
  (.ret)) (.skip)))
  (.seq (.seq (.region [⟨(some 59), .mov (.tmp 13), none⟩] [4, 5, 6, 7, 8, 59])
  (.block 4 (.range (.tmp 59) [60] cuneiformlaw16_FieldVersions.a2 cuneiformlaw16_FieldVersions.b2)))
  (.seq (.region [⟨(some 15), .mov (.const (.int .i64 0)), none⟩] [4, 5, 6, 7, 8, 15])
  (.seq (.seq (.region [⟨(some 16), .mov (.const (.int .i64 0)), none⟩] [4, 5, 6, 7, 8, 15, 16])
  (.block 6 (.loop cuneiformlaw16_FieldVersions.b5)))
  (.seq (.region [⟨(some 120), .call (.const (.fn F.cuneiformlaw16_known [] [])) [], none⟩,
    ⟨(some 121), .mov (.tmp 120), none⟩,
    ⟨(some 122), .mov (.tmp 15), some (121, true)⟩,
    ⟨(some 123), .load none (.tmp 6), some (121, true)⟩,
    ⟨(some 124), .len .slice (.tmp 123), some (121, true)⟩,
    ⟨(some 125), .bin .eql (.tmp 122) (.tmp 124), some (121, true)⟩,
    ⟨(some 126), .pick (.tmp 121) (.tmp 125) (.const (.bool false)), none⟩,
    ⟨(some 127), .mov (.tmp 126), none⟩,
    ⟨(some 128), .load none (.tmp 8), some (127, true)⟩,
    ⟨(some 129), .len .slice (.tmp 128), some (127, true)⟩,
    ⟨(some 130), .load none (.tmp 7), some (127, true)⟩,
    ⟨(some 131), .len .slice (.tmp 130), some (127, true)⟩,
    ⟨(some 132), .bin .eql (.tmp 129) (.tmp 131), some (127, true)⟩,
    ⟨(some 133), .pick (.tmp 127) (.tmp 132) (.const (.bool false)), none⟩,
    ⟨(some 134), .mov (.tmp 133), none⟩,
    ⟨(some 135), .load none (.tmp 6), some (134, true)⟩,
    ⟨(some 136), .len .slice (.tmp 135), some (134, true)⟩,
    ⟨(some 137), .bin .geq (.tmp 136) (.const (.int .i64 2)), some (134, true)⟩,
    ⟨(some 138), .pick (.tmp 134) (.tmp 137) (.const (.bool false)), none⟩,
    ⟨none, .store 1 (.tmp 4) (.tmp 138), none⟩] [4])
  (.ret))))))))))))))))
def cuneiformlaw16_FieldVersions : AFun := ⟨139, 2, [.cell 4 none], cuneiformlaw16_FieldVersions.body⟩
def cuneiformlaw16_FieldOf.d0 : List AOper := [⟨(some 39), .mov (.tmp 7), none⟩,
    ⟨(some 40), .mov (.tmp 9), none⟩,
    ⟨(some 41), .idx 7 none (.tmp 39) (.tmp 40), none⟩,
    ⟨(some 42), .load (some 7) (.tmp 41), none⟩,
    ⟨(some 43), .load none (.tmp 8), none⟩,
    ⟨(some 44), .mov (.tmp 9), none⟩,
    ⟨(some 45), .idx 7 none (.tmp 43) (.tmp 44), none⟩,
    ⟨(some 46), .load (some 7) (.tmp 45), none⟩,
    ⟨(some 47), .eq true (.cells [.str, .int, .int, .int, .int, .int, .int]) (.tmp 42) (.tmp 46), none⟩]
def cuneiformlaw16_FieldOf.d0b : List (List Nat) := [[], [], [0, 1], [0, 1, 2], [], [], [4, 5], [4, 5, 6], [0, 1, 2, 3, 4, 5, 6, 7]]
def cuneiformlaw16_FieldOf.b1 : ACode := .seq (.seq (.region [⟨(some 33), .mov (.tmp 9), none⟩,
    ⟨(some 34), .mov (.tmp 7), none⟩,
    ⟨(some 35), .len .slice (.tmp 34), none⟩,
    ⟨(some 36), .bin .lss (.tmp 33) (.tmp 35), none⟩] [0, 2, 4, 6, 7, 8, 9, 36])
  (.cond (.tmp 36) (.skip) (.exit 0)))
  (.seq (.block 1 (.seq (.draw cuneiformlaw16_FieldOf.d0 cuneiformlaw16_FieldOf.d0b [[0, 1, 2, 3, 4, 5, 6, 7, 8]] [] [0, 2, 4, 6, 7, 8, 9, 47])
  (.cond (.tmp 47) (.seq (.region [⟨(some 6), .mov (.const (.bool false)), none⟩] [6])
  (.ret)) (.skip))))
  (.region [⟨(some 37), .mov (.tmp 9), none⟩,
    ⟨(some 38), .bin .add (.tmp 37) (.const (.int .i64 1)), none⟩,
    ⟨(some 9), .mov (.tmp 38), none⟩] [0, 2, 4, 6, 7, 8, 9]))
def cuneiformlaw16_FieldOf.d2 : List AOper := [⟨(some 55), .load none (.tmp 10), none⟩,
    ⟨(some 56), .load none (.tmp 8), none⟩,
    ⟨(some 57), .len .slice (.tmp 56), none⟩,
    ⟨(some 58), .bin .lss (.tmp 55) (.tmp 57), none⟩,
    ⟨(some 59), .mov (.tmp 58), none⟩,
    ⟨(some 60), .load none (.tmp 8), some (59, true)⟩,
    ⟨(some 61), .load none (.tmp 10), some (59, true)⟩,
    ⟨(some 62), .idx 7 none (.tmp 60) (.tmp 61), some (59, true)⟩,
    ⟨(some 63), .field 5 (.tmp 62), some (59, true)⟩,
    ⟨(some 64), .load none (.tmp 63), some (59, true)⟩,
    ⟨(some 65), .load none (.tmp 4), some (59, true)⟩,
    ⟨(some 66), .bin .gtr (.tmp 64) (.tmp 65), some (59, true)⟩,
    ⟨(some 67), .pick (.tmp 59) (.tmp 66) (.const (.bool false)), none⟩]
def cuneiformlaw16_FieldOf.d2b : List (List Nat) := [[], [], [1], [0, 1, 2], [0, 1, 2, 3], [0, 1, 2, 3, 4], [0, 1, 2, 3, 4], [0, 1, 2, 3, 4, 5, 6], [0, 1, 2, 3, 4, 5, 6, 7], [0, 1, 2, 3, 4, 5, 6, 7, 8], [0, 1, 2, 3, 4], [0, 1, 2, 3, 4, 5, 6, 7, 8, 9, 10], [0, 1, 2, 3, 4, 5, 6, 7, 8, 9, 10, 11]]
def cuneiformlaw16_FieldOf.b3 : ACode := .seq (.seq (.draw cuneiformlaw16_FieldOf.d2 cuneiformlaw16_FieldOf.d2b [[0, 1, 2, 3, 4, 5, 6, 7, 8, 9, 10, 11, 12]] [] [4, 8, 10, 11, 13, 67])
  (.cond (.tmp 67) (.skip) (.exit 4)))
  (.block 5 (.region [⟨(some 68), .load none (.tmp 10), none⟩,
    ⟨(some 69), .bin .add (.tmp 68) (.const (.int .i64 1)), none⟩,
    ⟨none, .store 1 (.tmp 10) (.tmp 69), none⟩] [4, 8, 10, 11, 13]))
def cuneiformlaw16_FieldOf.d4 : List AOper := [⟨(some 70), .load none (.tmp 11), none⟩,
    ⟨(some 71), .mov (.tmp 70), none⟩,
    ⟨(some 72), .load none (.tmp 10), some (71, true)⟩,
    ⟨(some 73), .load none (.tmp 8), some (71, true)⟩,
    ⟨(some 74), .len .slice (.tmp 73), some (71, true)⟩,
    ⟨(some 75), .bin .lss (.tmp 72) (.tmp 74), some (71, true)⟩,
    ⟨(some 76), .pick (.tmp 71) (.tmp 75) (.const (.bool false)), none⟩,
    ⟨(some 77), .mov (.tmp 76), none⟩,
    ⟨(some 78), .load (some 7) (.tmp 13), some (77, true)⟩,
    ⟨(some 79), .load none (.tmp 8), some (77, true)⟩,
    ⟨(some 80), .load none (.tmp 10), some (77, true)⟩,
    ⟨(some 81), .idx 7 none (.tmp 79) (.tmp 80), some (77, true)⟩,
    ⟨(some 82), .load (some 7) (.tmp 81), some (77, true)⟩,
    ⟨(some 83), .eq false (.cells [.str, .int, .int, .int, .int, .int, .int]) (.tmp 78) (.tmp 82), some (77, true)⟩,
    ⟨(some 84), .pick (.tmp 77) (.tmp 83) (.const (.bool false)), none⟩,
    ⟨none, .store 1 (.tmp 11) (.tmp 84), none⟩]
def cuneiformlaw16_FieldOf.d4b : List (List Nat) := [[], [0], [0, 1], [0, 1], [0, 1, 3], [0, 1, 2, 3, 4], [0, 1, 2, 3, 4, 5], [0, 1, 2, 3, 4, 5, 6], [0, 1, 2, 3, 4, 5, 6, 7], [0, 1, 2, 3, 4, 5, 6, 7], [0, 1, 2, 3, 4, 5, 6, 7], [0, 1, 2, 3, 4, 5, 6, 7, 9, 10], [0, 1, 2, 3, 4, 5, 6, 7, 9, 10, 11], [0, 1, 2, 3, 4, 5, 6, 7, 8, 9, 10, 11, 12], [0, 1, 2, 3, 4, 5, 6, 7, 8, 9, 10, 11, 12, 13], [0, 1, 2, 3, 4, 5, 6, 7, 8, 9, 10, 11, 12, 13, 14]]
def cuneiformlaw16_FieldOf.a5 : ACode := .region [⟨(some 13), .alloc T.field_Field [(.str ⟨#[]⟩), (.int .i64 0), (.int .i64 0), (.int .i64 0), (.int .i64 0), (.int .i64 0), (.int .i64 0)], none⟩,
    ⟨none, .store 7 (.tmp 13) (.tmp 54), none⟩] [4, 8, 10, 11, 13]
def cuneiformlaw16_FieldOf.b5 : ACode := .block 3 (.seq (.block 4 (.loop cuneiformlaw16_FieldOf.b3))
  (.seq (.draw cuneiformlaw16_FieldOf.d4 cuneiformlaw16_FieldOf.d4b [[0, 1, 2, 3, 4, 5, 6, 7, 8, 9, 10, 11, 12, 13, 14, 15]] [] [10])
  (.region [⟨(some 85), .load none (.tmp 10), none⟩,
    ⟨(some 86), .bin .add (.tmp 85) (.const (.int .i64 1)), none⟩,
    ⟨none, .store 1 (.tmp 10) (.tmp 86), none⟩] [])))
def cuneiformlaw16_FieldOf.d6 : List AOper := [⟨(some 91), .load none (.tmp 11), none⟩,
    ⟨(some 92), .mov (.tmp 91), none⟩,
    ⟨(some 93), .load none (.tmp 8), some (92, true)⟩,
    ⟨(some 94), .load none (.tmp 10), some (92, true)⟩,
    ⟨(some 95), .idx 7 none (.tmp 93) (.tmp 94), some (92, true)⟩,
    ⟨(some 96), .field 5 (.tmp 95), some (92, true)⟩,
    ⟨(some 97), .load none (.tmp 96), some (92, true)⟩,
    ⟨(some 98), .load none (.tmp 4), some (92, true)⟩,
    ⟨(some 99), .bin .gtr (.tmp 97) (.tmp 98), some (92, true)⟩,
    ⟨(some 100), .pick (.tmp 92) (.tmp 99) (.const (.bool false)), none⟩,
    ⟨none, .store 1 (.tmp 11) (.tmp 100), none⟩]
def cuneiformlaw16_FieldOf.d6b : List (List Nat) := [[], [0], [0, 1], [0, 1], [0, 1, 2, 3], [0, 1, 2, 3, 4], [0, 1, 2, 3, 4, 5], [0, 1], [0, 1, 2, 3, 4, 5, 6, 7], [0, 1, 2, 3, 4, 5, 6, 7, 8], [0, 1, 2, 3, 4, 5, 6, 7, 8, 9]]
def cuneiformlaw16_FieldOf.b7 : ACode := .seq (.seq (.region [⟨(some 87), .load none (.tmp 10), none⟩,
    ⟨(some 88), .load none (.tmp 8), none⟩,
    ⟨(some 89), .len .slice (.tmp 88), none⟩,
    ⟨(some 90), .bin .lss (.tmp 87) (.tmp 89), none⟩] [0, 2, 4, 8, 10, 11, 90])
  (.cond (.tmp 90) (.skip) (.exit 6)))
  (.block 7 (.seq (.draw cuneiformlaw16_FieldOf.d6 cuneiformlaw16_FieldOf.d6b [[0, 1, 2, 3, 4, 5, 6, 7, 8, 9, 10]] [] [0, 2, 4, 8, 10, 11])
  (.region [⟨(some 101), .load none (.tmp 10), none⟩,
    ⟨(some 102), .bin .add (.tmp 101) (.const (.int .i64 1)), none⟩,
    ⟨none, .store 1 (.tmp 10) (.tmp 102), none⟩] [0, 2, 4, 8, 10, 11])))
def cuneiformlaw16_FieldOf.d8 : List AOper := [⟨(some 112), .call (.const (.fn F.cuneiformlaw16_known [] [])) [], none⟩,
    ⟨(some 113), .mov (.tmp 112), none⟩,
    ⟨(some 114), .load none (.tmp 11), some (113, true)⟩,
    ⟨(some 115), .pick (.tmp 113) (.tmp 114) (.const (.bool false)), none⟩,
    ⟨(some 116), .mov (.tmp 115), none⟩,
    ⟨(some 117), .mov (.tmp 15), some (116, true)⟩,
    ⟨(some 118), .mov (.tmp 16), some (116, true)⟩,
    ⟨(some 119), .bin .geq (.tmp 118) (.const (.int .i64 0)), some (116, true)⟩,
    ⟨(some 120), .eq false .bool (.tmp 117) (.tmp 119), some (116, true)⟩,
    ⟨(some 121), .pick (.tmp 116) (.tmp 120) (.const (.bool false)), none⟩,
    ⟨(some 122), .mov (.tmp 121), none⟩,
    ⟨(some 123), .mov (.tmp 15), some (122, true)⟩,
    ⟨(some 124), .un .not (.tmp 123), some (122, true)⟩,
    ⟨(some 125), .mov (.tmp 124), some (122, true)⟩,
    ⟨(some 126), .load (some 7) (.tmp 14), some (125, false)⟩,
    ⟨(some 127), .load none (.tmp 8), some (125, false)⟩,
    ⟨(some 128), .mov (.tmp 16), some (125, false)⟩,
    ⟨(some 129), .idx 7 none (.tmp 127) (.tmp 128), some (125, false)⟩,
    ⟨(some 130), .load (some 7) (.tmp 129), some (125, false)⟩,
    ⟨(some 131), .eq false (.cells [.str, .int, .int, .int, .int, .int, .int]) (.tmp 126) (.tmp 130), some (125, false)⟩,
    ⟨(some 132), .pick (.tmp 125) (.const (.bool true)) (.tmp 131), some (122, true)⟩,
    ⟨(some 133), .pick (.tmp 122) (.tmp 132) (.const (.bool false)), none⟩,
    ⟨(some 134), .mov (.tmp 133), none⟩,
    ⟨(some 135), .mov (.tmp 15), some (134, true)⟩,
    ⟨(some 136), .mov (.tmp 135), some (134, true)⟩,
    ⟨(some 137), .load (some 7) (.tmp 14), some (136, false)⟩,
    ⟨(some 138), .build [(.str ⟨#[]⟩), (.int .i64 0), (.int .i64 0), (.int .i64 0), (.int .i64 0), (.int .i64 0), (.int .i64 0)] [], some (136, false)⟩,
    ⟨(some 139), .eq false (.cells [.str, .int, .int, .int, .int, .int, .int]) (.tmp 137) (.tmp 138), some (136, false)⟩,
    ⟨(some 140), .pick (.tmp 136) (.const (.bool true)) (.tmp 139), some (134, true)⟩,
    ⟨(some 141), .pick (.tmp 134) (.tmp 140) (.const (.bool false)), none⟩,
    ⟨(some 6), .mov (.tmp 141), none⟩]
def cuneiformlaw16_FieldOf.d8b : List (List Nat) := [[], [0], [0, 1], [0, 1, 2], [0, 1, 2, 3], [0, 1, 2, 3, 4], [0, 1, 2, 3, 4], [0, 1, 2, 3, 4, 6], [0, 1, 2, 3, 4, 5, 6, 7], [0, 1, 2, 3, 4, 5, 6, 7, 8], [0, 1, 2, 3, 4, 5, 6, 7, 8, 9], [0, 1, 2, 3, 4, 5, 6, 7, 8, 9, 10], [0, 1, 2, 3, 4, 5, 6, 7, 8, 9, 10, 11], [0, 1, 2, 3, 4, 5, 6, 7, 8, 9, 10, 11, 12], [0, 1, 2, 3, 4, 5, 6, 7, 8, 9, 10, 11, 12, 13], [0, 1, 2, 3, 4, 5, 6, 7, 8, 9, 10, 11, 12, 13], [0, 1, 2, 3, 4, 5, 6, 7, 8, 9, 10, 11, 12, 13], [0, 1, 2, 3, 4, 5, 6, 7, 8, 9, 10, 11, 12, 13, 15, 16], [0, 1, 2, 3, 4, 5, 6, 7, 8, 9, 10, 11, 12, 13, 15, 16, 17], [0, 1, 2, 3, 4, 5, 6, 7, 8, 9, 10, 11, 12, 13, 14, 15, 16, 17, 18], [0, 1, 2, 3, 4, 5, 6, 7, 8, 9, 10, 11, 12, 13, 14, 15, 16, 17, 18, 19], [0, 1, 2, 3, 4, 5, 6, 7, 8, 9, 10, 11, 12, 13, 14, 15, 16, 17, 18, 19, 20], [0, 1, 2, 3, 4, 5, 6, 7, 8, 9, 10, 11, 12, 13, 14, 15, 16, 17, 18, 19, 20, 21], [0, 1, 2, 3, 4, 5, 6, 7, 8, 9, 10, 11, 12, 13, 14, 15, 16, 17, 18, 19, 20, 21, 22], [0, 1, 2, 3, 4, 5, 6, 7, 8, 9, 10, 11, 12, 13, 14, 15, 16, 17, 18, 19, 20, 21, 22, 23], [0, 1, 2, 3, 4, 5, 6, 7, 8, 9, 10, 11, 12, 13, 14, 15, 16, 17, 18, 19, 20, 21, 22, 23, 24], [0, 1, 2, 3, 4, 5, 6, 7, 8, 9, 10, 11, 12, 13, 14, 15, 16, 17, 18, 19, 20, 21, 22, 23, 24], [0, 1, 2, 3, 4, 5, 6, 7, 8, 9, 10, 11, 12, 13, 14, 15, 16, 17, 18, 19, 20, 21, 22, 23, 24, 25, 26], [0, 1, 2, 3, 4, 5, 6, 7, 8, 9, 10, 11, 12, 13, 14, 15, 16, 17, 18, 19, 20, 21, 22, 23, 24, 25, 26, 27], [0, 1, 2, 3, 4, 5, 6, 7, 8, 9, 10, 11, 12, 13, 14, 15, 16, 17, 18, 19, 20, 21, 22, 23, 24, 25, 26, 27, 28], [0, 1, 2, 3, 4, 5, 6, 7, 8, 9, 10, 11, 12, 13, 14, 15, 16, 17, 18, 19, 20, 21, 22, 23, 24, 25, 26, 27, 28, 29]]
def cuneiformlaw16_FieldOf.body : ACode := .seq (.region [⟨(some 4), .box T.int (.tmp 1), none⟩,
    ⟨(some 6), .mov (.const (.bool false)), none⟩] [0, 2, 4, 6])
  (.seq (.region [⟨(some 17), .mov (.tmp 0), none⟩,
    ⟨(some 18), .call (.const (.fn F.field_Of [] [])) [(.tmp 17)], none⟩,
    ⟨(some 19), .mov (.tmp 0), none⟩,
    ⟨(some 20), .call (.const (.fn F.cuneiformref16_All [] [])) [(.tmp 19)], none⟩,
    ⟨(some 8), .alloc T.sl_cuneiformref16_F [.nils], none⟩,
    ⟨(some 7), .mov (.tmp 18), none⟩,
    ⟨none, .store 1 (.tmp 8) (.tmp 20), none⟩] [0, 2, 4, 6, 7, 8])
  (.seq (.seq (.region [⟨(some 21), .mov (.tmp 7), none⟩,
    ⟨(some 22), .len .slice (.tmp 21), none⟩,
    ⟨(some 23), .load none (.tmp 8), none⟩,
    ⟨(some 24), .len .slice (.tmp 23), none⟩,
    ⟨(some 25), .bin .neq (.tmp 22) (.tmp 24), none⟩,
    ⟨(some 26), .mov (.tmp 25), none⟩,
    ⟨(some 27), .mov (.tmp 0), some (26, false)⟩,
    ⟨(some 28), .call (.const (.fn F.field_Word [] [])) [(.tmp 27)], some (26, false)⟩,
    ⟨(some 29), .mov (.tmp 0), some (26, false)⟩,
    ⟨(some 30), .call (.const (.fn F.cuneiformref16_Word [] [])) [(.tmp 29)], some (26, false)⟩,
    ⟨(some 31), .bin .neq (.tmp 28) (.tmp 30), some (26, false)⟩,
    ⟨(some 32), .pick (.tmp 26) (.const (.bool true)) (.tmp 31), none⟩] [0, 2, 4, 6, 7, 8, 32])
  (.cond (.tmp 32) (.seq (.region [⟨(some 6), .mov (.const (.bool false)), none⟩] [6])
  (.ret)) (.skip)))
  (.seq (.seq (.region [⟨(some 9), .mov (.const (.int .i64 0)), none⟩] [0, 2, 4, 6, 7, 8, 9])
  (.block 0 (.loop cuneiformlaw16_FieldOf.b1)))
  (.seq (.region [⟨(some 10), .alloc T.int [(.int .i64 0)], none⟩,
    ⟨(some 11), .alloc T.bool [(.bool false)], none⟩,
    ⟨none, .store 1 (.tmp 10) (.const (.int .i64 0)), none⟩,
    ⟨none, .store 1 (.tmp 11) (.const (.bool true)), none⟩] [0, 2, 4, 6, 8, 10, 11])
  (.seq (.region [⟨(some 48), .mov (.tmp 0), none⟩,
    ⟨(some 49), .load none (.tmp 4), none⟩,
    ⟨(some 50), .call (.const (.fn F.field_All [] [])) [(.tmp 48), (.tmp 49)], none⟩,
    ⟨(some 12), .mov (.tmp 50), none⟩] [0, 2, 4, 6, 8, 10, 11, 12])
  (.seq (.seq (.region [⟨(some 51), .mov (.tmp 12), none⟩,
    ⟨(some 52), .eq false .func (.tmp 51) (.const .nilf), none⟩] [0, 2, 4, 6, 8, 10, 11, 12, 52])
  (.cond (.tmp 52) (.seq (.region [⟨(some 6), .mov (.const (.bool false)), none⟩] [6])
  (.ret)) (.skip)))
  (.seq (.seq (.region [⟨(some 53), .mov (.tmp 12), none⟩] [0, 2, 4, 6, 8, 10, 11, 53])
  (.block 2 (.range (.tmp 53) [54] cuneiformlaw16_FieldOf.a5 cuneiformlaw16_FieldOf.b5)))
  (.seq (.block 6 (.loop cuneiformlaw16_FieldOf.b7))
  (.seq (.region [⟨(some 104), .mov (.tmp 0), none⟩,
    ⟨(some 105), .mov (.tmp 2), none⟩,
    ⟨(some 106), .call (.const (.fn F.field_Find [] [])) [(.tmp 104), (.tmp 105)], none⟩,
    ⟨(some 103), .mov (.tmp 106), none⟩,
    ⟨(some 107), .extract (.tmp 103) 0, none⟩,
    ⟨(some 108), .extract (.tmp 103) 1, none⟩,
    ⟨(some 14), .alloc T.field_Field [(.str ⟨#[]⟩), (.int .i64 0), (.int .i64 0), (.int .i64 0), (.int .i64 0), (.int .i64 0), (.int .i64 0)], none⟩,
    ⟨none, .store 7 (.tmp 14) (.tmp 107), none⟩,
    ⟨(some 15), .mov (.tmp 108), none⟩] [2, 8, 11, 14, 15])
  (.seq (.region [⟨(some 109), .load none (.tmp 8), none⟩,
    ⟨(some 110), .mov (.tmp 2), none⟩,
    ⟨(some 111), .call (.const (.fn F.cuneiformref16_Find [] [])) [(.tmp 109), (.tmp 110)], none⟩,
    ⟨(some 16), .mov (.tmp 111), none⟩] [8, 11, 14, 15, 16])
  (.seq (.draw cuneiformlaw16_FieldOf.d8 cuneiformlaw16_FieldOf.d8b [[0, 1, 2, 3, 4, 5, 6, 7, 8, 9, 10, 11, 12, 13, 14, 15, 16, 17, 18, 19, 20, 21, 22, 23, 24, 25, 26, 27, 28, 29, 30]] [] [6])
  (.ret))))))))))))
def cuneiformlaw16_FieldOf : AFun := ⟨142, 3, [.tmp 6], cuneiformlaw16_FieldOf.body⟩
def cuneiformlaw16_FieldKinds.a0 : ACode := .seq (.region [⟨(some 7), .mov (.tmp 17), none⟩] [4, 5, 7, 18])
  (.region [⟨(some 8), .mov (.tmp 18), none⟩] [4, 5, 7, 8])
def cuneiformlaw16_FieldKinds.b0 : ACode := .block 1 (.seq (.region [⟨(some 19), .load none (.tmp 5), none⟩,
    ⟨(some 20), .bin .add (.tmp 19) (.const (.int .i64 1)), none⟩,
    ⟨none, .store 1 (.tmp 5) (.tmp 20), none⟩] [4, 5, 7, 8])
  (.seq (.region [⟨(some 21), .mov (.tmp 7), none⟩,
    ⟨(some 22), .load none (.tmp 5), none⟩,
    ⟨(some 23), .bin .neq (.tmp 21) (.tmp 22), none⟩,
    ⟨(some 24), .mov (.tmp 23), none⟩,
    ⟨(some 25), .mov (.tmp 8), some (24, false)⟩,
    ⟨(some 26), .load none (.tmp 5), some (24, false)⟩,
    ⟨(some 27), .call (.const (.fn F.cuneiformref16_Word [] [])) [(.tmp 26)], some (24, false)⟩,
    ⟨(some 28), .bin .neq (.tmp 25) (.tmp 27), some (24, false)⟩,
    ⟨(some 29), .pick (.tmp 24) (.const (.bool true)) (.tmp 28), none⟩,
    ⟨(some 30), .mov (.tmp 29), none⟩,
    ⟨(some 31), .mov (.tmp 8), some (30, false)⟩,
    ⟨(some 32), .call (.const (.fn F.field_Kind [] [])) [(.tmp 31)], some (30, false)⟩,
    ⟨(some 33), .mov (.tmp 7), some (30, false)⟩,
    ⟨(some 34), .bin .neq (.tmp 32) (.tmp 33), some (30, false)⟩,
    ⟨(some 35), .pick (.tmp 30) (.const (.bool true)) (.tmp 34), none⟩] [4, 35])
  (.cond (.tmp 35) (.seq (.region [⟨none, .store 1 (.tmp 4) (.const (.bool false)), none⟩] [])
  (.ret)) (.skip))))
def cuneiformlaw16_FieldKinds.a1 : ACode := .skip
def cuneiformlaw16_FieldKinds.b1 : ACode := .block 3 (.seq (.region [⟨(some 42), .load none (.tmp 9), none⟩,
    ⟨(some 43), .bin .add (.tmp 42) (.const (.int .i64 1)), none⟩,
    ⟨none, .store 1 (.tmp 9) (.tmp 43), none⟩] [3, 9])
  (.seq (.region [⟨(some 44), .load none (.tmp 9), none⟩,
    ⟨(some 45), .bin .sub (.tmp 44) (.const (.int .i64 1)), none⟩,
    ⟨(some 46), .load none (.tmp 3), none⟩,
    ⟨(some 47), .bin .eql (.tmp 45) (.tmp 46), none⟩] [47])
  (.cond (.tmp 47) (.exit 2) (.skip))))
def cuneiformlaw16_FieldKinds.body : ACode := .seq (.region [⟨(some 3), .box T.int (.tmp 1), none⟩,
    ⟨(some 4), .alloc T.bool [(.bool false)], none⟩] [0, 3, 4])
  (.seq (.region [⟨(some 5), .alloc T.int [(.int .i64 0)], none⟩,
    ⟨none, .store 1 (.tmp 5) (.const (.int .i64 0)), none⟩] [0, 3, 4, 5])
  (.seq (.region [⟨(some 13), .call (.const (.fn F.field_Kinds [] [])) [], none⟩,
    ⟨(some 6), .mov (.tmp 13), none⟩] [0, 3, 4, 5, 6])
  (.seq (.seq (.region [⟨(some 14), .mov (.tmp 6), none⟩,
    ⟨(some 15), .eq false .func (.tmp 14) (.const .nilf), none⟩] [0, 3, 4, 5, 6, 15])
  (.cond (.tmp 15) (.seq (.region [⟨none, .store 1 (.tmp 4) (.const (.bool false)), none⟩] [4])
  (.ret)) (.skip)))
  (.seq (.seq (.region [⟨(some 16), .mov (.tmp 6), none⟩] [0, 3, 4, 5, 16])
  (.block 0 (.range (.tmp 16) [17, 18] cuneiformlaw16_FieldKinds.a0 cuneiformlaw16_FieldKinds.b0)))
  (.seq (.region [⟨(some 9), .alloc T.int [(.int .i64 0)], none⟩,
    ⟨none, .store 1 (.tmp 9) (.const (.int .i64 0)), none⟩] [0, 3, 4, 5, 9])
  (.seq (.region [⟨(some 36), .call (.const (.fn F.field_Kinds [] [])) [], none⟩,
    ⟨(some 10), .mov (.tmp 36), none⟩] [0, 3, 4, 5, 9, 10])
  (.seq (.seq (.region [⟨(some 37), .mov (.tmp 10), none⟩,
    ⟨(some 38), .eq false .func (.tmp 37) (.const .nilf), none⟩] [0, 3, 4, 5, 9, 10, 38])
  (.cond (.tmp 38) (.seq (.region [⟨none, .store 1 (.tmp 4) (.const (.bool false)), none⟩] [4])
  (.ret)) (.skip)))
  (.seq (.seq (.region [⟨(some 39), .mov (.tmp 10), none⟩] [0, 3, 4, 5, 9, 39])
  (.block 2 (.range (.tmp 39) [40, 41] cuneiformlaw16_FieldKinds.a1 cuneiformlaw16_FieldKinds.b1)))
  (.seq (.region [⟨(some 11), .mov (.const (.int .i64 5)), none⟩] [0, 3, 4, 5, 9, 11])
  (.seq (.seq (.region [⟨(some 48), .load none (.tmp 3), none⟩,
    ⟨(some 49), .bin .geq (.tmp 48) (.const (.int .i64 0)), none⟩,
    ⟨(some 50), .mov (.tmp 49), none⟩,
    ⟨(some 51), .load none (.tmp 3), some (50, true)⟩,
    ⟨(some 52), .bin .lss (.tmp 51) (.const (.int .i64 5)), some (50, true)⟩,
    ⟨(some 53), .pick (.tmp 50) (.tmp 52) (.const (.bool false)), none⟩] [0, 3, 4, 5, 9, 11, 53])
  (.cond (.tmp 53) (.region [⟨(some 54), .load none (.tmp 3), none⟩,
    ⟨(some 55), .bin .add (.tmp 54) (.const (.int .i64 1)), none⟩,
    ⟨(some 11), .mov (.tmp 55), none⟩] [0, 4, 5, 9, 11]) (.skip)))
  (.seq (.region [⟨(some 56), .mov (.tmp 0), none⟩,
    ⟨(some 57), .call (.const (.fn F.field_Kind [] [])) [(.tmp 56)], none⟩,
    ⟨(some 12), .mov (.tmp 57), none⟩] [0, 4, 5, 9, 11, 12])
  (.seq (.region [⟨(some 58), .call (.const (.fn F.cuneiformlaw16_known [] [])) [], none⟩,
    ⟨(some 59), .mov (.tmp 58), none⟩,
    ⟨(some 60), .load none (.tmp 5), some (59, true)⟩,
    ⟨(some 61), .bin .eql (.tmp 60) (.const (.int .i64 5)), some (59, true)⟩,
    ⟨(some 62), .pick (.tmp 59) (.tmp 61) (.const (.bool false)), none⟩,
    ⟨(some 63), .mov (.tmp 62), none⟩,
    ⟨(some 64), .load none (.tmp 9), some (63, true)⟩,
    ⟨(some 65), .mov (.tmp 11), some (63, true)⟩,
    ⟨(some 66), .bin .eql (.tmp 64) (.tmp 65), some (63, true)⟩,
    ⟨(some 67), .pick (.tmp 63) (.tmp 66) (.const (.bool false)), none⟩,
    ⟨(some 68), .mov (.tmp 67), none⟩,
    ⟨(some 69), .mov (.tmp 12), some (68, true)⟩,
    ⟨(some 70), .bin .eql (.tmp 69) (.const (.int .i64 0)), some (68, true)⟩,
    ⟨(some 71), .mov (.tmp 70), some (68, true)⟩,
    ⟨(some 72), .mov (.tmp 12), some (71, false)⟩,
    ⟨(some 73), .call (.const (.fn F.cuneiformref16_Word [] [])) [(.tmp 72)], some (71, false)⟩,
    ⟨(some 74), .mov (.tmp 0), some (71, false)⟩,
    ⟨(some 75), .bin .eql (.tmp 73) (.tmp 74), some (71, false)⟩,
    ⟨(some 76), .pick (.tmp 71) (.const (.bool true)) (.tmp 75), some (68, true)⟩,
    ⟨(some 77), .pick (.tmp 68) (.tmp 76) (.const (.bool false)), none⟩,
    ⟨(some 78), .mov (.tmp 77), none⟩,
    ⟨(some 79), .mov (.tmp 12), some (78, true)⟩,
    ⟨(some 80), .bin .neq (.tmp 79) (.const (.int .i64 0)), some (78, true)⟩,
    ⟨(some 81), .mov (.tmp 80), some (78, true)⟩,
    ⟨(some 82), .mov (.tmp 0), some (81, false)⟩,
    ⟨(some 83), .bin .neq (.tmp 82) (.const (.str ⟨#[109, 111, 118, 101]⟩)), some (81, false)⟩,
    ⟨(some 84), .mov (.tmp 83), some (81, false)⟩,
    ⟨(some 85), .mov (.tmp 0), some (84, true)⟩,
    ⟨(some 86), .bin .neq (.tmp 85) (.const (.str ⟨#[104, 111, 108, 100]⟩)), some (84, true)⟩,
    ⟨(some 87), .pick (.tmp 84) (.tmp 86) (.const (.bool false)), some (81, false)⟩,
    ⟨(some 88), .mov (.tmp 87), some (81, false)⟩,
    ⟨(some 89), .mov (.tmp 0), some (88, true)⟩,
    ⟨(some 90), .bin .neq (.tmp 89) (.const (.str ⟨#[103, 114, 97, 110, 116]⟩)), some (88, true)⟩,
    ⟨(some 91), .pick (.tmp 88) (.tmp 90) (.const (.bool false)), some (81, false)⟩,
    ⟨(some 92), .mov (.tmp 91), some (81, false)⟩,
    ⟨(some 93), .mov (.tmp 0), some (92, true)⟩,
    ⟨(some 94), .bin .neq (.tmp 93) (.const (.str ⟨#[112, 111, 115, 101]⟩)), some (92, true)⟩,
    ⟨(some 95), .pick (.tmp 92) (.tmp 94) (.const (.bool false)), some (81, false)⟩,
    ⟨(some 96), .mov (.tmp 95), some (81, false)⟩,
    ⟨(some 97), .mov (.tmp 0), some (96, true)⟩,
    ⟨(some 98), .bin .neq (.tmp 97) (.const (.str ⟨#[102, 97, 117, 108, 116]⟩)), some (96, true)⟩,
    ⟨(some 99), .pick (.tmp 96) (.tmp 98) (.const (.bool false)), some (81, false)⟩,
    ⟨(some 100), .pick (.tmp 81) (.const (.bool true)) (.tmp 99), some (78, true)⟩,
    ⟨(some 101), .pick (.tmp 78) (.tmp 100) (.const (.bool false)), none⟩,
    ⟨none, .store 1 (.tmp 4) (.tmp 101), none⟩] [4])
  (.ret)))))))))))))
def cuneiformlaw16_FieldKinds : AFun := ⟨102, 2, [.cell 4 none], cuneiformlaw16_FieldKinds.body⟩
def field_Of.body : ACode := .seq (.region [⟨(some 2), .mov (.const .nils), none⟩] [0])
  (.seq (.seq (.region [⟨(some 3), .mov (.tmp 0), none⟩] [3])
  (.block 0 (.seq (.region [⟨(some 5), .bin .eql (.tmp 3) (.const (.int .i64 1)), none⟩,
    ⟨(some 4), .mov (.tmp 5), none⟩] [3, 4])
  (.cond (.tmp 4) (.seq (.region [⟨(some 6), .call (.const (.fn F.field_robot [] [])) [], none⟩,
    ⟨(some 7), .build [(.str ⟨#[]⟩), (.int .i64 0), (.int .i64 0), (.int .i64 0), (.int .i64 0), (.int .i64 0), (.int .i64 0)] [(0, 1, (.const (.str ⟨#[115, 112, 101, 101, 100]⟩))), (1, 1, (.const (.int .i64 1))), (2, 1, (.const (.int .i64 1))), (3, 1, (.const (.int .i64 1))), (4, 1, (.const (.int .i64 5000))), (5, 1, (.const (.int .i64 1))), (6, 1, (.const (.int .i64 0)))], none⟩,
    ⟨(some 8), .build [(.str ⟨#[]⟩), (.int .i64 0), (.int .i64 0), (.int .i64 0), (.int .i64 0), (.int .i64 0), (.int .i64 0)] [(0, 1, (.const (.str ⟨#[97, 99, 99, 101, 108]⟩))), (1, 1, (.const (.int .i64 1))), (2, 1, (.const (.int .i64 2))), (3, 1, (.const (.int .i64 1))), (4, 1, (.const (.int .i64 10000))), (5, 1, (.const (.int .i64 2))), (6, 1, (.const (.int .i64 500)))], none⟩,
    ⟨(some 9), .build [(.str ⟨#[]⟩), (.int .i64 0), (.int .i64 0), (.int .i64 0), (.int .i64 0), (.int .i64 0), (.int .i64 0)] [(0, 1, (.const (.str ⟨#[112, 97, 116, 104]⟩))), (1, 1, (.const (.int .i64 3))), (2, 1, (.const (.int .i64 (-1)))), (3, 1, (.const (.int .i64 1))), (4, 1, (.const (.int .i64 16))), (5, 1, (.const (.int .i64 1))), (6, 1, (.const (.int .i64 0)))], none⟩,
    ⟨(some 10), .build [(.str ⟨#[]⟩), (.int .i64 0), (.int .i64 0), (.int .i64 0), (.int .i64 0), (.int .i64 0), (.int .i64 0)] [(0, 1, (.const (.str ⟨#[116, 97, 103]⟩))), (1, 1, (.const (.int .i64 6))), (2, 1, (.const (.int .i64 (-1)))), (3, 1, (.const (.int .i64 0))), (4, 1, (.const (.int .i64 16))), (5, 1, (.const (.int .i64 2))), (6, 1, (.const (.int .i64 0)))], none⟩,
    ⟨(some 11), .lit T.field_Field 7 5 [(.str ⟨#[]⟩), (.int .i64 0), (.int .i64 0), (.int .i64 0), (.int .i64 0), (.int .i64 0), (.int .i64 0), (.str ⟨#[]⟩), (.int .i64 0), (.int .i64 0), (.int .i64 0), (.int .i64 0), (.int .i64 0), (.int .i64 0), (.str ⟨#[]⟩), (.int .i64 0), (.int .i64 0), (.int .i64 0), (.int .i64 0), (.int .i64 0), (.int .i64 0), (.str ⟨#[]⟩), (.int .i64 0), (.int .i64 0), (.int .i64 0), (.int .i64 0), (.int .i64 0), (.int .i64 0), (.str ⟨#[]⟩), (.int .i64 0), (.int .i64 0), (.int .i64 0), (.int .i64 0), (.int .i64 0), (.int .i64 0)] [(0, 7, (.tmp 6)), (7, 7, (.tmp 7)), (14, 7, (.tmp 8)), (21, 7, (.tmp 9)), (28, 7, (.tmp 10))], none⟩,
    ⟨(some 2), .mov (.tmp 11), none⟩] [2])
  (.ret)) (.seq (.region [⟨(some 13), .bin .eql (.tmp 3) (.const (.int .i64 2)), none⟩,
    ⟨(some 12), .mov (.tmp 13), none⟩] [3, 12])
  (.cond (.tmp 12) (.seq (.region [⟨(some 14), .call (.const (.fn F.field_robot [] [])) [], none⟩,
    ⟨(some 15), .build [(.str ⟨#[]⟩), (.int .i64 0), (.int .i64 0), (.int .i64 0), (.int .i64 0), (.int .i64 0), (.int .i64 0)] [(0, 1, (.const (.str ⟨#[114, 101, 97, 115, 111, 110]⟩))), (1, 1, (.const (.int .i64 1))), (2, 1, (.const (.int .i64 1))), (3, 1, (.const (.int .i64 0))), (4, 1, (.const (.int .i64 15))), (5, 1, (.const (.int .i64 1))), (6, 1, (.const (.int .i64 0)))], none⟩,
    ⟨(some 16), .build [(.str ⟨#[]⟩), (.int .i64 0), (.int .i64 0), (.int .i64 0), (.int .i64 0), (.int .i64 0), (.int .i64 0)] [(0, 1, (.const (.str ⟨#[122, 111, 110, 101]⟩))), (1, 1, (.const (.int .i64 1))), (2, 1, (.const (.int .i64 2))), (3, 1, (.const (.int .i64 0))), (4, 1, (.const (.int .i64 4095))), (5, 1, (.const (.int .i64 2))), (6, 1, (.const (.int .i64 0)))], none⟩,
    ⟨(some 17), .lit T.field_Field 7 3 [(.str ⟨#[]⟩), (.int .i64 0), (.int .i64 0), (.int .i64 0), (.int .i64 0), (.int .i64 0), (.int .i64 0), (.str ⟨#[]⟩), (.int .i64 0), (.int .i64 0), (.int .i64 0), (.int .i64 0), (.int .i64 0), (.int .i64 0), (.str ⟨#[]⟩), (.int .i64 0), (.int .i64 0), (.int .i64 0), (.int .i64 0), (.int .i64 0), (.int .i64 0)] [(0, 7, (.tmp 14)), (7, 7, (.tmp 15)), (14, 7, (.tmp 16))], none⟩,
    ⟨(some 2), .mov (.tmp 17), none⟩] [2])
  (.ret)) (.seq (.region [⟨(some 19), .bin .eql (.tmp 3) (.const (.int .i64 3)), none⟩,
    ⟨(some 18), .mov (.tmp 19), none⟩] [3, 18])
  (.cond (.tmp 18) (.seq (.region [⟨(some 20), .call (.const (.fn F.field_robot [] [])) [], none⟩,
    ⟨(some 21), .build [(.str ⟨#[]⟩), (.int .i64 0), (.int .i64 0), (.int .i64 0), (.int .i64 0), (.int .i64 0), (.int .i64 0)] [(0, 1, (.const (.str ⟨#[122, 111, 110, 101]⟩))), (1, 1, (.const (.int .i64 1))), (2, 1, (.const (.int .i64 1))), (3, 1, (.const (.int .i64 0))), (4, 1, (.const (.int .i64 4095))), (5, 1, (.const (.int .i64 1))), (6, 1, (.const (.int .i64 0)))], none⟩,
    ⟨(some 22), .build [(.str ⟨#[]⟩), (.int .i64 0), (.int .i64 0), (.int .i64 0), (.int .i64 0), (.int .i64 0), (.int .i64 0)] [(0, 1, (.const (.str ⟨#[108, 101, 97, 115, 101]⟩))), (1, 1, (.const (.int .i64 1))), (2, 1, (.const (.int .i64 2))), (3, 1, (.const (.int .i64 1))), (4, 1, (.const (.int .i64 255))), (5, 1, (.const (.int .i64 2))), (6, 1, (.const (.int .i64 1)))], none⟩,
    ⟨(some 23), .build [(.str ⟨#[]⟩), (.int .i64 0), (.int .i64 0), (.int .i64 0), (.int .i64 0), (.int .i64 0), (.int .i64 0)] [(0, 1, (.const (.str ⟨#[99, 101, 108, 108, 115]⟩))), (1, 1, (.const (.int .i64 4))), (2, 1, (.const (.int .i64 (-1)))), (3, 1, (.const (.int .i64 1))), (4, 1, (.const (.int .i64 32))), (5, 1, (.const (.int .i64 1))), (6, 1, (.const (.int .i64 0)))], none⟩,
    ⟨(some 24), .lit T.field_Field 7 4 [(.str ⟨#[]⟩), (.int .i64 0), (.int .i64 0), (.int .i64 0), (.int .i64 0), (.int .i64 0), (.int .i64 0), (.str ⟨#[]⟩), (.int .i64 0), (.int .i64 0), (.int .i64 0), (.int .i64 0), (.int .i64 0), (.int .i64 0), (.str ⟨#[]⟩), (.int .i64 0), (.int .i64 0), (.int .i64 0), (.int .i64 0), (.int .i64 0), (.int .i64 0), (.str ⟨#[]⟩), (.int .i64 0), (.int .i64 0), (.int .i64 0), (.int .i64 0), (.int .i64 0), (.int .i64 0)] [(0, 7, (.tmp 20)), (7, 7, (.tmp 21)), (14, 7, (.tmp 22)), (21, 7, (.tmp 23))], none⟩,
    ⟨(some 2), .mov (.tmp 24), none⟩] [2])
  (.ret)) (.seq (.region [⟨(some 26), .bin .eql (.tmp 3) (.const (.int .i64 4)), none⟩,
    ⟨(some 25), .mov (.tmp 26), none⟩] [3, 25])
  (.cond (.tmp 25) (.seq (.region [⟨(some 27), .call (.const (.fn F.field_robot [] [])) [], none⟩,
    ⟨(some 28), .build [(.str ⟨#[]⟩), (.int .i64 0), (.int .i64 0), (.int .i64 0), (.int .i64 0), (.int .i64 0), (.int .i64 0)] [(0, 1, (.const (.str ⟨#[120]⟩))), (1, 1, (.const (.int .i64 2))), (2, 1, (.const (.int .i64 1))), (3, 1, (.const (.int .i64 (-1000000)))), (4, 1, (.const (.int .i64 1000000))), (5, 1, (.const (.int .i64 1))), (6, 1, (.const (.int .i64 0)))], none⟩,
    ⟨(some 29), .build [(.str ⟨#[]⟩), (.int .i64 0), (.int .i64 0), (.int .i64 0), (.int .i64 0), (.int .i64 0), (.int .i64 0)] [(0, 1, (.const (.str ⟨#[121]⟩))), (1, 1, (.const (.int .i64 2))), (2, 1, (.const (.int .i64 2))), (3, 1, (.const (.int .i64 (-1000000)))), (4, 1, (.const (.int .i64 1000000))), (5, 1, (.const (.int .i64 1))), (6, 1, (.const (.int .i64 0)))], none⟩,
    ⟨(some 30), .build [(.str ⟨#[]⟩), (.int .i64 0), (.int .i64 0), (.int .i64 0), (.int .i64 0), (.int .i64 0), (.int .i64 0)] [(0, 1, (.const (.str ⟨#[104, 101, 97, 100, 105, 110, 103]⟩))), (1, 1, (.const (.int .i64 1))), (2, 1, (.const (.int .i64 3))), (3, 1, (.const (.int .i64 0))), (4, 1, (.const (.int .i64 35999))), (5, 1, (.const (.int .i64 1))), (6, 1, (.const (.int .i64 0)))], none⟩,
    ⟨(some 31), .build [(.str ⟨#[]⟩), (.int .i64 0), (.int .i64 0), (.int .i64 0), (.int .i64 0), (.int .i64 0), (.int .i64 0)] [(0, 1, (.const (.str ⟨#[98, 97, 116, 116, 101, 114, 121]⟩))), (1, 1, (.const (.int .i64 1))), (2, 1, (.const (.int .i64 4))), (3, 1, (.const (.int .i64 0))), (4, 1, (.const (.int .i64 1000))), (5, 1, (.const (.int .i64 1))), (6, 1, (.const (.int .i64 0)))], none⟩,
    ⟨(some 32), .build [(.str ⟨#[]⟩), (.int .i64 0), (.int .i64 0), (.int .i64 0), (.int .i64 0), (.int .i64 0), (.int .i64 0)] [(0, 1, (.const (.str ⟨#[115, 117, 114, 101]⟩))), (1, 1, (.const (.int .i64 1))), (2, 1, (.const (.int .i64 5))), (3, 1, (.const (.int .i64 0))), (4, 1, (.const (.int .i64 100))), (5, 1, (.const (.int .i64 2))), (6, 1, (.const (.int .i64 100)))], none⟩,
    ⟨(some 33), .lit T.field_Field 7 6 [(.str ⟨#[]⟩), (.int .i64 0), (.int .i64 0), (.int .i64 0), (.int .i64 0), (.int .i64 0), (.int .i64 0), (.str ⟨#[]⟩), (.int .i64 0), (.int .i64 0), (.int .i64 0), (.int .i64 0), (.int .i64 0), (.int .i64 0), (.str ⟨#[]⟩), (.int .i64 0), (.int .i64 0), (.int .i64 0), (.int .i64 0), (.int .i64 0), (.int .i64 0), (.str ⟨#[]⟩), (.int .i64 0), (.int .i64 0), (.int .i64 0), (.int .i64 0), (.int .i64 0), (.int .i64 0), (.str ⟨#[]⟩), (.int .i64 0), (.int .i64 0), (.int .i64 0), (.int .i64 0), (.int .i64 0), (.int .i64 0), (.str ⟨#[]⟩), (.int .i64 0), (.int .i64 0), (.int .i64 0), (.int .i64 0), (.int .i64 0), (.int .i64 0)] [(0, 7, (.tmp 27)), (7, 7, (.tmp 28)), (14, 7, (.tmp 29)), (21, 7, (.tmp 30)), (28, 7, (.tmp 31)), (35, 7, (.tmp 32))], none⟩,
    ⟨(some 2), .mov (.tmp 33), none⟩] [2])
  (.ret)) (.seq (.region [⟨(some 35), .bin .eql (.tmp 3) (.const (.int .i64 5)), none⟩,
    ⟨(some 34), .mov (.tmp 35), none⟩] [34])
  (.cond (.tmp 34) (.seq (.region [⟨(some 36), .call (.const (.fn F.field_robot [] [])) [], none⟩,
    ⟨(some 37), .build [(.str ⟨#[]⟩), (.int .i64 0), (.int .i64 0), (.int .i64 0), (.int .i64 0), (.int .i64 0), (.int .i64 0)] [(0, 1, (.const (.str ⟨#[99, 111, 100, 101]⟩))), (1, 1, (.const (.int .i64 1))), (2, 1, (.const (.int .i64 1))), (3, 1, (.const (.int .i64 1))), (4, 1, (.const (.int .i64 9999))), (5, 1, (.const (.int .i64 1))), (6, 1, (.const (.int .i64 0)))], none⟩,
    ⟨(some 38), .build [(.str ⟨#[]⟩), (.int .i64 0), (.int .i64 0), (.int .i64 0), (.int .i64 0), (.int .i64 0), (.int .i64 0)] [(0, 1, (.const (.str ⟨#[115, 101, 118, 101, 114, 105, 116, 121]⟩))), (1, 1, (.const (.int .i64 1))), (2, 1, (.const (.int .i64 2))), (3, 1, (.const (.int .i64 0))), (4, 1, (.const (.int .i64 4))), (5, 1, (.const (.int .i64 1))), (6, 1, (.const (.int .i64 0)))], none⟩,
    ⟨(some 39), .build [(.str ⟨#[]⟩), (.int .i64 0), (.int .i64 0), (.int .i64 0), (.int .i64 0), (.int .i64 0), (.int .i64 0)] [(0, 1, (.const (.str ⟨#[112, 97, 114, 116]⟩))), (1, 1, (.const (.int .i64 1))), (2, 1, (.const (.int .i64 3))), (3, 1, (.const (.int .i64 0))), (4, 1, (.const (.int .i64 255))), (5, 1, (.const (.int .i64 2))), (6, 1, (.const (.int .i64 0)))], none⟩,
    ⟨(some 40), .build [(.str ⟨#[]⟩), (.int .i64 0), (.int .i64 0), (.int .i64 0), (.int .i64 0), (.int .i64 0), (.int .i64 0)] [(0, 1, (.const (.str ⟨#[116, 105, 109, 101, 115]⟩))), (1, 1, (.const (.int .i64 1))), (2, 1, (.const (.int .i64 4))), (3, 1, (.const (.int .i64 1))), (4, 1, (.const (.int .i64 1000000))), (5, 1, (.const (.int .i64 2))), (6, 1, (.const (.int .i64 1)))], none⟩,
    ⟨(some 41), .build [(.str ⟨#[]⟩), (.int .i64 0), (.int .i64 0), (.int .i64 0), (.int .i64 0), (.int .i64 0), (.int .i64 0)] [(0, 1, (.const (.str ⟨#[116, 101, 120, 116]⟩))), (1, 1, (.const (.int .i64 5))), (2, 1, (.const (.int .i64 (-1)))), (3, 1, (.const (.int .i64 0))), (4, 1, (.const (.int .i64 64))), (5, 1, (.const (.int .i64 1))), (6, 1, (.const (.int .i64 0)))], none⟩,
    ⟨(some 42), .lit T.field_Field 7 6 [(.str ⟨#[]⟩), (.int .i64 0), (.int .i64 0), (.int .i64 0), (.int .i64 0), (.int .i64 0), (.int .i64 0), (.str ⟨#[]⟩), (.int .i64 0), (.int .i64 0), (.int .i64 0), (.int .i64 0), (.int .i64 0), (.int .i64 0), (.str ⟨#[]⟩), (.int .i64 0), (.int .i64 0), (.int .i64 0), (.int .i64 0), (.int .i64 0), (.int .i64 0), (.str ⟨#[]⟩), (.int .i64 0), (.int .i64 0), (.int .i64 0), (.int .i64 0), (.int .i64 0), (.int .i64 0), (.str ⟨#[]⟩), (.int .i64 0), (.int .i64 0), (.int .i64 0), (.int .i64 0), (.int .i64 0), (.int .i64 0), (.str ⟨#[]⟩), (.int .i64 0), (.int .i64 0), (.int .i64 0), (.int .i64 0), (.int .i64 0), (.int .i64 0)] [(0, 7, (.tmp 36)), (7, 7, (.tmp 37)), (14, 7, (.tmp 38)), (21, 7, (.tmp 39)), (28, 7, (.tmp 40)), (35, 7, (.tmp 41))], none⟩,
    ⟨(some 2), .mov (.tmp 42), none⟩] [2])
  (.ret)) (.skip)))))))))))))
  (.seq (.region [⟨(some 2), .mov (.const .nils), none⟩] [2])
  (.ret)))
def field_Of : AFun := ⟨43, 1, [.tmp 2], field_Of.body⟩
def cuneiformlaw16_known.a0 : ACode := .region [⟨(some 3), .alloc T.field_Field [(.str ⟨#[]⟩), (.int .i64 0), (.int .i64 0), (.int .i64 0), (.int .i64 0), (.int .i64 0), (.int .i64 0)], none⟩,
    ⟨none, .store 7 (.tmp 3) (.tmp 10), none⟩] [1, 3]
def cuneiformlaw16_known.b0 : ACode := .block 1 (.region [⟨(some 11), .load none (.tmp 1), none⟩,
    ⟨(some 12), .field 0 (.tmp 3), none⟩,
    ⟨(some 13), .load none (.tmp 12), none⟩,
    ⟨(some 14), .lit T.string 1 1 [(.str ⟨#[]⟩)] [(0, 1, (.tmp 13))], none⟩,
    ⟨(some 15), .append T.string 1 16 (.tmp 11) (.tmp 14), none⟩,
    ⟨none, .store 1 (.tmp 1) (.tmp 15), none⟩] [])
def cuneiformlaw16_known.body : ACode := .seq (.region [⟨(some 0), .mov (.const (.bool false)), none⟩] [0])
  (.seq (.region [⟨(some 1), .alloc T.sl_string [.nils], none⟩] [0, 1])
  (.seq (.region [⟨(some 6), .call (.const (.fn F.field_All [] [])) [(.const (.int .i64 2)), (.const (.int .i64 1))], none⟩,
    ⟨(some 2), .mov (.tmp 6), none⟩] [0, 1, 2])
  (.seq (.seq (.region [⟨(some 7), .mov (.tmp 2), none⟩,
    ⟨(some 8), .eq false .func (.tmp 7) (.const .nilf), none⟩] [0, 1, 2, 8])
  (.cond (.tmp 8) (.seq (.region [⟨(some 0), .mov (.const (.bool false)), none⟩] [0])
  (.ret)) (.skip)))
  (.seq (.seq (.region [⟨(some 9), .mov (.tmp 2), none⟩] [0, 1, 9])
  (.block 0 (.range (.tmp 9) [10] cuneiformlaw16_known.a0 cuneiformlaw16_known.b0)))
  (.seq (.region [⟨(some 17), .call (.const (.fn F.field_Find [] [])) [(.const (.int .i64 2)), (.const (.str ⟨#[122, 111, 110, 101]⟩))], none⟩,
    ⟨(some 16), .mov (.tmp 17), none⟩,
    ⟨(some 18), .extract (.tmp 16) 0, none⟩,
    ⟨(some 19), .extract (.tmp 16) 1, none⟩,
    ⟨(some 4), .alloc T.field_Field [(.str ⟨#[]⟩), (.int .i64 0), (.int .i64 0), (.int .i64 0), (.int .i64 0), (.int .i64 0), (.int .i64 0)], none⟩,
    ⟨none, .store 7 (.tmp 4) (.tmp 18), none⟩,
    ⟨(some 5), .mov (.tmp 19), none⟩] [1, 4, 5])
  (.seq (.region [⟨(some 20), .load none (.tmp 1), none⟩,
    ⟨(some 21), .len .slice (.tmp 20), none⟩,
    ⟨(some 22), .bin .eql (.tmp 21) (.const (.int .i64 2)), none⟩,
    ⟨(some 23), .mov (.tmp 22), none⟩,
    ⟨(some 24), .load none (.tmp 1), some (23, true)⟩,
    ⟨(some 25), .idx 1 none (.tmp 24) (.const (.int .i64 0)), some (23, true)⟩,
    ⟨(some 26), .load none (.tmp 25), some (23, true)⟩,
    ⟨(some 27), .bin .eql (.tmp 26) (.const (.str ⟨#[114, 111, 98, 111, 116]⟩)), some (23, true)⟩,
    ⟨(some 28), .pick (.tmp 23) (.tmp 27) (.const (.bool false)), none⟩,
    ⟨(some 29), .mov (.tmp 28), none⟩,
    ⟨(some 30), .load none (.tmp 1), some (29, true)⟩,
    ⟨(some 31), .idx 1 none (.tmp 30) (.const (.int .i64 1)), some (29, true)⟩,
    ⟨(some 32), .load none (.tmp 31), some (29, true)⟩,
    ⟨(some 33), .bin .eql (.tmp 32) (.const (.str ⟨#[114, 101, 97, 115, 111, 110]⟩)), some (29, true)⟩,
    ⟨(some 34), .pick (.tmp 29) (.tmp 33) (.const (.bool false)), none⟩,
    ⟨(some 35), .mov (.tmp 34), none⟩,
    ⟨(some 36), .mov (.tmp 5), some (35, true)⟩,
    ⟨(some 37), .pick (.tmp 35) (.tmp 36) (.const (.bool false)), none⟩,
    ⟨(some 38), .mov (.tmp 37), none⟩,
    ⟨(some 39), .field 2 (.tmp 4), some (38, true)⟩,
    ⟨(some 40), .load none (.tmp 39), some (38, true)⟩,
    ⟨(some 41), .bin .eql (.tmp 40) (.const (.int .i64 2)), some (38, true)⟩,
    ⟨(some 42), .pick (.tmp 38) (.tmp 41) (.const (.bool false)), none⟩,
    ⟨(some 43), .mov (.tmp 42), none⟩,
    ⟨(some 44), .field 6 (.tmp 4), some (43, true)⟩,
    ⟨(some 45), .load none (.tmp 44), some (43, true)⟩,
    ⟨(some 46), .bin .eql (.tmp 45) (.const (.int .i64 0)), some (43, true)⟩,
    ⟨(some 47), .pick (.tmp 43) (.tmp 46) (.const (.bool false)), none⟩,
    ⟨(some 48), .mov (.tmp 47), none⟩,
    ⟨(some 49), .field 5 (.tmp 4), some (48, true)⟩,
    ⟨(some 50), .load none (.tmp 49), some (48, true)⟩,
    ⟨(some 51), .bin .eql (.tmp 50) (.const (.int .i64 2)), some (48, true)⟩,
    ⟨(some 52), .pick (.tmp 48) (.tmp 51) (.const (.bool false)), none⟩,
    ⟨(some 0), .mov (.tmp 52), none⟩] [0])
  (.ret)))))))
def cuneiformlaw16_known : AFun := ⟨53, 0, [.tmp 0], cuneiformlaw16_known.body⟩
def field_All.body : ACode := .seq (.region [⟨(some 2), .box T.int (.tmp 0), none⟩,
    ⟨(some 3), .box T.int (.tmp 1), none⟩,
    ⟨(some 4), .mov (.const .nilf), none⟩] [2, 3])
  (.seq (.region [⟨(some 5), .mkfn F.field_All_1 [] [(.tmp 2), (.tmp 3)], none⟩,
    ⟨(some 4), .mov (.tmp 5), none⟩] [4])
  (.ret))
def field_All : AFun := ⟨6, 2, [.tmp 4], field_All.body⟩
def field_Find.b0 : ACode := .seq (.region [⟨(some 13), .bin .lss (.tmp 12) (.tmp 11), none⟩] [1, 4, 6, 10, 11, 12, 13])
  (.seq (.cond (.tmp 13) (.skip) (.exit 0))
  (.seq (.block 1 (.seq (.region [⟨(some 14), .idx 7 none (.tmp 10) (.tmp 12), none⟩,
    ⟨(some 15), .load (some 7) (.tmp 14), none⟩,
    ⟨(some 8), .alloc T.field_Field [(.str ⟨#[]⟩), (.int .i64 0), (.int .i64 0), (.int .i64 0), (.int .i64 0), (.int .i64 0), (.int .i64 0)], none⟩,
    ⟨none, .store 7 (.tmp 8) (.tmp 15), none⟩] [1, 4, 6, 8, 10, 11, 12])
  (.seq (.region [⟨(some 16), .field 0 (.tmp 8), none⟩,
    ⟨(some 17), .load none (.tmp 16), none⟩,
    ⟨(some 18), .mov (.tmp 1), none⟩,
    ⟨(some 19), .bin .eql (.tmp 17) (.tmp 18), none⟩] [1, 4, 6, 8, 10, 11, 12, 19])
  (.cond (.tmp 19) (.seq (.region [⟨(some 20), .load (some 7) (.tmp 8), none⟩,
    ⟨none, .store 7 (.tmp 6) (.tmp 20), none⟩] [4, 6])
  (.exit 0)) (.skip)))))
  (.region [⟨(some 21), .bin .add (.tmp 12) (.const (.int .i64 1)), none⟩,
    ⟨(some 12), .mov (.tmp 21), none⟩] [1, 4, 6, 10, 11, 12])))
def field_Find.d1 : List AOper := [⟨(some 22), .load (some 7) (.tmp 6), none⟩,
    ⟨(some 23), .load (some 7) (.tmp 6), none⟩,
    ⟨(some 24), .build [(.str ⟨#[]⟩), (.int .i64 0), (.int .i64 0), (.int .i64 0), (.int .i64 0), (.int .i64 0), (.int .i64 0)] [], none⟩,
    ⟨(some 25), .eq true (.cells [.str, .int, .int, .int, .int, .int, .int]) (.tmp 23) (.tmp 24), none⟩,
    ⟨none, .store 7 (.tmp 4) (.tmp 22), none⟩,
    ⟨(some 5), .mov (.tmp 25), none⟩]
def field_Find.d1b : List (List Nat) := [[], [], [], [1, 2], [0], [0, 1, 2, 3, 4]]
def field_Find.body : ACode := .seq (.region [⟨(some 4), .alloc T.field_Field [(.str ⟨#[]⟩), (.int .i64 0), (.int .i64 0), (.int .i64 0), (.int .i64 0), (.int .i64 0), (.int .i64 0)], none⟩,
    ⟨(some 5), .mov (.const (.bool false)), none⟩] [0, 1, 4])
  (.scope (.seq (.region [⟨(some 6), .alloc T.field_Field [(.str ⟨#[]⟩), (.int .i64 0), (.int .i64 0), (.int .i64 0), (.int .i64 0), (.int .i64 0), (.int .i64 0)], none⟩] [0, 1, 4, 6])
  (.seq (.skip)
  (.seq (.seq (.region [⟨(some 9), .mov (.tmp 0), none⟩,
    ⟨(some 10), .call (.const (.fn F.field_Of [] [])) [(.tmp 9)], none⟩,
    ⟨(some 11), .len .slice (.tmp 10), none⟩,
    ⟨(some 12), .mov (.const (.int .i64 0)), none⟩] [1, 4, 6, 10, 11, 12])
  (.block 0 (.loop field_Find.b0)))
  (.seq (.draw field_Find.d1 field_Find.d1b [[0, 1, 2, 3, 4, 5]] [(4, 1)] [4, 5])
  (.ret))))))
def field_Find : AFun := ⟨26, 2, [.cell 4 (some 7), .tmp 5], field_Find.body⟩
def cuneiformref16_All.b0 : ACode := .seq (.seq (.region [⟨(some 49), .mov (.tmp 6), none⟩,
    ⟨(some 50), .mov (.tmp 5), none⟩,
    ⟨(some 51), .len .slice (.tmp 50), none⟩,
    ⟨(some 52), .bin .lss (.tmp 49) (.tmp 51), none⟩] [3, 4, 5, 6, 52])
  (.cond (.tmp 52) (.skip) (.exit 1)))
  (.seq (.block 2 (.seq (.region [⟨(some 55), .mov (.tmp 5), none⟩,
    ⟨(some 56), .mov (.tmp 6), none⟩,
    ⟨(some 57), .idx 7 none (.tmp 55) (.tmp 56), none⟩,
    ⟨(some 58), .load (some 7) (.tmp 57), none⟩,
    ⟨(some 7), .alloc T.cuneiformref16_F [(.str ⟨#[]⟩), (.int .i64 0), (.int .i64 0), (.int .i64 0), (.int .i64 0), (.int .i64 0), (.int .i64 0)], none⟩,
    ⟨none, .store 7 (.tmp 7) (.tmp 58), none⟩] [3, 4, 5, 6, 7])
  (.seq (.region [⟨(some 59), .field 2 (.tmp 7), none⟩,
    ⟨none, .store 1 (.tmp 59) (.const (.int .i64 (-1))), none⟩] [3, 4, 5, 6, 7])
  (.seq (.seq (.region [⟨(some 60), .field 1 (.tmp 7), none⟩,
    ⟨(some 61), .load none (.tmp 60), none⟩,
    ⟨(some 62), .bin .lss (.tmp 61) (.const (.int .i64 3)), none⟩] [3, 4, 5, 6, 7, 62])
  (.cond (.tmp 62) (.seq (.region [⟨(some 63), .mov (.tmp 4), none⟩,
    ⟨(some 64), .field 2 (.tmp 7), none⟩,
    ⟨none, .store 1 (.tmp 64) (.tmp 63), none⟩] [3, 4, 5, 6, 7])
  (.region [⟨(some 65), .mov (.tmp 4), none⟩,
    ⟨(some 66), .bin .add (.tmp 65) (.const (.int .i64 1)), none⟩,
    ⟨(some 4), .mov (.tmp 66), none⟩] [3, 4, 5, 6, 7])) (.skip)))
  (.region [⟨(some 67), .mov (.tmp 3), none⟩,
    ⟨(some 68), .load (some 7) (.tmp 7), none⟩,
    ⟨(some 69), .lit T.cuneiformref16_F 7 1 [(.str ⟨#[]⟩), (.int .i64 0), (.int .i64 0), (.int .i64 0), (.int .i64 0), (.int .i64 0), (.int .i64 0)] [(0, 7, (.tmp 68))], none⟩,
    ⟨(some 70), .append T.cuneiformref16_F 7 64 (.tmp 67) (.tmp 69), none⟩,
    ⟨(some 3), .mov (.tmp 70), none⟩] [3, 4, 5, 6])))))
  (.region [⟨(some 53), .mov (.tmp 6), none⟩,
    ⟨(some 54), .bin .add (.tmp 53) (.const (.int .i64 1)), none⟩,
    ⟨(some 6), .mov (.tmp 54), none⟩] [3, 4, 5, 6]))
def cuneiformref16_All.body : ACode := .seq (.region [⟨(some 2), .mov (.const .nils), none⟩] [0])
  (.seq (.region [⟨(some 3), .mov (.const .nils), none⟩] [0, 3])
  (.seq (.region [⟨(some 4), .mov (.const (.int .i64 0)), none⟩] [0, 3, 4])
  (.seq (.region [⟨(some 8), .lit T.cuneiformref16_F 7 0 [] [], none⟩,
    ⟨(some 5), .mov (.tmp 8), none⟩] [0, 3, 4, 5])
  (.seq (.seq (.region [⟨(some 9), .mov (.tmp 0), none⟩] [3, 4, 5, 9])
  (.block 0 (.seq (.region [⟨(some 11), .bin .eql (.tmp 9) (.const (.int .i64 1)), none⟩,
    ⟨(some 10), .mov (.tmp 11), none⟩] [3, 4, 5, 9, 10])
  (.cond (.tmp 10) (.region [⟨(some 12), .build [(.str ⟨#[]⟩), (.int .i64 0), (.int .i64 0), (.int .i64 0), (.int .i64 0), (.int .i64 0), (.int .i64 0)] [(0, 1, (.const (.str ⟨#[114, 111, 98, 111, 116]⟩))), (1, 1, (.const (.int .i64 1))), (2, 1, (.const (.int .i64 0))), (3, 1, (.const (.int .i64 0))), (4, 1, (.const (.int .i64 65535))), (5, 1, (.const (.int .i64 1))), (6, 1, (.const (.int .i64 0)))], none⟩,
    ⟨(some 13), .build [(.str ⟨#[]⟩), (.int .i64 0), (.int .i64 0), (.int .i64 0), (.int .i64 0), (.int .i64 0), (.int .i64 0)] [(0, 1, (.const (.str ⟨#[115, 112, 101, 101, 100]⟩))), (1, 1, (.const (.int .i64 1))), (2, 1, (.const (.int .i64 0))), (3, 1, (.const (.int .i64 1))), (4, 1, (.const (.int .i64 5000))), (5, 1, (.const (.int .i64 1))), (6, 1, (.const (.int .i64 0)))], none⟩,
    ⟨(some 14), .build [(.str ⟨#[]⟩), (.int .i64 0), (.int .i64 0), (.int .i64 0), (.int .i64 0), (.int .i64 0), (.int .i64 0)] [(0, 1, (.const (.str ⟨#[97, 99, 99, 101, 108]⟩))), (1, 1, (.const (.int .i64 1))), (2, 1, (.const (.int .i64 0))), (3, 1, (.const (.int .i64 1))), (4, 1, (.const (.int .i64 10000))), (5, 1, (.const (.int .i64 2))), (6, 1, (.const (.int .i64 500)))], none⟩,
    ⟨(some 15), .build [(.str ⟨#[]⟩), (.int .i64 0), (.int .i64 0), (.int .i64 0), (.int .i64 0), (.int .i64 0), (.int .i64 0)] [(0, 1, (.const (.str ⟨#[112, 97, 116, 104]⟩))), (1, 1, (.const (.int .i64 3))), (2, 1, (.const (.int .i64 0))), (3, 1, (.const (.int .i64 1))), (4, 1, (.const (.int .i64 16))), (5, 1, (.const (.int .i64 1))), (6, 1, (.const (.int .i64 0)))], none⟩,
    ⟨(some 16), .build [(.str ⟨#[]⟩), (.int .i64 0), (.int .i64 0), (.int .i64 0), (.int .i64 0), (.int .i64 0), (.int .i64 0)] [(0, 1, (.const (.str ⟨#[116, 97, 103]⟩))), (1, 1, (.const (.int .i64 6))), (2, 1, (.const (.int .i64 0))), (3, 1, (.const (.int .i64 0))), (4, 1, (.const (.int .i64 16))), (5, 1, (.const (.int .i64 2))), (6, 1, (.const (.int .i64 0)))], none⟩,
    ⟨(some 17), .lit T.cuneiformref16_F 7 5 [(.str ⟨#[]⟩), (.int .i64 0), (.int .i64 0), (.int .i64 0), (.int .i64 0), (.int .i64 0), (.int .i64 0), (.str ⟨#[]⟩), (.int .i64 0), (.int .i64 0), (.int .i64 0), (.int .i64 0), (.int .i64 0), (.int .i64 0), (.str ⟨#[]⟩), (.int .i64 0), (.int .i64 0), (.int .i64 0), (.int .i64 0), (.int .i64 0), (.int .i64 0), (.str ⟨#[]⟩), (.int .i64 0), (.int .i64 0), (.int .i64 0), (.int .i64 0), (.int .i64 0), (.int .i64 0), (.str ⟨#[]⟩), (.int .i64 0), (.int .i64 0), (.int .i64 0), (.int .i64 0), (.int .i64 0), (.int .i64 0)] [(0, 7, (.tmp 12)), (7, 7, (.tmp 13)), (14, 7, (.tmp 14)), (21, 7, (.tmp 15)), (28, 7, (.tmp 16))], none⟩,
    ⟨(some 5), .mov (.tmp 17), none⟩] [3, 4, 5]) (.seq (.region [⟨(some 19), .bin .eql (.tmp 9) (.const (.int .i64 2)), none⟩,
    ⟨(some 18), .mov (.tmp 19), none⟩] [3, 4, 5, 9, 18])
  (.cond (.tmp 18) (.region [⟨(some 20), .build [(.str ⟨#[]⟩), (.int .i64 0), (.int .i64 0), (.int .i64 0), (.int .i64 0), (.int .i64 0), (.int .i64 0)] [(0, 1, (.const (.str ⟨#[114, 111, 98, 111, 116]⟩))), (1, 1, (.const (.int .i64 1))), (2, 1, (.const (.int .i64 0))), (3, 1, (.const (.int .i64 0))), (4, 1, (.const (.int .i64 65535))), (5, 1, (.const (.int .i64 1))), (6, 1, (.const (.int .i64 0)))], none⟩,
    ⟨(some 21), .build [(.str ⟨#[]⟩), (.int .i64 0), (.int .i64 0), (.int .i64 0), (.int .i64 0), (.int .i64 0), (.int .i64 0)] [(0, 1, (.const (.str ⟨#[114, 101, 97, 115, 111, 110]⟩))), (1, 1, (.const (.int .i64 1))), (2, 1, (.const (.int .i64 0))), (3, 1, (.const (.int .i64 0))), (4, 1, (.const (.int .i64 15))), (5, 1, (.const (.int .i64 1))), (6, 1, (.const (.int .i64 0)))], none⟩,
    ⟨(some 22), .build [(.str ⟨#[]⟩), (.int .i64 0), (.int .i64 0), (.int .i64 0), (.int .i64 0), (.int .i64 0), (.int .i64 0)] [(0, 1, (.const (.str ⟨#[122, 111, 110, 101]⟩))), (1, 1, (.const (.int .i64 1))), (2, 1, (.const (.int .i64 0))), (3, 1, (.const (.int .i64 0))), (4, 1, (.const (.int .i64 4095))), (5, 1, (.const (.int .i64 2))), (6, 1, (.const (.int .i64 0)))], none⟩,
    ⟨(some 23), .lit T.cuneiformref16_F 7 3 [(.str ⟨#[]⟩), (.int .i64 0), (.int .i64 0), (.int .i64 0), (.int .i64 0), (.int .i64 0), (.int .i64 0), (.str ⟨#[]⟩), (.int .i64 0), (.int .i64 0), (.int .i64 0), (.int .i64 0), (.int .i64 0), (.int .i64 0), (.str ⟨#[]⟩), (.int .i64 0), (.int .i64 0), (.int .i64 0), (.int .i64 0), (.int .i64 0), (.int .i64 0)] [(0, 7, (.tmp 20)), (7, 7, (.tmp 21)), (14, 7, (.tmp 22))], none⟩,
    ⟨(some 5), .mov (.tmp 23), none⟩] [3, 4, 5]) (.seq (.region [⟨(some 25), .bin .eql (.tmp 9) (.const (.int .i64 3)), none⟩,
    ⟨(some 24), .mov (.tmp 25), none⟩] [3, 4, 5, 9, 24])
  (.cond (.tmp 24) (.region [⟨(some 26), .build [(.str ⟨#[]⟩), (.int .i64 0), (.int .i64 0), (.int .i64 0), (.int .i64 0), (.int .i64 0), (.int .i64 0)] [(0, 1, (.const (.str ⟨#[114, 111, 98, 111, 116]⟩))), (1, 1, (.const (.int .i64 1))), (2, 1, (.const (.int .i64 0))), (3, 1, (.const (.int .i64 0))), (4, 1, (.const (.int .i64 65535))), (5, 1, (.const (.int .i64 1))), (6, 1, (.const (.int .i64 0)))], none⟩,
    ⟨(some 27), .build [(.str ⟨#[]⟩), (.int .i64 0), (.int .i64 0), (.int .i64 0), (.int .i64 0), (.int .i64 0), (.int .i64 0)] [(0, 1, (.const (.str ⟨#[122, 111, 110, 101]⟩))), (1, 1, (.const (.int .i64 1))), (2, 1, (.const (.int .i64 0))), (3, 1, (.const (.int .i64 0))), (4, 1, (.const (.int .i64 4095))), (5, 1, (.const (.int .i64 1))), (6, 1, (.const (.int .i64 0)))], none⟩,
    ⟨(some 28), .build [(.str ⟨#[]⟩), (.int .i64 0), (.int .i64 0), (.int .i64 0), (.int .i64 0), (.int .i64 0), (.int .i64 0)] [(0, 1, (.const (.str ⟨#[108, 101, 97, 115, 101]⟩))), (1, 1, (.const (.int .i64 1))), (2, 1, (.const (.int .i64 0))), (3, 1, (.const (.int .i64 1))), (4, 1, (.const (.int .i64 255))), (5, 1, (.const (.int .i64 2))), (6, 1, (.const (.int .i64 1)))], none⟩,
    ⟨(some 29), .build [(.str ⟨#[]⟩), (.int .i64 0), (.int .i64 0), (.int .i64 0), (.int .i64 0), (.int .i64 0), (.int .i64 0)] [(0, 1, (.const (.str ⟨#[99, 101, 108, 108, 115]⟩))), (1, 1, (.const (.int .i64 4))), (2, 1, (.const (.int .i64 0))), (3, 1, (.const (.int .i64 1))), (4, 1, (.const (.int .i64 32))), (5, 1, (.const (.int .i64 1))), (6, 1, (.const (.int .i64 0)))], none⟩,
    ⟨(some 30), .lit T.cuneiformref16_F 7 4 [(.str ⟨#[]⟩), (.int .i64 0), (.int .i64 0), (.int .i64 0), (.int .i64 0), (.int .i64 0), (.int .i64 0), (.str ⟨#[]⟩), (.int .i64 0), (.int .i64 0), (.int .i64 0), (.int .i64 0), (.int .i64 0), (.int .i64 0), (.str ⟨#[]⟩), (.int .i64 0), (.int .i64 0), (.int .i64 0), (.int .i64 0), (.int .i64 0), (.int .i64 0), (.str ⟨#[]⟩), (.int .i64 0), (.int .i64 0), (.int .i64 0), (.int .i64 0), (.int .i64 0), (.int .i64 0)] [(0, 7, (.tmp 26)), (7, 7, (.tmp 27)), (14, 7, (.tmp 28)), (21, 7, (.tmp 29))], none⟩,
    ⟨(some 5), .mov (.tmp 30), none⟩] [3, 4, 5]) (.seq (.region [⟨(some 32), .bin .eql (.tmp 9) (.const (.int .i64 4)), none⟩,
    ⟨(some 31), .mov (.tmp 32), none⟩] [3, 4, 5, 9, 31])
  (.cond (.tmp 31) (.region [⟨(some 33), .build [(.str ⟨#[]⟩), (.int .i64 0), (.int .i64 0), (.int .i64 0), (.int .i64 0), (.int .i64 0), (.int .i64 0)] [(0, 1, (.const (.str ⟨#[114, 111, 98, 111, 116]⟩))), (1, 1, (.const (.int .i64 1))), (2, 1, (.const (.int .i64 0))), (3, 1, (.const (.int .i64 0))), (4, 1, (.const (.int .i64 65535))), (5, 1, (.const (.int .i64 1))), (6, 1, (.const (.int .i64 0)))], none⟩,
    ⟨(some 34), .build [(.str ⟨#[]⟩), (.int .i64 0), (.int .i64 0), (.int .i64 0), (.int .i64 0), (.int .i64 0), (.int .i64 0)] [(0, 1, (.const (.str ⟨#[120]⟩))), (1, 1, (.const (.int .i64 2))), (2, 1, (.const (.int .i64 0))), (3, 1, (.const (.int .i64 (-1000000)))), (4, 1, (.const (.int .i64 1000000))), (5, 1, (.const (.int .i64 1))), (6, 1, (.const (.int .i64 0)))], none⟩,
    ⟨(some 35), .build [(.str ⟨#[]⟩), (.int .i64 0), (.int .i64 0), (.int .i64 0), (.int .i64 0), (.int .i64 0), (.int .i64 0)] [(0, 1, (.const (.str ⟨#[121]⟩))), (1, 1, (.const (.int .i64 2))), (2, 1, (.const (.int .i64 0))), (3, 1, (.const (.int .i64 (-1000000)))), (4, 1, (.const (.int .i64 1000000))), (5, 1, (.const (.int .i64 1))), (6, 1, (.const (.int .i64 0)))], none⟩,
    ⟨(some 36), .build [(.str ⟨#[]⟩), (.int .i64 0), (.int .i64 0), (.int .i64 0), (.int .i64 0), (.int .i64 0), (.int .i64 0)] [(0, 1, (.const (.str ⟨#[104, 101, 97, 100, 105, 110, 103]⟩))), (1, 1, (.const (.int .i64 1))), (2, 1, (.const (.int .i64 0))), (3, 1, (.const (.int .i64 0))), (4, 1, (.const (.int .i64 35999))), (5, 1, (.const (.int .i64 1))), (6, 1, (.const (.int .i64 0)))], none⟩,
    ⟨(some 37), .build [(.str ⟨#[]⟩), (.int .i64 0), (.int .i64 0), (.int .i64 0), (.int .i64 0), (.int .i64 0), (.int .i64 0)] [(0, 1, (.const (.str ⟨#[98, 97, 116, 116, 101, 114, 121]⟩))), (1, 1, (.const (.int .i64 1))), (2, 1, (.const (.int .i64 0))), (3, 1, (.const (.int .i64 0))), (4, 1, (.const (.int .i64 1000))), (5, 1, (.const (.int .i64 1))), (6, 1, (.const (.int .i64 0)))], none⟩,
    ⟨(some 38), .build [(.str ⟨#[]⟩), (.int .i64 0), (.int .i64 0), (.int .i64 0), (.int .i64 0), (.int .i64 0), (.int .i64 0)] [(0, 1, (.const (.str ⟨#[115, 117, 114, 101]⟩))), (1, 1, (.const (.int .i64 1))), (2, 1, (.const (.int .i64 0))), (3, 1, (.const (.int .i64 0))), (4, 1, (.const (.int .i64 100))), (5, 1, (.const (.int .i64 2))), (6, 1, (.const (.int .i64 100)))], none⟩,
    ⟨(some 39), .lit T.cuneiformref16_F 7 6 [(.str ⟨#[]⟩), (.int .i64 0), (.int .i64 0), (.int .i64 0), (.int .i64 0), (.int .i64 0), (.int .i64 0), (.str ⟨#[]⟩), (.int .i64 0), (.int .i64 0), (.int .i64 0), (.int .i64 0), (.int .i64 0), (.int .i64 0), (.str ⟨#[]⟩), (.int .i64 0), (.int .i64 0), (.int .i64 0), (.int .i64 0), (.int .i64 0), (.int .i64 0), (.str ⟨#[]⟩), (.int .i64 0), (.int .i64 0), (.int .i64 0), (.int .i64 0), (.int .i64 0), (.int .i64 0), (.str ⟨#[]⟩), (.int .i64 0), (.int .i64 0), (.int .i64 0), (.int .i64 0), (.int .i64 0), (.int .i64 0), (.str ⟨#[]⟩), (.int .i64 0), (.int .i64 0), (.int .i64 0), (.int .i64 0), (.int .i64 0), (.int .i64 0)] [(0, 7, (.tmp 33)), (7, 7, (.tmp 34)), (14, 7, (.tmp 35)), (21, 7, (.tmp 36)), (28, 7, (.tmp 37)), (35, 7, (.tmp 38))], none⟩,
    ⟨(some 5), .mov (.tmp 39), none⟩] [3, 4, 5]) (.seq (.region [⟨(some 41), .bin .eql (.tmp 9) (.const (.int .i64 5)), none⟩,
    ⟨(some 40), .mov (.tmp 41), none⟩] [3, 4, 5, 40])
  (.cond (.tmp 40) (.region [⟨(some 42), .build [(.str ⟨#[]⟩), (.int .i64 0), (.int .i64 0), (.int .i64 0), (.int .i64 0), (.int .i64 0), (.int .i64 0)] [(0, 1, (.const (.str ⟨#[114, 111, 98, 111, 116]⟩))), (1, 1, (.const (.int .i64 1))), (2, 1, (.const (.int .i64 0))), (3, 1, (.const (.int .i64 0))), (4, 1, (.const (.int .i64 65535))), (5, 1, (.const (.int .i64 1))), (6, 1, (.const (.int .i64 0)))], none⟩,
    ⟨(some 43), .build [(.str ⟨#[]⟩), (.int .i64 0), (.int .i64 0), (.int .i64 0), (.int .i64 0), (.int .i64 0), (.int .i64 0)] [(0, 1, (.const (.str ⟨#[99, 111, 100, 101]⟩))), (1, 1, (.const (.int .i64 1))), (2, 1, (.const (.int .i64 0))), (3, 1, (.const (.int .i64 1))), (4, 1, (.const (.int .i64 9999))), (5, 1, (.const (.int .i64 1))), (6, 1, (.const (.int .i64 0)))], none⟩,
    ⟨(some 44), .build [(.str ⟨#[]⟩), (.int .i64 0), (.int .i64 0), (.int .i64 0), (.int .i64 0), (.int .i64 0), (.int .i64 0)] [(0, 1, (.const (.str ⟨#[115, 101, 118, 101, 114, 105, 116, 121]⟩))), (1, 1, (.const (.int .i64 1))), (2, 1, (.const (.int .i64 0))), (3, 1, (.const (.int .i64 0))), (4, 1, (.const (.int .i64 4))), (5, 1, (.const (.int .i64 1))), (6, 1, (.const (.int .i64 0)))], none⟩,
    ⟨(some 45), .build [(.str ⟨#[]⟩), (.int .i64 0), (.int .i64 0), (.int .i64 0), (.int .i64 0), (.int .i64 0), (.int .i64 0)] [(0, 1, (.const (.str ⟨#[112, 97, 114, 116]⟩))), (1, 1, (.const (.int .i64 1))), (2, 1, (.const (.int .i64 0))), (3, 1, (.const (.int .i64 0))), (4, 1, (.const (.int .i64 255))), (5, 1, (.const (.int .i64 2))), (6, 1, (.const (.int .i64 0)))], none⟩,
    ⟨(some 46), .build [(.str ⟨#[]⟩), (.int .i64 0), (.int .i64 0), (.int .i64 0), (.int .i64 0), (.int .i64 0), (.int .i64 0)] [(0, 1, (.const (.str ⟨#[116, 105, 109, 101, 115]⟩))), (1, 1, (.const (.int .i64 1))), (2, 1, (.const (.int .i64 0))), (3, 1, (.const (.int .i64 1))), (4, 1, (.const (.int .i64 1000000))), (5, 1, (.const (.int .i64 2))), (6, 1, (.const (.int .i64 1)))], none⟩,
    ⟨(some 47), .build [(.str ⟨#[]⟩), (.int .i64 0), (.int .i64 0), (.int .i64 0), (.int .i64 0), (.int .i64 0), (.int .i64 0)] [(0, 1, (.const (.str ⟨#[116, 101, 120, 116]⟩))), (1, 1, (.const (.int .i64 5))), (2, 1, (.const (.int .i64 0))), (3, 1, (.const (.int .i64 0))), (4, 1, (.const (.int .i64 64))), (5, 1, (.const (.int .i64 1))), (6, 1, (.const (.int .i64 0)))], none⟩,
    ⟨(some 48), .lit T.cuneiformref16_F 7 6 [(.str ⟨#[]⟩), (.int .i64 0), (.int .i64 0), (.int .i64 0), (.int .i64 0), (.int .i64 0), (.int .i64 0), (.str ⟨#[]⟩), (.int .i64 0), (.int .i64 0), (.int .i64 0), (.int .i64 0), (.int .i64 0), (.int .i64 0), (.str ⟨#[]⟩), (.int .i64 0), (.int .i64 0), (.int .i64 0), (.int .i64 0), (.int .i64 0), (.int .i64 0), (.str ⟨#[]⟩), (.int .i64 0), (.int .i64 0), (.int .i64 0), (.int .i64 0), (.int .i64 0), (.int .i64 0), (.str ⟨#[]⟩), (.int .i64 0), (.int .i64 0), (.int .i64 0), (.int .i64 0), (.int .i64 0), (.int .i64 0), (.str ⟨#[]⟩), (.int .i64 0), (.int .i64 0), (.int .i64 0), (.int .i64 0), (.int .i64 0), (.int .i64 0)] [(0, 7, (.tmp 42)), (7, 7, (.tmp 43)), (14, 7, (.tmp 44)), (21, 7, (.tmp 45)), (28, 7, (.tmp 46)), (35, 7, (.tmp 47))], none⟩,
    ⟨(some 5), .mov (.tmp 48), none⟩] [3, 4, 5]) (.skip)))))))))))))
  (.seq (.seq (.region [⟨(some 6), .mov (.const (.int .i64 0)), none⟩] [3, 4, 5, 6])
  (.block 1 (.loop cuneiformref16_All.b0)))
  (.seq (.region [⟨(some 71), .mov (.tmp 3), none⟩,
    ⟨(some 2), .mov (.tmp 71), none⟩] [2])
  (.ret)))))))
def cuneiformref16_All : AFun := ⟨72, 1, [.tmp 2], cuneiformref16_All.body⟩
def field_Word.body : ACode := .seq (.region [⟨(some 2), .mov (.const (.str ⟨#[]⟩)), none⟩] [0])
  (.seq (.seq (.region [⟨(some 3), .mov (.tmp 0), none⟩] [3])
  (.block 0 (.seq (.region [⟨(some 5), .bin .eql (.tmp 3) (.const (.int .i64 1)), none⟩,
    ⟨(some 4), .mov (.tmp 5), none⟩] [3, 4])
  (.cond (.tmp 4) (.seq (.region [⟨(some 2), .mov (.const (.str ⟨#[109, 111, 118, 101]⟩)), none⟩] [2])
  (.ret)) (.seq (.region [⟨(some 7), .bin .eql (.tmp 3) (.const (.int .i64 2)), none⟩,
    ⟨(some 6), .mov (.tmp 7), none⟩] [3, 6])
  (.cond (.tmp 6) (.seq (.region [⟨(some 2), .mov (.const (.str ⟨#[104, 111, 108, 100]⟩)), none⟩] [2])
  (.ret)) (.seq (.region [⟨(some 9), .bin .eql (.tmp 3) (.const (.int .i64 3)), none⟩,
    ⟨(some 8), .mov (.tmp 9), none⟩] [3, 8])
  (.cond (.tmp 8) (.seq (.region [⟨(some 2), .mov (.const (.str ⟨#[103, 114, 97, 110, 116]⟩)), none⟩] [2])
  (.ret)) (.seq (.region [⟨(some 11), .bin .eql (.tmp 3) (.const (.int .i64 4)), none⟩,
    ⟨(some 10), .mov (.tmp 11), none⟩] [3, 10])
  (.cond (.tmp 10) (.seq (.region [⟨(some 2), .mov (.const (.str ⟨#[112, 111, 115, 101]⟩)), none⟩] [2])
  (.ret)) (.seq (.region [⟨(some 13), .bin .eql (.tmp 3) (.const (.int .i64 5)), none⟩,
    ⟨(some 12), .mov (.tmp 13), none⟩] [12])
  (.cond (.tmp 12) (.seq (.region [⟨(some 2), .mov (.const (.str ⟨#[102, 97, 117, 108, 116]⟩)), none⟩] [2])
  (.ret)) (.skip)))))))))))))
  (.seq (.region [⟨(some 2), .mov (.const (.str ⟨#[]⟩)), none⟩] [2])
  (.ret)))
def field_Word : AFun := ⟨14, 1, [.tmp 2], field_Word.body⟩
def cuneiformref16_Word.body : ACode := .seq (.region [⟨(some 2), .mov (.const (.str ⟨#[]⟩)), none⟩] [0])
  (.seq (.seq (.region [⟨(some 3), .mov (.tmp 0), none⟩,
    ⟨(some 4), .bin .lss (.tmp 3) (.const (.int .i64 1)), none⟩,
    ⟨(some 5), .mov (.tmp 4), none⟩,
    ⟨(some 6), .mov (.tmp 0), some (5, false)⟩,
    ⟨(some 7), .bin .gtr (.tmp 6) (.const (.int .i64 5)), some (5, false)⟩,
    ⟨(some 8), .pick (.tmp 5) (.const (.bool true)) (.tmp 7), none⟩] [0, 8])
  (.cond (.tmp 8) (.seq (.region [⟨(some 2), .mov (.const (.str ⟨#[]⟩)), none⟩] [2])
  (.ret)) (.skip)))
  (.seq (.region [⟨(some 9), .lit T.string 1 5 [(.str ⟨#[]⟩), (.str ⟨#[]⟩), (.str ⟨#[]⟩), (.str ⟨#[]⟩), (.str ⟨#[]⟩)] [(0, 1, (.const (.str ⟨#[109, 111, 118, 101]⟩))), (1, 1, (.const (.str ⟨#[104, 111, 108, 100]⟩))), (2, 1, (.const (.str ⟨#[103, 114, 97, 110, 116]⟩))), (3, 1, (.const (.str ⟨#[112, 111, 115, 101]⟩))), (4, 1, (.const (.str ⟨#[102, 97, 117, 108, 116]⟩)))], none⟩,
    ⟨(some 10), .mov (.tmp 0), none⟩,
    ⟨(some 11), .bin .sub (.tmp 10) (.const (.int .i64 1)), none⟩,
    ⟨(some 12), .idx 1 none (.tmp 9) (.tmp 11), none⟩,
    ⟨(some 13), .load none (.tmp 12), none⟩,
    ⟨(some 2), .mov (.tmp 13), none⟩] [2])
  (.ret)))
def cuneiformref16_Word : AFun := ⟨14, 1, [.tmp 2], cuneiformref16_Word.body⟩
def cuneiformref16_Find.b0 : ACode := .seq (.seq (.region [⟨(some 6), .mov (.tmp 5), none⟩,
    ⟨(some 7), .mov (.tmp 0), none⟩,
    ⟨(some 8), .len .slice (.tmp 7), none⟩,
    ⟨(some 9), .bin .lss (.tmp 6) (.tmp 8), none⟩] [0, 1, 5, 9])
  (.cond (.tmp 9) (.skip) (.exit 0)))
  (.seq (.block 1 (.seq (.region [⟨(some 12), .mov (.tmp 0), none⟩,
    ⟨(some 13), .mov (.tmp 5), none⟩,
    ⟨(some 14), .idx 7 none (.tmp 12) (.tmp 13), none⟩,
    ⟨(some 15), .field 0 (.tmp 14), none⟩,
    ⟨(some 16), .load none (.tmp 15), none⟩,
    ⟨(some 17), .mov (.tmp 1), none⟩,
    ⟨(some 18), .bin .eql (.tmp 16) (.tmp 17), none⟩] [0, 1, 5, 18])
  (.cond (.tmp 18) (.seq (.region [⟨(some 19), .mov (.tmp 5), none⟩,
    ⟨(some 4), .mov (.tmp 19), none⟩] [4])
  (.ret)) (.skip))))
  (.region [⟨(some 10), .mov (.tmp 5), none⟩,
    ⟨(some 11), .bin .add (.tmp 10) (.const (.int .i64 1)), none⟩,
    ⟨(some 5), .mov (.tmp 11), none⟩] [0, 1, 5]))
def cuneiformref16_Find.body : ACode := .seq (.region [⟨(some 4), .mov (.const (.int .i64 0)), none⟩] [0, 1])
  (.seq (.seq (.region [⟨(some 5), .mov (.const (.int .i64 0)), none⟩] [0, 1, 5])
  (.block 0 (.loop cuneiformref16_Find.b0)))
  (.seq (.region [⟨(some 4), .mov (.const (.int .i64 (-1))), none⟩] [4])
  (.ret)))
def cuneiformref16_Find : AFun := ⟨20, 2, [.tmp 4], cuneiformref16_Find.body⟩
def field_Kinds.body : ACode := .seq (.region [⟨(some 0), .mov (.const .nilf), none⟩] [])
  (.seq (.region [⟨(some 0), .mov (.const (.fn F.field_Kinds_1 [] [])), none⟩] [0])
  (.ret))
def field_Kinds : AFun := ⟨1, 0, [.tmp 0], field_Kinds.body⟩
def field_Kind.a0 : ACode := .seq (.region [⟨(some 3), .mov (.tmp 6), none⟩] [1, 2, 3, 7])
  (.region [⟨(some 4), .mov (.tmp 7), none⟩] [1, 2, 3, 4])
def field_Kind.b0 : ACode := .block 1 (.seq (.region [⟨(some 8), .mov (.tmp 4), none⟩,
    ⟨(some 9), .load none (.tmp 1), none⟩,
    ⟨(some 10), .bin .eql (.tmp 8) (.tmp 9), none⟩] [2, 3, 10])
  (.cond (.tmp 10) (.seq (.region [⟨(some 11), .mov (.tmp 3), none⟩,
    ⟨none, .store 1 (.tmp 2) (.tmp 11), none⟩] [])
  (.ret)) (.skip)))
def field_Kind.body : ACode := .seq (.region [⟨(some 1), .box T.string (.tmp 0), none⟩,
    ⟨(some 2), .alloc T.int [(.int .i64 0)], none⟩] [1, 2])
  (.seq (.seq (.region [⟨(some 5), .call (.const (.fn F.field_Kinds [] [])) [], none⟩] [1, 2, 5])
  (.block 0 (.range (.tmp 5) [6, 7] field_Kind.a0 field_Kind.b0)))
  (.seq (.region [⟨none, .store 1 (.tmp 2) (.const (.int .i64 0)), none⟩] [2])
  (.ret)))
def field_Kind : AFun := ⟨12, 1, [.cell 2 none], field_Kind.body⟩
def field_robot.body : ACode := .seq (.region [⟨(some 0), .alloc T.field_Field [(.str ⟨#[]⟩), (.int .i64 0), (.int .i64 0), (.int .i64 0), (.int .i64 0), (.int .i64 0), (.int .i64 0)], none⟩] [0])
  (.seq (.region [⟨(some 1), .build [(.str ⟨#[]⟩), (.int .i64 0), (.int .i64 0), (.int .i64 0), (.int .i64 0), (.int .i64 0), (.int .i64 0)] [(0, 1, (.const (.str ⟨#[114, 111, 98, 111, 116]⟩))), (1, 1, (.const (.int .i64 1))), (2, 1, (.const (.int .i64 0))), (3, 1, (.const (.int .i64 0))), (4, 1, (.const (.int .i64 65535))), (5, 1, (.const (.int .i64 1))), (6, 1, (.const (.int .i64 0)))], none⟩,
    ⟨none, .store 7 (.tmp 0) (.tmp 1), none⟩] [0])
  (.ret))
def field_robot : AFun := ⟨2, 0, [.cell 0 (some 7)], field_robot.body⟩
def field_All_1.b0 : ACode := .seq (.region [⟨(some 10), .bin .lss (.tmp 9) (.tmp 8), none⟩] [0, 2, 7, 8, 9, 10])
  (.seq (.cond (.tmp 10) (.skip) (.exit 0))
  (.seq (.block 1 (.seq (.region [⟨(some 11), .idx 7 none (.tmp 7) (.tmp 9), none⟩,
    ⟨(some 12), .load (some 7) (.tmp 11), none⟩,
    ⟨(some 5), .alloc T.field_Field [(.str ⟨#[]⟩), (.int .i64 0), (.int .i64 0), (.int .i64 0), (.int .i64 0), (.int .i64 0), (.int .i64 0)], none⟩,
    ⟨none, .store 7 (.tmp 5) (.tmp 12), none⟩] [0, 2, 5, 7, 8, 9])
  (.seq (.seq (.region [⟨(some 13), .field 5 (.tmp 5), none⟩,
    ⟨(some 14), .load none (.tmp 13), none⟩,
    ⟨(some 15), .load none (.tmp 2), none⟩,
    ⟨(some 16), .bin .gtr (.tmp 14) (.tmp 15), none⟩] [0, 2, 5, 7, 8, 9, 16])
  (.cond (.tmp 16) (.exit 1) (.skip)))
  (.seq (.region [⟨(some 17), .mov (.tmp 0), none⟩,
    ⟨(some 18), .load (some 7) (.tmp 5), none⟩,
    ⟨(some 19), .call (.tmp 17) [(.tmp 18)], none⟩,
    ⟨(some 20), .un .not (.tmp 19), none⟩] [0, 2, 7, 8, 9, 20])
  (.cond (.tmp 20) (.exit 0) (.skip))))))
  (.region [⟨(some 21), .bin .add (.tmp 9) (.const (.int .i64 1)), none⟩,
    ⟨(some 9), .mov (.tmp 21), none⟩] [0, 2, 7, 8, 9])))
def field_All_1.body : ACode := .scope (.seq (.skip)
  (.seq (.region [⟨(some 6), .load none (.tmp 1), none⟩,
    ⟨(some 7), .call (.const (.fn F.field_Of [] [])) [(.tmp 6)], none⟩,
    ⟨(some 8), .len .slice (.tmp 7), none⟩,
    ⟨(some 9), .mov (.const (.int .i64 0)), none⟩] [0, 2, 7, 8, 9])
  (.block 0 (.loop field_All_1.b0))))
def field_All_1 : AFun := ⟨22, 3, [], field_All_1.body⟩
def field_Kinds_1.b0 : ACode := .seq (.seq (.region [⟨(some 3), .mov (.tmp 2), none⟩,
    ⟨(some 4), .bin .leq (.tmp 3) (.const (.int .i64 5)), none⟩] [0, 2, 4])
  (.cond (.tmp 4) (.skip) (.exit 0)))
  (.seq (.block 1 (.seq (.region [⟨(some 7), .mov (.tmp 0), none⟩,
    ⟨(some 8), .mov (.tmp 2), none⟩,
    ⟨(some 9), .mov (.tmp 2), none⟩,
    ⟨(some 10), .call (.const (.fn F.field_Word [] [])) [(.tmp 9)], none⟩,
    ⟨(some 11), .call (.tmp 7) [(.tmp 8), (.tmp 10)], none⟩,
    ⟨(some 12), .un .not (.tmp 11), none⟩] [0, 2, 12])
  (.cond (.tmp 12) (.ret) (.skip))))
  (.region [⟨(some 5), .mov (.tmp 2), none⟩,
    ⟨(some 6), .bin .add (.tmp 5) (.const (.int .i64 1)), none⟩,
    ⟨(some 2), .mov (.tmp 6), none⟩] [0, 2]))
def field_Kinds_1.body : ACode := .seq (.region [⟨(some 2), .mov (.const (.int .i64 1)), none⟩] [0, 2])
  (.block 0 (.loop field_Kinds_1.b0))
def field_Kinds_1 : AFun := ⟨13, 1, [], field_Kinds_1.body⟩
theorem cuneiformlaw16_FieldPlaces_code : okFun Try.prog F.cuneiformlaw16_FieldPlaces cuneiformlaw16_FieldPlaces = true := by kernel_rfl
theorem cuneiformlaw16_FieldVersions_code : okFun Try.prog F.cuneiformlaw16_FieldVersions cuneiformlaw16_FieldVersions = true := by kernel_rfl
theorem cuneiformlaw16_FieldOf_code : okFun Try.prog F.cuneiformlaw16_FieldOf cuneiformlaw16_FieldOf = true := by kernel_rfl
theorem cuneiformlaw16_FieldKinds_code : okFun Try.prog F.cuneiformlaw16_FieldKinds cuneiformlaw16_FieldKinds = true := by kernel_rfl
theorem field_Of_code : okFun Try.prog F.field_Of field_Of = true := by kernel_rfl
theorem cuneiformlaw16_known_code : okFun Try.prog F.cuneiformlaw16_known cuneiformlaw16_known = true := by kernel_rfl
theorem field_All_code : okFun Try.prog F.field_All field_All = true := by kernel_rfl
theorem field_Find_code : okFun Try.prog F.field_Find field_Find = true := by kernel_rfl
theorem cuneiformref16_All_code : okFun Try.prog F.cuneiformref16_All cuneiformref16_All = true := by kernel_rfl
theorem field_Word_code : okFun Try.prog F.field_Word field_Word = true := by kernel_rfl
theorem cuneiformref16_Word_code : okFun Try.prog F.cuneiformref16_Word cuneiformref16_Word = true := by kernel_rfl
theorem cuneiformref16_Find_code : okFun Try.prog F.cuneiformref16_Find cuneiformref16_Find = true := by kernel_rfl
theorem field_Kinds_code : okFun Try.prog F.field_Kinds field_Kinds = true := by kernel_rfl
theorem field_Kind_code : okFun Try.prog F.field_Kind field_Kind = true := by kernel_rfl
theorem field_robot_code : okFun Try.prog F.field_robot field_robot = true := by kernel_rfl
theorem field_All_1_code : okFun Try.prog F.field_All_1 field_All_1 = true := by kernel_rfl
theorem field_Kinds_1_code : okFun Try.prog F.field_Kinds_1 field_Kinds_1 = true := by kernel_rfl
def codes : CT := [(F.cuneiformlaw16_FieldPlaces, cuneiformlaw16_FieldPlaces), (F.cuneiformlaw16_FieldVersions, cuneiformlaw16_FieldVersions), (F.cuneiformlaw16_FieldOf, cuneiformlaw16_FieldOf), (F.cuneiformlaw16_FieldKinds, cuneiformlaw16_FieldKinds), (F.field_Of, field_Of), (F.cuneiformlaw16_known, cuneiformlaw16_known), (F.field_All, field_All), (F.field_Find, field_Find), (F.cuneiformref16_All, cuneiformref16_All), (F.field_Word, field_Word), (F.cuneiformref16_Word, cuneiformref16_Word), (F.cuneiformref16_Find, cuneiformref16_Find), (F.field_Kinds, field_Kinds), (F.field_Kind, field_Kind), (F.field_robot, field_robot), (F.field_All_1, field_All_1), (F.field_Kinds_1, field_Kinds_1)]
theorem codes_ok : AllOk Try.prog codes := ⟨cuneiformlaw16_FieldPlaces_code, cuneiformlaw16_FieldVersions_code, cuneiformlaw16_FieldOf_code, cuneiformlaw16_FieldKinds_code, field_Of_code, cuneiformlaw16_known_code, field_All_code, field_Find_code, cuneiformref16_All_code, field_Word_code, cuneiformref16_Word_code, cuneiformref16_Find_code, field_Kinds_code, field_Kind_code, field_robot_code, field_All_1_code, field_Kinds_1_code, trivial⟩
end Go.Proofs.Ytoingggmiplggaa
