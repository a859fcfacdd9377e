/-
  The code that the statements of this seat reach, in the form of that machine, and that it is the program's. By an AI agent. No person has read it.
-/
import Derived.Test.YtebhlclfiiffbaaProg
import Derived.Test.YtebhlclfiiffbaaAm6
import Derived.KernelRfl

/-
  The code of this seat in the form of the abstract machine, and that it is the program's. Printed by a program (wip/am/gen.py, code.py). By an AI agent.
-/
namespace Go.Proofs.Ytebhlclfiiffbaa
open Go Go.Am
namespace F
def cuneiformlaw03_LensCuts : FuncId := 3
def cuneiformlaw03_LensReads : FuncId := 4
def cuneiformlaw03_LensNil : FuncId := 5
def cuneiformlaw03_LensPen : FuncId := 6
def lens_New : FuncId := 7
def lens_Lens_Field : FuncId := 8
def lens_Lens_Err : FuncId := 9
def cuneiformref01_Same : FuncId := 10
def lens_Lens_Place : FuncId := 11
def lens_Lens_U32 : FuncId := 12
def lens_Lens_Rest : FuncId := 13
def cuneiformlaw03_known : FuncId := 14
def lens_Lens_End : FuncId := 15
def lens_Lens_U8 : FuncId := 16
def cuneiformref03_Word : FuncId := 17
def lens_Lens_U16 : FuncId := 18
def lens_Lens_Number : FuncId := 19
def cuneiformref03_Number : FuncId := 20
def lens_Lens_Signed : FuncId := 21
def cuneiformref03_Signed : FuncId := 22
def lens_Lens_Raw : FuncId := 23
def cuneiformref03_Raw : FuncId := 24
def cuneiformref03_Field : FuncId := 25
def cuneiformlaw03_words : FuncId := 26
def cuneiformlaw03_Alike : FuncId := 27
def lens_Lens_Words : FuncId := 28
def lens_Lens_Left : FuncId := 29
def pen_New : FuncId := 30
def pen_Pen_U8 : FuncId := 31
def pen_Pen_Number : FuncId := 32
def pen_Pen_U16 : FuncId := 33
def pen_Pen_Field : FuncId := 34
def pen_Pen_Signed : FuncId := 35
def pen_Pen_U32 : FuncId := 36
def pen_Pen_Raw : FuncId := 37
def pen_Pen_Err : FuncId := 38
def pen_Pen_Bytes : FuncId := 39
def lens_Lens_read : FuncId := 40
def lens_Lens_Field_1 : FuncId := 41
def varint_Get : FuncId := 42
def lens_Lens_word : FuncId := 43
def cuneiformref03_fail : FuncId := 44
def lens_Lens_Number_1 : FuncId := 45
def cuneiformref01_Get : FuncId := 46
def lens_Lens_Signed_1 : FuncId := 47
def varint_Zag : FuncId := 48
def cuneiformref01_Zag : FuncId := 49
def lens_Lens_Raw_1 : FuncId := 50
def lens_Lens_Words_1 : FuncId := 51
def lens_Lens_left : FuncId := 52
def pen_Pen_word : FuncId := 53
def varint_Put : FuncId := 54
def varint_Zig : FuncId := 55
def lens_Lens_word_1 : FuncId := 56
def slices_Backward_byte_byte : FuncId := 57
def slices_Backward_byte_byte_1 : FuncId := 58
end F
namespace T
def int64 : TypeId := 2
def int : TypeId := 3
def bool : TypeId := 4
def uint8 : TypeId := 5
def sl_uint8 : TypeId := 22
def uint64 : TypeId := 23
def p_lens_Lens : TypeId := 24
def uint32 : TypeId := 31
def cuneiformref03_L : TypeId := 38
def cuneiformlaw03_Act : TypeId := 40
def lens_Lens : TypeId := 74
def pen_Pen : TypeId := 88
def n4_uint8 : TypeId := 97
end T
def cuneiformlaw03_LensCuts.b0 : ACode := .seq (.seq (.region [⟨(some 44), .mov (.tmp 10), none⟩,
    ⟨(some 45), .bin .lss (.tmp 44) (.const (.int .i64 10)), none⟩] [2, 8, 9, 10, 45])
  (.cond (.tmp 45) (.skip) (.exit 0)))
  (.seq (.block 1 (.seq (.region [⟨(some 48), .mov (.tmp 8), none⟩,
    ⟨(some 49), .mov (.tmp 2), none⟩,
    ⟨(some 50), .call (.const (.fn F.lens_Lens_Field [] [])) [(.tmp 48), (.tmp 49)], none⟩,
    ⟨(some 51), .mov (.tmp 9), none⟩,
    ⟨(some 52), .mov (.tmp 2), none⟩,
    ⟨(some 53), .call (.const (.fn F.lens_Lens_Field [] [])) [(.tmp 51), (.tmp 52)], none⟩,
    ⟨(some 11), .mov (.tmp 50), none⟩,
    ⟨(some 12), .mov (.tmp 53), none⟩] [2, 8, 9, 10, 11, 12])
  (.seq (.seq (.region [⟨(some 54), .mov (.tmp 8), none⟩,
    ⟨(some 55), .call (.const (.fn F.lens_Lens_Err [] [])) [(.tmp 54)], none⟩,
    ⟨(some 56), .bin .eql (.tmp 55) (.const (.int .i64 0)), none⟩,
    ⟨(some 57), .mov (.tmp 56), none⟩,
    ⟨(some 58), .mov (.tmp 9), some (57, true)⟩,
    ⟨(some 59), .call (.const (.fn F.lens_Lens_Err [] [])) [(.tmp 58)], some (57, true)⟩,
    ⟨(some 60), .bin .neq (.tmp 59) (.const (.int .i64 0)), some (57, true)⟩,
    ⟨(some 61), .mov (.tmp 60), some (57, true)⟩,
    ⟨(some 62), .mov (.tmp 11), some (61, false)⟩,
    ⟨(some 63), .mov (.tmp 12), some (61, false)⟩,
    ⟨(some 64), .call (.const (.fn F.cuneiformref01_Same [] [])) [(.tmp 62), (.tmp 63)], some (61, false)⟩,
    ⟨(some 65), .un .not (.tmp 64), some (61, false)⟩,
    ⟨(some 66), .pick (.tmp 61) (.const (.bool true)) (.tmp 65), some (57, true)⟩,
    ⟨(some 67), .mov (.tmp 66), some (57, true)⟩,
    ⟨(some 68), .mov (.tmp 8), some (67, false)⟩,
    ⟨(some 69), .call (.const (.fn F.lens_Lens_Place [] [])) [(.tmp 68)], some (67, false)⟩,
    ⟨(some 70), .mov (.tmp 9), some (67, false)⟩,
    ⟨(some 71), .call (.const (.fn F.lens_Lens_Place [] [])) [(.tmp 70)], some (67, false)⟩,
    ⟨(some 72), .bin .neq (.tmp 69) (.tmp 71), some (67, false)⟩,
    ⟨(some 73), .pick (.tmp 67) (.const (.bool true)) (.tmp 72), some (57, true)⟩,
    ⟨(some 74), .pick (.tmp 57) (.tmp 73) (.const (.bool false)), none⟩,
    ⟨(some 75), .mov (.tmp 74), none⟩,
    ⟨(some 76), .mov (.tmp 8), some (75, false)⟩,
    ⟨(some 77), .call (.const (.fn F.lens_Lens_Err [] [])) [(.tmp 76)], some (75, false)⟩,
    ⟨(some 78), .bin .neq (.tmp 77) (.const (.int .i64 0)), some (75, false)⟩,
    ⟨(some 79), .mov (.tmp 78), some (75, false)⟩,
    ⟨(some 80), .mov (.tmp 11), some (79, true)⟩,
    ⟨(some 81), .len .slice (.tmp 80), some (79, true)⟩,
    ⟨(some 82), .bin .neq (.tmp 81) (.const (.int .i64 0)), some (79, true)⟩,
    ⟨(some 83), .pick (.tmp 79) (.tmp 82) (.const (.bool false)), some (75, false)⟩,
    ⟨(some 84), .pick (.tmp 75) (.const (.bool true)) (.tmp 83), none⟩] [2, 8, 9, 10, 84])
  (.cond (.tmp 84) (.seq (.region [⟨(some 6), .mov (.const (.bool false)), none⟩] [6])
  (.ret)) (.skip)))
  (.seq (.region [⟨(some 85), .mov (.tmp 8), none⟩,
    ⟨(some 86), .call (.const (.fn F.lens_Lens_Err [] [])) [(.tmp 85)], none⟩,
    ⟨(some 87), .bin .neq (.tmp 86) (.const (.int .i64 0)), none⟩] [2, 8, 9, 10, 87])
  (.cond (.tmp 87) (.seq (.region [⟨(some 88), .mov (.tmp 8), none⟩,
    ⟨(some 89), .call (.const (.fn F.lens_Lens_Err [] [])) [(.tmp 88)], none⟩,
    ⟨(some 90), .mov (.tmp 8), none⟩,
    ⟨(some 91), .call (.const (.fn F.lens_Lens_Place [] [])) [(.tmp 90)], none⟩,
    ⟨(some 13), .mov (.tmp 89), none⟩,
    ⟨(some 14), .mov (.tmp 91), none⟩] [8, 13, 14])
  (.seq (.region [⟨(some 92), .mov (.tmp 8), none⟩,
    ⟨(some 93), .call (.const (.fn F.lens_Lens_U32 [] [])) [(.tmp 92)], none⟩] [8, 13, 14])
  (.seq (.region [⟨(some 94), .mov (.tmp 8), none⟩,
    ⟨(some 95), .call (.const (.fn F.lens_Lens_Rest [] [])) [(.tmp 94)], none⟩] [8, 13, 14])
  (.seq (.region [⟨(some 96), .call (.const (.fn F.cuneiformlaw03_known [] [])) [], none⟩,
    ⟨(some 97), .mov (.tmp 96), none⟩,
    ⟨(some 98), .mov (.tmp 8), some (97, true)⟩,
    ⟨(some 99), .call (.const (.fn F.lens_Lens_Err [] [])) [(.tmp 98)], some (97, true)⟩,
    ⟨(some 100), .mov (.tmp 13), some (97, true)⟩,
    ⟨(some 101), .bin .eql (.tmp 99) (.tmp 100), some (97, true)⟩,
    ⟨(some 102), .pick (.tmp 97) (.tmp 101) (.const (.bool false)), none⟩,
    ⟨(some 103), .mov (.tmp 102), none⟩,
    ⟨(some 104), .mov (.tmp 8), some (103, true)⟩,
    ⟨(some 105), .call (.const (.fn F.lens_Lens_Place [] [])) [(.tmp 104)], some (103, true)⟩,
    ⟨(some 106), .mov (.tmp 14), some (103, true)⟩,
    ⟨(some 107), .bin .eql (.tmp 105) (.tmp 106), some (103, true)⟩,
    ⟨(some 108), .pick (.tmp 103) (.tmp 107) (.const (.bool false)), none⟩,
    ⟨(some 109), .mov (.tmp 108), none⟩,
    ⟨(some 110), .mov (.tmp 8), some (109, true)⟩,
    ⟨(some 111), .call (.const (.fn F.lens_Lens_End [] [])) [(.tmp 110)], some (109, true)⟩,
    ⟨(some 112), .mov (.tmp 13), some (109, true)⟩,
    ⟨(some 113), .bin .eql (.tmp 111) (.tmp 112), some (109, true)⟩,
    ⟨(some 114), .pick (.tmp 109) (.tmp 113) (.const (.bool false)), none⟩,
    ⟨(some 6), .mov (.tmp 114), none⟩] [6])
  (.ret))))) (.skip))))))
  (.region [⟨(some 46), .mov (.tmp 10), none⟩,
    ⟨(some 47), .bin .add (.tmp 46) (.const (.int .i64 1)), none⟩,
    ⟨(some 10), .mov (.tmp 47), none⟩] [2, 8, 9, 10]))
def cuneiformlaw03_LensCuts.body : ACode := .seq (.region [⟨(some 6), .mov (.const (.bool false)), none⟩] [0, 1, 2])
  (.seq (.region [⟨(some 15), .mov (.tmp 0), none⟩,
    ⟨(some 16), .mov (.tmp 0), none⟩,
    ⟨(some 17), .len .slice (.tmp 16), none⟩,
    ⟨(some 18), .maxmin false (.tmp 17) (.const (.int .i64 100)), none⟩,
    ⟨(some 19), .slice 1 .slice (.tmp 15) none (some (.tmp 18)) none, none⟩,
    ⟨(some 0), .mov (.tmp 19), none⟩] [0, 1, 2])
  (.seq (.region [⟨(some 20), .mov (.tmp 1), none⟩,
    ⟨(some 21), .conv .u64 (.tmp 20), none⟩,
    ⟨(some 22), .mov (.tmp 0), none⟩,
    ⟨(some 23), .len .slice (.tmp 22), none⟩,
    ⟨(some 24), .bin .add (.tmp 23) (.const (.int .i64 1)), none⟩,
    ⟨(some 25), .conv .u64 (.tmp 24), none⟩,
    ⟨(some 26), .bin .rem (.tmp 21) (.tmp 25), none⟩,
    ⟨(some 27), .conv .i64 (.tmp 26), none⟩,
    ⟨(some 7), .mov (.tmp 27), none⟩] [0, 2, 7])
  (.seq (.region [⟨(some 28), .mov (.tmp 2), none⟩,
    ⟨(some 29), .conv .u64 (.tmp 28), none⟩,
    ⟨(some 30), .bin .rem (.tmp 29) (.const (.int .u64 20)), none⟩,
    ⟨(some 31), .conv .i64 (.tmp 30), none⟩,
    ⟨(some 2), .mov (.tmp 31), none⟩] [0, 2, 7])
  (.seq (.region [⟨(some 32), .mov (.tmp 0), none⟩,
    ⟨(some 33), .mov (.tmp 7), none⟩,
    ⟨(some 34), .slice 1 .slice (.tmp 32) none (some (.tmp 33)) none, none⟩,
    ⟨(some 35), .call (.const (.fn F.lens_New [] [])) [(.tmp 34)], none⟩,
    ⟨(some 36), .mov (.tmp 0), none⟩,
    ⟨(some 37), .call (.const (.fn F.lens_New [] [])) [(.tmp 36)], none⟩,
    ⟨(some 8), .mov (.tmp 35), none⟩,
    ⟨(some 9), .mov (.tmp 37), none⟩] [2, 8, 9])
  (.seq (.seq (.region [⟨(some 38), .mov (.tmp 8), none⟩,
    ⟨(some 39), .eq false .ptr (.tmp 38) (.const .nilp), none⟩,
    ⟨(some 40), .mov (.tmp 39), none⟩,
    ⟨(some 41), .mov (.tmp 9), some (40, false)⟩,
    ⟨(some 42), .eq false .ptr (.tmp 41) (.const .nilp), some (40, false)⟩,
    ⟨(some 43), .pick (.tmp 40) (.const (.bool true)) (.tmp 42), none⟩] [2, 8, 9, 43])
  (.cond (.tmp 43) (.seq (.region [⟨(some 6), .mov (.const (.bool false)), none⟩] [6])
  (.ret)) (.skip)))
  (.seq (.seq (.region [⟨(some 10), .mov (.const (.int .i64 0)), none⟩] [2, 8, 9, 10])
  (.block 0 (.loop cuneiformlaw03_LensCuts.b0)))
  (.seq (.region [⟨(some 115), .call (.const (.fn F.cuneiformlaw03_known [] [])) [], none⟩,
    ⟨(some 6), .mov (.tmp 115), none⟩] [6])
  (.ret))))))))
def cuneiformlaw03_LensCuts : AFun := ⟨116, 3, [.tmp 6], cuneiformlaw03_LensCuts.body⟩
def cuneiformlaw03_LensReads.b0 : ACode := .seq (.seq (.region [⟨(some 33), .mov (.tmp 7), none⟩,
    ⟨(some 34), .mov (.tmp 0), none⟩,
    ⟨(some 35), .len .slice (.tmp 34), none⟩,
    ⟨(some 36), .bin .lss (.tmp 33) (.tmp 35), none⟩] [0, 1, 5, 6, 7, 36])
  (.cond (.tmp 36) (.skip) (.exit 0)))
  (.seq (.block 1 (.region [⟨(some 39), .mov (.tmp 0), none⟩,
    ⟨(some 40), .mov (.tmp 7), none⟩,
    ⟨(some 41), .idx 1 none (.tmp 39) (.tmp 40), none⟩,
    ⟨none, .store 1 (.tmp 41) (.const (.int .u8 7)), none⟩] [0, 1, 5, 6, 7]))
  (.region [⟨(some 37), .mov (.tmp 7), none⟩,
    ⟨(some 38), .bin .add (.tmp 37) (.const (.int .i64 1)), none⟩,
    ⟨(some 7), .mov (.tmp 38), none⟩] [0, 1, 5, 6, 7]))
def cuneiformlaw03_LensReads.b1 : ACode := .seq (.seq (.region [⟨(some 42), .mov (.tmp 8), none⟩,
    ⟨(some 43), .mov (.tmp 1), none⟩,
    ⟨(some 44), .len .slice (.tmp 43), none⟩,
    ⟨(some 45), .bin .lss (.tmp 42) (.tmp 44), none⟩,
    ⟨(some 46), .mov (.tmp 45), none⟩,
    ⟨(some 47), .mov (.tmp 8), some (46, true)⟩,
    ⟨(some 48), .bin .lss (.tmp 47) (.const (.int .i64 40)), some (46, true)⟩,
    ⟨(some 49), .pick (.tmp 46) (.tmp 48) (.const (.bool false)), none⟩] [1, 5, 6, 8, 49])
  (.cond (.tmp 49) (.skip) (.exit 2)))
  (.seq (.block 3 (.seq (.region [⟨(some 52), .mov (.tmp 1), none⟩,
    ⟨(some 53), .mov (.tmp 8), none⟩,
    ⟨(some 54), .idx 5 none (.tmp 52) (.tmp 53), none⟩,
    ⟨(some 55), .load (some 5) (.tmp 54), none⟩,
    ⟨(some 9), .alloc T.cuneiformlaw03_Act [(.int .i64 0), (.int .i64 0), (.int .u64 0), (.int .i64 0), (.int .i64 0)], none⟩,
    ⟨none, .store 5 (.tmp 9) (.tmp 55), none⟩] [1, 5, 6, 8, 9])
  (.seq (.region [⟨(some 10), .mov (.const (.int .u64 0)), none⟩,
    ⟨(some 11), .mov (.const (.int .u64 0)), none⟩] [1, 5, 6, 8, 9, 10, 11])
  (.seq (.region [⟨(some 12), .mov (.const (.int .i64 0)), none⟩,
    ⟨(some 13), .mov (.const (.int .i64 0)), none⟩] [1, 5, 6, 8, 9, 10, 11, 12, 13])
  (.seq (.region [⟨(some 14), .mov (.const .nils), none⟩,
    ⟨(some 15), .mov (.const .nils), none⟩] [1, 5, 6, 8, 9, 10, 11, 12, 13, 14, 15])
  (.seq (.region [⟨(some 16), .mov (.const (.int .u32 0)), none⟩,
    ⟨(some 17), .mov (.const (.bool true)), none⟩] [1, 5, 6, 8, 9, 10, 11, 12, 13, 14, 15, 17])
  (.seq (.seq (.region [⟨(some 56), .field 0 (.tmp 9), none⟩,
    ⟨(some 57), .load none (.tmp 56), none⟩] [1, 5, 6, 8, 9, 10, 11, 12, 13, 14, 15, 17, 57])
  (.block 4 (.seq (.region [⟨(some 59), .bin .eql (.tmp 57) (.const (.int .i64 0)), none⟩,
    ⟨(some 58), .mov (.tmp 59), none⟩] [1, 5, 6, 8, 9, 10, 11, 12, 13, 14, 15, 17, 57, 58])
  (.cond (.tmp 58) (.seq (.region [⟨(some 60), .mov (.tmp 5), none⟩,
    ⟨(some 61), .call (.const (.fn F.lens_Lens_U8 [] [])) [(.tmp 60)], none⟩,
    ⟨(some 62), .conv .u64 (.tmp 61), none⟩,
    ⟨(some 10), .mov (.tmp 62), none⟩] [1, 5, 6, 8, 10, 12, 13, 14, 15, 17])
  (.seq (.region [⟨(some 64), .load (some 3) (.tmp 6), none⟩,
    ⟨(some 65), .call (.const (.fn F.cuneiformref03_Word [] [])) [(.tmp 64), (.const (.int .i64 1))], none⟩,
    ⟨(some 63), .mov (.tmp 65), none⟩,
    ⟨(some 66), .extract (.tmp 63) 0, none⟩,
    ⟨(some 67), .extract (.tmp 63) 1, none⟩,
    ⟨none, .store 3 (.tmp 6) (.tmp 66), none⟩,
    ⟨(some 16), .mov (.tmp 67), none⟩] [1, 5, 6, 8, 10, 12, 13, 14, 15, 16, 17])
  (.region [⟨(some 68), .mov (.tmp 16), none⟩,
    ⟨(some 69), .conv .u64 (.tmp 68), none⟩,
    ⟨(some 11), .mov (.tmp 69), none⟩] [1, 5, 6, 8, 10, 11, 12, 13, 14, 15, 17]))) (.seq (.region [⟨(some 71), .bin .eql (.tmp 57) (.const (.int .i64 1)), none⟩,
    ⟨(some 70), .mov (.tmp 71), none⟩] [1, 5, 6, 8, 9, 10, 11, 12, 13, 14, 15, 17, 57, 70])
  (.cond (.tmp 70) (.seq (.region [⟨(some 72), .mov (.tmp 5), none⟩,
    ⟨(some 73), .call (.const (.fn F.lens_Lens_U16 [] [])) [(.tmp 72)], none⟩,
    ⟨(some 74), .conv .u64 (.tmp 73), none⟩,
    ⟨(some 10), .mov (.tmp 74), none⟩] [1, 5, 6, 8, 10, 12, 13, 14, 15, 17])
  (.seq (.region [⟨(some 76), .load (some 3) (.tmp 6), none⟩,
    ⟨(some 77), .call (.const (.fn F.cuneiformref03_Word [] [])) [(.tmp 76), (.const (.int .i64 2))], none⟩,
    ⟨(some 75), .mov (.tmp 77), none⟩,
    ⟨(some 78), .extract (.tmp 75) 0, none⟩,
    ⟨(some 79), .extract (.tmp 75) 1, none⟩,
    ⟨none, .store 3 (.tmp 6) (.tmp 78), none⟩,
    ⟨(some 16), .mov (.tmp 79), none⟩] [1, 5, 6, 8, 10, 12, 13, 14, 15, 16, 17])
  (.region [⟨(some 80), .mov (.tmp 16), none⟩,
    ⟨(some 81), .conv .u64 (.tmp 80), none⟩,
    ⟨(some 11), .mov (.tmp 81), none⟩] [1, 5, 6, 8, 10, 11, 12, 13, 14, 15, 17]))) (.seq (.region [⟨(some 83), .bin .eql (.tmp 57) (.const (.int .i64 2)), none⟩,
    ⟨(some 82), .mov (.tmp 83), none⟩] [1, 5, 6, 8, 9, 10, 11, 12, 13, 14, 15, 17, 57, 82])
  (.cond (.tmp 82) (.seq (.region [⟨(some 84), .mov (.tmp 5), none⟩,
    ⟨(some 85), .call (.const (.fn F.lens_Lens_U32 [] [])) [(.tmp 84)], none⟩,
    ⟨(some 86), .conv .u64 (.tmp 85), none⟩,
    ⟨(some 10), .mov (.tmp 86), none⟩] [1, 5, 6, 8, 10, 12, 13, 14, 15, 17])
  (.seq (.region [⟨(some 88), .load (some 3) (.tmp 6), none⟩,
    ⟨(some 89), .call (.const (.fn F.cuneiformref03_Word [] [])) [(.tmp 88), (.const (.int .i64 4))], none⟩,
    ⟨(some 87), .mov (.tmp 89), none⟩,
    ⟨(some 90), .extract (.tmp 87) 0, none⟩,
    ⟨(some 91), .extract (.tmp 87) 1, none⟩,
    ⟨none, .store 3 (.tmp 6) (.tmp 90), none⟩,
    ⟨(some 16), .mov (.tmp 91), none⟩] [1, 5, 6, 8, 10, 12, 13, 14, 15, 16, 17])
  (.region [⟨(some 92), .mov (.tmp 16), none⟩,
    ⟨(some 93), .conv .u64 (.tmp 92), none⟩,
    ⟨(some 11), .mov (.tmp 93), none⟩] [1, 5, 6, 8, 10, 11, 12, 13, 14, 15, 17]))) (.seq (.region [⟨(some 95), .bin .eql (.tmp 57) (.const (.int .i64 3)), none⟩,
    ⟨(some 94), .mov (.tmp 95), none⟩] [1, 5, 6, 8, 9, 10, 11, 12, 13, 14, 15, 17, 57, 94])
  (.cond (.tmp 94) (.seq (.region [⟨(some 96), .mov (.tmp 5), none⟩,
    ⟨(some 97), .field 2 (.tmp 9), none⟩,
    ⟨(some 98), .load none (.tmp 97), none⟩,
    ⟨(some 99), .call (.const (.fn F.lens_Lens_Number [] [])) [(.tmp 96), (.tmp 98)], none⟩,
    ⟨(some 10), .mov (.tmp 99), none⟩] [1, 5, 6, 8, 9, 10, 12, 13, 14, 15, 17])
  (.region [⟨(some 101), .load (some 3) (.tmp 6), none⟩,
    ⟨(some 102), .field 2 (.tmp 9), none⟩,
    ⟨(some 103), .load none (.tmp 102), none⟩,
    ⟨(some 104), .call (.const (.fn F.cuneiformref03_Number [] [])) [(.tmp 101), (.tmp 103)], none⟩,
    ⟨(some 100), .mov (.tmp 104), none⟩,
    ⟨(some 105), .extract (.tmp 100) 0, none⟩,
    ⟨(some 106), .extract (.tmp 100) 1, none⟩,
    ⟨none, .store 3 (.tmp 6) (.tmp 105), none⟩,
    ⟨(some 11), .mov (.tmp 106), none⟩] [1, 5, 6, 8, 10, 11, 12, 13, 14, 15, 17])) (.seq (.region [⟨(some 108), .bin .eql (.tmp 57) (.const (.int .i64 4)), none⟩,
    ⟨(some 107), .mov (.tmp 108), none⟩] [1, 5, 6, 8, 9, 10, 11, 12, 13, 14, 15, 17, 57, 107])
  (.cond (.tmp 107) (.seq (.region [⟨(some 109), .mov (.tmp 5), none⟩,
    ⟨(some 110), .field 3 (.tmp 9), none⟩,
    ⟨(some 111), .load none (.tmp 110), none⟩,
    ⟨(some 112), .field 4 (.tmp 9), none⟩,
    ⟨(some 113), .load none (.tmp 112), none⟩,
    ⟨(some 114), .call (.const (.fn F.lens_Lens_Signed [] [])) [(.tmp 109), (.tmp 111), (.tmp 113)], none⟩,
    ⟨(some 12), .mov (.tmp 114), none⟩] [1, 5, 6, 8, 9, 10, 11, 12, 14, 15, 17])
  (.region [⟨(some 116), .load (some 3) (.tmp 6), none⟩,
    ⟨(some 117), .field 3 (.tmp 9), none⟩,
    ⟨(some 118), .load none (.tmp 117), none⟩,
    ⟨(some 119), .field 4 (.tmp 9), none⟩,
    ⟨(some 120), .load none (.tmp 119), none⟩,
    ⟨(some 121), .call (.const (.fn F.cuneiformref03_Signed [] [])) [(.tmp 116), (.tmp 118), (.tmp 120)], none⟩,
    ⟨(some 115), .mov (.tmp 121), none⟩,
    ⟨(some 122), .extract (.tmp 115) 0, none⟩,
    ⟨(some 123), .extract (.tmp 115) 1, none⟩,
    ⟨none, .store 3 (.tmp 6) (.tmp 122), none⟩,
    ⟨(some 13), .mov (.tmp 123), none⟩] [1, 5, 6, 8, 10, 11, 12, 13, 14, 15, 17])) (.seq (.region [⟨(some 125), .bin .eql (.tmp 57) (.const (.int .i64 5)), none⟩,
    ⟨(some 124), .mov (.tmp 125), none⟩] [1, 5, 6, 8, 9, 10, 11, 12, 13, 14, 15, 17, 57, 124])
  (.cond (.tmp 124) (.seq (.region [⟨(some 126), .mov (.tmp 5), none⟩,
    ⟨(some 127), .field 1 (.tmp 9), none⟩,
    ⟨(some 128), .load none (.tmp 127), none⟩,
    ⟨(some 129), .call (.const (.fn F.lens_Lens_Raw [] [])) [(.tmp 126), (.tmp 128)], none⟩,
    ⟨(some 14), .mov (.tmp 129), none⟩] [1, 5, 6, 8, 9, 10, 11, 12, 13, 14, 17])
  (.region [⟨(some 131), .load (some 3) (.tmp 6), none⟩,
    ⟨(some 132), .field 1 (.tmp 9), none⟩,
    ⟨(some 133), .load none (.tmp 132), none⟩,
    ⟨(some 134), .call (.const (.fn F.cuneiformref03_Raw [] [])) [(.tmp 131), (.tmp 133)], none⟩,
    ⟨(some 130), .mov (.tmp 134), none⟩,
    ⟨(some 135), .extract (.tmp 130) 0, none⟩,
    ⟨(some 136), .extract (.tmp 130) 1, none⟩,
    ⟨none, .store 3 (.tmp 6) (.tmp 135), none⟩,
    ⟨(some 15), .mov (.tmp 136), none⟩] [1, 5, 6, 8, 10, 11, 12, 13, 14, 15, 17])) (.seq (.region [⟨(some 138), .bin .eql (.tmp 57) (.const (.int .i64 6)), none⟩,
    ⟨(some 137), .mov (.tmp 138), none⟩] [1, 5, 6, 8, 9, 10, 11, 12, 13, 14, 15, 17, 57, 137])
  (.cond (.tmp 137) (.seq (.region [⟨(some 139), .mov (.tmp 5), none⟩,
    ⟨(some 140), .field 1 (.tmp 9), none⟩,
    ⟨(some 141), .load none (.tmp 140), none⟩,
    ⟨(some 142), .call (.const (.fn F.lens_Lens_Field [] [])) [(.tmp 139), (.tmp 141)], none⟩,
    ⟨(some 14), .mov (.tmp 142), none⟩] [1, 5, 6, 8, 9, 10, 11, 12, 13, 14, 17])
  (.region [⟨(some 144), .load (some 3) (.tmp 6), none⟩,
    ⟨(some 145), .field 1 (.tmp 9), none⟩,
    ⟨(some 146), .load none (.tmp 145), none⟩,
    ⟨(some 147), .call (.const (.fn F.cuneiformref03_Field [] [])) [(.tmp 144), (.tmp 146)], none⟩,
    ⟨(some 143), .mov (.tmp 147), none⟩,
    ⟨(some 148), .extract (.tmp 143) 0, none⟩,
    ⟨(some 149), .extract (.tmp 143) 1, none⟩,
    ⟨none, .store 3 (.tmp 6) (.tmp 148), none⟩,
    ⟨(some 15), .mov (.tmp 149), none⟩] [1, 5, 6, 8, 10, 11, 12, 13, 14, 15, 17])) (.seq (.region [⟨(some 151), .bin .eql (.tmp 57) (.const (.int .i64 7)), none⟩,
    ⟨(some 150), .mov (.tmp 151), none⟩] [1, 5, 6, 8, 9, 10, 11, 12, 13, 14, 15, 17, 57, 150])
  (.cond (.tmp 150) (.seq (.region [⟨(some 152), .mov (.tmp 5), none⟩,
    ⟨(some 153), .call (.const (.fn F.lens_Lens_Rest [] [])) [(.tmp 152)], none⟩,
    ⟨(some 14), .mov (.tmp 153), none⟩] [1, 5, 6, 8, 10, 11, 12, 13, 14, 17])
  (.region [⟨(some 155), .load (some 3) (.tmp 6), none⟩,
    ⟨(some 156), .field 0 (.tmp 6), none⟩,
    ⟨(some 157), .load none (.tmp 156), none⟩,
    ⟨(some 158), .len .slice (.tmp 157), none⟩,
    ⟨(some 159), .field 1 (.tmp 6), none⟩,
    ⟨(some 160), .load none (.tmp 159), none⟩,
    ⟨(some 161), .bin .sub (.tmp 158) (.tmp 160), none⟩,
    ⟨(some 162), .call (.const (.fn F.cuneiformref03_Raw [] [])) [(.tmp 155), (.tmp 161)], none⟩,
    ⟨(some 154), .mov (.tmp 162), none⟩,
    ⟨(some 163), .extract (.tmp 154) 0, none⟩,
    ⟨(some 164), .extract (.tmp 154) 1, none⟩,
    ⟨none, .store 3 (.tmp 6) (.tmp 163), none⟩,
    ⟨(some 15), .mov (.tmp 164), none⟩] [1, 5, 6, 8, 10, 11, 12, 13, 14, 15, 17])) (.seq (.region [⟨(some 166), .bin .eql (.tmp 57) (.const (.int .i64 8)), none⟩,
    ⟨(some 165), .mov (.tmp 166), none⟩] [1, 5, 6, 8, 9, 10, 11, 12, 13, 14, 15, 17, 165])
  (.cond (.tmp 165) (.region [⟨(some 168), .mov (.tmp 5), none⟩,
    ⟨(some 169), .load (some 3) (.tmp 6), none⟩,
    ⟨(some 170), .field 1 (.tmp 9), none⟩,
    ⟨(some 171), .load none (.tmp 170), none⟩,
    ⟨(some 172), .call (.const (.fn F.cuneiformlaw03_words [] [])) [(.tmp 168), (.tmp 169), (.tmp 171)], none⟩,
    ⟨(some 167), .mov (.tmp 172), none⟩,
    ⟨(some 173), .extract (.tmp 167) 0, none⟩,
    ⟨(some 174), .extract (.tmp 167) 1, none⟩,
    ⟨none, .store 3 (.tmp 6) (.tmp 173), none⟩,
    ⟨(some 17), .mov (.tmp 174), none⟩] [1, 5, 6, 8, 10, 11, 12, 13, 14, 15, 17]) (.skip)))))))))))))))))))))
  (.seq (.region [⟨(some 175), .mov (.tmp 10), none⟩,
    ⟨(some 176), .mov (.tmp 11), none⟩,
    ⟨(some 177), .bin .neq (.tmp 175) (.tmp 176), none⟩,
    ⟨(some 178), .mov (.tmp 177), none⟩,
    ⟨(some 179), .mov (.tmp 12), some (178, false)⟩,
    ⟨(some 180), .mov (.tmp 13), some (178, false)⟩,
    ⟨(some 181), .bin .neq (.tmp 179) (.tmp 180), some (178, false)⟩,
    ⟨(some 182), .pick (.tmp 178) (.const (.bool true)) (.tmp 181), none⟩,
    ⟨(some 183), .mov (.tmp 182), none⟩,
    ⟨(some 184), .mov (.tmp 17), some (183, false)⟩,
    ⟨(some 185), .un .not (.tmp 184), some (183, false)⟩,
    ⟨(some 186), .pick (.tmp 183) (.const (.bool true)) (.tmp 185), none⟩,
    ⟨(some 187), .mov (.tmp 186), none⟩,
    ⟨(some 188), .mov (.tmp 14), some (187, false)⟩,
    ⟨(some 189), .mov (.tmp 15), some (187, false)⟩,
    ⟨(some 190), .call (.const (.fn F.cuneiformref01_Same [] [])) [(.tmp 188), (.tmp 189)], some (187, false)⟩,
    ⟨(some 191), .un .not (.tmp 190), some (187, false)⟩,
    ⟨(some 192), .pick (.tmp 187) (.const (.bool true)) (.tmp 191), none⟩,
    ⟨(some 193), .mov (.tmp 192), none⟩,
    ⟨(some 194), .mov (.tmp 5), some (193, false)⟩,
    ⟨(some 195), .load (some 3) (.tmp 6), some (193, false)⟩,
    ⟨(some 196), .call (.const (.fn F.cuneiformlaw03_Alike [] [])) [(.tmp 194), (.tmp 195)], some (193, false)⟩,
    ⟨(some 197), .un .not (.tmp 196), some (193, false)⟩,
    ⟨(some 198), .pick (.tmp 193) (.const (.bool true)) (.tmp 197), none⟩] [1, 5, 6, 8, 198])
  (.cond (.tmp 198) (.seq (.region [⟨(some 4), .mov (.const (.bool false)), none⟩] [4])
  (.ret)) (.skip))))))))))
  (.region [⟨(some 50), .mov (.tmp 8), none⟩,
    ⟨(some 51), .bin .add (.tmp 50) (.const (.int .i64 1)), none⟩,
    ⟨(some 8), .mov (.tmp 51), none⟩] [1, 5, 6, 8]))
def cuneiformlaw03_LensReads.body : ACode := .seq (.region [⟨(some 4), .mov (.const (.bool false)), none⟩] [0, 1])
  (.seq (.region [⟨(some 18), .lit T.uint8 1 0 [] [], none⟩,
    ⟨(some 19), .mov (.tmp 0), none⟩,
    ⟨(some 20), .mov (.tmp 0), none⟩,
    ⟨(some 21), .len .slice (.tmp 20), none⟩,
    ⟨(some 22), .maxmin false (.tmp 21) (.const (.int .i64 300)), none⟩,
    ⟨(some 23), .slice 1 .slice (.tmp 19) none (some (.tmp 22)) none, none⟩,
    ⟨(some 24), .append T.uint8 1 1 (.tmp 18) (.tmp 23), none⟩,
    ⟨(some 0), .mov (.tmp 24), none⟩] [0, 1])
  (.seq (.region [⟨(some 25), .mov (.tmp 0), none⟩,
    ⟨(some 26), .call (.const (.fn F.lens_New [] [])) [(.tmp 25)], none⟩,
    ⟨(some 5), .mov (.tmp 26), none⟩] [0, 1, 5])
  (.seq (.region [⟨(some 27), .lit T.uint8 1 0 [] [], none⟩,
    ⟨(some 28), .mov (.tmp 0), none⟩,
    ⟨(some 29), .append T.uint8 1 1 (.tmp 27) (.tmp 28), none⟩,
    ⟨(some 30), .build [.nils, (.int .i64 0), (.int .i64 0)] [(0, 1, (.tmp 29))], none⟩,
    ⟨(some 6), .alloc T.cuneiformref03_L [.nils, (.int .i64 0), (.int .i64 0)], none⟩,
    ⟨none, .store 3 (.tmp 6) (.tmp 30), none⟩] [0, 1, 5, 6])
  (.seq (.seq (.region [⟨(some 31), .mov (.tmp 5), none⟩,
    ⟨(some 32), .eq false .ptr (.tmp 31) (.const .nilp), none⟩] [0, 1, 5, 6, 32])
  (.cond (.tmp 32) (.seq (.region [⟨(some 4), .mov (.const (.bool false)), none⟩] [4])
  (.ret)) (.skip)))
  (.seq (.seq (.region [⟨(some 7), .mov (.const (.int .i64 0)), none⟩] [0, 1, 5, 6, 7])
  (.block 0 (.loop cuneiformlaw03_LensReads.b0)))
  (.seq (.seq (.region [⟨(some 8), .mov (.const (.int .i64 0)), none⟩] [1, 5, 6, 8])
  (.block 2 (.loop cuneiformlaw03_LensReads.b1)))
  (.seq (.region [⟨(some 199), .call (.const (.fn F.cuneiformlaw03_known [] [])) [], none⟩,
    ⟨(some 4), .mov (.tmp 199), none⟩] [4])
  (.ret))))))))
def cuneiformlaw03_LensReads : AFun := ⟨200, 2, [.tmp 4], cuneiformlaw03_LensReads.body⟩
def cuneiformlaw03_LensNil.a0 : ACode := .skip
def cuneiformlaw03_LensNil.b0 : ACode := .block 1 (.region [⟨(some 12), .load none (.tmp 4), none⟩,
    ⟨(some 13), .bin .add (.tmp 12) (.const (.int .i64 1)), none⟩,
    ⟨none, .store 1 (.tmp 4) (.tmp 13), none⟩] [])
def cuneiformlaw03_LensNil.body : ACode := .seq (.region [⟨(some 2), .mov (.const (.bool false)), none⟩] [0, 2])
  (.seq (.region [⟨(some 3), .mov (.const .nilp), none⟩] [0, 2, 3])
  (.seq (.region [⟨(some 4), .alloc T.int [(.int .i64 0)], none⟩,
    ⟨none, .store 1 (.tmp 4) (.const (.int .i64 0)), none⟩] [0, 2, 3, 4])
  (.seq (.region [⟨(some 6), .mov (.tmp 3), none⟩,
    ⟨(some 7), .call (.const (.fn F.lens_Lens_Words [] [])) [(.tmp 6), (.const (.int .i64 1))], none⟩,
    ⟨(some 5), .mov (.tmp 7), none⟩] [0, 2, 3, 4, 5])
  (.seq (.seq (.region [⟨(some 8), .mov (.tmp 5), none⟩,
    ⟨(some 9), .eq false .func (.tmp 8) (.const .nilf), none⟩] [0, 2, 3, 4, 5, 9])
  (.cond (.tmp 9) (.seq (.region [⟨(some 2), .mov (.const (.bool false)), none⟩] [2])
  (.ret)) (.skip)))
  (.seq (.seq (.region [⟨(some 10), .mov (.tmp 5), none⟩] [0, 2, 3, 4, 10])
  (.block 0 (.range (.tmp 10) [11] cuneiformlaw03_LensNil.a0 cuneiformlaw03_LensNil.b0)))
  (.seq (.region [⟨(some 14), .call (.const (.fn F.cuneiformlaw03_known [] [])) [], none⟩,
    ⟨(some 15), .mov (.tmp 14), none⟩,
    ⟨(some 16), .mov (.tmp 3), some (15, true)⟩,
    ⟨(some 17), .call (.const (.fn F.lens_Lens_U8 [] [])) [(.tmp 16)], some (15, true)⟩,
    ⟨(some 18), .bin .eql (.tmp 17) (.const (.int .u8 0)), some (15, true)⟩,
    ⟨(some 19), .pick (.tmp 15) (.tmp 18) (.const (.bool false)), none⟩,
    ⟨(some 20), .mov (.tmp 19), none⟩,
    ⟨(some 21), .mov (.tmp 3), some (20, true)⟩,
    ⟨(some 22), .call (.const (.fn F.lens_Lens_U16 [] [])) [(.tmp 21)], some (20, true)⟩,
    ⟨(some 23), .bin .eql (.tmp 22) (.const (.int .u16 0)), some (20, true)⟩,
    ⟨(some 24), .pick (.tmp 20) (.tmp 23) (.const (.bool false)), none⟩,
    ⟨(some 25), .mov (.tmp 24), none⟩,
    ⟨(some 26), .mov (.tmp 3), some (25, true)⟩,
    ⟨(some 27), .call (.const (.fn F.lens_Lens_U32 [] [])) [(.tmp 26)], some (25, true)⟩,
    ⟨(some 28), .bin .eql (.tmp 27) (.const (.int .u32 0)), some (25, true)⟩,
    ⟨(some 29), .pick (.tmp 25) (.tmp 28) (.const (.bool false)), none⟩,
    ⟨(some 30), .mov (.tmp 29), none⟩,
    ⟨(some 31), .mov (.tmp 3), some (30, true)⟩,
    ⟨(some 32), .call (.const (.fn F.lens_Lens_Number [] [])) [(.tmp 31), (.const (.int .u64 5))], some (30, true)⟩,
    ⟨(some 33), .bin .eql (.tmp 32) (.const (.int .u64 0)), some (30, true)⟩,
    ⟨(some 34), .pick (.tmp 30) (.tmp 33) (.const (.bool false)), none⟩,
    ⟨(some 35), .mov (.tmp 34), none⟩,
    ⟨(some 36), .mov (.tmp 3), some (35, true)⟩,
    ⟨(some 37), .call (.const (.fn F.lens_Lens_Signed [] [])) [(.tmp 36), (.const (.int .i64 (-5))), (.const (.int .i64 5))], some (35, true)⟩,
    ⟨(some 38), .bin .eql (.tmp 37) (.const (.int .i64 0)), some (35, true)⟩,
    ⟨(some 39), .pick (.tmp 35) (.tmp 38) (.const (.bool false)), none⟩,
    ⟨(some 40), .mov (.tmp 39), none⟩,
    ⟨(some 41), .mov (.tmp 3), some (40, true)⟩,
    ⟨(some 42), .mov (.tmp 0), some (40, true)⟩,
    ⟨(some 43), .call (.const (.fn F.lens_Lens_Raw [] [])) [(.tmp 41), (.tmp 42)], some (40, true)⟩,
    ⟨(some 44), .len .slice (.tmp 43), some (40, true)⟩,
    ⟨(some 45), .bin .eql (.tmp 44) (.const (.int .i64 0)), some (40, true)⟩,
    ⟨(some 46), .pick (.tmp 40) (.tmp 45) (.const (.bool false)), none⟩,
    ⟨(some 47), .mov (.tmp 46), none⟩,
    ⟨(some 48), .mov (.tmp 3), some (47, true)⟩,
    ⟨(some 49), .mov (.tmp 0), some (47, true)⟩,
    ⟨(some 50), .call (.const (.fn F.lens_Lens_Field [] [])) [(.tmp 48), (.tmp 49)], some (47, true)⟩,
    ⟨(some 51), .len .slice (.tmp 50), some (47, true)⟩,
    ⟨(some 52), .bin .eql (.tmp 51) (.const (.int .i64 0)), some (47, true)⟩,
    ⟨(some 53), .pick (.tmp 47) (.tmp 52) (.const (.bool false)), none⟩,
    ⟨(some 54), .mov (.tmp 53), none⟩,
    ⟨(some 55), .mov (.tmp 3), some (54, true)⟩,
    ⟨(some 56), .call (.const (.fn F.lens_Lens_Rest [] [])) [(.tmp 55)], some (54, true)⟩,
    ⟨(some 57), .len .slice (.tmp 56), some (54, true)⟩,
    ⟨(some 58), .bin .eql (.tmp 57) (.const (.int .i64 0)), some (54, true)⟩,
    ⟨(some 59), .pick (.tmp 54) (.tmp 58) (.const (.bool false)), none⟩,
    ⟨(some 60), .mov (.tmp 59), none⟩,
    ⟨(some 61), .mov (.tmp 3), some (60, true)⟩,
    ⟨(some 62), .call (.const (.fn F.lens_Lens_Left [] [])) [(.tmp 61)], some (60, true)⟩,
    ⟨(some 63), .bin .eql (.tmp 62) (.const (.int .i64 0)), some (60, true)⟩,
    ⟨(some 64), .pick (.tmp 60) (.tmp 63) (.const (.bool false)), none⟩,
    ⟨(some 65), .mov (.tmp 64), none⟩,
    ⟨(some 66), .mov (.tmp 3), some (65, true)⟩,
    ⟨(some 67), .call (.const (.fn F.lens_Lens_Place [] [])) [(.tmp 66)], some (65, true)⟩,
    ⟨(some 68), .bin .eql (.tmp 67) (.const (.int .i64 0)), some (65, true)⟩,
    ⟨(some 69), .pick (.tmp 65) (.tmp 68) (.const (.bool false)), none⟩,
    ⟨(some 70), .mov (.tmp 69), none⟩,
    ⟨(some 71), .mov (.tmp 3), some (70, true)⟩,
    ⟨(some 72), .call (.const (.fn F.lens_Lens_Err [] [])) [(.tmp 71)], some (70, true)⟩,
    ⟨(some 73), .bin .eql (.tmp 72) (.const (.int .i64 1)), some (70, true)⟩,
    ⟨(some 74), .pick (.tmp 70) (.tmp 73) (.const (.bool false)), none⟩,
    ⟨(some 75), .mov (.tmp 74), none⟩,
    ⟨(some 76), .mov (.tmp 3), some (75, true)⟩,
    ⟨(some 77), .call (.const (.fn F.lens_Lens_End [] [])) [(.tmp 76)], some (75, true)⟩,
    ⟨(some 78), .bin .eql (.tmp 77) (.const (.int .i64 1)), some (75, true)⟩,
    ⟨(some 79), .pick (.tmp 75) (.tmp 78) (.const (.bool false)), none⟩,
    ⟨(some 80), .mov (.tmp 79), none⟩,
    ⟨(some 81), .load none (.tmp 4), some (80, true)⟩,
    ⟨(some 82), .bin .eql (.tmp 81) (.const (.int .i64 0)), some (80, true)⟩,
    ⟨(some 83), .pick (.tmp 80) (.tmp 82) (.const (.bool false)), none⟩,
    ⟨(some 2), .mov (.tmp 83), none⟩] [2])
  (.ret)))))))
def cuneiformlaw03_LensNil : AFun := ⟨84, 1, [.tmp 2], cuneiformlaw03_LensNil.body⟩
def cuneiformlaw03_LensPen.d0 : List AOper := [⟨(some 17), .mov (.tmp 3), none⟩,
    ⟨(some 18), .mov (.tmp 3), none⟩,
    ⟨(some 19), .len .slice (.tmp 18), none⟩,
    ⟨(some 20), .maxmin false (.tmp 19) (.const (.int .i64 20)), none⟩,
    ⟨(some 21), .slice 1 .slice (.tmp 17) none (some (.tmp 20)) none, none⟩,
    ⟨(some 22), .mov (.tmp 4), none⟩,
    ⟨(some 23), .mov (.tmp 4), none⟩,
    ⟨(some 24), .len .slice (.tmp 23), none⟩,
    ⟨(some 25), .maxmin false (.tmp 24) (.const (.int .i64 20)), none⟩,
    ⟨(some 26), .slice 1 .slice (.tmp 22) none (some (.tmp 25)) none, none⟩,
    ⟨(some 27), .mov (.tmp 5), none⟩,
    ⟨(some 28), .mov (.tmp 5), none⟩,
    ⟨(some 29), .len .slice (.tmp 28), none⟩,
    ⟨(some 30), .maxmin false (.tmp 29) (.const (.int .i64 100)), none⟩,
    ⟨(some 31), .slice 1 .slice (.tmp 27) none (some (.tmp 30)) none, none⟩,
    ⟨(some 3), .mov (.tmp 21), none⟩,
    ⟨(some 4), .mov (.tmp 26), none⟩,
    ⟨(some 5), .mov (.tmp 31), none⟩]
def cuneiformlaw03_LensPen.d0b : List (List Nat) := [[], [], [1], [1, 2], [0, 1, 2, 3], [], [], [6], [6, 7], [5, 6, 7, 8], [], [], [11], [11, 12], [10, 11, 12, 13], [0, 1, 2, 3, 4], [0, 1, 2, 3, 4, 5, 6, 7, 8, 9, 15], [0, 1, 2, 3, 4, 5, 6, 7, 8, 9, 10, 11, 12, 13, 14, 15, 16]]
def cuneiformlaw03_LensPen.d1 : List AOper := [⟨(some 76), .mov (.tmp 14), none⟩,
    ⟨(some 77), .mov (.tmp 3), none⟩,
    ⟨(some 78), .mov (.tmp 15), none⟩,
    ⟨(some 79), .idx 1 none (.tmp 77) (.tmp 78), none⟩,
    ⟨(some 80), .load none (.tmp 79), none⟩,
    ⟨(some 81), .call (.const (.fn F.lens_Lens_Number [] [])) [(.tmp 76), (.tmp 80)], none⟩,
    ⟨(some 82), .mov (.tmp 3), none⟩,
    ⟨(some 83), .mov (.tmp 15), none⟩,
    ⟨(some 84), .idx 1 none (.tmp 82) (.tmp 83), none⟩,
    ⟨(some 85), .load none (.tmp 84), none⟩,
    ⟨(some 86), .bin .neq (.tmp 81) (.tmp 85), none⟩]
def cuneiformlaw03_LensPen.d1b : List (List Nat) := [[], [], [], [1, 2], [1, 2, 3], [0, 1, 2, 3, 4], [], [], [6, 7], [6, 7, 8], [0, 1, 2, 3, 4, 5, 6, 7, 8, 9]]
def cuneiformlaw03_LensPen.b2 : ACode := .seq (.seq (.region [⟨(some 70), .mov (.tmp 15), none⟩,
    ⟨(some 71), .mov (.tmp 3), none⟩,
    ⟨(some 72), .len .slice (.tmp 71), none⟩,
    ⟨(some 73), .bin .lss (.tmp 70) (.tmp 72), none⟩] [1, 2, 3, 4, 5, 14, 15, 73])
  (.cond (.tmp 73) (.skip) (.exit 0)))
  (.seq (.block 1 (.seq (.draw cuneiformlaw03_LensPen.d1 cuneiformlaw03_LensPen.d1b [[0, 1, 2, 3, 4, 6, 7, 8, 9, 5, 10]] [(5, 8), (5, 9)] [1, 2, 3, 4, 5, 14, 15, 86])
  (.cond (.tmp 86) (.seq (.region [⟨(some 12), .mov (.const (.bool false)), none⟩] [12])
  (.ret)) (.skip))))
  (.region [⟨(some 74), .mov (.tmp 15), none⟩,
    ⟨(some 75), .bin .add (.tmp 74) (.const (.int .i64 1)), none⟩,
    ⟨(some 15), .mov (.tmp 75), none⟩] [1, 2, 3, 4, 5, 14, 15]))
def cuneiformlaw03_LensPen.d3 : List AOper := [⟨(some 106), .mov (.tmp 14), none⟩,
    ⟨(some 107), .mov (.tmp 4), none⟩,
    ⟨(some 108), .mov (.tmp 16), none⟩,
    ⟨(some 109), .idx 1 none (.tmp 107) (.tmp 108), none⟩,
    ⟨(some 110), .load none (.tmp 109), none⟩,
    ⟨(some 111), .mov (.tmp 4), none⟩,
    ⟨(some 112), .mov (.tmp 16), none⟩,
    ⟨(some 113), .idx 1 none (.tmp 111) (.tmp 112), none⟩,
    ⟨(some 114), .load none (.tmp 113), none⟩,
    ⟨(some 115), .call (.const (.fn F.lens_Lens_Signed [] [])) [(.tmp 106), (.tmp 110), (.tmp 114)], none⟩,
    ⟨(some 116), .mov (.tmp 4), none⟩,
    ⟨(some 117), .mov (.tmp 16), none⟩,
    ⟨(some 118), .idx 1 none (.tmp 116) (.tmp 117), none⟩,
    ⟨(some 119), .load none (.tmp 118), none⟩,
    ⟨(some 120), .bin .neq (.tmp 115) (.tmp 119), none⟩]
def cuneiformlaw03_LensPen.d3b : List (List Nat) := [[], [], [], [1, 2], [1, 2, 3], [], [], [5, 6], [5, 6, 7], [0, 1, 2, 3, 4, 5, 6, 7, 8], [], [], [10, 11], [10, 11, 12], [0, 1, 2, 3, 4, 5, 6, 7, 8, 9, 10, 11, 12, 13]]
def cuneiformlaw03_LensPen.b4 : ACode := .seq (.seq (.region [⟨(some 100), .mov (.tmp 16), none⟩,
    ⟨(some 101), .mov (.tmp 4), none⟩,
    ⟨(some 102), .len .slice (.tmp 101), none⟩,
    ⟨(some 103), .bin .lss (.tmp 100) (.tmp 102), none⟩] [2, 4, 5, 14, 16, 103])
  (.cond (.tmp 103) (.skip) (.exit 2)))
  (.seq (.block 3 (.seq (.draw cuneiformlaw03_LensPen.d3 cuneiformlaw03_LensPen.d3b [[0, 1, 2, 3, 4, 5, 6, 7, 8, 10, 11, 12, 13, 9, 14]] [(9, 12), (9, 13)] [2, 4, 5, 14, 16, 120])
  (.cond (.tmp 120) (.seq (.region [⟨(some 12), .mov (.const (.bool false)), none⟩] [12])
  (.ret)) (.skip))))
  (.region [⟨(some 104), .mov (.tmp 16), none⟩,
    ⟨(some 105), .bin .add (.tmp 104) (.const (.int .i64 1)), none⟩,
    ⟨(some 16), .mov (.tmp 105), none⟩] [2, 4, 5, 14, 16]))
def cuneiformlaw03_LensPen.body : ACode := .seq (.region [⟨(some 12), .mov (.const (.bool false)), none⟩] [0, 1, 2, 3, 4, 5])
  (.seq (.draw cuneiformlaw03_LensPen.d0 cuneiformlaw03_LensPen.d0b [[0, 1, 2, 3, 4, 5, 6, 7, 8, 9, 10, 11, 12, 13, 14, 15, 16, 17]] [] [0, 1, 2, 3, 4, 5])
  (.seq (.region [⟨(some 32), .call (.const (.fn F.pen_New [] [])) [(.const (.int .i64 1000))], none⟩,
    ⟨(some 13), .mov (.tmp 32), none⟩] [0, 1, 2, 3, 4, 5, 13])
  (.seq (.seq (.region [⟨(some 33), .mov (.tmp 13), none⟩,
    ⟨(some 34), .eq false .ptr (.tmp 33) (.const .nilp), none⟩] [0, 1, 2, 3, 4, 5, 13, 34])
  (.cond (.tmp 34) (.seq (.region [⟨(some 12), .mov (.const (.bool false)), none⟩] [12])
  (.ret)) (.skip)))
  (.seq (.region [⟨(some 35), .mov (.tmp 13), none⟩,
    ⟨(some 36), .mov (.tmp 0), none⟩,
    ⟨(some 37), .call (.const (.fn F.pen_Pen_U8 [] [])) [(.tmp 35), (.tmp 36)], none⟩] [0, 1, 2, 3, 4, 5, 13])
  (.seq (.region [⟨(some 38), .mov (.tmp 13), none⟩,
    ⟨(some 39), .mov (.tmp 3), none⟩,
    ⟨(some 40), .call (.const (.fn F.pen_Pen_Number [] [])) [(.tmp 38), (.tmp 39)], none⟩] [0, 1, 2, 3, 4, 5, 13])
  (.seq (.region [⟨(some 41), .mov (.tmp 13), none⟩,
    ⟨(some 42), .mov (.tmp 1), none⟩,
    ⟨(some 43), .call (.const (.fn F.pen_Pen_U16 [] [])) [(.tmp 41), (.tmp 42)], none⟩] [0, 1, 2, 3, 4, 5, 13])
  (.seq (.region [⟨(some 44), .mov (.tmp 13), none⟩,
    ⟨(some 45), .mov (.tmp 5), none⟩,
    ⟨(some 46), .call (.const (.fn F.pen_Pen_Field [] [])) [(.tmp 44), (.tmp 45)], none⟩] [0, 1, 2, 3, 4, 5, 13])
  (.seq (.region [⟨(some 47), .mov (.tmp 13), none⟩,
    ⟨(some 48), .mov (.tmp 4), none⟩,
    ⟨(some 49), .call (.const (.fn F.pen_Pen_Signed [] [])) [(.tmp 47), (.tmp 48)], none⟩] [0, 1, 2, 3, 4, 5, 13])
  (.seq (.region [⟨(some 50), .mov (.tmp 13), none⟩,
    ⟨(some 51), .mov (.tmp 2), none⟩,
    ⟨(some 52), .call (.const (.fn F.pen_Pen_U32 [] [])) [(.tmp 50), (.tmp 51)], none⟩] [0, 1, 2, 3, 4, 5, 13])
  (.seq (.region [⟨(some 53), .mov (.tmp 13), none⟩,
    ⟨(some 54), .mov (.tmp 5), none⟩,
    ⟨(some 55), .call (.const (.fn F.pen_Pen_Raw [] [])) [(.tmp 53), (.tmp 54)], none⟩] [0, 1, 2, 3, 4, 5, 13])
  (.seq (.seq (.region [⟨(some 56), .mov (.tmp 13), none⟩,
    ⟨(some 57), .call (.const (.fn F.pen_Pen_Err [] [])) [(.tmp 56)], none⟩,
    ⟨(some 58), .bin .neq (.tmp 57) (.const (.int .i64 0)), none⟩] [0, 1, 2, 3, 4, 5, 13, 58])
  (.cond (.tmp 58) (.seq (.region [⟨(some 12), .mov (.const (.bool false)), none⟩] [12])
  (.ret)) (.skip)))
  (.seq (.region [⟨(some 59), .mov (.tmp 13), none⟩,
    ⟨(some 60), .call (.const (.fn F.pen_Pen_Bytes [] [])) [(.tmp 59)], none⟩,
    ⟨(some 61), .call (.const (.fn F.lens_New [] [])) [(.tmp 60)], none⟩,
    ⟨(some 14), .mov (.tmp 61), none⟩] [0, 1, 2, 3, 4, 5, 14])
  (.seq (.seq (.region [⟨(some 62), .mov (.tmp 14), none⟩,
    ⟨(some 63), .eq false .ptr (.tmp 62) (.const .nilp), none⟩,
    ⟨(some 64), .mov (.tmp 63), none⟩,
    ⟨(some 65), .mov (.tmp 14), some (64, false)⟩,
    ⟨(some 66), .call (.const (.fn F.lens_Lens_U8 [] [])) [(.tmp 65)], some (64, false)⟩,
    ⟨(some 67), .mov (.tmp 0), some (64, false)⟩,
    ⟨(some 68), .bin .neq (.tmp 66) (.tmp 67), some (64, false)⟩,
    ⟨(some 69), .pick (.tmp 64) (.const (.bool true)) (.tmp 68), none⟩] [1, 2, 3, 4, 5, 14, 69])
  (.cond (.tmp 69) (.seq (.region [⟨(some 12), .mov (.const (.bool false)), none⟩] [12])
  (.ret)) (.skip)))
  (.seq (.seq (.region [⟨(some 15), .mov (.const (.int .i64 0)), none⟩] [1, 2, 3, 4, 5, 14, 15])
  (.block 0 (.loop cuneiformlaw03_LensPen.b2)))
  (.seq (.seq (.region [⟨(some 87), .mov (.tmp 14), none⟩,
    ⟨(some 88), .call (.const (.fn F.lens_Lens_U16 [] [])) [(.tmp 87)], none⟩,
    ⟨(some 89), .mov (.tmp 1), none⟩,
    ⟨(some 90), .bin .neq (.tmp 88) (.tmp 89), none⟩,
    ⟨(some 91), .mov (.tmp 90), none⟩,
    ⟨(some 92), .mov (.tmp 14), some (91, false)⟩,
    ⟨(some 93), .mov (.tmp 5), some (91, false)⟩,
    ⟨(some 94), .len .slice (.tmp 93), some (91, false)⟩,
    ⟨(some 95), .call (.const (.fn F.lens_Lens_Field [] [])) [(.tmp 92), (.tmp 94)], some (91, false)⟩,
    ⟨(some 96), .mov (.tmp 5), some (91, false)⟩,
    ⟨(some 97), .call (.const (.fn F.cuneiformref01_Same [] [])) [(.tmp 95), (.tmp 96)], some (91, false)⟩,
    ⟨(some 98), .un .not (.tmp 97), some (91, false)⟩,
    ⟨(some 99), .pick (.tmp 91) (.const (.bool true)) (.tmp 98), none⟩] [2, 4, 5, 14, 99])
  (.cond (.tmp 99) (.seq (.region [⟨(some 12), .mov (.const (.bool false)), none⟩] [12])
  (.ret)) (.skip)))
  (.seq (.seq (.region [⟨(some 16), .mov (.const (.int .i64 0)), none⟩] [2, 4, 5, 14, 16])
  (.block 2 (.loop cuneiformlaw03_LensPen.b4)))
  (.seq (.region [⟨(some 121), .call (.const (.fn F.cuneiformlaw03_known [] [])) [], none⟩,
    ⟨(some 122), .mov (.tmp 121), none⟩,
    ⟨(some 123), .mov (.tmp 14), some (122, true)⟩,
    ⟨(some 124), .call (.const (.fn F.lens_Lens_U32 [] [])) [(.tmp 123)], some (122, true)⟩,
    ⟨(some 125), .mov (.tmp 2), some (122, true)⟩,
    ⟨(some 126), .bin .eql (.tmp 124) (.tmp 125), some (122, true)⟩,
    ⟨(some 127), .pick (.tmp 122) (.tmp 126) (.const (.bool false)), none⟩,
    ⟨(some 128), .mov (.tmp 127), none⟩,
    ⟨(some 129), .mov (.tmp 14), some (128, true)⟩,
    ⟨(some 130), .mov (.tmp 5), some (128, true)⟩,
    ⟨(some 131), .len .slice (.tmp 130), some (128, true)⟩,
    ⟨(some 132), .call (.const (.fn F.lens_Lens_Raw [] [])) [(.tmp 129), (.tmp 131)], some (128, true)⟩,
    ⟨(some 133), .mov (.tmp 5), some (128, true)⟩,
    ⟨(some 134), .call (.const (.fn F.cuneiformref01_Same [] [])) [(.tmp 132), (.tmp 133)], some (128, true)⟩,
    ⟨(some 135), .pick (.tmp 128) (.tmp 134) (.const (.bool false)), none⟩,
    ⟨(some 136), .mov (.tmp 135), none⟩,
    ⟨(some 137), .mov (.tmp 14), some (136, true)⟩,
    ⟨(some 138), .call (.const (.fn F.lens_Lens_End [] [])) [(.tmp 137)], some (136, true)⟩,
    ⟨(some 139), .bin .eql (.tmp 138) (.const (.int .i64 0)), some (136, true)⟩,
    ⟨(some 140), .pick (.tmp 136) (.tmp 139) (.const (.bool false)), none⟩,
    ⟨(some 12), .mov (.tmp 140), none⟩] [12])
  (.ret))))))))))))))))))
def cuneiformlaw03_LensPen : AFun := ⟨141, 6, [.tmp 12], cuneiformlaw03_LensPen.body⟩
def lens_New.body : ACode := .seq (.region [⟨(some 2), .mov (.const .nilp), none⟩] [0])
  (.seq (.region [⟨(some 3), .mov (.tmp 0), none⟩,
    ⟨(some 4), .append T.uint8 1 1 (.const .nils) (.tmp 3), none⟩,
    ⟨(some 5), .build [.nils, (.int .i64 0), (.int .i64 0)] [(0, 1, (.tmp 4))], none⟩,
    ⟨(some 6), .box T.lens_Lens (.tmp 5), none⟩,
    ⟨(some 2), .mov (.tmp 6), none⟩] [2])
  (.ret))
def lens_New : AFun := ⟨7, 1, [.tmp 2], lens_New.body⟩
def lens_Lens_Field.body : ACode := .seq (.region [⟨(some 3), .box T.int (.tmp 1), none⟩,
    ⟨(some 4), .mov (.const .nils), none⟩] [0, 3])
  (.seq (.region [⟨(some 5), .alloc T.sl_uint8 [.nils], none⟩] [0, 3, 5])
  (.seq (.region [⟨(some 6), .mov (.tmp 0), none⟩,
    ⟨(some 7), .mkfn F.lens_Lens_Field_1 [] [(.tmp 3), (.tmp 5)], none⟩,
    ⟨(some 8), .call (.const (.fn F.lens_Lens_read [] [])) [(.tmp 6), (.tmp 7)], none⟩] [5])
  (.seq (.region [⟨(some 9), .load none (.tmp 5), none⟩,
    ⟨(some 4), .mov (.tmp 9), none⟩] [4])
  (.ret))))
def lens_Lens_Field : AFun := ⟨10, 2, [.tmp 4], lens_Lens_Field.body⟩
def lens_Lens_Err.body : ACode := .seq (.region [⟨(some 2), .mov (.const (.int .i64 0)), none⟩] [0])
  (.seq (.seq (.region [⟨(some 3), .mov (.tmp 0), none⟩,
    ⟨(some 4), .eq false .ptr (.tmp 3) (.const .nilp), none⟩] [0, 4])
  (.cond (.tmp 4) (.seq (.region [⟨(some 2), .mov (.const (.int .i64 1)), none⟩] [2])
  (.ret)) (.skip)))
  (.seq (.region [⟨(some 5), .mov (.tmp 0), none⟩,
    ⟨(some 6), .nilc (.tmp 5), none⟩,
    ⟨(some 7), .field 2 (.tmp 6), none⟩,
    ⟨(some 8), .load none (.tmp 7), none⟩,
    ⟨(some 2), .mov (.tmp 8), none⟩] [2])
  (.ret)))
def lens_Lens_Err : AFun := ⟨9, 1, [.tmp 2], lens_Lens_Err.body⟩
def cuneiformref01_Same.d0 : List AOper := [⟨(some 17), .mov (.tmp 0), none⟩,
    ⟨(some 18), .mov (.tmp 5), none⟩,
    ⟨(some 19), .idx 1 none (.tmp 17) (.tmp 18), none⟩,
    ⟨(some 20), .load none (.tmp 19), none⟩,
    ⟨(some 21), .mov (.tmp 1), none⟩,
    ⟨(some 22), .mov (.tmp 5), none⟩,
    ⟨(some 23), .idx 1 none (.tmp 21) (.tmp 22), none⟩,
    ⟨(some 24), .load none (.tmp 23), none⟩,
    ⟨(some 25), .bin .neq (.tmp 20) (.tmp 24), none⟩]
def cuneiformref01_Same.d0b : List (List Nat) := [[], [], [0, 1], [0, 1, 2], [], [], [4, 5], [4, 5, 6], [0, 1, 2, 3, 4, 5, 6, 7]]
def cuneiformref01_Same.b1 : ACode := .seq (.seq (.region [⟨(some 11), .mov (.tmp 5), none⟩,
    ⟨(some 12), .mov (.tmp 0), none⟩,
    ⟨(some 13), .len .slice (.tmp 12), none⟩,
    ⟨(some 14), .bin .lss (.tmp 11) (.tmp 13), none⟩] [0, 1, 5, 14])
  (.cond (.tmp 14) (.skip) (.exit 0)))
  (.seq (.block 1 (.seq (.draw cuneiformref01_Same.d0 cuneiformref01_Same.d0b [[0, 1, 2, 3, 4, 5, 6, 7, 8]] [] [0, 1, 5, 25])
  (.cond (.tmp 25) (.seq (.region [⟨(some 4), .mov (.const (.bool false)), none⟩] [4])
  (.ret)) (.skip))))
  (.region [⟨(some 15), .mov (.tmp 5), none⟩,
    ⟨(some 16), .bin .add (.tmp 15) (.const (.int .i64 1)), none⟩,
    ⟨(some 5), .mov (.tmp 16), none⟩] [0, 1, 5]))
def cuneiformref01_Same.body : ACode := .seq (.region [⟨(some 4), .mov (.const (.bool false)), none⟩] [0, 1])
  (.seq (.seq (.region [⟨(some 6), .mov (.tmp 0), none⟩,
    ⟨(some 7), .len .slice (.tmp 6), none⟩,
    ⟨(some 8), .mov (.tmp 1), none⟩,
    ⟨(some 9), .len .slice (.tmp 8), none⟩,
    ⟨(some 10), .bin .neq (.tmp 7) (.tmp 9), none⟩] [0, 1, 10])
  (.cond (.tmp 10) (.seq (.region [⟨(some 4), .mov (.const (.bool false)), none⟩] [4])
  (.ret)) (.skip)))
  (.seq (.seq (.region [⟨(some 5), .mov (.const (.int .i64 0)), none⟩] [0, 1, 5])
  (.block 0 (.loop cuneiformref01_Same.b1)))
  (.seq (.region [⟨(some 4), .mov (.const (.bool true)), none⟩] [4])
  (.ret))))
def cuneiformref01_Same : AFun := ⟨26, 2, [.tmp 4], cuneiformref01_Same.body⟩
def lens_Lens_Place.body : ACode := .seq (.region [⟨(some 2), .mov (.const (.int .i64 0)), none⟩] [0])
  (.seq (.seq (.region [⟨(some 3), .mov (.tmp 0), none⟩,
    ⟨(some 4), .eq false .ptr (.tmp 3) (.const .nilp), none⟩] [0, 4])
  (.cond (.tmp 4) (.seq (.region [⟨(some 2), .mov (.const (.int .i64 0)), none⟩] [2])
  (.ret)) (.skip)))
  (.seq (.region [⟨(some 5), .mov (.tmp 0), none⟩,
    ⟨(some 6), .nilc (.tmp 5), none⟩,
    ⟨(some 7), .field 1 (.tmp 6), none⟩,
    ⟨(some 8), .load none (.tmp 7), none⟩,
    ⟨(some 2), .mov (.tmp 8), none⟩] [2])
  (.ret)))
def lens_Lens_Place : AFun := ⟨9, 1, [.tmp 2], lens_Lens_Place.body⟩
def lens_Lens_U32.body : ACode := .seq (.region [⟨(some 2), .mov (.const (.int .u32 0)), none⟩] [0])
  (.seq (.region [⟨(some 3), .mov (.tmp 0), none⟩,
    ⟨(some 4), .call (.const (.fn F.lens_Lens_word [] [])) [(.tmp 3), (.const (.int .i64 4))], none⟩,
    ⟨(some 2), .mov (.tmp 4), none⟩] [2])
  (.ret))
def lens_Lens_U32 : AFun := ⟨5, 1, [.tmp 2], lens_Lens_U32.body⟩
def lens_Lens_Rest.body : ACode := .seq (.region [⟨(some 2), .mov (.const .nils), none⟩] [0])
  (.seq (.region [⟨(some 3), .mov (.tmp 0), none⟩,
    ⟨(some 4), .mov (.tmp 0), none⟩,
    ⟨(some 5), .call (.const (.fn F.lens_Lens_Left [] [])) [(.tmp 4)], none⟩,
    ⟨(some 6), .call (.const (.fn F.lens_Lens_Raw [] [])) [(.tmp 3), (.tmp 5)], none⟩,
    ⟨(some 2), .mov (.tmp 6), none⟩] [2])
  (.ret))
def lens_Lens_Rest : AFun := ⟨7, 1, [.tmp 2], lens_Lens_Rest.body⟩
def cuneiformlaw03_known.body : ACode := .seq (.region [⟨(some 0), .mov (.const (.bool false)), none⟩] [])
  (.seq (.region [⟨(some 2), .lit T.uint8 1 5 [(.int .u8 0), (.int .u8 0), (.int .u8 0), (.int .u8 0), (.int .u8 0)] [(0, 1, (.const (.int .u8 2))), (1, 1, (.const (.int .u8 1))), (2, 1, (.const (.int .u8 172))), (3, 1, (.const (.int .u8 2))), (4, 1, (.const (.int .u8 9)))], none⟩,
    ⟨(some 3), .call (.const (.fn F.lens_New [] [])) [(.tmp 2)], none⟩,
    ⟨(some 1), .mov (.tmp 3), none⟩] [1])
  (.seq (.seq (.region [⟨(some 4), .mov (.tmp 1), none⟩,
    ⟨(some 5), .eq false .ptr (.tmp 4) (.const .nilp), none⟩,
    ⟨(some 6), .mov (.tmp 5), none⟩,
    ⟨(some 7), .mov (.tmp 1), some (6, false)⟩,
    ⟨(some 8), .call (.const (.fn F.lens_Lens_U16 [] [])) [(.tmp 7)], some (6, false)⟩,
    ⟨(some 9), .bin .neq (.tmp 8) (.const (.int .u16 258)), some (6, false)⟩,
    ⟨(some 10), .pick (.tmp 6) (.const (.bool true)) (.tmp 9), none⟩,
    ⟨(some 11), .mov (.tmp 10), none⟩,
    ⟨(some 12), .mov (.tmp 1), some (11, false)⟩,
    ⟨(some 13), .call (.const (.fn F.lens_Lens_Number [] [])) [(.tmp 12), (.const (.int .u64 1000))], some (11, false)⟩,
    ⟨(some 14), .bin .neq (.tmp 13) (.const (.int .u64 300)), some (11, false)⟩,
    ⟨(some 15), .pick (.tmp 11) (.const (.bool true)) (.tmp 14), none⟩,
    ⟨(some 16), .mov (.tmp 15), none⟩,
    ⟨(some 17), .mov (.tmp 1), some (16, false)⟩,
    ⟨(some 18), .call (.const (.fn F.lens_Lens_End [] [])) [(.tmp 17)], some (16, false)⟩,
    ⟨(some 19), .bin .neq (.tmp 18) (.const (.int .i64 3)), some (16, false)⟩,
    ⟨(some 20), .pick (.tmp 16) (.const (.bool true)) (.tmp 19), none⟩] [1, 20])
  (.cond (.tmp 20) (.seq (.region [⟨(some 0), .mov (.const (.bool false)), none⟩] [0])
  (.ret)) (.skip)))
  (.seq (.region [⟨(some 21), .mov (.tmp 1), none⟩,
    ⟨(some 22), .call (.const (.fn F.lens_Lens_U32 [] [])) [(.tmp 21)], none⟩,
    ⟨(some 23), .bin .eql (.tmp 22) (.const (.int .u32 0)), none⟩,
    ⟨(some 24), .mov (.tmp 23), none⟩,
    ⟨(some 25), .mov (.tmp 1), some (24, true)⟩,
    ⟨(some 26), .call (.const (.fn F.lens_Lens_Err [] [])) [(.tmp 25)], some (24, true)⟩,
    ⟨(some 27), .bin .eql (.tmp 26) (.const (.int .i64 4)), some (24, true)⟩,
    ⟨(some 28), .pick (.tmp 24) (.tmp 27) (.const (.bool false)), none⟩,
    ⟨(some 0), .mov (.tmp 28), none⟩] [0])
  (.ret))))
def cuneiformlaw03_known : AFun := ⟨29, 0, [.tmp 0], cuneiformlaw03_known.body⟩
def lens_Lens_End.body : ACode := .seq (.region [⟨(some 2), .mov (.const (.int .i64 0)), none⟩] [0])
  (.seq (.seq (.region [⟨(some 4), .mov (.tmp 0), none⟩,
    ⟨(some 5), .call (.const (.fn F.lens_Lens_Err [] [])) [(.tmp 4)], none⟩,
    ⟨(some 3), .mov (.tmp 5), none⟩] [0, 3])
  (.seq (.region [⟨(some 6), .mov (.tmp 3), none⟩,
    ⟨(some 7), .bin .neq (.tmp 6) (.const (.int .i64 0)), none⟩,
    ⟨(some 8), .mov (.tmp 7), none⟩,
    ⟨(some 9), .mov (.tmp 0), some (8, false)⟩,
    ⟨(some 10), .call (.const (.fn F.lens_Lens_Left [] [])) [(.tmp 9)], some (8, false)⟩,
    ⟨(some 11), .bin .eql (.tmp 10) (.const (.int .i64 0)), some (8, false)⟩,
    ⟨(some 12), .pick (.tmp 8) (.const (.bool true)) (.tmp 11), none⟩] [3, 12])
  (.cond (.tmp 12) (.seq (.region [⟨(some 13), .mov (.tmp 3), none⟩,
    ⟨(some 2), .mov (.tmp 13), none⟩] [2])
  (.ret)) (.skip))))
  (.seq (.region [⟨(some 2), .mov (.const (.int .i64 3)), none⟩] [2])
  (.ret)))
def lens_Lens_End : AFun := ⟨14, 1, [.tmp 2], lens_Lens_End.body⟩
def lens_Lens_U8.body : ACode := .seq (.region [⟨(some 2), .mov (.const (.int .u8 0)), none⟩] [0])
  (.seq (.region [⟨(some 3), .mov (.tmp 0), none⟩,
    ⟨(some 4), .call (.const (.fn F.lens_Lens_word [] [])) [(.tmp 3), (.const (.int .i64 1))], none⟩,
    ⟨(some 5), .conv .u8 (.tmp 4), none⟩,
    ⟨(some 2), .mov (.tmp 5), none⟩] [2])
  (.ret))
def lens_Lens_U8 : AFun := ⟨6, 1, [.tmp 2], lens_Lens_U8.body⟩
def cuneiformref03_Word.b0 : ACode := .seq (.seq (.region [⟨(some 23), .mov (.tmp 8), none⟩,
    ⟨(some 24), .mov (.tmp 1), none⟩,
    ⟨(some 25), .bin .lss (.tmp 23) (.tmp 24), none⟩] [1, 2, 4, 6, 7, 8, 25])
  (.cond (.tmp 25) (.skip) (.exit 0)))
  (.seq (.block 1 (.seq (.region [⟨(some 28), .mov (.tmp 6), none⟩,
    ⟨(some 29), .mov (.tmp 7), none⟩,
    ⟨(some 30), .field 0 (.tmp 2), none⟩,
    ⟨(some 31), .load none (.tmp 30), none⟩,
    ⟨(some 32), .field 1 (.tmp 2), none⟩,
    ⟨(some 33), .load none (.tmp 32), none⟩,
    ⟨(some 34), .mov (.tmp 8), none⟩,
    ⟨(some 35), .bin .add (.tmp 33) (.tmp 34), none⟩,
    ⟨(some 36), .idx 1 none (.tmp 31) (.tmp 35), none⟩,
    ⟨(some 37), .load none (.tmp 36), none⟩,
    ⟨(some 38), .conv .u32 (.tmp 37), none⟩,
    ⟨(some 39), .bin .mul (.tmp 29) (.tmp 38), none⟩,
    ⟨(some 40), .bin .add (.tmp 28) (.tmp 39), none⟩,
    ⟨(some 6), .mov (.tmp 40), none⟩] [1, 2, 4, 6, 7, 8])
  (.region [⟨(some 41), .mov (.tmp 7), none⟩,
    ⟨(some 42), .bin .mul (.tmp 41) (.const (.int .u32 256)), none⟩,
    ⟨(some 7), .mov (.tmp 42), none⟩] [1, 2, 4, 6, 7, 8])))
  (.region [⟨(some 26), .mov (.tmp 8), none⟩,
    ⟨(some 27), .bin .add (.tmp 26) (.const (.int .i64 1)), none⟩,
    ⟨(some 8), .mov (.tmp 27), none⟩] [1, 2, 4, 6, 7, 8]))
def cuneiformref03_Word.body : ACode := .seq (.region [⟨(some 2), .box T.cuneiformref03_L (.tmp 0), none⟩,
    ⟨(some 4), .alloc T.cuneiformref03_L [.nils, (.int .i64 0), (.int .i64 0)], none⟩,
    ⟨(some 5), .mov (.const (.int .u32 0)), none⟩] [1, 2, 4])
  (.seq (.seq (.region [⟨(some 9), .field 2 (.tmp 2), none⟩,
    ⟨(some 10), .load none (.tmp 9), none⟩,
    ⟨(some 11), .bin .neq (.tmp 10) (.const (.int .i64 0)), none⟩] [1, 2, 4, 11])
  (.cond (.tmp 11) (.seq (.region [⟨(some 12), .load (some 3) (.tmp 2), none⟩,
    ⟨none, .store 3 (.tmp 4) (.tmp 12), none⟩,
    ⟨(some 5), .mov (.const (.int .u32 0)), none⟩] [4, 5])
  (.ret)) (.skip)))
  (.seq (.seq (.region [⟨(some 13), .field 0 (.tmp 2), none⟩,
    ⟨(some 14), .load none (.tmp 13), none⟩,
    ⟨(some 15), .len .slice (.tmp 14), none⟩,
    ⟨(some 16), .field 1 (.tmp 2), none⟩,
    ⟨(some 17), .load none (.tmp 16), none⟩,
    ⟨(some 18), .bin .sub (.tmp 15) (.tmp 17), none⟩,
    ⟨(some 19), .mov (.tmp 1), none⟩,
    ⟨(some 20), .bin .lss (.tmp 18) (.tmp 19), none⟩] [1, 2, 4, 20])
  (.cond (.tmp 20) (.seq (.region [⟨(some 21), .load (some 3) (.tmp 2), none⟩,
    ⟨(some 22), .call (.const (.fn F.cuneiformref03_fail [] [])) [(.tmp 21), (.const (.int .i64 4))], none⟩,
    ⟨none, .store 3 (.tmp 4) (.tmp 22), none⟩,
    ⟨(some 5), .mov (.const (.int .u32 0)), none⟩] [4, 5])
  (.ret)) (.skip)))
  (.seq (.region [⟨(some 6), .mov (.const (.int .u32 0)), none⟩,
    ⟨(some 7), .mov (.const (.int .u32 1)), none⟩] [1, 2, 4, 6, 7])
  (.seq (.seq (.region [⟨(some 8), .mov (.const (.int .i64 0)), none⟩] [1, 2, 4, 6, 7, 8])
  (.block 0 (.loop cuneiformref03_Word.b0)))
  (.seq (.region [⟨(some 43), .field 1 (.tmp 2), none⟩,
    ⟨(some 44), .load none (.tmp 43), none⟩,
    ⟨(some 45), .mov (.tmp 1), none⟩,
    ⟨(some 46), .bin .add (.tmp 44) (.tmp 45), none⟩,
    ⟨(some 47), .field 1 (.tmp 2), none⟩,
    ⟨none, .store 1 (.tmp 47) (.tmp 46), none⟩] [2, 4, 6])
  (.seq (.region [⟨(some 48), .load (some 3) (.tmp 2), none⟩,
    ⟨(some 49), .mov (.tmp 6), none⟩,
    ⟨none, .store 3 (.tmp 4) (.tmp 48), none⟩,
    ⟨(some 5), .mov (.tmp 49), none⟩] [4, 5])
  (.ret)))))))
def cuneiformref03_Word : AFun := ⟨50, 2, [.cell 4 (some 3), .tmp 5], cuneiformref03_Word.body⟩
def lens_Lens_U16.body : ACode := .seq (.region [⟨(some 2), .mov (.const (.int .u16 0)), none⟩] [0])
  (.seq (.region [⟨(some 3), .mov (.tmp 0), none⟩,
    ⟨(some 4), .call (.const (.fn F.lens_Lens_word [] [])) [(.tmp 3), (.const (.int .i64 2))], none⟩,
    ⟨(some 5), .conv .u16 (.tmp 4), none⟩,
    ⟨(some 2), .mov (.tmp 5), none⟩] [2])
  (.ret))
def lens_Lens_U16 : AFun := ⟨6, 1, [.tmp 2], lens_Lens_U16.body⟩
def lens_Lens_Number.body : ACode := .seq (.region [⟨(some 3), .box T.uint64 (.tmp 1), none⟩,
    ⟨(some 4), .mov (.const (.int .u64 0)), none⟩] [0, 3])
  (.seq (.region [⟨(some 5), .alloc T.uint64 [(.int .u64 0)], none⟩,
    ⟨none, .store 1 (.tmp 5) (.const (.int .u64 0)), none⟩] [0, 3, 5])
  (.seq (.region [⟨(some 6), .mov (.tmp 0), none⟩,
    ⟨(some 7), .mkfn F.lens_Lens_Number_1 [] [(.tmp 3), (.tmp 5)], none⟩,
    ⟨(some 8), .call (.const (.fn F.lens_Lens_read [] [])) [(.tmp 6), (.tmp 7)], none⟩] [5])
  (.seq (.region [⟨(some 9), .load none (.tmp 5), none⟩,
    ⟨(some 4), .mov (.tmp 9), none⟩] [4])
  (.ret))))
def lens_Lens_Number : AFun := ⟨10, 2, [.tmp 4], lens_Lens_Number.body⟩
def cuneiformref03_Number.body : ACode := .seq (.region [⟨(some 2), .box T.cuneiformref03_L (.tmp 0), none⟩,
    ⟨(some 4), .alloc T.cuneiformref03_L [.nils, (.int .i64 0), (.int .i64 0)], none⟩,
    ⟨(some 5), .mov (.const (.int .u64 0)), none⟩] [1, 2, 4])
  (.seq (.seq (.region [⟨(some 9), .field 2 (.tmp 2), none⟩,
    ⟨(some 10), .load none (.tmp 9), none⟩,
    ⟨(some 11), .bin .neq (.tmp 10) (.const (.int .i64 0)), none⟩] [1, 2, 4, 11])
  (.cond (.tmp 11) (.seq (.region [⟨(some 12), .load (some 3) (.tmp 2), none⟩,
    ⟨none, .store 3 (.tmp 4) (.tmp 12), none⟩,
    ⟨(some 5), .mov (.const (.int .u64 0)), none⟩] [4, 5])
  (.ret)) (.skip)))
  (.seq (.region [⟨(some 14), .field 0 (.tmp 2), none⟩,
    ⟨(some 15), .load none (.tmp 14), none⟩,
    ⟨(some 16), .field 1 (.tmp 2), none⟩,
    ⟨(some 17), .load none (.tmp 16), none⟩,
    ⟨(some 18), .call (.const (.fn F.cuneiformref01_Get [] [])) [(.tmp 15), (.tmp 17)], none⟩,
    ⟨(some 13), .mov (.tmp 18), none⟩,
    ⟨(some 19), .extract (.tmp 13) 0, none⟩,
    ⟨(some 20), .extract (.tmp 13) 1, none⟩,
    ⟨(some 21), .extract (.tmp 13) 2, none⟩,
    ⟨(some 6), .mov (.tmp 19), none⟩,
    ⟨(some 7), .mov (.tmp 20), none⟩,
    ⟨(some 8), .mov (.tmp 21), none⟩] [1, 2, 4, 6, 7, 8])
  (.seq (.seq (.region [⟨(some 22), .mov (.tmp 8), none⟩,
    ⟨(some 23), .bin .eql (.tmp 22) (.const (.int .i64 0)), none⟩,
    ⟨(some 24), .mov (.tmp 23), none⟩,
    ⟨(some 25), .mov (.tmp 6), some (24, true)⟩,
    ⟨(some 26), .mov (.tmp 1), some (24, true)⟩,
    ⟨(some 27), .bin .gtr (.tmp 25) (.tmp 26), some (24, true)⟩,
    ⟨(some 28), .pick (.tmp 24) (.tmp 27) (.const (.bool false)), none⟩] [2, 4, 6, 7, 8, 28])
  (.cond (.tmp 28) (.region [⟨(some 8), .mov (.const (.int .i64 5)), none⟩] [2, 4, 6, 7, 8]) (.skip)))
  (.seq (.seq (.region [⟨(some 29), .mov (.tmp 8), none⟩,
    ⟨(some 30), .bin .neq (.tmp 29) (.const (.int .i64 0)), none⟩] [2, 4, 6, 7, 8, 30])
  (.cond (.tmp 30) (.seq (.region [⟨(some 31), .load (some 3) (.tmp 2), none⟩,
    ⟨(some 32), .mov (.tmp 8), none⟩,
    ⟨(some 33), .call (.const (.fn F.cuneiformref03_fail [] [])) [(.tmp 31), (.tmp 32)], none⟩,
    ⟨none, .store 3 (.tmp 4) (.tmp 33), none⟩,
    ⟨(some 5), .mov (.const (.int .u64 0)), none⟩] [4, 5])
  (.ret)) (.skip)))
  (.seq (.region [⟨(some 34), .mov (.tmp 7), none⟩,
    ⟨(some 35), .field 1 (.tmp 2), none⟩,
    ⟨none, .store 1 (.tmp 35) (.tmp 34), none⟩] [2, 4, 6])
  (.seq (.region [⟨(some 36), .load (some 3) (.tmp 2), none⟩,
    ⟨(some 37), .mov (.tmp 6), none⟩,
    ⟨none, .store 3 (.tmp 4) (.tmp 36), none⟩,
    ⟨(some 5), .mov (.tmp 37), none⟩] [4, 5])
  (.ret)))))))
def cuneiformref03_Number : AFun := ⟨38, 2, [.cell 4 (some 3), .tmp 5], cuneiformref03_Number.body⟩
def lens_Lens_Signed.body : ACode := .seq (.region [⟨(some 4), .box T.int64 (.tmp 1), none⟩,
    ⟨(some 5), .box T.int64 (.tmp 2), none⟩,
    ⟨(some 6), .mov (.const (.int .i64 0)), none⟩] [0, 4, 5])
  (.seq (.region [⟨(some 7), .alloc T.int64 [(.int .i64 0)], none⟩,
    ⟨none, .store 1 (.tmp 7) (.const (.int .i64 0)), none⟩] [0, 4, 5, 7])
  (.seq (.region [⟨(some 8), .mov (.tmp 0), none⟩,
    ⟨(some 9), .mkfn F.lens_Lens_Signed_1 [] [(.tmp 4), (.tmp 5), (.tmp 7)], none⟩,
    ⟨(some 10), .call (.const (.fn F.lens_Lens_read [] [])) [(.tmp 8), (.tmp 9)], none⟩] [7])
  (.seq (.region [⟨(some 11), .load none (.tmp 7), none⟩,
    ⟨(some 6), .mov (.tmp 11), none⟩] [6])
  (.ret))))
def lens_Lens_Signed : AFun := ⟨12, 3, [.tmp 6], lens_Lens_Signed.body⟩
def cuneiformref03_Signed.body : ACode := .seq (.region [⟨(some 3), .box T.cuneiformref03_L (.tmp 0), none⟩,
    ⟨(some 6), .alloc T.cuneiformref03_L [.nils, (.int .i64 0), (.int .i64 0)], none⟩,
    ⟨(some 7), .mov (.const (.int .i64 0)), none⟩] [1, 2, 3, 6])
  (.seq (.seq (.region [⟨(some 12), .field 2 (.tmp 3), none⟩,
    ⟨(some 13), .load none (.tmp 12), none⟩,
    ⟨(some 14), .bin .neq (.tmp 13) (.const (.int .i64 0)), none⟩] [1, 2, 3, 6, 14])
  (.cond (.tmp 14) (.seq (.region [⟨(some 15), .load (some 3) (.tmp 3), none⟩,
    ⟨none, .store 3 (.tmp 6) (.tmp 15), none⟩,
    ⟨(some 7), .mov (.const (.int .i64 0)), none⟩] [6, 7])
  (.ret)) (.skip)))
  (.seq (.region [⟨(some 17), .field 0 (.tmp 3), none⟩,
    ⟨(some 18), .load none (.tmp 17), none⟩,
    ⟨(some 19), .field 1 (.tmp 3), none⟩,
    ⟨(some 20), .load none (.tmp 19), none⟩,
    ⟨(some 21), .call (.const (.fn F.cuneiformref01_Get [] [])) [(.tmp 18), (.tmp 20)], none⟩,
    ⟨(some 16), .mov (.tmp 21), none⟩,
    ⟨(some 22), .extract (.tmp 16) 0, none⟩,
    ⟨(some 23), .extract (.tmp 16) 1, none⟩,
    ⟨(some 24), .extract (.tmp 16) 2, none⟩,
    ⟨(some 8), .mov (.tmp 22), none⟩,
    ⟨(some 9), .mov (.tmp 23), none⟩,
    ⟨(some 10), .mov (.tmp 24), none⟩] [1, 2, 3, 6, 8, 9, 10])
  (.seq (.region [⟨(some 25), .mov (.tmp 8), none⟩,
    ⟨(some 26), .call (.const (.fn F.cuneiformref01_Zag [] [])) [(.tmp 25)], none⟩,
    ⟨(some 11), .mov (.tmp 26), none⟩] [1, 2, 3, 6, 9, 10, 11])
  (.seq (.seq (.region [⟨(some 27), .mov (.tmp 10), none⟩,
    ⟨(some 28), .bin .eql (.tmp 27) (.const (.int .i64 0)), none⟩,
    ⟨(some 29), .mov (.tmp 28), none⟩,
    ⟨(some 30), .mov (.tmp 11), some (29, true)⟩,
    ⟨(some 31), .mov (.tmp 1), some (29, true)⟩,
    ⟨(some 32), .bin .lss (.tmp 30) (.tmp 31), some (29, true)⟩,
    ⟨(some 33), .mov (.tmp 32), some (29, true)⟩,
    ⟨(some 34), .mov (.tmp 11), some (33, false)⟩,
    ⟨(some 35), .mov (.tmp 2), some (33, false)⟩,
    ⟨(some 36), .bin .gtr (.tmp 34) (.tmp 35), some (33, false)⟩,
    ⟨(some 37), .pick (.tmp 33) (.const (.bool true)) (.tmp 36), some (29, true)⟩,
    ⟨(some 38), .pick (.tmp 29) (.tmp 37) (.const (.bool false)), none⟩] [3, 6, 9, 10, 11, 38])
  (.cond (.tmp 38) (.region [⟨(some 10), .mov (.const (.int .i64 5)), none⟩] [3, 6, 9, 10, 11]) (.skip)))
  (.seq (.seq (.region [⟨(some 39), .mov (.tmp 10), none⟩,
    ⟨(some 40), .bin .neq (.tmp 39) (.const (.int .i64 0)), none⟩] [3, 6, 9, 10, 11, 40])
  (.cond (.tmp 40) (.seq (.region [⟨(some 41), .load (some 3) (.tmp 3), none⟩,
    ⟨(some 42), .mov (.tmp 10), none⟩,
    ⟨(some 43), .call (.const (.fn F.cuneiformref03_fail [] [])) [(.tmp 41), (.tmp 42)], none⟩,
    ⟨none, .store 3 (.tmp 6) (.tmp 43), none⟩,
    ⟨(some 7), .mov (.const (.int .i64 0)), none⟩] [6, 7])
  (.ret)) (.skip)))
  (.seq (.region [⟨(some 44), .mov (.tmp 9), none⟩,
    ⟨(some 45), .field 1 (.tmp 3), none⟩,
    ⟨none, .store 1 (.tmp 45) (.tmp 44), none⟩] [3, 6, 11])
  (.seq (.region [⟨(some 46), .load (some 3) (.tmp 3), none⟩,
    ⟨(some 47), .mov (.tmp 11), none⟩,
    ⟨none, .store 3 (.tmp 6) (.tmp 46), none⟩,
    ⟨(some 7), .mov (.tmp 47), none⟩] [6, 7])
  (.ret))))))))
def cuneiformref03_Signed : AFun := ⟨48, 3, [.cell 6 (some 3), .tmp 7], cuneiformref03_Signed.body⟩
def lens_Lens_Raw.body : ACode := .seq (.region [⟨(some 3), .box T.int (.tmp 1), none⟩,
    ⟨(some 4), .mov (.const .nils), none⟩] [0, 3])
  (.seq (.region [⟨(some 5), .alloc T.sl_uint8 [.nils], none⟩] [0, 3, 5])
  (.seq (.region [⟨(some 6), .mov (.tmp 0), none⟩,
    ⟨(some 7), .mkfn F.lens_Lens_Raw_1 [] [(.tmp 3), (.tmp 5)], none⟩,
    ⟨(some 8), .call (.const (.fn F.lens_Lens_read [] [])) [(.tmp 6), (.tmp 7)], none⟩] [5])
  (.seq (.region [⟨(some 9), .load none (.tmp 5), none⟩,
    ⟨(some 4), .mov (.tmp 9), none⟩] [4])
  (.ret))))
def lens_Lens_Raw : AFun := ⟨10, 2, [.tmp 4], lens_Lens_Raw.body⟩
def cuneiformref03_Raw.body : ACode := .seq (.region [⟨(some 2), .box T.cuneiformref03_L (.tmp 0), none⟩,
    ⟨(some 4), .alloc T.cuneiformref03_L [.nils, (.int .i64 0), (.int .i64 0)], none⟩,
    ⟨(some 5), .mov (.const .nils), none⟩] [1, 2, 4])
  (.seq (.seq (.region [⟨(some 7), .field 2 (.tmp 2), none⟩,
    ⟨(some 8), .load none (.tmp 7), none⟩,
    ⟨(some 9), .bin .neq (.tmp 8) (.const (.int .i64 0)), none⟩] [1, 2, 4, 9])
  (.cond (.tmp 9) (.seq (.region [⟨(some 10), .load (some 3) (.tmp 2), none⟩,
    ⟨none, .store 3 (.tmp 4) (.tmp 10), none⟩,
    ⟨(some 5), .mov (.const .nils), none⟩] [4, 5])
  (.ret)) (.skip)))
  (.seq (.seq (.region [⟨(some 11), .mov (.tmp 1), none⟩,
    ⟨(some 12), .bin .lss (.tmp 11) (.const (.int .i64 0)), none⟩] [1, 2, 4, 12])
  (.cond (.tmp 12) (.seq (.region [⟨(some 13), .load (some 3) (.tmp 2), none⟩,
    ⟨(some 14), .call (.const (.fn F.cuneiformref03_fail [] [])) [(.tmp 13), (.const (.int .i64 5))], none⟩,
    ⟨none, .store 3 (.tmp 4) (.tmp 14), none⟩,
    ⟨(some 5), .mov (.const .nils), none⟩] [4, 5])
  (.ret)) (.skip)))
  (.seq (.seq (.region [⟨(some 15), .mov (.tmp 1), none⟩,
    ⟨(some 16), .field 0 (.tmp 2), none⟩,
    ⟨(some 17), .load none (.tmp 16), none⟩,
    ⟨(some 18), .len .slice (.tmp 17), none⟩,
    ⟨(some 19), .field 1 (.tmp 2), none⟩,
    ⟨(some 20), .load none (.tmp 19), none⟩,
    ⟨(some 21), .bin .sub (.tmp 18) (.tmp 20), none⟩,
    ⟨(some 22), .bin .gtr (.tmp 15) (.tmp 21), none⟩] [1, 2, 4, 22])
  (.cond (.tmp 22) (.seq (.region [⟨(some 23), .load (some 3) (.tmp 2), none⟩,
    ⟨(some 24), .call (.const (.fn F.cuneiformref03_fail [] [])) [(.tmp 23), (.const (.int .i64 4))], none⟩,
    ⟨none, .store 3 (.tmp 4) (.tmp 24), none⟩,
    ⟨(some 5), .mov (.const .nils), none⟩] [4, 5])
  (.ret)) (.skip)))
  (.seq (.region [⟨(some 25), .lit T.uint8 1 0 [] [], none⟩,
    ⟨(some 26), .field 0 (.tmp 2), none⟩,
    ⟨(some 27), .load none (.tmp 26), none⟩,
    ⟨(some 28), .field 1 (.tmp 2), none⟩,
    ⟨(some 29), .load none (.tmp 28), none⟩,
    ⟨(some 30), .field 1 (.tmp 2), none⟩,
    ⟨(some 31), .load none (.tmp 30), none⟩,
    ⟨(some 32), .mov (.tmp 1), none⟩,
    ⟨(some 33), .bin .add (.tmp 31) (.tmp 32), none⟩,
    ⟨(some 34), .slice 1 .slice (.tmp 27) (some (.tmp 29)) (some (.tmp 33)) none, none⟩,
    ⟨(some 35), .append T.uint8 1 1 (.tmp 25) (.tmp 34), none⟩,
    ⟨(some 6), .mov (.tmp 35), none⟩] [1, 2, 4, 6])
  (.seq (.region [⟨(some 36), .field 1 (.tmp 2), none⟩,
    ⟨(some 37), .load none (.tmp 36), none⟩,
    ⟨(some 38), .mov (.tmp 1), none⟩,
    ⟨(some 39), .bin .add (.tmp 37) (.tmp 38), none⟩,
    ⟨(some 40), .field 1 (.tmp 2), none⟩,
    ⟨none, .store 1 (.tmp 40) (.tmp 39), none⟩] [2, 4, 6])
  (.seq (.region [⟨(some 41), .load (some 3) (.tmp 2), none⟩,
    ⟨(some 42), .mov (.tmp 6), none⟩,
    ⟨none, .store 3 (.tmp 4) (.tmp 41), none⟩,
    ⟨(some 5), .mov (.tmp 42), none⟩] [4, 5])
  (.ret)))))))
def cuneiformref03_Raw : AFun := ⟨43, 2, [.cell 4 (some 3), .tmp 5], cuneiformref03_Raw.body⟩
def cuneiformref03_Field.body : ACode := .seq (.region [⟨(some 2), .box T.cuneiformref03_L (.tmp 0), none⟩,
    ⟨(some 4), .alloc T.cuneiformref03_L [.nils, (.int .i64 0), (.int .i64 0)], none⟩,
    ⟨(some 5), .mov (.const .nils), none⟩] [1, 2, 4])
  (.seq (.seq (.region [⟨(some 10), .field 2 (.tmp 2), none⟩,
    ⟨(some 11), .load none (.tmp 10), none⟩,
    ⟨(some 12), .bin .neq (.tmp 11) (.const (.int .i64 0)), none⟩] [1, 2, 4, 12])
  (.cond (.tmp 12) (.seq (.region [⟨(some 13), .load (some 3) (.tmp 2), none⟩,
    ⟨none, .store 3 (.tmp 4) (.tmp 13), none⟩,
    ⟨(some 5), .mov (.const .nils), none⟩] [4, 5])
  (.ret)) (.skip)))
  (.seq (.seq (.region [⟨(some 14), .mov (.tmp 1), none⟩,
    ⟨(some 15), .bin .lss (.tmp 14) (.const (.int .i64 0)), none⟩] [1, 2, 4, 15])
  (.cond (.tmp 15) (.region [⟨(some 1), .mov (.const (.int .i64 0)), none⟩] [1, 2, 4]) (.skip)))
  (.seq (.region [⟨(some 17), .field 0 (.tmp 2), none⟩,
    ⟨(some 18), .load none (.tmp 17), none⟩,
    ⟨(some 19), .field 1 (.tmp 2), none⟩,
    ⟨(some 20), .load none (.tmp 19), none⟩,
    ⟨(some 21), .call (.const (.fn F.cuneiformref01_Get [] [])) [(.tmp 18), (.tmp 20)], none⟩,
    ⟨(some 16), .mov (.tmp 21), none⟩,
    ⟨(some 22), .extract (.tmp 16) 0, none⟩,
    ⟨(some 23), .extract (.tmp 16) 1, none⟩,
    ⟨(some 24), .extract (.tmp 16) 2, none⟩,
    ⟨(some 6), .mov (.tmp 22), none⟩,
    ⟨(some 7), .mov (.tmp 23), none⟩,
    ⟨(some 8), .mov (.tmp 24), none⟩] [1, 2, 4, 6, 7, 8])
  (.seq (.seq (.region [⟨(some 25), .mov (.tmp 8), none⟩,
    ⟨(some 26), .bin .eql (.tmp 25) (.const (.int .i64 0)), none⟩,
    ⟨(some 27), .mov (.tmp 26), none⟩,
    ⟨(some 28), .mov (.tmp 6), some (27, true)⟩,
    ⟨(some 29), .mov (.tmp 1), some (27, true)⟩,
    ⟨(some 30), .conv .u64 (.tmp 29), some (27, true)⟩,
    ⟨(some 31), .bin .gtr (.tmp 28) (.tmp 30), some (27, true)⟩,
    ⟨(some 32), .pick (.tmp 27) (.tmp 31) (.const (.bool false)), none⟩] [2, 4, 6, 7, 8, 32])
  (.cond (.tmp 32) (.region [⟨(some 8), .mov (.const (.int .i64 6)), none⟩] [2, 4, 6, 7, 8]) (.skip)))
  (.seq (.seq (.region [⟨(some 33), .mov (.tmp 8), none⟩,
    ⟨(some 34), .bin .eql (.tmp 33) (.const (.int .i64 0)), none⟩,
    ⟨(some 35), .mov (.tmp 34), none⟩,
    ⟨(some 36), .mov (.tmp 6), some (35, true)⟩,
    ⟨(some 37), .field 0 (.tmp 2), some (35, true)⟩,
    ⟨(some 38), .load none (.tmp 37), some (35, true)⟩,
    ⟨(some 39), .len .slice (.tmp 38), some (35, true)⟩,
    ⟨(some 40), .mov (.tmp 7), some (35, true)⟩,
    ⟨(some 41), .bin .sub (.tmp 39) (.tmp 40), some (35, true)⟩,
    ⟨(some 42), .conv .u64 (.tmp 41), some (35, true)⟩,
    ⟨(some 43), .bin .gtr (.tmp 36) (.tmp 42), some (35, true)⟩,
    ⟨(some 44), .pick (.tmp 35) (.tmp 43) (.const (.bool false)), none⟩] [2, 4, 6, 7, 8, 44])
  (.cond (.tmp 44) (.region [⟨(some 8), .mov (.const (.int .i64 4)), none⟩] [2, 4, 6, 7, 8]) (.skip)))
  (.seq (.seq (.region [⟨(some 45), .mov (.tmp 8), none⟩,
    ⟨(some 46), .bin .neq (.tmp 45) (.const (.int .i64 0)), none⟩] [2, 4, 6, 7, 8, 46])
  (.cond (.tmp 46) (.seq (.region [⟨(some 47), .load (some 3) (.tmp 2), none⟩,
    ⟨(some 48), .mov (.tmp 8), none⟩,
    ⟨(some 49), .call (.const (.fn F.cuneiformref03_fail [] [])) [(.tmp 47), (.tmp 48)], none⟩,
    ⟨none, .store 3 (.tmp 4) (.tmp 49), none⟩,
    ⟨(some 5), .mov (.const .nils), none⟩] [4, 5])
  (.ret)) (.skip)))
  (.seq (.region [⟨(some 50), .lit T.uint8 1 0 [] [], none⟩,
    ⟨(some 51), .field 0 (.tmp 2), none⟩,
    ⟨(some 52), .load none (.tmp 51), none⟩,
    ⟨(some 53), .mov (.tmp 7), none⟩,
    ⟨(some 54), .mov (.tmp 7), none⟩,
    ⟨(some 55), .mov (.tmp 6), none⟩,
    ⟨(some 56), .conv .i64 (.tmp 55), none⟩,
    ⟨(some 57), .bin .add (.tmp 54) (.tmp 56), none⟩,
    ⟨(some 58), .slice 1 .slice (.tmp 52) (some (.tmp 53)) (some (.tmp 57)) none, none⟩,
    ⟨(some 59), .append T.uint8 1 1 (.tmp 50) (.tmp 58), none⟩,
    ⟨(some 9), .mov (.tmp 59), none⟩] [2, 4, 6, 7, 9])
  (.seq (.region [⟨(some 60), .mov (.tmp 7), none⟩,
    ⟨(some 61), .mov (.tmp 6), none⟩,
    ⟨(some 62), .conv .i64 (.tmp 61), none⟩,
    ⟨(some 63), .bin .add (.tmp 60) (.tmp 62), none⟩,
    ⟨(some 64), .field 1 (.tmp 2), none⟩,
    ⟨none, .store 1 (.tmp 64) (.tmp 63), none⟩] [2, 4, 9])
  (.seq (.region [⟨(some 65), .load (some 3) (.tmp 2), none⟩,
    ⟨(some 66), .mov (.tmp 9), none⟩,
    ⟨none, .store 3 (.tmp 4) (.tmp 65), none⟩,
    ⟨(some 5), .mov (.tmp 66), none⟩] [4, 5])
  (.ret))))))))))
def cuneiformref03_Field : AFun := ⟨67, 2, [.cell 4 (some 3), .tmp 5], cuneiformref03_Field.body⟩
def cuneiformlaw03_words.a0 : ACode := .region [⟨(some 10), .mov (.tmp 20), none⟩] [4, 5, 8, 10]
def cuneiformlaw03_words.b0 : ACode := .block 1 (.seq (.region [⟨(some 22), .load (some 3) (.tmp 4), none⟩,
    ⟨(some 23), .load none (.tmp 5), none⟩,
    ⟨(some 24), .call (.const (.fn F.cuneiformref03_Word [] [])) [(.tmp 22), (.tmp 23)], none⟩,
    ⟨(some 21), .mov (.tmp 24), none⟩,
    ⟨(some 25), .extract (.tmp 21) 0, none⟩,
    ⟨(some 26), .extract (.tmp 21) 1, none⟩,
    ⟨(some 11), .alloc T.cuneiformref03_L [.nils, (.int .i64 0), (.int .i64 0)], none⟩,
    ⟨none, .store 3 (.tmp 11) (.tmp 25), none⟩,
    ⟨(some 12), .mov (.tmp 26), none⟩] [4, 8, 10, 11, 12])
  (.seq (.region [⟨(some 27), .load (some 3) (.tmp 11), none⟩,
    ⟨none, .store 3 (.tmp 4) (.tmp 27), none⟩] [8, 10, 12])
  (.region [⟨(some 28), .load none (.tmp 8), none⟩,
    ⟨(some 29), .mov (.tmp 28), none⟩,
    ⟨(some 30), .mov (.tmp 10), some (29, true)⟩,
    ⟨(some 31), .mov (.tmp 12), some (29, true)⟩,
    ⟨(some 32), .bin .eql (.tmp 30) (.tmp 31), some (29, true)⟩,
    ⟨(some 33), .pick (.tmp 29) (.tmp 32) (.const (.bool false)), none⟩,
    ⟨none, .store 1 (.tmp 8) (.tmp 33), none⟩] [])))
def cuneiformlaw03_words.d1 : List AOper := [⟨(some 60), .load (some 3) (.tmp 4), none⟩,
    ⟨(some 61), .load none (.tmp 8), none⟩,
    ⟨none, .store 3 (.tmp 6) (.tmp 60), none⟩,
    ⟨(some 7), .mov (.tmp 61), none⟩]
def cuneiformlaw03_words.d1b : List (List Nat) := [[], [], [0], [0, 1, 2]]
def cuneiformlaw03_words.body : ACode := .seq (.region [⟨(some 4), .box T.cuneiformref03_L (.tmp 1), none⟩,
    ⟨(some 5), .box T.int (.tmp 2), none⟩,
    ⟨(some 6), .alloc T.cuneiformref03_L [.nils, (.int .i64 0), (.int .i64 0)], none⟩,
    ⟨(some 7), .mov (.const (.bool false)), none⟩] [0, 4, 5, 6, 7])
  (.seq (.region [⟨(some 8), .alloc T.bool [(.bool false)], none⟩,
    ⟨none, .store 1 (.tmp 8) (.const (.bool true)), none⟩] [0, 4, 5, 6, 7, 8])
  (.seq (.region [⟨(some 13), .mov (.tmp 0), none⟩,
    ⟨(some 14), .load none (.tmp 5), none⟩,
    ⟨(some 15), .call (.const (.fn F.lens_Lens_Words [] [])) [(.tmp 13), (.tmp 14)], none⟩,
    ⟨(some 9), .mov (.tmp 15), none⟩] [4, 5, 6, 7, 8, 9])
  (.seq (.seq (.region [⟨(some 16), .mov (.tmp 9), none⟩,
    ⟨(some 17), .eq false .func (.tmp 16) (.const .nilf), none⟩] [4, 5, 6, 7, 8, 9, 17])
  (.cond (.tmp 17) (.seq (.region [⟨(some 18), .load (some 3) (.tmp 4), none⟩,
    ⟨none, .store 3 (.tmp 6) (.tmp 18), none⟩,
    ⟨(some 7), .mov (.const (.bool false)), none⟩] [6, 7])
  (.ret)) (.skip)))
  (.seq (.seq (.region [⟨(some 19), .mov (.tmp 9), none⟩] [4, 5, 6, 7, 8, 19])
  (.block 0 (.range (.tmp 19) [20] cuneiformlaw03_words.a0 cuneiformlaw03_words.b0)))
  (.seq (.seq (.region [⟨(some 34), .load none (.tmp 5), none⟩,
    ⟨(some 35), .bin .eql (.tmp 34) (.const (.int .i64 1)), none⟩,
    ⟨(some 36), .mov (.tmp 35), none⟩,
    ⟨(some 37), .load none (.tmp 5), some (36, false)⟩,
    ⟨(some 38), .bin .eql (.tmp 37) (.const (.int .i64 2)), some (36, false)⟩,
    ⟨(some 39), .pick (.tmp 36) (.const (.bool true)) (.tmp 38), none⟩,
    ⟨(some 40), .mov (.tmp 39), none⟩,
    ⟨(some 41), .load none (.tmp 5), some (40, false)⟩,
    ⟨(some 42), .bin .eql (.tmp 41) (.const (.int .i64 4)), some (40, false)⟩,
    ⟨(some 43), .pick (.tmp 40) (.const (.bool true)) (.tmp 42), none⟩] [4, 5, 6, 8, 43])
  (.cond (.tmp 43) (.region [⟨(some 44), .load none (.tmp 8), none⟩,
    ⟨(some 45), .mov (.tmp 44), none⟩,
    ⟨(some 46), .field 2 (.tmp 4), some (45, true)⟩,
    ⟨(some 47), .load none (.tmp 46), some (45, true)⟩,
    ⟨(some 48), .bin .neq (.tmp 47) (.const (.int .i64 0)), some (45, true)⟩,
    ⟨(some 49), .mov (.tmp 48), some (45, true)⟩,
    ⟨(some 50), .field 0 (.tmp 4), some (49, false)⟩,
    ⟨(some 51), .load none (.tmp 50), some (49, false)⟩,
    ⟨(some 52), .len .slice (.tmp 51), some (49, false)⟩,
    ⟨(some 53), .field 1 (.tmp 4), some (49, false)⟩,
    ⟨(some 54), .load none (.tmp 53), some (49, false)⟩,
    ⟨(some 55), .bin .sub (.tmp 52) (.tmp 54), some (49, false)⟩,
    ⟨(some 56), .load none (.tmp 5), some (49, false)⟩,
    ⟨(some 57), .bin .lss (.tmp 55) (.tmp 56), some (49, false)⟩,
    ⟨(some 58), .pick (.tmp 49) (.const (.bool true)) (.tmp 57), some (45, true)⟩,
    ⟨(some 59), .pick (.tmp 45) (.tmp 58) (.const (.bool false)), none⟩,
    ⟨none, .store 1 (.tmp 8) (.tmp 59), none⟩] [4, 6, 8]) (.skip)))
  (.seq (.draw cuneiformlaw03_words.d1 cuneiformlaw03_words.d1b [[0, 1, 2, 3]] [(2, 1)] [6, 7])
  (.ret)))))))
def cuneiformlaw03_words : AFun := ⟨62, 3, [.cell 6 (some 3), .tmp 7], cuneiformlaw03_words.body⟩
def cuneiformlaw03_Alike.d0 : List AOper := [⟨(some 18), .mov (.tmp 0), none⟩,
    ⟨(some 19), .call (.const (.fn F.lens_Lens_Err [] [])) [(.tmp 18)], none⟩,
    ⟨(some 20), .field 2 (.tmp 3), none⟩,
    ⟨(some 21), .load none (.tmp 20), none⟩,
    ⟨(some 22), .bin .eql (.tmp 19) (.tmp 21), none⟩,
    ⟨(some 23), .mov (.tmp 22), none⟩,
    ⟨(some 24), .mov (.tmp 0), some (23, true)⟩,
    ⟨(some 25), .call (.const (.fn F.lens_Lens_Place [] [])) [(.tmp 24)], some (23, true)⟩,
    ⟨(some 26), .field 1 (.tmp 3), some (23, true)⟩,
    ⟨(some 27), .load none (.tmp 26), some (23, true)⟩,
    ⟨(some 28), .bin .eql (.tmp 25) (.tmp 27), some (23, true)⟩,
    ⟨(some 29), .pick (.tmp 23) (.tmp 28) (.const (.bool false)), none⟩,
    ⟨(some 30), .mov (.tmp 29), none⟩,
    ⟨(some 31), .mov (.tmp 0), some (30, true)⟩,
    ⟨(some 32), .call (.const (.fn F.lens_Lens_Left [] [])) [(.tmp 31)], some (30, true)⟩,
    ⟨(some 33), .field 0 (.tmp 3), some (30, true)⟩,
    ⟨(some 34), .load none (.tmp 33), some (30, true)⟩,
    ⟨(some 35), .len .slice (.tmp 34), some (30, true)⟩,
    ⟨(some 36), .field 1 (.tmp 3), some (30, true)⟩,
    ⟨(some 37), .load none (.tmp 36), some (30, true)⟩,
    ⟨(some 38), .bin .sub (.tmp 35) (.tmp 37), some (30, true)⟩,
    ⟨(some 39), .bin .eql (.tmp 32) (.tmp 38), some (30, true)⟩,
    ⟨(some 40), .pick (.tmp 30) (.tmp 39) (.const (.bool false)), none⟩,
    ⟨(some 41), .mov (.tmp 40), none⟩,
    ⟨(some 42), .mov (.tmp 0), some (41, true)⟩,
    ⟨(some 43), .call (.const (.fn F.lens_Lens_End [] [])) [(.tmp 42)], some (41, true)⟩,
    ⟨(some 44), .mov (.tmp 5), some (41, true)⟩,
    ⟨(some 45), .bin .eql (.tmp 43) (.tmp 44), some (41, true)⟩,
    ⟨(some 46), .pick (.tmp 41) (.tmp 45) (.const (.bool false)), none⟩,
    ⟨(some 4), .mov (.tmp 46), none⟩]
def cuneiformlaw03_Alike.d0b : List (List Nat) := [[], [0], [], [2], [0, 1, 2, 3], [0, 1, 2, 3, 4], [0, 1, 2, 3, 4, 5], [0, 1, 2, 3, 4, 5, 6], [0, 1, 2, 3, 4, 5], [0, 1, 2, 3, 4, 5, 8], [0, 1, 2, 3, 4, 5, 6, 7, 8, 9], [0, 1, 2, 3, 4, 5, 6, 7, 8, 9, 10], [0, 1, 2, 3, 4, 5, 6, 7, 8, 9, 10, 11], [0, 1, 2, 3, 4, 5, 6, 7, 8, 9, 10, 11, 12], [0, 1, 2, 3, 4, 5, 6, 7, 8, 9, 10, 11, 12, 13], [0, 1, 2, 3, 4, 5, 6, 7, 8, 9, 10, 11, 12], [0, 1, 2, 3, 4, 5, 6, 7, 8, 9, 10, 11, 12, 15], [0, 1, 2, 3, 4, 5, 6, 7, 8, 9, 10, 11, 12, 15, 16], [0, 1, 2, 3, 4, 5, 6, 7, 8, 9, 10, 11, 12], [0, 1, 2, 3, 4, 5, 6, 7, 8, 9, 10, 11, 12, 18], [0, 1, 2, 3, 4, 5, 6, 7, 8, 9, 10, 11, 12, 15, 16, 17, 18, 19], [0, 1, 2, 3, 4, 5, 6, 7, 8, 9, 10, 11, 12, 13, 14, 15, 16, 17, 18, 19, 20], [0, 1, 2, 3, 4, 5, 6, 7, 8, 9, 10, 11, 12, 13, 14, 15, 16, 17, 18, 19, 20, 21], [0, 1, 2, 3, 4, 5, 6, 7, 8, 9, 10, 11, 12, 13, 14, 15, 16, 17, 18, 19, 20, 21, 22], [0, 1, 2, 3, 4, 5, 6, 7, 8, 9, 10, 11, 12, 13, 14, 15, 16, 17, 18, 19, 20, 21, 22, 23], [0, 1, 2, 3, 4, 5, 6, 7, 8, 9, 10, 11, 12, 13, 14, 15, 16, 17, 18, 19, 20, 21, 22, 23, 24], [0, 1, 2, 3, 4, 5, 6, 7, 8, 9, 10, 11, 12, 13, 14, 15, 16, 17, 18, 19, 20, 21, 22, 23], [0, 1, 2, 3, 4, 5, 6, 7, 8, 9, 10, 11, 12, 13, 14, 15, 16, 17, 18, 19, 20, 21, 22, 23, 24, 25, 26], [0, 1, 2, 3, 4, 5, 6, 7, 8, 9, 10, 11, 12, 13, 14, 15, 16, 17, 18, 19, 20, 21, 22, 23, 24, 25, 26, 27], [0, 1, 2, 3, 4, 5, 6, 7, 8, 9, 10, 11, 12, 13, 14, 15, 16, 17, 18, 19, 20, 21, 22, 23, 24, 25, 26, 27, 28]]
def cuneiformlaw03_Alike.body : ACode := .seq (.region [⟨(some 3), .box T.cuneiformref03_L (.tmp 1), none⟩,
    ⟨(some 4), .mov (.const (.bool false)), none⟩] [0, 3])
  (.seq (.region [⟨(some 6), .field 2 (.tmp 3), none⟩,
    ⟨(some 7), .load none (.tmp 6), none⟩,
    ⟨(some 5), .mov (.tmp 7), none⟩] [0, 3, 5])
  (.seq (.seq (.region [⟨(some 8), .mov (.tmp 5), none⟩,
    ⟨(some 9), .bin .eql (.tmp 8) (.const (.int .i64 0)), none⟩,
    ⟨(some 10), .mov (.tmp 9), none⟩,
    ⟨(some 11), .field 1 (.tmp 3), some (10, true)⟩,
    ⟨(some 12), .load none (.tmp 11), some (10, true)⟩,
    ⟨(some 13), .field 0 (.tmp 3), some (10, true)⟩,
    ⟨(some 14), .load none (.tmp 13), some (10, true)⟩,
    ⟨(some 15), .len .slice (.tmp 14), some (10, true)⟩,
    ⟨(some 16), .bin .lss (.tmp 12) (.tmp 15), some (10, true)⟩,
    ⟨(some 17), .pick (.tmp 10) (.tmp 16) (.const (.bool false)), none⟩] [0, 3, 5, 17])
  (.cond (.tmp 17) (.region [⟨(some 5), .mov (.const (.int .i64 3)), none⟩] [0, 3, 5]) (.skip)))
  (.seq (.draw cuneiformlaw03_Alike.d0 cuneiformlaw03_Alike.d0b [[0, 2, 3, 1, 4, 5, 6, 8, 9, 7, 10, 11, 12, 13, 15, 16, 17, 18, 19, 20, 14, 21, 22, 23, 24, 26, 25, 27, 28, 29]] [(1, 3), (7, 9), (14, 16), (14, 19)] [4])
  (.ret))))
def cuneiformlaw03_Alike : AFun := ⟨47, 2, [.tmp 4], cuneiformlaw03_Alike.body⟩
def lens_Lens_Words.body : ACode := .seq (.region [⟨(some 2), .box T.p_lens_Lens (.tmp 0), none⟩,
    ⟨(some 3), .box T.int (.tmp 1), none⟩,
    ⟨(some 4), .mov (.const .nilf), none⟩] [2, 3])
  (.seq (.region [⟨(some 5), .mkfn F.lens_Lens_Words_1 [] [(.tmp 3), (.tmp 2)], none⟩,
    ⟨(some 4), .mov (.tmp 5), none⟩] [4])
  (.ret))
def lens_Lens_Words : AFun := ⟨6, 2, [.tmp 4], lens_Lens_Words.body⟩
def lens_Lens_Left.body : ACode := .seq (.region [⟨(some 2), .mov (.const (.int .i64 0)), none⟩] [0])
  (.seq (.seq (.region [⟨(some 3), .mov (.tmp 0), none⟩,
    ⟨(some 4), .eq false .ptr (.tmp 3) (.const .nilp), none⟩] [0, 4])
  (.cond (.tmp 4) (.seq (.region [⟨(some 2), .mov (.const (.int .i64 0)), none⟩] [2])
  (.ret)) (.skip)))
  (.seq (.region [⟨(some 5), .mov (.tmp 0), none⟩,
    ⟨(some 6), .call (.const (.fn F.lens_Lens_left [] [])) [(.tmp 5)], none⟩,
    ⟨(some 7), .len .slice (.tmp 6), none⟩,
    ⟨(some 2), .mov (.tmp 7), none⟩] [2])
  (.ret)))
def lens_Lens_Left : AFun := ⟨8, 1, [.tmp 2], lens_Lens_Left.body⟩
def pen_New.body : ACode := .seq (.region [⟨(some 2), .mov (.const .nilp), none⟩] [0])
  (.seq (.region [⟨(some 3), .mov (.tmp 0), none⟩,
    ⟨(some 4), .maxmin true (.tmp 3) (.const (.int .i64 0)), none⟩,
    ⟨(some 5), .build [.nils, (.int .i64 0), (.bool false)] [(1, 1, (.tmp 4))], none⟩,
    ⟨(some 6), .build [.nils, (.int .i64 0), (.bool false)] [(0, 3, (.tmp 5))], none⟩,
    ⟨(some 7), .box T.pen_Pen (.tmp 6), none⟩,
    ⟨(some 2), .mov (.tmp 7), none⟩] [2])
  (.ret))
def pen_New : AFun := ⟨8, 1, [.tmp 2], pen_New.body⟩
def pen_Pen_U8.body : ACode := .seq (.region [⟨(some 4), .mov (.const (.int .i64 0)), none⟩] [0, 1])
  (.seq (.region [⟨(some 5), .mov (.tmp 0), none⟩,
    ⟨(some 6), .mov (.tmp 1), none⟩,
    ⟨(some 7), .conv .u32 (.tmp 6), none⟩,
    ⟨(some 8), .call (.const (.fn F.pen_Pen_word [] [])) [(.tmp 5), (.tmp 7), (.const (.int .i64 1))], none⟩,
    ⟨(some 4), .mov (.tmp 8), none⟩] [4])
  (.ret))
def pen_Pen_U8 : AFun := ⟨9, 2, [.tmp 4], pen_Pen_U8.body⟩
def pen_Pen_Number.body : ACode := .seq (.region [⟨(some 4), .mov (.const (.int .i64 0)), none⟩] [0, 1])
  (.seq (.region [⟨(some 5), .mov (.tmp 0), none⟩,
    ⟨(some 6), .mov (.tmp 1), none⟩,
    ⟨(some 7), .call (.const (.fn F.varint_Put [] [])) [(.tmp 6)], none⟩,
    ⟨(some 8), .call (.const (.fn F.pen_Pen_Raw [] [])) [(.tmp 5), (.tmp 7)], none⟩,
    ⟨(some 4), .mov (.tmp 8), none⟩] [4])
  (.ret))
def pen_Pen_Number : AFun := ⟨9, 2, [.tmp 4], pen_Pen_Number.body⟩
def pen_Pen_U16.body : ACode := .seq (.region [⟨(some 4), .mov (.const (.int .i64 0)), none⟩] [0, 1])
  (.seq (.region [⟨(some 5), .mov (.tmp 0), none⟩,
    ⟨(some 6), .mov (.tmp 1), none⟩,
    ⟨(some 7), .conv .u32 (.tmp 6), none⟩,
    ⟨(some 8), .call (.const (.fn F.pen_Pen_word [] [])) [(.tmp 5), (.tmp 7), (.const (.int .i64 2))], none⟩,
    ⟨(some 4), .mov (.tmp 8), none⟩] [4])
  (.ret))
def pen_Pen_U16 : AFun := ⟨9, 2, [.tmp 4], pen_Pen_U16.body⟩
def pen_Pen_Field.body : ACode := .seq (.region [⟨(some 4), .mov (.const (.int .i64 0)), none⟩] [0, 1])
  (.seq (.region [⟨(some 5), .mov (.tmp 0), none⟩,
    ⟨(some 6), .mov (.tmp 1), none⟩,
    ⟨(some 7), .len .slice (.tmp 6), none⟩,
    ⟨(some 8), .conv .u64 (.tmp 7), none⟩,
    ⟨(some 9), .lit T.uint64 1 1 [(.int .u64 0)] [(0, 1, (.tmp 8))], none⟩,
    ⟨(some 10), .call (.const (.fn F.varint_Put [] [])) [(.tmp 9)], none⟩,
    ⟨(some 11), .mov (.tmp 1), none⟩,
    ⟨(some 12), .append T.uint8 1 1 (.tmp 10) (.tmp 11), none⟩,
    ⟨(some 13), .call (.const (.fn F.pen_Pen_Raw [] [])) [(.tmp 5), (.tmp 12)], none⟩,
    ⟨(some 4), .mov (.tmp 13), none⟩] [4])
  (.ret))
def pen_Pen_Field : AFun := ⟨14, 2, [.tmp 4], pen_Pen_Field.body⟩
def pen_Pen_Signed.b0 : ACode := .seq (.region [⟨(some 11), .bin .lss (.tmp 10) (.tmp 9), none⟩] [0, 5, 8, 9, 10, 11])
  (.seq (.cond (.tmp 11) (.skip) (.exit 0))
  (.seq (.block 1 (.seq (.region [⟨(some 12), .idx 1 none (.tmp 8) (.tmp 10), none⟩,
    ⟨(some 13), .load none (.tmp 12), none⟩,
    ⟨(some 7), .mov (.tmp 13), none⟩] [0, 5, 7, 8, 9, 10])
  (.region [⟨(some 14), .mov (.tmp 5), none⟩,
    ⟨(some 15), .mov (.tmp 7), none⟩,
    ⟨(some 16), .call (.const (.fn F.varint_Zig [] [])) [(.tmp 15)], none⟩,
    ⟨(some 17), .lit T.uint64 1 1 [(.int .u64 0)] [(0, 1, (.tmp 16))], none⟩,
    ⟨(some 18), .append T.uint64 1 8 (.tmp 14) (.tmp 17), none⟩,
    ⟨(some 5), .mov (.tmp 18), none⟩] [0, 5, 8, 9, 10])))
  (.region [⟨(some 19), .bin .add (.tmp 10) (.const (.int .i64 1)), none⟩,
    ⟨(some 10), .mov (.tmp 19), none⟩] [0, 5, 8, 9, 10])))
def pen_Pen_Signed.body : ACode := .seq (.region [⟨(some 4), .mov (.const (.int .i64 0)), none⟩] [0, 1])
  (.seq (.region [⟨(some 5), .mov (.const .nils), none⟩] [0, 1, 5])
  (.seq (.seq (.region [⟨(some 8), .mov (.tmp 1), none⟩,
    ⟨(some 9), .len .slice (.tmp 8), none⟩,
    ⟨(some 10), .mov (.const (.int .i64 0)), none⟩] [0, 5, 8, 9, 10])
  (.block 0 (.loop pen_Pen_Signed.b0)))
  (.seq (.region [⟨(some 20), .mov (.tmp 0), none⟩,
    ⟨(some 21), .mov (.tmp 5), none⟩,
    ⟨(some 22), .call (.const (.fn F.pen_Pen_Number [] [])) [(.tmp 20), (.tmp 21)], none⟩,
    ⟨(some 4), .mov (.tmp 22), none⟩] [4])
  (.ret))))
def pen_Pen_Signed : AFun := ⟨23, 2, [.tmp 4], pen_Pen_Signed.body⟩
def pen_Pen_U32.body : ACode := .seq (.region [⟨(some 4), .mov (.const (.int .i64 0)), none⟩] [0, 1])
  (.seq (.region [⟨(some 5), .mov (.tmp 0), none⟩,
    ⟨(some 6), .mov (.tmp 1), none⟩,
    ⟨(some 7), .call (.const (.fn F.pen_Pen_word [] [])) [(.tmp 5), (.tmp 6), (.const (.int .i64 4))], none⟩,
    ⟨(some 4), .mov (.tmp 7), none⟩] [4])
  (.ret))
def pen_Pen_U32 : AFun := ⟨8, 2, [.tmp 4], pen_Pen_U32.body⟩
def pen_Pen_Raw.d0 : List AOper := [⟨(some 9), .mov (.tmp 0), none⟩,
    ⟨(some 10), .nilc (.tmp 9), none⟩,
    ⟨(some 11), .field 0 (.tmp 10), none⟩,
    ⟨(some 12), .field 2 (.tmp 11), none⟩,
    ⟨(some 13), .load none (.tmp 12), none⟩,
    ⟨(some 14), .mov (.tmp 13), none⟩,
    ⟨(some 15), .mov (.tmp 1), some (14, false)⟩,
    ⟨(some 16), .len .slice (.tmp 15), some (14, false)⟩,
    ⟨(some 17), .mov (.tmp 0), some (14, false)⟩,
    ⟨(some 18), .nilc (.tmp 17), some (14, false)⟩,
    ⟨(some 19), .field 0 (.tmp 18), some (14, false)⟩,
    ⟨(some 20), .field 1 (.tmp 19), some (14, false)⟩,
    ⟨(some 21), .load none (.tmp 20), some (14, false)⟩,
    ⟨(some 22), .mov (.tmp 0), some (14, false)⟩,
    ⟨(some 23), .nilc (.tmp 22), some (14, false)⟩,
    ⟨(some 24), .field 0 (.tmp 23), some (14, false)⟩,
    ⟨(some 25), .field 0 (.tmp 24), some (14, false)⟩,
    ⟨(some 26), .load none (.tmp 25), some (14, false)⟩,
    ⟨(some 27), .len .slice (.tmp 26), some (14, false)⟩,
    ⟨(some 28), .bin .sub (.tmp 21) (.tmp 27), some (14, false)⟩,
    ⟨(some 29), .bin .gtr (.tmp 16) (.tmp 28), some (14, false)⟩,
    ⟨(some 30), .pick (.tmp 14) (.const (.bool true)) (.tmp 29), none⟩,
    ⟨(some 8), .mov (.tmp 30), none⟩]
def pen_Pen_Raw.d0b : List (List Nat) := [[], [0], [0, 1], [0, 1, 2], [0, 1, 2, 3], [0, 1, 2, 3, 4], [0, 1, 2, 3, 4, 5], [0, 1, 2, 3, 4, 5, 6], [0, 1, 2, 3, 4, 5], [0, 1, 2, 3, 4, 5, 8], [0, 1, 2, 3, 4, 5, 8, 9], [0, 1, 2, 3, 4, 5, 8, 9, 10], [0, 1, 2, 3, 4, 5, 8, 9, 10, 11], [0, 1, 2, 3, 4, 5], [0, 1, 2, 3, 4, 5, 13], [0, 1, 2, 3, 4, 5, 13, 14], [0, 1, 2, 3, 4, 5, 13, 14, 15], [0, 1, 2, 3, 4, 5, 13, 14, 15, 16], [0, 1, 2, 3, 4, 5, 13, 14, 15, 16, 17], [0, 1, 2, 3, 4, 5, 8, 9, 10, 11, 12, 13, 14, 15, 16, 17, 18], [0, 1, 2, 3, 4, 5, 6, 7, 8, 9, 10, 11, 12, 13, 14, 15, 16, 17, 18, 19], [0, 1, 2, 3, 4, 5, 6, 7, 8, 9, 10, 11, 12, 13, 14, 15, 16, 17, 18, 19, 20], [0, 1, 2, 3, 4, 5, 6, 7, 8, 9, 10, 11, 12, 13, 14, 15, 16, 17, 18, 19, 20, 21]]
def pen_Pen_Raw.body : ACode := .seq (.region [⟨(some 4), .mov (.const (.int .i64 0)), none⟩] [0, 1])
  (.seq (.block 0 (.seq (.region [⟨(some 6), .mov (.tmp 0), none⟩,
    ⟨(some 7), .eq false .ptr (.tmp 6) (.const .nilp), none⟩,
    ⟨(some 5), .mov (.tmp 7), none⟩] [0, 1, 5])
  (.cond (.tmp 5) (.seq (.region [⟨(some 4), .mov (.const (.int .i64 1)), none⟩] [4])
  (.ret)) (.seq (.draw pen_Pen_Raw.d0 pen_Pen_Raw.d0b [[0, 1, 2, 3, 4, 5, 6, 7, 8, 9, 10, 11, 12, 13, 14, 15, 16, 17, 18, 19, 20, 21, 22]] [] [0, 1, 8])
  (.cond (.tmp 8) (.seq (.region [⟨(some 31), .mov (.tmp 0), none⟩,
    ⟨(some 32), .nilc (.tmp 31), none⟩,
    ⟨(some 33), .field 0 (.tmp 32), none⟩,
    ⟨(some 34), .field 2 (.tmp 33), none⟩,
    ⟨none, .store 1 (.tmp 34) (.const (.bool true)), none⟩] [])
  (.seq (.region [⟨(some 4), .mov (.const (.int .i64 2)), none⟩] [4])
  (.ret))) (.skip))))))
  (.seq (.region [⟨(some 35), .mov (.tmp 0), none⟩,
    ⟨(some 36), .mov (.tmp 0), none⟩,
    ⟨(some 37), .nilc (.tmp 36), none⟩,
    ⟨(some 38), .field 0 (.tmp 37), none⟩,
    ⟨(some 39), .field 0 (.tmp 38), none⟩,
    ⟨(some 40), .load none (.tmp 39), none⟩,
    ⟨(some 41), .mov (.tmp 1), none⟩,
    ⟨(some 42), .append T.uint8 1 1 (.tmp 40) (.tmp 41), none⟩,
    ⟨(some 43), .nilc (.tmp 35), none⟩,
    ⟨(some 44), .field 0 (.tmp 43), none⟩,
    ⟨(some 45), .field 0 (.tmp 44), none⟩,
    ⟨none, .store 1 (.tmp 45) (.tmp 42), none⟩] [])
  (.seq (.region [⟨(some 4), .mov (.const (.int .i64 0)), none⟩] [4])
  (.ret))))
def pen_Pen_Raw : AFun := ⟨46, 2, [.tmp 4], pen_Pen_Raw.body⟩
def pen_Pen_Err.body : ACode := .seq (.region [⟨(some 2), .mov (.const (.int .i64 0)), none⟩] [0])
  (.seq (.block 0 (.seq (.region [⟨(some 4), .mov (.tmp 0), none⟩,
    ⟨(some 5), .eq false .ptr (.tmp 4) (.const .nilp), none⟩,
    ⟨(some 3), .mov (.tmp 5), none⟩] [0, 3])
  (.cond (.tmp 3) (.seq (.region [⟨(some 2), .mov (.const (.int .i64 1)), none⟩] [2])
  (.ret)) (.seq (.region [⟨(some 7), .mov (.tmp 0), none⟩,
    ⟨(some 8), .nilc (.tmp 7), none⟩,
    ⟨(some 9), .field 0 (.tmp 8), none⟩,
    ⟨(some 10), .field 2 (.tmp 9), none⟩,
    ⟨(some 11), .load none (.tmp 10), none⟩,
    ⟨(some 6), .mov (.tmp 11), none⟩] [6])
  (.cond (.tmp 6) (.seq (.region [⟨(some 2), .mov (.const (.int .i64 2)), none⟩] [2])
  (.ret)) (.skip))))))
  (.seq (.region [⟨(some 2), .mov (.const (.int .i64 0)), none⟩] [2])
  (.ret)))
def pen_Pen_Err : AFun := ⟨12, 1, [.tmp 2], pen_Pen_Err.body⟩
def pen_Pen_Bytes.body : ACode := .seq (.region [⟨(some 2), .mov (.const .nils), none⟩] [0])
  (.seq (.seq (.region [⟨(some 3), .mov (.tmp 0), none⟩,
    ⟨(some 4), .eq false .ptr (.tmp 3) (.const .nilp), none⟩] [0, 4])
  (.cond (.tmp 4) (.seq (.region [⟨(some 2), .mov (.const .nils), none⟩] [2])
  (.ret)) (.skip)))
  (.seq (.region [⟨(some 5), .mov (.tmp 0), none⟩,
    ⟨(some 6), .nilc (.tmp 5), none⟩,
    ⟨(some 7), .field 0 (.tmp 6), none⟩,
    ⟨(some 8), .field 0 (.tmp 7), none⟩,
    ⟨(some 9), .load none (.tmp 8), none⟩,
    ⟨(some 10), .append T.uint8 1 1 (.const .nils) (.tmp 9), none⟩,
    ⟨(some 2), .mov (.tmp 10), none⟩] [2])
  (.ret)))
def pen_Pen_Bytes : AFun := ⟨11, 1, [.tmp 2], pen_Pen_Bytes.body⟩
def lens_Lens_read.body : ACode := .seq (.region [⟨(some 4), .mov (.const (.bool false)), none⟩] [0, 1])
  (.seq (.seq (.region [⟨(some 7), .mov (.tmp 0), none⟩,
    ⟨(some 8), .eq false .ptr (.tmp 7) (.const .nilp), none⟩,
    ⟨(some 9), .mov (.tmp 8), none⟩,
    ⟨(some 10), .mov (.tmp 0), some (9, false)⟩,
    ⟨(some 11), .nilc (.tmp 10), some (9, false)⟩,
    ⟨(some 12), .field 2 (.tmp 11), some (9, false)⟩,
    ⟨(some 13), .load none (.tmp 12), some (9, false)⟩,
    ⟨(some 14), .bin .neq (.tmp 13) (.const (.int .i64 0)), some (9, false)⟩,
    ⟨(some 15), .pick (.tmp 9) (.const (.bool true)) (.tmp 14), none⟩] [0, 1, 15])
  (.cond (.tmp 15) (.seq (.region [⟨(some 4), .mov (.const (.bool false)), none⟩] [4])
  (.ret)) (.skip)))
  (.seq (.region [⟨(some 17), .mov (.tmp 1), none⟩,
    ⟨(some 18), .mov (.tmp 0), none⟩,
    ⟨(some 19), .call (.const (.fn F.lens_Lens_left [] [])) [(.tmp 18)], none⟩,
    ⟨(some 20), .call (.tmp 17) [(.tmp 19)], none⟩,
    ⟨(some 16), .mov (.tmp 20), none⟩,
    ⟨(some 21), .extract (.tmp 16) 0, none⟩,
    ⟨(some 22), .extract (.tmp 16) 1, none⟩,
    ⟨(some 5), .mov (.tmp 21), none⟩,
    ⟨(some 6), .mov (.tmp 22), none⟩] [0, 5, 6])
  (.seq (.seq (.region [⟨(some 23), .mov (.tmp 6), none⟩,
    ⟨(some 24), .bin .neq (.tmp 23) (.const (.int .i64 0)), none⟩] [0, 5, 6, 24])
  (.cond (.tmp 24) (.seq (.region [⟨(some 25), .mov (.tmp 0), none⟩,
    ⟨(some 26), .mov (.tmp 6), none⟩,
    ⟨(some 27), .nilc (.tmp 25), none⟩,
    ⟨(some 28), .field 2 (.tmp 27), none⟩,
    ⟨none, .store 1 (.tmp 28) (.tmp 26), none⟩] [])
  (.seq (.region [⟨(some 4), .mov (.const (.bool false)), none⟩] [4])
  (.ret))) (.skip)))
  (.seq (.region [⟨(some 29), .mov (.tmp 0), none⟩,
    ⟨(some 30), .nilc (.tmp 29), none⟩,
    ⟨(some 31), .field 1 (.tmp 30), none⟩,
    ⟨(some 32), .load none (.tmp 31), none⟩,
    ⟨(some 33), .mov (.tmp 5), none⟩,
    ⟨(some 34), .bin .add (.tmp 32) (.tmp 33), none⟩,
    ⟨(some 35), .nilc (.tmp 29), none⟩,
    ⟨(some 36), .field 1 (.tmp 35), none⟩,
    ⟨none, .store 1 (.tmp 36) (.tmp 34), none⟩] [])
  (.seq (.region [⟨(some 4), .mov (.const (.bool true)), none⟩] [4])
  (.ret))))))
def lens_Lens_read : AFun := ⟨37, 2, [.tmp 4], lens_Lens_read.body⟩
def lens_Lens_Field_1.d0 : List AOper := [⟨(some 38), .load none (.tmp 2), none⟩,
    ⟨(some 39), .mov (.tmp 0), none⟩,
    ⟨(some 40), .mov (.tmp 7), none⟩,
    ⟨(some 41), .mov (.tmp 9), none⟩,
    ⟨(some 42), .mov (.tmp 9), none⟩,
    ⟨(some 43), .slice 1 .slice (.tmp 39) (some (.tmp 40)) (some (.tmp 41)) (some (.tmp 42)), none⟩,
    ⟨(some 44), .append T.uint8 1 1 (.tmp 38) (.tmp 43), none⟩,
    ⟨none, .store 1 (.tmp 2) (.tmp 44), none⟩]
def lens_Lens_Field_1.d0b : List (List Nat) := [[], [], [], [], [], [1, 2, 3, 4], [0, 1, 2, 3, 4, 5], [0, 1, 2, 3, 4, 5, 6]]
def lens_Lens_Field_1.body : ACode := .seq (.region [⟨(some 4), .mov (.const (.int .i64 0)), none⟩,
    ⟨(some 5), .mov (.const (.int .i64 0)), none⟩] [0, 1, 2])
  (.seq (.region [⟨(some 11), .mov (.tmp 0), none⟩,
    ⟨(some 12), .call (.const (.fn F.varint_Get [] [])) [(.tmp 11)], none⟩,
    ⟨(some 10), .mov (.tmp 12), none⟩,
    ⟨(some 13), .extract (.tmp 10) 0, none⟩,
    ⟨(some 14), .extract (.tmp 10) 1, none⟩,
    ⟨(some 15), .extract (.tmp 10) 2, none⟩,
    ⟨(some 6), .mov (.tmp 13), none⟩,
    ⟨(some 7), .mov (.tmp 14), none⟩,
    ⟨(some 8), .mov (.tmp 15), none⟩] [0, 1, 2, 6, 7, 8])
  (.seq (.block 0 (.seq (.region [⟨(some 17), .mov (.tmp 8), none⟩,
    ⟨(some 18), .bin .neq (.tmp 17) (.const (.int .i64 0)), none⟩,
    ⟨(some 16), .mov (.tmp 18), none⟩] [0, 1, 2, 6, 7, 8, 16])
  (.cond (.tmp 16) (.seq (.region [⟨(some 19), .mov (.tmp 8), none⟩,
    ⟨(some 4), .mov (.const (.int .i64 0)), none⟩,
    ⟨(some 5), .mov (.tmp 19), none⟩] [4, 5])
  (.ret)) (.seq (.region [⟨(some 21), .mov (.tmp 6), none⟩,
    ⟨(some 22), .load none (.tmp 1), none⟩,
    ⟨(some 23), .maxmin true (.tmp 22) (.const (.int .i64 0)), none⟩,
    ⟨(some 24), .conv .u64 (.tmp 23), none⟩,
    ⟨(some 25), .bin .gtr (.tmp 21) (.tmp 24), none⟩,
    ⟨(some 20), .mov (.tmp 25), none⟩] [0, 2, 6, 7, 20])
  (.cond (.tmp 20) (.seq (.region [⟨(some 4), .mov (.const (.int .i64 0)), none⟩,
    ⟨(some 5), .mov (.const (.int .i64 6)), none⟩] [4, 5])
  (.ret)) (.seq (.region [⟨(some 27), .mov (.tmp 6), none⟩,
    ⟨(some 28), .mov (.tmp 0), none⟩,
    ⟨(some 29), .len .slice (.tmp 28), none⟩,
    ⟨(some 30), .mov (.tmp 7), none⟩,
    ⟨(some 31), .bin .sub (.tmp 29) (.tmp 30), none⟩,
    ⟨(some 32), .conv .u64 (.tmp 31), none⟩,
    ⟨(some 33), .bin .gtr (.tmp 27) (.tmp 32), none⟩,
    ⟨(some 26), .mov (.tmp 33), none⟩] [0, 2, 6, 7, 26])
  (.cond (.tmp 26) (.seq (.region [⟨(some 4), .mov (.const (.int .i64 0)), none⟩,
    ⟨(some 5), .mov (.const (.int .i64 4)), none⟩] [4, 5])
  (.ret)) (.skip))))))))
  (.seq (.region [⟨(some 34), .mov (.tmp 7), none⟩,
    ⟨(some 35), .mov (.tmp 6), none⟩,
    ⟨(some 36), .conv .i64 (.tmp 35), none⟩,
    ⟨(some 37), .bin .add (.tmp 34) (.tmp 36), none⟩,
    ⟨(some 9), .mov (.tmp 37), none⟩] [0, 2, 7, 9])
  (.seq (.draw lens_Lens_Field_1.d0 lens_Lens_Field_1.d0b [[0, 1, 2, 3, 4, 5, 6, 7]] [] [9])
  (.seq (.region [⟨(some 45), .mov (.tmp 9), none⟩,
    ⟨(some 4), .mov (.tmp 45), none⟩,
    ⟨(some 5), .mov (.const (.int .i64 0)), none⟩] [4, 5])
  (.ret))))))
def lens_Lens_Field_1 : AFun := ⟨46, 3, [.tmp 4, .tmp 5], lens_Lens_Field_1.body⟩
def varint_Get.b0 : ACode := .seq (.region [⟨(some 9), .bin .lss (.tmp 8) (.const (.int .i64 10)), none⟩] [0, 5, 8, 9])
  (.seq (.cond (.tmp 9) (.skip) (.exit 0))
  (.seq (.block 1 (.seq (.region [⟨(some 10), .mov (.tmp 8), none⟩,
    ⟨(some 6), .mov (.tmp 10), none⟩] [0, 5, 6, 8])
  (.seq (.seq (.region [⟨(some 11), .mov (.tmp 6), none⟩,
    ⟨(some 12), .mov (.tmp 0), none⟩,
    ⟨(some 13), .len .slice (.tmp 12), none⟩,
    ⟨(some 14), .bin .geq (.tmp 11) (.tmp 13), none⟩] [0, 5, 6, 8, 14])
  (.cond (.tmp 14) (.seq (.region [⟨(some 2), .mov (.const (.int .u64 0)), none⟩,
    ⟨(some 3), .mov (.const (.int .i64 0)), none⟩,
    ⟨(some 4), .mov (.const (.int .i64 4)), none⟩] [2, 3, 4])
  (.ret)) (.skip)))
  (.seq (.region [⟨(some 15), .mov (.tmp 0), none⟩,
    ⟨(some 16), .mov (.tmp 6), none⟩,
    ⟨(some 17), .idx 1 none (.tmp 15) (.tmp 16), none⟩,
    ⟨(some 18), .load none (.tmp 17), none⟩,
    ⟨(some 19), .bin .rem (.tmp 18) (.const (.int .u8 128)), none⟩,
    ⟨(some 20), .conv .u64 (.tmp 19), none⟩,
    ⟨(some 7), .mov (.tmp 20), none⟩] [0, 5, 6, 7, 8])
  (.seq (.region [⟨(some 21), .mov (.tmp 5), none⟩,
    ⟨(some 22), .mov (.tmp 7), none⟩,
    ⟨(some 23), .mov (.tmp 6), none⟩,
    ⟨(some 24), .bin .mul (.const (.int .i64 7)) (.tmp 23), none⟩,
    ⟨(some 25), .bin .shl (.tmp 22) (.tmp 24), none⟩,
    ⟨(some 26), .bin .or (.tmp 21) (.tmp 25), none⟩,
    ⟨(some 5), .mov (.tmp 26), none⟩] [0, 5, 6, 7, 8])
  (.seq (.seq (.region [⟨(some 27), .mov (.tmp 0), none⟩,
    ⟨(some 28), .mov (.tmp 6), none⟩,
    ⟨(some 29), .idx 1 none (.tmp 27) (.tmp 28), none⟩,
    ⟨(some 30), .load none (.tmp 29), none⟩,
    ⟨(some 31), .bin .geq (.tmp 30) (.const (.int .u8 128)), none⟩] [0, 5, 6, 7, 8, 31])
  (.cond (.tmp 31) (.exit 1) (.skip)))
  (.seq (.seq (.region [⟨(some 32), .mov (.tmp 6), none⟩,
    ⟨(some 33), .bin .gtr (.tmp 32) (.const (.int .i64 0)), none⟩,
    ⟨(some 34), .mov (.tmp 33), none⟩,
    ⟨(some 35), .mov (.tmp 7), some (34, true)⟩,
    ⟨(some 36), .bin .eql (.tmp 35) (.const (.int .u64 0)), some (34, true)⟩,
    ⟨(some 37), .pick (.tmp 34) (.tmp 36) (.const (.bool false)), none⟩,
    ⟨(some 38), .mov (.tmp 37), none⟩,
    ⟨(some 39), .mov (.tmp 7), some (38, false)⟩,
    ⟨(some 40), .mov (.tmp 6), some (38, false)⟩,
    ⟨(some 41), .bin .mul (.const (.int .i64 7)) (.tmp 40), some (38, false)⟩,
    ⟨(some 42), .bin .shl (.tmp 39) (.tmp 41), some (38, false)⟩,
    ⟨(some 43), .mov (.tmp 6), some (38, false)⟩,
    ⟨(some 44), .bin .mul (.const (.int .i64 7)) (.tmp 43), some (38, false)⟩,
    ⟨(some 45), .bin .shr (.tmp 42) (.tmp 44), some (38, false)⟩,
    ⟨(some 46), .mov (.tmp 7), some (38, false)⟩,
    ⟨(some 47), .bin .neq (.tmp 45) (.tmp 46), some (38, false)⟩,
    ⟨(some 48), .pick (.tmp 38) (.const (.bool true)) (.tmp 47), none⟩] [5, 6, 48])
  (.cond (.tmp 48) (.exit 0) (.skip)))
  (.seq (.region [⟨(some 49), .mov (.tmp 5), none⟩,
    ⟨(some 50), .mov (.tmp 6), none⟩,
    ⟨(some 51), .bin .add (.tmp 50) (.const (.int .i64 1)), none⟩,
    ⟨(some 2), .mov (.tmp 49), none⟩,
    ⟨(some 3), .mov (.tmp 51), none⟩,
    ⟨(some 4), .mov (.const (.int .i64 0)), none⟩] [2, 3, 4])
  (.ret)))))))))
  (.region [⟨(some 52), .bin .add (.tmp 8) (.const (.int .i64 1)), none⟩,
    ⟨(some 8), .mov (.tmp 52), none⟩] [0, 5, 8])))
def varint_Get.body : ACode := .seq (.region [⟨(some 2), .mov (.const (.int .u64 0)), none⟩,
    ⟨(some 3), .mov (.const (.int .i64 0)), none⟩,
    ⟨(some 4), .mov (.const (.int .i64 0)), none⟩] [0])
  (.scope (.seq (.region [⟨(some 5), .mov (.const (.int .u64 0)), none⟩] [0, 5])
  (.seq (.skip)
  (.seq (.seq (.region [⟨(some 8), .mov (.const (.int .i64 0)), none⟩] [0, 5, 8])
  (.block 0 (.loop varint_Get.b0)))
  (.seq (.region [⟨(some 2), .mov (.const (.int .u64 0)), none⟩,
    ⟨(some 3), .mov (.const (.int .i64 0)), none⟩,
    ⟨(some 4), .mov (.const (.int .i64 3)), none⟩] [2, 3, 4])
  (.ret))))))
def varint_Get : AFun := ⟨53, 1, [.tmp 2, .tmp 3, .tmp 4], varint_Get.body⟩
def lens_Lens_word.body : ACode := .seq (.region [⟨(some 3), .box T.int (.tmp 1), none⟩,
    ⟨(some 4), .mov (.const (.int .u32 0)), none⟩] [0, 3])
  (.seq (.region [⟨(some 5), .alloc T.uint32 [(.int .u32 0)], none⟩,
    ⟨none, .store 1 (.tmp 5) (.const (.int .u32 0)), none⟩] [0, 3, 5])
  (.seq (.region [⟨(some 6), .mov (.tmp 0), none⟩,
    ⟨(some 7), .mkfn F.lens_Lens_word_1 [] [(.tmp 3), (.tmp 5)], none⟩,
    ⟨(some 8), .call (.const (.fn F.lens_Lens_read [] [])) [(.tmp 6), (.tmp 7)], none⟩] [5])
  (.seq (.region [⟨(some 9), .load none (.tmp 5), none⟩,
    ⟨(some 4), .mov (.tmp 9), none⟩] [4])
  (.ret))))
def lens_Lens_word : AFun := ⟨10, 2, [.tmp 4], lens_Lens_word.body⟩
def cuneiformref03_fail.body : ACode := .seq (.region [⟨(some 2), .box T.cuneiformref03_L (.tmp 0), none⟩,
    ⟨(some 4), .alloc T.cuneiformref03_L [.nils, (.int .i64 0), (.int .i64 0)], none⟩] [1, 2, 4])
  (.seq (.region [⟨(some 5), .mov (.tmp 1), none⟩,
    ⟨(some 6), .field 2 (.tmp 2), none⟩,
    ⟨none, .store 1 (.tmp 6) (.tmp 5), none⟩] [2, 4])
  (.seq (.region [⟨(some 7), .load (some 3) (.tmp 2), none⟩,
    ⟨none, .store 3 (.tmp 4) (.tmp 7), none⟩] [4])
  (.ret)))
def cuneiformref03_fail : AFun := ⟨8, 2, [.cell 4 (some 3)], cuneiformref03_fail.body⟩
def lens_Lens_Number_1.body : ACode := .seq (.region [⟨(some 4), .mov (.const (.int .i64 0)), none⟩,
    ⟨(some 5), .mov (.const (.int .i64 0)), none⟩] [0, 1, 2])
  (.seq (.region [⟨(some 10), .mov (.tmp 0), none⟩,
    ⟨(some 11), .call (.const (.fn F.varint_Get [] [])) [(.tmp 10)], none⟩,
    ⟨(some 9), .mov (.tmp 11), none⟩,
    ⟨(some 12), .extract (.tmp 9) 0, none⟩,
    ⟨(some 13), .extract (.tmp 9) 1, none⟩,
    ⟨(some 14), .extract (.tmp 9) 2, none⟩,
    ⟨(some 6), .mov (.tmp 12), none⟩,
    ⟨(some 7), .mov (.tmp 13), none⟩,
    ⟨(some 8), .mov (.tmp 14), none⟩] [1, 2, 6, 7, 8])
  (.seq (.seq (.region [⟨(some 15), .mov (.tmp 8), none⟩,
    ⟨(some 16), .bin .eql (.tmp 15) (.const (.int .i64 0)), none⟩,
    ⟨(some 17), .mov (.tmp 16), none⟩,
    ⟨(some 18), .mov (.tmp 6), some (17, true)⟩,
    ⟨(some 19), .load none (.tmp 1), some (17, true)⟩,
    ⟨(some 20), .bin .gtr (.tmp 18) (.tmp 19), some (17, true)⟩,
    ⟨(some 21), .pick (.tmp 17) (.tmp 20) (.const (.bool false)), none⟩] [2, 6, 7, 8, 21])
  (.cond (.tmp 21) (.region [⟨(some 8), .mov (.const (.int .i64 5)), none⟩] [2, 6, 7, 8]) (.skip)))
  (.seq (.seq (.region [⟨(some 22), .mov (.tmp 8), none⟩,
    ⟨(some 23), .bin .eql (.tmp 22) (.const (.int .i64 0)), none⟩] [2, 6, 7, 8, 23])
  (.cond (.tmp 23) (.region [⟨(some 24), .mov (.tmp 6), none⟩,
    ⟨none, .store 1 (.tmp 2) (.tmp 24), none⟩] [7, 8]) (.skip)))
  (.seq (.region [⟨(some 25), .mov (.tmp 7), none⟩,
    ⟨(some 26), .mov (.tmp 8), none⟩,
    ⟨(some 4), .mov (.tmp 25), none⟩,
    ⟨(some 5), .mov (.tmp 26), none⟩] [4, 5])
  (.ret)))))
def lens_Lens_Number_1 : AFun := ⟨27, 3, [.tmp 4, .tmp 5], lens_Lens_Number_1.body⟩
def cuneiformref01_Get.b0 : ACode := .seq (.seq (.region [⟨(some 11), .mov (.tmp 7), none⟩,
    ⟨(some 12), .mov (.tmp 0), none⟩,
    ⟨(some 13), .len .slice (.tmp 12), none⟩,
    ⟨(some 14), .bin .lss (.tmp 11) (.tmp 13), none⟩,
    ⟨(some 15), .mov (.tmp 14), none⟩,
    ⟨(some 16), .mov (.tmp 7), some (15, true)⟩,
    ⟨(some 17), .mov (.tmp 1), some (15, true)⟩,
    ⟨(some 18), .bin .sub (.tmp 16) (.tmp 17), some (15, true)⟩,
    ⟨(some 19), .bin .lss (.tmp 18) (.const (.int .i64 10)), some (15, true)⟩,
    ⟨(some 20), .pick (.tmp 15) (.tmp 19) (.const (.bool false)), none⟩,
    ⟨(some 21), .mov (.tmp 20), none⟩,
    ⟨(some 22), .mov (.tmp 0), some (21, true)⟩,
    ⟨(some 23), .mov (.tmp 7), some (21, true)⟩,
    ⟨(some 24), .idx 1 none (.tmp 22) (.tmp 23), some (21, true)⟩,
    ⟨(some 25), .load none (.tmp 24), some (21, true)⟩,
    ⟨(some 26), .bin .gtr (.tmp 25) (.const (.int .u8 127)), some (21, true)⟩,
    ⟨(some 27), .pick (.tmp 21) (.tmp 26) (.const (.bool false)), none⟩] [0, 1, 7, 27])
  (.cond (.tmp 27) (.skip) (.exit 0)))
  (.block 1 (.region [⟨(some 28), .mov (.tmp 7), none⟩,
    ⟨(some 29), .bin .add (.tmp 28) (.const (.int .i64 1)), none⟩,
    ⟨(some 7), .mov (.tmp 29), none⟩] [0, 1, 7]))
def cuneiformref01_Get.b1 : ACode := .seq (.seq (.region [⟨(some 41), .mov (.tmp 9), none⟩,
    ⟨(some 42), .mov (.tmp 1), none⟩,
    ⟨(some 43), .bin .geq (.tmp 41) (.tmp 42), none⟩] [0, 1, 7, 8, 9, 43])
  (.cond (.tmp 43) (.skip) (.exit 2)))
  (.seq (.block 3 (.seq (.seq (.region [⟨(some 46), .mov (.tmp 8), none⟩,
    ⟨(some 47), .bin .gtr (.tmp 46) (.const (.int .u64 144115188075855871)), none⟩] [0, 1, 7, 8, 9, 47])
  (.cond (.tmp 47) (.seq (.region [⟨(some 48), .mov (.tmp 1), none⟩,
    ⟨(some 4), .mov (.const (.int .u64 0)), none⟩,
    ⟨(some 5), .mov (.tmp 48), none⟩,
    ⟨(some 6), .mov (.const (.int .i64 3)), none⟩] [4, 5, 6])
  (.ret)) (.skip)))
  (.region [⟨(some 49), .mov (.tmp 8), none⟩,
    ⟨(some 50), .bin .mul (.tmp 49) (.const (.int .u64 128)), none⟩,
    ⟨(some 51), .mov (.tmp 0), none⟩,
    ⟨(some 52), .mov (.tmp 9), none⟩,
    ⟨(some 53), .idx 1 none (.tmp 51) (.tmp 52), none⟩,
    ⟨(some 54), .load none (.tmp 53), none⟩,
    ⟨(some 55), .bin .rem (.tmp 54) (.const (.int .u8 128)), none⟩,
    ⟨(some 56), .conv .u64 (.tmp 55), none⟩,
    ⟨(some 57), .bin .add (.tmp 50) (.tmp 56), none⟩,
    ⟨(some 8), .mov (.tmp 57), none⟩] [0, 1, 7, 8, 9])))
  (.region [⟨(some 44), .mov (.tmp 9), none⟩,
    ⟨(some 45), .bin .sub (.tmp 44) (.const (.int .i64 1)), none⟩,
    ⟨(some 9), .mov (.tmp 45), none⟩] [0, 1, 7, 8, 9]))
def cuneiformref01_Get.body : ACode := .seq (.region [⟨(some 4), .mov (.const (.int .u64 0)), none⟩,
    ⟨(some 5), .mov (.const (.int .i64 0)), none⟩,
    ⟨(some 6), .mov (.const (.int .i64 0)), none⟩] [0, 1])
  (.seq (.region [⟨(some 10), .mov (.tmp 1), none⟩,
    ⟨(some 7), .mov (.tmp 10), none⟩] [0, 1, 7])
  (.seq (.block 0 (.loop cuneiformref01_Get.b0))
  (.seq (.seq (.region [⟨(some 30), .mov (.tmp 7), none⟩,
    ⟨(some 31), .mov (.tmp 1), none⟩,
    ⟨(some 32), .bin .sub (.tmp 30) (.tmp 31), none⟩,
    ⟨(some 33), .bin .eql (.tmp 32) (.const (.int .i64 10)), none⟩] [0, 1, 7, 33])
  (.cond (.tmp 33) (.seq (.region [⟨(some 34), .mov (.tmp 1), none⟩,
    ⟨(some 4), .mov (.const (.int .u64 0)), none⟩,
    ⟨(some 5), .mov (.tmp 34), none⟩,
    ⟨(some 6), .mov (.const (.int .i64 3)), none⟩] [4, 5, 6])
  (.ret)) (.skip)))
  (.seq (.seq (.region [⟨(some 35), .mov (.tmp 7), none⟩,
    ⟨(some 36), .mov (.tmp 0), none⟩,
    ⟨(some 37), .len .slice (.tmp 36), none⟩,
    ⟨(some 38), .bin .geq (.tmp 35) (.tmp 37), none⟩] [0, 1, 7, 38])
  (.cond (.tmp 38) (.seq (.region [⟨(some 39), .mov (.tmp 1), none⟩,
    ⟨(some 4), .mov (.const (.int .u64 0)), none⟩,
    ⟨(some 5), .mov (.tmp 39), none⟩,
    ⟨(some 6), .mov (.const (.int .i64 4)), none⟩] [4, 5, 6])
  (.ret)) (.skip)))
  (.seq (.region [⟨(some 8), .mov (.const (.int .u64 0)), none⟩] [0, 1, 7, 8])
  (.seq (.seq (.region [⟨(some 40), .mov (.tmp 7), none⟩,
    ⟨(some 9), .mov (.tmp 40), none⟩] [0, 1, 7, 8, 9])
  (.block 2 (.loop cuneiformref01_Get.b1)))
  (.seq (.seq (.region [⟨(some 58), .mov (.tmp 7), none⟩,
    ⟨(some 59), .mov (.tmp 1), none⟩,
    ⟨(some 60), .bin .gtr (.tmp 58) (.tmp 59), none⟩,
    ⟨(some 61), .mov (.tmp 60), none⟩,
    ⟨(some 62), .mov (.tmp 0), some (61, true)⟩,
    ⟨(some 63), .mov (.tmp 7), some (61, true)⟩,
    ⟨(some 64), .idx 1 none (.tmp 62) (.tmp 63), some (61, true)⟩,
    ⟨(some 65), .load none (.tmp 64), some (61, true)⟩,
    ⟨(some 66), .bin .eql (.tmp 65) (.const (.int .u8 0)), some (61, true)⟩,
    ⟨(some 67), .pick (.tmp 61) (.tmp 66) (.const (.bool false)), none⟩] [1, 7, 8, 67])
  (.cond (.tmp 67) (.seq (.region [⟨(some 68), .mov (.tmp 1), none⟩,
    ⟨(some 4), .mov (.const (.int .u64 0)), none⟩,
    ⟨(some 5), .mov (.tmp 68), none⟩,
    ⟨(some 6), .mov (.const (.int .i64 3)), none⟩] [4, 5, 6])
  (.ret)) (.skip)))
  (.seq (.region [⟨(some 69), .mov (.tmp 8), none⟩,
    ⟨(some 70), .mov (.tmp 7), none⟩,
    ⟨(some 71), .bin .add (.tmp 70) (.const (.int .i64 1)), none⟩,
    ⟨(some 4), .mov (.tmp 69), none⟩,
    ⟨(some 5), .mov (.tmp 71), none⟩,
    ⟨(some 6), .mov (.const (.int .i64 0)), none⟩] [4, 5, 6])
  (.ret)))))))))
def cuneiformref01_Get : AFun := ⟨72, 2, [.tmp 4, .tmp 5, .tmp 6], cuneiformref01_Get.body⟩
def lens_Lens_Signed_1.body : ACode := .seq (.region [⟨(some 5), .mov (.const (.int .i64 0)), none⟩,
    ⟨(some 6), .mov (.const (.int .i64 0)), none⟩] [0, 1, 2, 3])
  (.seq (.region [⟨(some 12), .mov (.tmp 0), none⟩,
    ⟨(some 13), .call (.const (.fn F.varint_Get [] [])) [(.tmp 12)], none⟩,
    ⟨(some 11), .mov (.tmp 13), none⟩,
    ⟨(some 14), .extract (.tmp 11) 0, none⟩,
    ⟨(some 15), .extract (.tmp 11) 1, none⟩,
    ⟨(some 16), .extract (.tmp 11) 2, none⟩,
    ⟨(some 7), .mov (.tmp 14), none⟩,
    ⟨(some 8), .mov (.tmp 15), none⟩,
    ⟨(some 9), .mov (.tmp 16), none⟩] [1, 2, 3, 7, 8, 9])
  (.seq (.seq (.region [⟨(some 17), .mov (.tmp 7), none⟩,
    ⟨(some 18), .call (.const (.fn F.varint_Zag [] [])) [(.tmp 17)], none⟩,
    ⟨(some 10), .mov (.tmp 18), none⟩] [1, 2, 3, 8, 9, 10])
  (.seq (.region [⟨(some 19), .mov (.tmp 9), none⟩,
    ⟨(some 20), .bin .eql (.tmp 19) (.const (.int .i64 0)), none⟩,
    ⟨(some 21), .mov (.tmp 20), none⟩,
    ⟨(some 22), .mov (.tmp 10), some (21, true)⟩,
    ⟨(some 23), .load none (.tmp 1), some (21, true)⟩,
    ⟨(some 24), .bin .lss (.tmp 22) (.tmp 23), some (21, true)⟩,
    ⟨(some 25), .mov (.tmp 24), some (21, true)⟩,
    ⟨(some 26), .mov (.tmp 10), some (25, false)⟩,
    ⟨(some 27), .load none (.tmp 2), some (25, false)⟩,
    ⟨(some 28), .bin .gtr (.tmp 26) (.tmp 27), some (25, false)⟩,
    ⟨(some 29), .pick (.tmp 25) (.const (.bool true)) (.tmp 28), some (21, true)⟩,
    ⟨(some 30), .pick (.tmp 21) (.tmp 29) (.const (.bool false)), none⟩] [3, 8, 9, 10, 30])
  (.cond (.tmp 30) (.region [⟨(some 9), .mov (.const (.int .i64 5)), none⟩] [8, 9]) (.seq (.region [⟨(some 31), .mov (.tmp 9), none⟩,
    ⟨(some 32), .bin .eql (.tmp 31) (.const (.int .i64 0)), none⟩] [3, 8, 9, 10, 32])
  (.cond (.tmp 32) (.region [⟨(some 33), .mov (.tmp 10), none⟩,
    ⟨none, .store 1 (.tmp 3) (.tmp 33), none⟩] [8, 9]) (.skip))))))
  (.seq (.region [⟨(some 34), .mov (.tmp 8), none⟩,
    ⟨(some 35), .mov (.tmp 9), none⟩,
    ⟨(some 5), .mov (.tmp 34), none⟩,
    ⟨(some 6), .mov (.tmp 35), none⟩] [5, 6])
  (.ret))))
def lens_Lens_Signed_1 : AFun := ⟨36, 4, [.tmp 5, .tmp 6], lens_Lens_Signed_1.body⟩
def varint_Zag.body : ACode := .seq (.region [⟨(some 2), .mov (.const (.int .i64 0)), none⟩] [0])
  (.seq (.region [⟨(some 3), .mov (.tmp 0), none⟩,
    ⟨(some 4), .bin .shr (.tmp 3) (.const (.int .u64 1)), none⟩,
    ⟨(some 5), .conv .i64 (.tmp 4), none⟩,
    ⟨(some 6), .mov (.tmp 0), none⟩,
    ⟨(some 7), .bin .and (.tmp 6) (.const (.int .u64 1)), none⟩,
    ⟨(some 8), .conv .i64 (.tmp 7), none⟩,
    ⟨(some 9), .un .neg (.tmp 8), none⟩,
    ⟨(some 10), .bin .xor (.tmp 5) (.tmp 9), none⟩,
    ⟨(some 2), .mov (.tmp 10), none⟩] [2])
  (.ret))
def varint_Zag : AFun := ⟨11, 1, [.tmp 2], varint_Zag.body⟩
def cuneiformref01_Zag.body : ACode := .seq (.region [⟨(some 2), .mov (.const (.int .i64 0)), none⟩] [0])
  (.seq (.seq (.region [⟨(some 3), .mov (.tmp 0), none⟩,
    ⟨(some 4), .bin .rem (.tmp 3) (.const (.int .u64 2)), none⟩,
    ⟨(some 5), .bin .eql (.tmp 4) (.const (.int .u64 1)), none⟩] [0, 5])
  (.cond (.tmp 5) (.seq (.region [⟨(some 6), .mov (.tmp 0), none⟩,
    ⟨(some 7), .bin .quo (.tmp 6) (.const (.int .u64 2)), none⟩,
    ⟨(some 8), .conv .i64 (.tmp 7), none⟩,
    ⟨(some 9), .un .neg (.tmp 8), none⟩,
    ⟨(some 10), .bin .sub (.tmp 9) (.const (.int .i64 1)), none⟩,
    ⟨(some 2), .mov (.tmp 10), none⟩] [2])
  (.ret)) (.skip)))
  (.seq (.region [⟨(some 11), .mov (.tmp 0), none⟩,
    ⟨(some 12), .bin .quo (.tmp 11) (.const (.int .u64 2)), none⟩,
    ⟨(some 13), .conv .i64 (.tmp 12), none⟩,
    ⟨(some 2), .mov (.tmp 13), none⟩] [2])
  (.ret)))
def cuneiformref01_Zag : AFun := ⟨14, 1, [.tmp 2], cuneiformref01_Zag.body⟩
def lens_Lens_Raw_1.d0 : List AOper := [⟨(some 14), .load none (.tmp 2), none⟩,
    ⟨(some 15), .mov (.tmp 0), none⟩,
    ⟨(some 16), .load none (.tmp 1), none⟩,
    ⟨(some 17), .load none (.tmp 1), none⟩,
    ⟨(some 18), .slice 1 .slice (.tmp 15) none (some (.tmp 16)) (some (.tmp 17)), none⟩,
    ⟨(some 19), .append T.uint8 1 1 (.tmp 14) (.tmp 18), none⟩,
    ⟨none, .store 1 (.tmp 2) (.tmp 19), none⟩]
def lens_Lens_Raw_1.d0b : List (List Nat) := [[], [], [], [], [1, 2, 3], [0, 1, 2, 3, 4], [0, 1, 2, 3, 4, 5]]
def lens_Lens_Raw_1.body : ACode := .seq (.region [⟨(some 4), .mov (.const (.int .i64 0)), none⟩,
    ⟨(some 5), .mov (.const (.int .i64 0)), none⟩] [0, 1, 2])
  (.seq (.block 0 (.seq (.region [⟨(some 7), .load none (.tmp 1), none⟩,
    ⟨(some 8), .bin .lss (.tmp 7) (.const (.int .i64 0)), none⟩,
    ⟨(some 6), .mov (.tmp 8), none⟩] [0, 1, 2, 6])
  (.cond (.tmp 6) (.seq (.region [⟨(some 4), .mov (.const (.int .i64 0)), none⟩,
    ⟨(some 5), .mov (.const (.int .i64 5)), none⟩] [4, 5])
  (.ret)) (.seq (.region [⟨(some 10), .load none (.tmp 1), none⟩,
    ⟨(some 11), .mov (.tmp 0), none⟩,
    ⟨(some 12), .len .slice (.tmp 11), none⟩,
    ⟨(some 13), .bin .gtr (.tmp 10) (.tmp 12), none⟩,
    ⟨(some 9), .mov (.tmp 13), none⟩] [0, 1, 2, 9])
  (.cond (.tmp 9) (.seq (.region [⟨(some 4), .mov (.const (.int .i64 0)), none⟩,
    ⟨(some 5), .mov (.const (.int .i64 4)), none⟩] [4, 5])
  (.ret)) (.skip))))))
  (.seq (.draw lens_Lens_Raw_1.d0 lens_Lens_Raw_1.d0b [[0, 1, 2, 3, 4, 5, 6]] [] [1])
  (.seq (.region [⟨(some 20), .load none (.tmp 1), none⟩,
    ⟨(some 4), .mov (.tmp 20), none⟩,
    ⟨(some 5), .mov (.const (.int .i64 0)), none⟩] [4, 5])
  (.ret))))
def lens_Lens_Raw_1 : AFun := ⟨21, 3, [.tmp 4, .tmp 5], lens_Lens_Raw_1.body⟩
def lens_Lens_Words_1.d0 : List AOper := [⟨(some 14), .load none (.tmp 2), none⟩,
    ⟨(some 15), .call (.const (.fn F.lens_Lens_Err [] [])) [(.tmp 14)], none⟩,
    ⟨(some 16), .bin .neq (.tmp 15) (.const (.int .i64 0)), none⟩,
    ⟨(some 17), .mov (.tmp 16), none⟩,
    ⟨(some 18), .load none (.tmp 2), some (17, false)⟩,
    ⟨(some 19), .call (.const (.fn F.lens_Lens_Left [] [])) [(.tmp 18)], some (17, false)⟩,
    ⟨(some 20), .load none (.tmp 1), some (17, false)⟩,
    ⟨(some 21), .bin .lss (.tmp 19) (.tmp 20), some (17, false)⟩,
    ⟨(some 22), .pick (.tmp 17) (.const (.bool true)) (.tmp 21), none⟩,
    ⟨(some 23), .mov (.tmp 22), none⟩,
    ⟨(some 24), .mov (.tmp 0), some (23, false)⟩,
    ⟨(some 25), .load none (.tmp 2), some (23, false)⟩,
    ⟨(some 26), .load none (.tmp 1), some (23, false)⟩,
    ⟨(some 27), .call (.const (.fn F.lens_Lens_word [] [])) [(.tmp 25), (.tmp 26)], some (23, false)⟩,
    ⟨(some 28), .call (.tmp 24) [(.tmp 27)], some (23, false)⟩,
    ⟨(some 29), .un .not (.tmp 28), some (23, false)⟩,
    ⟨(some 30), .pick (.tmp 23) (.const (.bool true)) (.tmp 29), none⟩]
def lens_Lens_Words_1.d0b : List (List Nat) := [[], [0], [0, 1], [0, 1, 2], [0, 1, 2, 3], [0, 1, 2, 3, 4], [0, 1, 2, 3], [0, 1, 2, 3, 4, 5, 6], [0, 1, 2, 3, 4, 5, 6, 7], [0, 1, 2, 3, 4, 5, 6, 7, 8], [0, 1, 2, 3, 4, 5, 6, 7, 8, 9], [0, 1, 2, 3, 4, 5, 6, 7, 8, 9], [0, 1, 2, 3, 4, 5, 6, 7, 8, 9], [0, 1, 2, 3, 4, 5, 6, 7, 8, 9, 11, 12], [0, 1, 2, 3, 4, 5, 6, 7, 8, 9, 10, 11, 12, 13], [0, 1, 2, 3, 4, 5, 6, 7, 8, 9, 10, 11, 12, 13, 14], [0, 1, 2, 3, 4, 5, 6, 7, 8, 9, 10, 11, 12, 13, 14, 15]]
def lens_Lens_Words_1.b1 : ACode := .seq (.seq (.region [⟨(some 4), .load none (.tmp 1), none⟩,
    ⟨(some 5), .bin .eql (.tmp 4) (.const (.int .i64 1)), none⟩,
    ⟨(some 6), .mov (.tmp 5), none⟩,
    ⟨(some 7), .load none (.tmp 1), some (6, false)⟩,
    ⟨(some 8), .bin .eql (.tmp 7) (.const (.int .i64 2)), some (6, false)⟩,
    ⟨(some 9), .pick (.tmp 6) (.const (.bool true)) (.tmp 8), none⟩,
    ⟨(some 10), .mov (.tmp 9), none⟩,
    ⟨(some 11), .load none (.tmp 1), some (10, false)⟩,
    ⟨(some 12), .bin .eql (.tmp 11) (.const (.int .i64 4)), some (10, false)⟩,
    ⟨(some 13), .pick (.tmp 10) (.const (.bool true)) (.tmp 12), none⟩] [0, 1, 2, 13])
  (.cond (.tmp 13) (.skip) (.exit 0)))
  (.block 1 (.seq (.draw lens_Lens_Words_1.d0 lens_Lens_Words_1.d0b [[0, 1, 2, 3, 4, 6, 5, 7, 8, 9, 10, 11, 12, 13, 14, 15, 16]] [(5, 6)] [0, 1, 2, 30])
  (.cond (.tmp 30) (.exit 0) (.skip))))
def lens_Lens_Words_1.body : ACode := .scope (.seq (.skip)
  (.block 0 (.loop lens_Lens_Words_1.b1)))
def lens_Lens_Words_1 : AFun := ⟨31, 3, [], lens_Lens_Words_1.body⟩
def lens_Lens_left.d0 : List AOper := [⟨(some 3), .mov (.tmp 0), none⟩,
    ⟨(some 4), .nilc (.tmp 3), none⟩,
    ⟨(some 5), .field 0 (.tmp 4), none⟩,
    ⟨(some 6), .load none (.tmp 5), none⟩,
    ⟨(some 7), .mov (.tmp 0), none⟩,
    ⟨(some 8), .nilc (.tmp 7), none⟩,
    ⟨(some 9), .field 1 (.tmp 8), none⟩,
    ⟨(some 10), .load none (.tmp 9), none⟩,
    ⟨(some 11), .mov (.tmp 0), none⟩,
    ⟨(some 12), .nilc (.tmp 11), none⟩,
    ⟨(some 13), .field 0 (.tmp 12), none⟩,
    ⟨(some 14), .load none (.tmp 13), none⟩,
    ⟨(some 15), .len .slice (.tmp 14), none⟩,
    ⟨(some 16), .mov (.tmp 0), none⟩,
    ⟨(some 17), .nilc (.tmp 16), none⟩,
    ⟨(some 18), .field 0 (.tmp 17), none⟩,
    ⟨(some 19), .load none (.tmp 18), none⟩,
    ⟨(some 20), .len .slice (.tmp 19), none⟩,
    ⟨(some 21), .slice 1 .slice (.tmp 6) (some (.tmp 10)) (some (.tmp 15)) (some (.tmp 20)), none⟩,
    ⟨(some 2), .mov (.tmp 21), none⟩]
def lens_Lens_left.d0b : List (List Nat) := [[], [0], [0, 1], [0, 1, 2], [], [4], [4, 5], [4, 5, 6], [], [8], [8, 9], [8, 9, 10], [8, 9, 10, 11], [], [13], [13, 14], [13, 14, 15], [13, 14, 15, 16], [0, 1, 2, 3, 4, 5, 6, 7, 8, 9, 10, 11, 12, 13, 14, 15, 16, 17], [0, 1, 2, 3, 4, 5, 6, 7, 8, 9, 10, 11, 12, 13, 14, 15, 16, 17, 18]]
def lens_Lens_left.body : ACode := .seq (.region [⟨(some 2), .mov (.const .nils), none⟩] [0])
  (.seq (.draw lens_Lens_left.d0 lens_Lens_left.d0b [[0, 1, 2, 3, 4, 5, 6, 7, 8, 9, 10, 11, 12, 13, 14, 15, 16, 17, 18, 19]] [] [2])
  (.ret))
def lens_Lens_left : AFun := ⟨22, 1, [.tmp 2], lens_Lens_left.body⟩
def pen_Pen_word.body : ACode := .seq (.region [⟨(some 6), .mov (.const (.int .i64 0)), none⟩] [0, 1, 2])
  (.seq (.region [⟨(some 8), .mov (.tmp 1), none⟩,
    ⟨(some 9), .conv .u8 (.tmp 8), none⟩,
    ⟨(some 10), .mov (.tmp 1), none⟩,
    ⟨(some 11), .bin .shr (.tmp 10) (.const (.int .u64 8)), none⟩,
    ⟨(some 12), .conv .u8 (.tmp 11), none⟩,
    ⟨(some 13), .mov (.tmp 1), none⟩,
    ⟨(some 14), .bin .shr (.tmp 13) (.const (.int .u64 16)), none⟩,
    ⟨(some 15), .conv .u8 (.tmp 14), none⟩,
    ⟨(some 16), .mov (.tmp 1), none⟩,
    ⟨(some 17), .bin .shr (.tmp 16) (.const (.int .u64 24)), none⟩,
    ⟨(some 18), .conv .u8 (.tmp 17), none⟩,
    ⟨(some 19), .build [(.int .u8 0), (.int .u8 0), (.int .u8 0), (.int .u8 0)] [(0, 1, (.tmp 9)), (1, 1, (.tmp 12)), (2, 1, (.tmp 15)), (3, 1, (.tmp 18))], none⟩,
    ⟨(some 7), .alloc T.n4_uint8 [(.int .u8 0), (.int .u8 0), (.int .u8 0), (.int .u8 0)], none⟩,
    ⟨none, .store 4 (.tmp 7) (.tmp 19), none⟩] [0, 2, 7])
  (.seq (.region [⟨(some 20), .mov (.tmp 0), none⟩,
    ⟨(some 21), .mov (.tmp 2), none⟩,
    ⟨(some 22), .mov (.tmp 2), none⟩,
    ⟨(some 23), .slice 1 (.array 4) (.tmp 7) none (some (.tmp 21)) (some (.tmp 22)), none⟩,
    ⟨(some 24), .call (.const (.fn F.pen_Pen_Raw [] [])) [(.tmp 20), (.tmp 23)], none⟩,
    ⟨(some 6), .mov (.tmp 24), none⟩] [6])
  (.ret)))
def pen_Pen_word : AFun := ⟨25, 3, [.tmp 6], pen_Pen_word.body⟩
def varint_Put.b0 : ACode := .seq (.seq (.region [⟨(some 12), .mov (.tmp 5), none⟩,
    ⟨(some 13), .bin .geq (.tmp 12) (.const (.int .u64 128)), none⟩] [3, 5, 6, 7, 8, 13])
  (.cond (.tmp 13) (.skip) (.exit 2)))
  (.seq (.block 3 (.region [⟨(some 16), .mov (.tmp 3), none⟩,
    ⟨(some 17), .mov (.tmp 5), none⟩,
    ⟨(some 18), .conv .u8 (.tmp 17), none⟩,
    ⟨(some 19), .bin .or (.tmp 18) (.const (.int .u8 128)), none⟩,
    ⟨(some 20), .lit T.uint8 1 1 [(.int .u8 0)] [(0, 1, (.tmp 19))], none⟩,
    ⟨(some 21), .append T.uint8 1 1 (.tmp 16) (.tmp 20), none⟩,
    ⟨(some 3), .mov (.tmp 21), none⟩] [3, 5, 6, 7, 8]))
  (.region [⟨(some 14), .mov (.tmp 5), none⟩,
    ⟨(some 15), .bin .shr (.tmp 14) (.const (.int .u64 7)), none⟩,
    ⟨(some 5), .mov (.tmp 15), none⟩] [3, 5, 6, 7, 8]))
def varint_Put.b1 : ACode := .seq (.region [⟨(some 9), .bin .lss (.tmp 8) (.tmp 7), none⟩] [3, 6, 7, 8, 9])
  (.seq (.cond (.tmp 9) (.skip) (.exit 0))
  (.seq (.block 1 (.seq (.region [⟨(some 10), .idx 1 none (.tmp 6) (.tmp 8), none⟩,
    ⟨(some 11), .load none (.tmp 10), none⟩,
    ⟨(some 5), .mov (.tmp 11), none⟩] [3, 5, 6, 7, 8])
  (.seq (.block 2 (.loop varint_Put.b0))
  (.region [⟨(some 22), .mov (.tmp 3), none⟩,
    ⟨(some 23), .mov (.tmp 5), none⟩,
    ⟨(some 24), .conv .u8 (.tmp 23), none⟩,
    ⟨(some 25), .lit T.uint8 1 1 [(.int .u8 0)] [(0, 1, (.tmp 24))], none⟩,
    ⟨(some 26), .append T.uint8 1 1 (.tmp 22) (.tmp 25), none⟩,
    ⟨(some 3), .mov (.tmp 26), none⟩] [3, 6, 7, 8]))))
  (.region [⟨(some 27), .bin .add (.tmp 8) (.const (.int .i64 1)), none⟩,
    ⟨(some 8), .mov (.tmp 27), none⟩] [3, 6, 7, 8])))
def varint_Put.body : ACode := .seq (.region [⟨(some 2), .mov (.const .nils), none⟩] [0])
  (.seq (.region [⟨(some 3), .mov (.const .nils), none⟩] [0, 3])
  (.seq (.seq (.region [⟨(some 6), .mov (.tmp 0), none⟩,
    ⟨(some 7), .len .slice (.tmp 6), none⟩,
    ⟨(some 8), .mov (.const (.int .i64 0)), none⟩] [3, 6, 7, 8])
  (.block 0 (.loop varint_Put.b1)))
  (.seq (.region [⟨(some 28), .mov (.tmp 3), none⟩,
    ⟨(some 2), .mov (.tmp 28), none⟩] [2])
  (.ret))))
def varint_Put : AFun := ⟨29, 1, [.tmp 2], varint_Put.body⟩
def varint_Zig.body : ACode := .seq (.region [⟨(some 2), .mov (.const (.int .u64 0)), none⟩] [0])
  (.seq (.region [⟨(some 3), .mov (.tmp 0), none⟩,
    ⟨(some 4), .conv .u64 (.tmp 3), none⟩,
    ⟨(some 5), .bin .shl (.tmp 4) (.const (.int .u64 1)), none⟩,
    ⟨(some 6), .mov (.tmp 0), none⟩,
    ⟨(some 7), .bin .shr (.tmp 6) (.const (.int .u64 63)), none⟩,
    ⟨(some 8), .conv .u64 (.tmp 7), none⟩,
    ⟨(some 9), .bin .xor (.tmp 5) (.tmp 8), none⟩,
    ⟨(some 2), .mov (.tmp 9), none⟩] [2])
  (.ret))
def varint_Zig : AFun := ⟨10, 1, [.tmp 2], varint_Zig.body⟩
def lens_Lens_word_1.a0 : ACode := .region [⟨(some 7), .mov (.tmp 17), none⟩] [2, 7]
def lens_Lens_word_1.b0 : ACode := .block 1 (.region [⟨(some 18), .load none (.tmp 2), none⟩,
    ⟨(some 19), .bin .shl (.tmp 18) (.const (.int .u64 8)), none⟩,
    ⟨(some 20), .mov (.tmp 7), none⟩,
    ⟨(some 21), .conv .u32 (.tmp 20), none⟩,
    ⟨(some 22), .bin .or (.tmp 19) (.tmp 21), none⟩,
    ⟨none, .store 1 (.tmp 2) (.tmp 22), none⟩] [])
def lens_Lens_word_1.body : ACode := .seq (.region [⟨(some 4), .mov (.const (.int .i64 0)), none⟩,
    ⟨(some 5), .mov (.const (.int .i64 0)), none⟩] [0, 1, 2, 4, 5])
  (.seq (.seq (.region [⟨(some 8), .mov (.tmp 0), none⟩,
    ⟨(some 9), .len .slice (.tmp 8), none⟩,
    ⟨(some 10), .load none (.tmp 1), none⟩,
    ⟨(some 11), .bin .lss (.tmp 9) (.tmp 10), none⟩] [0, 1, 2, 4, 5, 11])
  (.cond (.tmp 11) (.seq (.region [⟨(some 4), .mov (.const (.int .i64 0)), none⟩,
    ⟨(some 5), .mov (.const (.int .i64 4)), none⟩] [4, 5])
  (.ret)) (.skip)))
  (.seq (.seq (.region [⟨(some 12), .mov (.tmp 0), none⟩,
    ⟨(some 13), .load none (.tmp 1), none⟩,
    ⟨(some 14), .slice 1 .slice (.tmp 12) none (some (.tmp 13)) none, none⟩,
    ⟨(some 15), .call (.const (.fn F.slices_Backward_byte_byte [] [])) [(.tmp 14)], none⟩] [1, 2, 4, 5, 15])
  (.block 0 (.range (.tmp 15) [16, 17] lens_Lens_word_1.a0 lens_Lens_word_1.b0)))
  (.seq (.region [⟨(some 23), .load none (.tmp 1), none⟩,
    ⟨(some 4), .mov (.tmp 23), none⟩,
    ⟨(some 5), .mov (.const (.int .i64 0)), none⟩] [4, 5])
  (.ret))))
def lens_Lens_word_1 : AFun := ⟨24, 3, [.tmp 4, .tmp 5], lens_Lens_word_1.body⟩
def slices_Backward_byte_byte.body : ACode := .seq (.region [⟨(some 1), .box T.sl_uint8 (.tmp 0), none⟩,
    ⟨(some 2), .mov (.const .nilf), none⟩] [1])
  (.seq (.region [⟨(some 3), .mkfn F.slices_Backward_byte_byte_1 [] [(.tmp 1)], none⟩,
    ⟨(some 2), .mov (.tmp 3), none⟩] [2])
  (.ret))
def slices_Backward_byte_byte : AFun := ⟨4, 1, [.tmp 2], slices_Backward_byte_byte.body⟩
def slices_Backward_byte_byte_1.b0 : ACode := .seq (.seq (.region [⟨(some 7), .mov (.tmp 3), none⟩,
    ⟨(some 8), .bin .geq (.tmp 7) (.const (.int .i64 0)), none⟩] [0, 1, 3, 8])
  (.cond (.tmp 8) (.skip) (.exit 0)))
  (.seq (.block 1 (.seq (.region [⟨(some 11), .mov (.tmp 0), none⟩,
    ⟨(some 12), .mov (.tmp 3), none⟩,
    ⟨(some 13), .load none (.tmp 1), none⟩,
    ⟨(some 14), .mov (.tmp 3), none⟩,
    ⟨(some 15), .idx 1 none (.tmp 13) (.tmp 14), none⟩,
    ⟨(some 16), .load none (.tmp 15), none⟩,
    ⟨(some 17), .call (.tmp 11) [(.tmp 12), (.tmp 16)], none⟩,
    ⟨(some 18), .un .not (.tmp 17), none⟩] [0, 1, 3, 18])
  (.cond (.tmp 18) (.ret) (.skip))))
  (.region [⟨(some 9), .mov (.tmp 3), none⟩,
    ⟨(some 10), .bin .sub (.tmp 9) (.const (.int .i64 1)), none⟩,
    ⟨(some 3), .mov (.tmp 10), none⟩] [0, 1, 3]))
def slices_Backward_byte_byte_1.body : ACode := .seq (.region [⟨(some 4), .load none (.tmp 1), none⟩,
    ⟨(some 5), .len .slice (.tmp 4), none⟩,
    ⟨(some 6), .bin .sub (.tmp 5) (.const (.int .i64 1)), none⟩,
    ⟨(some 3), .mov (.tmp 6), none⟩] [0, 1, 3])
  (.block 0 (.loop slices_Backward_byte_byte_1.b0))
def slices_Backward_byte_byte_1 : AFun := ⟨19, 2, [], slices_Backward_byte_byte_1.body⟩
theorem cuneiformlaw03_LensCuts_code : okFun Try.prog F.cuneiformlaw03_LensCuts cuneiformlaw03_LensCuts = true := by kernel_rfl
theorem cuneiformlaw03_LensReads_code : okFun Try.prog F.cuneiformlaw03_LensReads cuneiformlaw03_LensReads = true := by kernel_rfl
theorem cuneiformlaw03_LensNil_code : okFun Try.prog F.cuneiformlaw03_LensNil cuneiformlaw03_LensNil = true := by kernel_rfl
theorem cuneiformlaw03_LensPen_code : okFun Try.prog F.cuneiformlaw03_LensPen cuneiformlaw03_LensPen = true := by kernel_rfl
theorem lens_New_code : okFun Try.prog F.lens_New lens_New = true := by kernel_rfl
theorem lens_Lens_Field_code : okFun Try.prog F.lens_Lens_Field lens_Lens_Field = true := by kernel_rfl
theorem lens_Lens_Err_code : okFun Try.prog F.lens_Lens_Err lens_Lens_Err = true := by kernel_rfl
theorem cuneiformref01_Same_code : okFun Try.prog F.cuneiformref01_Same cuneiformref01_Same = true := by kernel_rfl
theorem lens_Lens_Place_code : okFun Try.prog F.lens_Lens_Place lens_Lens_Place = true := by kernel_rfl
theorem lens_Lens_U32_code : okFun Try.prog F.lens_Lens_U32 lens_Lens_U32 = true := by kernel_rfl
theorem lens_Lens_Rest_code : okFun Try.prog F.lens_Lens_Rest lens_Lens_Rest = true := by kernel_rfl
theorem cuneiformlaw03_known_code : okFun Try.prog F.cuneiformlaw03_known cuneiformlaw03_known = true := by kernel_rfl
theorem lens_Lens_End_code : okFun Try.prog F.lens_Lens_End lens_Lens_End = true := by kernel_rfl
theorem lens_Lens_U8_code : okFun Try.prog F.lens_Lens_U8 lens_Lens_U8 = true := by kernel_rfl
theorem cuneiformref03_Word_code : okFun Try.prog F.cuneiformref03_Word cuneiformref03_Word = true := by kernel_rfl
theorem lens_Lens_U16_code : okFun Try.prog F.lens_Lens_U16 lens_Lens_U16 = true := by kernel_rfl
theorem lens_Lens_Number_code : okFun Try.prog F.lens_Lens_Number lens_Lens_Number = true := by kernel_rfl
theorem cuneiformref03_Number_code : okFun Try.prog F.cuneiformref03_Number cuneiformref03_Number = true := by kernel_rfl
theorem lens_Lens_Signed_code : okFun Try.prog F.lens_Lens_Signed lens_Lens_Signed = true := by kernel_rfl
theorem cuneiformref03_Signed_code : okFun Try.prog F.cuneiformref03_Signed cuneiformref03_Signed = true := by kernel_rfl
theorem lens_Lens_Raw_code : okFun Try.prog F.lens_Lens_Raw lens_Lens_Raw = true := by kernel_rfl
theorem cuneiformref03_Raw_code : okFun Try.prog F.cuneiformref03_Raw cuneiformref03_Raw = true := by kernel_rfl
theorem cuneiformref03_Field_code : okFun Try.prog F.cuneiformref03_Field cuneiformref03_Field = true := by kernel_rfl
theorem cuneiformlaw03_words_code : okFun Try.prog F.cuneiformlaw03_words cuneiformlaw03_words = true := by kernel_rfl
theorem cuneiformlaw03_Alike_code : okFun Try.prog F.cuneiformlaw03_Alike cuneiformlaw03_Alike = true := by kernel_rfl
theorem lens_Lens_Words_code : okFun Try.prog F.lens_Lens_Words lens_Lens_Words = true := by kernel_rfl
theorem lens_Lens_Left_code : okFun Try.prog F.lens_Lens_Left lens_Lens_Left = true := by kernel_rfl
theorem pen_New_code : okFun Try.prog F.pen_New pen_New = true := by kernel_rfl
theorem pen_Pen_U8_code : okFun Try.prog F.pen_Pen_U8 pen_Pen_U8 = true := by kernel_rfl
theorem pen_Pen_Number_code : okFun Try.prog F.pen_Pen_Number pen_Pen_Number = true := by kernel_rfl
theorem pen_Pen_U16_code : okFun Try.prog F.pen_Pen_U16 pen_Pen_U16 = true := by kernel_rfl
theorem pen_Pen_Field_code : okFun Try.prog F.pen_Pen_Field pen_Pen_Field = true := by kernel_rfl
theorem pen_Pen_Signed_code : okFun Try.prog F.pen_Pen_Signed pen_Pen_Signed = true := by kernel_rfl
theorem pen_Pen_U32_code : okFun Try.prog F.pen_Pen_U32 pen_Pen_U32 = true := by kernel_rfl
theorem pen_Pen_Raw_code : okFun Try.prog F.pen_Pen_Raw pen_Pen_Raw = true := by kernel_rfl
theorem pen_Pen_Err_code : okFun Try.prog F.pen_Pen_Err pen_Pen_Err = true := by kernel_rfl
theorem pen_Pen_Bytes_code : okFun Try.prog F.pen_Pen_Bytes pen_Pen_Bytes = true := by kernel_rfl
theorem lens_Lens_read_code : okFun Try.prog F.lens_Lens_read lens_Lens_read = true := by kernel_rfl
theorem lens_Lens_Field_1_code : okFun Try.prog F.lens_Lens_Field_1 lens_Lens_Field_1 = true := by kernel_rfl
theorem varint_Get_code : okFun Try.prog F.varint_Get varint_Get = true := by kernel_rfl
theorem lens_Lens_word_code : okFun Try.prog F.lens_Lens_word lens_Lens_word = true := by kernel_rfl
theorem cuneiformref03_fail_code : okFun Try.prog F.cuneiformref03_fail cuneiformref03_fail = true := by kernel_rfl
theorem lens_Lens_Number_1_code : okFun Try.prog F.lens_Lens_Number_1 lens_Lens_Number_1 = true := by kernel_rfl
theorem cuneiformref01_Get_code : okFun Try.prog F.cuneiformref01_Get cuneiformref01_Get = true := by kernel_rfl
theorem lens_Lens_Signed_1_code : okFun Try.prog F.lens_Lens_Signed_1 lens_Lens_Signed_1 = true := by kernel_rfl
theorem varint_Zag_code : okFun Try.prog F.varint_Zag varint_Zag = true := by kernel_rfl
theorem cuneiformref01_Zag_code : okFun Try.prog F.cuneiformref01_Zag cuneiformref01_Zag = true := by kernel_rfl
theorem lens_Lens_Raw_1_code : okFun Try.prog F.lens_Lens_Raw_1 lens_Lens_Raw_1 = true := by kernel_rfl
theorem lens_Lens_Words_1_code : okFun Try.prog F.lens_Lens_Words_1 lens_Lens_Words_1 = true := by kernel_rfl
theorem lens_Lens_left_code : okFun Try.prog F.lens_Lens_left lens_Lens_left = true := by kernel_rfl
theorem pen_Pen_word_code : okFun Try.prog F.pen_Pen_word pen_Pen_word = true := by kernel_rfl
theorem varint_Put_code : okFun Try.prog F.varint_Put varint_Put = true := by kernel_rfl
theorem varint_Zig_code : okFun Try.prog F.varint_Zig varint_Zig = true := by kernel_rfl
theorem lens_Lens_word_1_code : okFun Try.prog F.lens_Lens_word_1 lens_Lens_word_1 = true := by kernel_rfl
theorem slices_Backward_byte_byte_code : okFun Try.prog F.slices_Backward_byte_byte slices_Backward_byte_byte = true := by kernel_rfl
theorem slices_Backward_byte_byte_1_code : okFun Try.prog F.slices_Backward_byte_byte_1 slices_Backward_byte_byte_1 = true := by kernel_rfl
def codes : CT := [(F.cuneiformlaw03_LensCuts, cuneiformlaw03_LensCuts), (F.cuneiformlaw03_LensReads, cuneiformlaw03_LensReads), (F.cuneiformlaw03_LensNil, cuneiformlaw03_LensNil), (F.cuneiformlaw03_LensPen, cuneiformlaw03_LensPen), (F.lens_New, lens_New), (F.lens_Lens_Field, lens_Lens_Field), (F.lens_Lens_Err, lens_Lens_Err), (F.cuneiformref01_Same, cuneiformref01_Same), (F.lens_Lens_Place, lens_Lens_Place), (F.lens_Lens_U32, lens_Lens_U32), (F.lens_Lens_Rest, lens_Lens_Rest), (F.cuneiformlaw03_known, cuneiformlaw03_known), (F.lens_Lens_End, lens_Lens_End), (F.lens_Lens_U8, lens_Lens_U8), (F.cuneiformref03_Word, cuneiformref03_Word), (F.lens_Lens_U16, lens_Lens_U16), (F.lens_Lens_Number, lens_Lens_Number), (F.cuneiformref03_Number, cuneiformref03_Number), (F.lens_Lens_Signed, lens_Lens_Signed), (F.cuneiformref03_Signed, cuneiformref03_Signed), (F.lens_Lens_Raw, lens_Lens_Raw), (F.cuneiformref03_Raw, cuneiformref03_Raw), (F.cuneiformref03_Field, cuneiformref03_Field), (F.cuneiformlaw03_words, cuneiformlaw03_words), (F.cuneiformlaw03_Alike, cuneiformlaw03_Alike), (F.lens_Lens_Words, lens_Lens_Words), (F.lens_Lens_Left, lens_Lens_Left), (F.pen_New, pen_New), (F.pen_Pen_U8, pen_Pen_U8), (F.pen_Pen_Number, pen_Pen_Number), (F.pen_Pen_U16, pen_Pen_U16), (F.pen_Pen_Field, pen_Pen_Field), (F.pen_Pen_Signed, pen_Pen_Signed), (F.pen_Pen_U32, pen_Pen_U32), (F.pen_Pen_Raw, pen_Pen_Raw), (F.pen_Pen_Err, pen_Pen_Err), (F.pen_Pen_Bytes, pen_Pen_Bytes), (F.lens_Lens_read, lens_Lens_read), (F.lens_Lens_Field_1, lens_Lens_Field_1), (F.varint_Get, varint_Get), (F.lens_Lens_word, lens_Lens_word), (F.cuneiformref03_fail, cuneiformref03_fail), (F.lens_Lens_Number_1, lens_Lens_Number_1), (F.cuneiformref01_Get, cuneiformref01_Get), (F.lens_Lens_Signed_1, lens_Lens_Signed_1), (F.varint_Zag, varint_Zag), (F.cuneiformref01_Zag, cuneiformref01_Zag), (F.lens_Lens_Raw_1, lens_Lens_Raw_1), (F.lens_Lens_Words_1, lens_Lens_Words_1), (F.lens_Lens_left, lens_Lens_left), (F.pen_Pen_word, pen_Pen_word), (F.varint_Put, varint_Put), (F.varint_Zig, varint_Zig), (F.lens_Lens_word_1, lens_Lens_word_1), (F.slices_Backward_byte_byte, slices_Backward_byte_byte), (F.slices_Backward_byte_byte_1, slices_Backward_byte_byte_1)]
theorem codes_ok : AllOk Try.prog codes := ⟨cuneiformlaw03_LensCuts_code, cuneiformlaw03_LensReads_code, cuneiformlaw03_LensNil_code, cuneiformlaw03_LensPen_code, lens_New_code, lens_Lens_Field_code, lens_Lens_Err_code, cuneiformref01_Same_code, lens_Lens_Place_code, lens_Lens_U32_code, lens_Lens_Rest_code, cuneiformlaw03_known_code, lens_Lens_End_code, lens_Lens_U8_code, cuneiformref03_Word_code, lens_Lens_U16_code, lens_Lens_Number_code, cuneiformref03_Number_code, lens_Lens_Signed_code, cuneiformref03_Signed_code, lens_Lens_Raw_code, cuneiformref03_Raw_code, cuneiformref03_Field_code, cuneiformlaw03_words_code, cuneiformlaw03_Alike_code, lens_Lens_Words_code, lens_Lens_Left_code, pen_New_code, pen_Pen_U8_code, pen_Pen_Number_code, pen_Pen_U16_code, pen_Pen_Field_code, pen_Pen_Signed_code, pen_Pen_U32_code, pen_Pen_Raw_code, pen_Pen_Err_code, pen_Pen_Bytes_code, lens_Lens_read_code, lens_Lens_Field_1_code, varint_Get_code, lens_Lens_word_code, cuneiformref03_fail_code, lens_Lens_Number_1_code, cuneiformref01_Get_code, lens_Lens_Signed_1_code, varint_Zag_code, cuneiformref01_Zag_code, lens_Lens_Raw_1_code, lens_Lens_Words_1_code, lens_Lens_left_code, pen_Pen_word_code, varint_Put_code, varint_Zig_code, lens_Lens_word_1_code, slices_Backward_byte_byte_code, slices_Backward_byte_byte_1_code, trivial⟩
end Go.Proofs.Ytebhlclfiiffbaa
