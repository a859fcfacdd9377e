/-
  The code that the statements of this seat reach, in the form of that machine, and that it is the program's. By an AI agent. No person has read it.
-/
import Derived.Test.YtdamfbjoiddfhaaProg
import Derived.Test.YtdamfbjoiddfhaaAm6
import Derived.KernelRfl

/-
  The code of this seat in the form of the abstract machine, and that it is the program's. Printed by a program (wip/am/gen.py, code.py). By an AI agent.
-/
namespace Go.Proofs.Ytdamfbjoiddfhaa
open Go Go.Am
namespace F
def cuneiformlaw18_BodyDecodes : FuncId := 3
def body_Decode : FuncId := 7
def cuneiformref18_Decode : FuncId := 8
def cuneiformref17_Same : FuncId := 9
def cuneiformlaw17_Of : FuncId := 10
def cuneiformlaw18_known : FuncId := 11
def body_Encode : FuncId := 12
def cuneiformref01_Same : FuncId := 13
def msg_Check : FuncId := 14
def msg_Same : FuncId := 16
def msg_Project : FuncId := 17
def cuneiformref16_All : FuncId := 20
def body_Parts : FuncId := 21
def cuneiformref17_Project : FuncId := 23
def field_Word : FuncId := 24
def lens_New : FuncId := 25
def field_All : FuncId := 26
def body_reader_field : FuncId := 27
def body_reader_err : FuncId := 28
def lens_Lens_End : FuncId := 29
def cuneiformref18_field : FuncId := 30
def cuneiformref01_Ints : FuncId := 31
def body_check : FuncId := 32
def field_Of : FuncId := 33
def msg_wrong : FuncId := 34
def msg_without : FuncId := 35
def slices_Equal_msg_Point_msg_Point : FuncId := 36
def slices_Equal_int_int : FuncId := 37
def msg_Copy : FuncId := 38
def body_Parts_1 : FuncId := 40
def body_part : FuncId := 41
def field_All_1 : FuncId := 44
def lens_Lens_Number : FuncId := 45
def body_reader_note : FuncId := 46
def lens_Lens_Signed : FuncId := 47
def body_reader_points : FuncId := 48
def body_reader_cells : FuncId := 49
def body_reader_text : FuncId := 50
def lens_Lens_Err : FuncId := 51
def lens_Lens_Left : FuncId := 52
def cuneiformref01_Get : FuncId := 53
def cuneiformref18_far : FuncId := 54
def cuneiformref01_Zag : FuncId := 55
def cuneiformref18_path : FuncId := 56
def cuneiformref18_cells : FuncId := 57
def field_robot : FuncId := 58
def msg_path : FuncId := 59
def msg_cells : FuncId := 60
def msg_text : FuncId := 61
def slices_Clone_msg_Point_msg_Point : FuncId := 62
def slices_Clone_int_int : FuncId := 63
def pen_New : FuncId := 67
def pen_Pen_Number : FuncId := 68
def pen_Pen_Signed : FuncId := 69
def body_points : FuncId := 70
def body_cells : FuncId := 71
def pen_Pen_Field : FuncId := 72
def pen_Pen_Bytes : FuncId := 73
def lens_Lens_read : FuncId := 76
def lens_Lens_Number_1 : FuncId := 77
def varint_Get : FuncId := 78
def lens_Lens_Signed_1 : FuncId := 79
def varint_Zag : FuncId := 80
def body_reader_points_1 : FuncId := 81
def body_reader_count : FuncId := 82
def lens_Lens_Field : FuncId := 83
def lens_Lens_left : FuncId := 84
def msg_many : FuncId := 85
def pen_Pen_Raw : FuncId := 86
def varint_Put : FuncId := 87
def varint_Zig : FuncId := 88
def lens_Lens_Field_1 : FuncId := 89
end F
namespace T
def int64 : TypeId := 2
def int : TypeId := 3
def uint8 : TypeId := 5
def sl_uint8 : TypeId := 22
def msg_Msg : TypeId := 27
def cuneiformref17_M : TypeId := 33
def cuneiformref16_F : TypeId := 58
def p_body_reader : TypeId := 63
def body_reader : TypeId := 67
def field_Field : TypeId := 71
def n2_int : TypeId := 78
def msg_Point : TypeId := 80
def func_string_sl_uint8_bool : TypeId := 88
def lens_Lens : TypeId := 92
def uint64 : TypeId := 94
def pen_Pen : TypeId := 137
end T
def cuneiformlaw18_BodyDecodes.d0 : List AOper := [⟨(some 32), .mov (.tmp 8), none⟩,
    ⟨(some 33), .mov (.tmp 10), none⟩,
    ⟨(some 34), .bin .neq (.tmp 32) (.tmp 33), none⟩,
    ⟨(some 35), .mov (.tmp 34), none⟩,
    ⟨(some 36), .load (some 11) (.tmp 7), some (35, false)⟩,
    ⟨(some 37), .call (.const (.fn F.cuneiformlaw17_Of [] [])) [(.tmp 36)], some (35, false)⟩,
    ⟨(some 38), .load (some 11) (.tmp 9), some (35, false)⟩,
    ⟨(some 39), .call (.const (.fn F.cuneiformref17_Same [] [])) [(.tmp 37), (.tmp 38)], some (35, false)⟩,
    ⟨(some 40), .un .not (.tmp 39), some (35, false)⟩,
    ⟨(some 41), .pick (.tmp 35) (.const (.bool true)) (.tmp 40), none⟩]
def cuneiformlaw18_BodyDecodes.d0b : List (List Nat) := [[], [], [0, 1], [0, 1, 2], [0, 1, 2, 3], [0, 1, 2, 3, 4], [0, 1, 2, 3], [0, 1, 2, 3, 4, 5, 6], [0, 1, 2, 3, 4, 5, 6, 7], [0, 1, 2, 3, 4, 5, 6, 7, 8]]
def cuneiformlaw18_BodyDecodes.body : ACode := .seq (.region [⟨(some 6), .mov (.const (.bool false)), none⟩] [0, 1, 2])
  (.seq (.region [⟨(some 13), .mov (.tmp 2), none⟩,
    ⟨(some 14), .mov (.tmp 2), none⟩,
    ⟨(some 15), .len .slice (.tmp 14), none⟩,
    ⟨(some 16), .maxmin false (.tmp 15) (.const (.int .i64 250)), none⟩,
    ⟨(some 17), .slice 1 .slice (.tmp 13) none (some (.tmp 16)) none, none⟩,
    ⟨(some 2), .mov (.tmp 17), none⟩] [0, 1, 2])
  (.seq (.region [⟨(some 19), .mov (.tmp 0), none⟩,
    ⟨(some 20), .mov (.tmp 1), none⟩,
    ⟨(some 21), .mov (.tmp 2), none⟩,
    ⟨(some 22), .call (.const (.fn F.body_Decode [] [])) [(.tmp 19), (.tmp 20), (.tmp 21)], none⟩,
    ⟨(some 18), .mov (.tmp 22), none⟩,
    ⟨(some 23), .extract (.tmp 18) 0, none⟩,
    ⟨(some 24), .extract (.tmp 18) 1, none⟩,
    ⟨(some 7), .alloc T.msg_Msg [(.int .i64 0), (.int .i64 0), (.int .i64 0), (.int .i64 0), (.int .i64 0), (.int .i64 0), (.int .i64 0), .nils, .nils, (.str ⟨#[]⟩), (.str ⟨#[]⟩)], none⟩,
    ⟨none, .store 11 (.tmp 7) (.tmp 23), none⟩,
    ⟨(some 8), .mov (.tmp 24), none⟩] [0, 1, 2, 7, 8])
  (.seq (.region [⟨(some 26), .mov (.tmp 0), none⟩,
    ⟨(some 27), .mov (.tmp 1), none⟩,
    ⟨(some 28), .mov (.tmp 2), none⟩,
    ⟨(some 29), .call (.const (.fn F.cuneiformref18_Decode [] [])) [(.tmp 26), (.tmp 27), (.tmp 28)], none⟩,
    ⟨(some 25), .mov (.tmp 29), none⟩,
    ⟨(some 30), .extract (.tmp 25) 0, none⟩,
    ⟨(some 31), .extract (.tmp 25) 1, none⟩,
    ⟨(some 9), .alloc T.cuneiformref17_M [(.int .i64 0), (.int .i64 0), (.int .i64 0), (.int .i64 0), (.int .i64 0), (.int .i64 0), (.int .i64 0), .nils, .nils, (.str ⟨#[]⟩), (.str ⟨#[]⟩)], none⟩,
    ⟨none, .store 11 (.tmp 9) (.tmp 30), none⟩,
    ⟨(some 10), .mov (.tmp 31), none⟩] [1, 2, 7, 8, 9, 10])
  (.seq (.seq (.draw cuneiformlaw18_BodyDecodes.d0 cuneiformlaw18_BodyDecodes.d0b [[0, 1, 2, 3, 4, 6, 5, 7, 8, 9]] [(5, 6)] [1, 2, 7, 8, 41])
  (.cond (.tmp 41) (.seq (.region [⟨(some 6), .mov (.const (.bool false)), none⟩] [6])
  (.ret)) (.skip)))
  (.seq (.seq (.region [⟨(some 42), .mov (.tmp 8), none⟩,
    ⟨(some 43), .bin .neq (.tmp 42) (.const (.int .i64 0)), none⟩] [1, 2, 7, 43])
  (.cond (.tmp 43) (.seq (.region [⟨(some 44), .call (.const (.fn F.cuneiformlaw18_known [] [])) [], none⟩,
    ⟨(some 6), .mov (.tmp 44), none⟩] [6])
  (.ret)) (.skip)))
  (.seq (.region [⟨(some 46), .load (some 11) (.tmp 7), none⟩,
    ⟨(some 47), .mov (.tmp 1), none⟩,
    ⟨(some 48), .call (.const (.fn F.body_Encode [] [])) [(.tmp 46), (.tmp 47)], none⟩,
    ⟨(some 45), .mov (.tmp 48), none⟩,
    ⟨(some 49), .extract (.tmp 45) 0, none⟩,
    ⟨(some 50), .extract (.tmp 45) 1, none⟩,
    ⟨(some 11), .mov (.tmp 49), none⟩,
    ⟨(some 12), .mov (.tmp 50), none⟩] [2, 7, 11, 12])
  (.seq (.region [⟨(some 51), .call (.const (.fn F.cuneiformlaw18_known [] [])) [], none⟩,
    ⟨(some 52), .mov (.tmp 51), none⟩,
    ⟨(some 53), .mov (.tmp 12), some (52, true)⟩,
    ⟨(some 54), .bin .eql (.tmp 53) (.const (.int .i64 0)), some (52, true)⟩,
    ⟨(some 55), .pick (.tmp 52) (.tmp 54) (.const (.bool false)), none⟩,
    ⟨(some 56), .mov (.tmp 55), none⟩,
    ⟨(some 57), .mov (.tmp 11), some (56, true)⟩,
    ⟨(some 58), .mov (.tmp 2), some (56, true)⟩,
    ⟨(some 59), .call (.const (.fn F.cuneiformref01_Same [] [])) [(.tmp 57), (.tmp 58)], some (56, true)⟩,
    ⟨(some 60), .pick (.tmp 56) (.tmp 59) (.const (.bool false)), none⟩,
    ⟨(some 61), .mov (.tmp 60), none⟩,
    ⟨(some 62), .load (some 11) (.tmp 7), some (61, true)⟩,
    ⟨(some 63), .call (.const (.fn F.msg_Check [] [])) [(.tmp 62)], some (61, true)⟩,
    ⟨(some 64), .bin .eql (.tmp 63) (.const (.int .i64 0)), some (61, true)⟩,
    ⟨(some 65), .pick (.tmp 61) (.tmp 64) (.const (.bool false)), none⟩,
    ⟨(some 6), .mov (.tmp 65), none⟩] [6])
  (.ret))))))))
def cuneiformlaw18_BodyDecodes : AFun := ⟨66, 3, [.tmp 6], cuneiformlaw18_BodyDecodes.body⟩
def body_Decode.a0 : ACode := .region [⟨(some 10), .alloc T.field_Field [(.str ⟨#[]⟩), (.int .i64 0), (.int .i64 0), (.int .i64 0), (.int .i64 0), (.int .i64 0), (.int .i64 0)], none⟩,
    ⟨none, .store 7 (.tmp 10) (.tmp 34), none⟩] [8, 9, 10]
def body_Decode.b0 : ACode := .block 2 (.seq (.region [⟨(some 35), .load none (.tmp 8), none⟩,
    ⟨(some 36), .load (some 7) (.tmp 10), none⟩,
    ⟨(some 37), .call (.const (.fn F.body_reader_field [] [])) [(.tmp 35), (.tmp 9), (.tmp 36)], none⟩] [8])
  (.seq (.region [⟨(some 38), .load none (.tmp 8), none⟩,
    ⟨(some 39), .call (.const (.fn F.body_reader_err [] [])) [(.tmp 38)], none⟩,
    ⟨(some 40), .bin .neq (.tmp 39) (.const (.int .i64 0)), none⟩] [40])
  (.cond (.tmp 40) (.exit 1) (.skip))))
def body_Decode.body : ACode := .seq (.region [⟨(some 6), .alloc T.msg_Msg [(.int .i64 0), (.int .i64 0), (.int .i64 0), (.int .i64 0), (.int .i64 0), (.int .i64 0), (.int .i64 0), .nils, .nils, (.str ⟨#[]⟩), (.str ⟨#[]⟩)], none⟩,
    ⟨(some 7), .mov (.const (.int .i64 0)), none⟩] [0, 1, 2, 6, 7])
  (.scope (.seq (.block 0 (.seq (.region [⟨(some 13), .mov (.tmp 1), none⟩,
    ⟨(some 14), .bin .neq (.tmp 13) (.const (.int .i64 1)), none⟩,
    ⟨(some 15), .mov (.tmp 14), none⟩,
    ⟨(some 16), .mov (.tmp 1), some (15, true)⟩,
    ⟨(some 17), .bin .neq (.tmp 16) (.const (.int .i64 2)), some (15, true)⟩,
    ⟨(some 18), .pick (.tmp 15) (.tmp 17) (.const (.bool false)), none⟩,
    ⟨(some 12), .mov (.tmp 18), none⟩] [0, 1, 2, 6, 7, 12])
  (.cond (.tmp 12) (.seq (.region [⟨(some 19), .build [(.int .i64 0), (.int .i64 0), (.int .i64 0), (.int .i64 0), (.int .i64 0), (.int .i64 0), (.int .i64 0), .nils, .nils, (.str ⟨#[]⟩), (.str ⟨#[]⟩)] [], none⟩,
    ⟨none, .store 11 (.tmp 6) (.tmp 19), none⟩,
    ⟨(some 7), .mov (.const (.int .i64 10)), none⟩] [6, 7])
  (.ret)) (.seq (.region [⟨(some 21), .mov (.tmp 0), none⟩,
    ⟨(some 22), .call (.const (.fn F.field_Word [] [])) [(.tmp 21)], none⟩,
    ⟨(some 23), .bin .eql (.tmp 22) (.const (.str ⟨#[]⟩)), none⟩,
    ⟨(some 20), .mov (.tmp 23), none⟩] [0, 1, 2, 6, 7, 20])
  (.cond (.tmp 20) (.seq (.region [⟨(some 24), .build [(.int .i64 0), (.int .i64 0), (.int .i64 0), (.int .i64 0), (.int .i64 0), (.int .i64 0), (.int .i64 0), .nils, .nils, (.str ⟨#[]⟩), (.str ⟨#[]⟩)] [], none⟩,
    ⟨none, .store 11 (.tmp 6) (.tmp 24), none⟩,
    ⟨(some 7), .mov (.const (.int .i64 9)), none⟩] [6, 7])
  (.ret)) (.skip))))))
  (.seq (.region [⟨(some 25), .mov (.tmp 2), none⟩,
    ⟨(some 26), .call (.const (.fn F.lens_New [] [])) [(.tmp 25)], none⟩,
    ⟨(some 27), .build [.nilp, (.int .i64 0)] [(0, 1, (.tmp 26))], none⟩,
    ⟨(some 28), .box T.body_reader (.tmp 27), none⟩,
    ⟨(some 8), .alloc T.p_body_reader [.nilp], none⟩,
    ⟨none, .store 1 (.tmp 8) (.tmp 28), none⟩] [0, 1, 6, 7, 8])
  (.seq (.region [⟨(some 29), .mov (.tmp 0), none⟩,
    ⟨(some 30), .build [(.int .i64 0), (.int .i64 0), (.int .i64 0), (.int .i64 0), (.int .i64 0), (.int .i64 0), (.int .i64 0), .nils, .nils, (.str ⟨#[]⟩), (.str ⟨#[]⟩)] [(0, 1, (.tmp 29))], none⟩,
    ⟨(some 9), .alloc T.msg_Msg [(.int .i64 0), (.int .i64 0), (.int .i64 0), (.int .i64 0), (.int .i64 0), (.int .i64 0), (.int .i64 0), .nils, .nils, (.str ⟨#[]⟩), (.str ⟨#[]⟩)], none⟩,
    ⟨none, .store 11 (.tmp 9) (.tmp 30), none⟩] [0, 1, 6, 7, 8, 9])
  (.seq (.skip)
  (.seq (.seq (.region [⟨(some 31), .mov (.tmp 0), none⟩,
    ⟨(some 32), .mov (.tmp 1), none⟩,
    ⟨(some 33), .call (.const (.fn F.field_All [] [])) [(.tmp 31), (.tmp 32)], none⟩] [1, 6, 7, 8, 9, 33])
  (.block 1 (.range (.tmp 33) [34] body_Decode.a0 body_Decode.b0)))
  (.seq (.region [⟨(some 41), .load none (.tmp 8), none⟩,
    ⟨(some 42), .call (.const (.fn F.body_reader_err [] [])) [(.tmp 41)], none⟩,
    ⟨(some 11), .mov (.tmp 42), none⟩] [1, 6, 8, 9, 11])
  (.seq (.seq (.region [⟨(some 43), .mov (.tmp 11), none⟩,
    ⟨(some 44), .bin .eql (.tmp 43) (.const (.int .i64 0)), none⟩] [1, 6, 8, 9, 11, 44])
  (.cond (.tmp 44) (.region [⟨(some 45), .load none (.tmp 8), none⟩,
    ⟨(some 46), .nilc (.tmp 45), none⟩,
    ⟨(some 47), .field 0 (.tmp 46), none⟩,
    ⟨(some 48), .load none (.tmp 47), none⟩,
    ⟨(some 49), .call (.const (.fn F.lens_Lens_End [] [])) [(.tmp 48)], none⟩,
    ⟨(some 11), .mov (.tmp 49), none⟩] [1, 6, 9, 11]) (.skip)))
  (.seq (.seq (.region [⟨(some 50), .mov (.tmp 11), none⟩,
    ⟨(some 51), .bin .neq (.tmp 50) (.const (.int .i64 0)), none⟩] [1, 6, 9, 11, 51])
  (.cond (.tmp 51) (.seq (.region [⟨(some 52), .build [(.int .i64 0), (.int .i64 0), (.int .i64 0), (.int .i64 0), (.int .i64 0), (.int .i64 0), (.int .i64 0), .nils, .nils, (.str ⟨#[]⟩), (.str ⟨#[]⟩)] [], none⟩,
    ⟨(some 53), .mov (.tmp 11), none⟩,
    ⟨none, .store 11 (.tmp 6) (.tmp 52), none⟩,
    ⟨(some 7), .mov (.tmp 53), none⟩] [6, 7])
  (.ret)) (.skip)))
  (.seq (.region [⟨(some 54), .load (some 11) (.tmp 9), none⟩,
    ⟨(some 55), .mov (.tmp 1), none⟩,
    ⟨(some 56), .call (.const (.fn F.msg_Project [] [])) [(.tmp 54), (.tmp 55)], none⟩,
    ⟨none, .store 11 (.tmp 6) (.tmp 56), none⟩,
    ⟨(some 7), .mov (.const (.int .i64 0)), none⟩] [6, 7])
  (.ret)))))))))))
def body_Decode : AFun := ⟨57, 3, [.cell 6 (some 11), .tmp 7], body_Decode.body⟩
def cuneiformref18_Decode.d0 : List AOper := [⟨(some 44), .load (some 11) (.tmp 9), none⟩,
    ⟨(some 45), .mov (.tmp 8), none⟩,
    ⟨(some 46), .mov (.tmp 11), none⟩,
    ⟨(some 47), .idx 7 none (.tmp 45) (.tmp 46), none⟩,
    ⟨(some 48), .load (some 7) (.tmp 47), none⟩,
    ⟨(some 49), .mov (.tmp 2), none⟩,
    ⟨(some 50), .mov (.tmp 10), none⟩,
    ⟨(some 51), .call (.const (.fn F.cuneiformref18_field [] [])) [(.tmp 44), (.tmp 48), (.tmp 49), (.tmp 50)], none⟩,
    ⟨(some 43), .mov (.tmp 51), none⟩,
    ⟨(some 52), .extract (.tmp 43) 0, none⟩,
    ⟨(some 53), .extract (.tmp 43) 1, none⟩,
    ⟨(some 54), .extract (.tmp 43) 2, none⟩,
    ⟨(some 12), .alloc T.cuneiformref17_M [(.int .i64 0), (.int .i64 0), (.int .i64 0), (.int .i64 0), (.int .i64 0), (.int .i64 0), (.int .i64 0), .nils, .nils, (.str ⟨#[]⟩), (.str ⟨#[]⟩)], none⟩,
    ⟨none, .store 11 (.tmp 12) (.tmp 52), none⟩,
    ⟨(some 13), .mov (.tmp 53), none⟩,
    ⟨(some 14), .mov (.tmp 54), none⟩]
def cuneiformref18_Decode.d0b : List (List Nat) := [[], [], [], [1, 2], [1, 2, 3], [], [], [0, 1, 2, 3, 4, 5, 6], [0, 1, 2, 3, 4, 5, 6, 7], [0, 1, 2, 3, 4, 5, 6, 7, 8], [0, 1, 2, 3, 4, 5, 6, 7, 8], [0, 1, 2, 3, 4, 5, 6, 7, 8], [], [0, 1, 2, 3, 4, 5, 6, 7, 8, 9, 12], [0, 1, 2, 3, 4, 5, 6, 7, 8, 9, 10, 12, 13], [0, 1, 2, 3, 4, 5, 6, 7, 8, 9, 10, 11, 12, 13, 14]]
def cuneiformref18_Decode.b1 : ACode := .seq (.seq (.region [⟨(some 30), .mov (.tmp 11), none⟩,
    ⟨(some 31), .mov (.tmp 8), none⟩,
    ⟨(some 32), .len .slice (.tmp 31), none⟩,
    ⟨(some 33), .bin .lss (.tmp 30) (.tmp 32), none⟩] [1, 2, 6, 8, 9, 10, 11, 33])
  (.cond (.tmp 33) (.skip) (.exit 0)))
  (.seq (.block 1 (.seq (.seq (.region [⟨(some 36), .mov (.tmp 8), none⟩,
    ⟨(some 37), .mov (.tmp 11), none⟩,
    ⟨(some 38), .idx 7 none (.tmp 36) (.tmp 37), none⟩,
    ⟨(some 39), .field 5 (.tmp 38), none⟩,
    ⟨(some 40), .load none (.tmp 39), none⟩,
    ⟨(some 41), .mov (.tmp 1), none⟩,
    ⟨(some 42), .bin .gtr (.tmp 40) (.tmp 41), none⟩] [1, 2, 6, 8, 9, 10, 11, 42])
  (.cond (.tmp 42) (.exit 1) (.skip)))
  (.seq (.draw cuneiformref18_Decode.d0 cuneiformref18_Decode.d0b [[0, 1, 2, 3, 4, 5, 6, 7, 8, 9, 10, 11, 12, 13, 14, 15], [0, 1, 2, 3, 4, 5, 6, 12, 7, 8, 9, 10, 11, 13, 14, 15]] [(12, 0), (12, 3), (12, 4)] [1, 2, 6, 8, 9, 11, 12, 13, 14])
  (.seq (.seq (.region [⟨(some 55), .mov (.tmp 14), none⟩,
    ⟨(some 56), .bin .neq (.tmp 55) (.const (.int .i64 0)), none⟩] [1, 2, 6, 8, 9, 11, 12, 13, 14, 56])
  (.cond (.tmp 56) (.seq (.region [⟨(some 57), .build [(.int .i64 0), (.int .i64 0), (.int .i64 0), (.int .i64 0), (.int .i64 0), (.int .i64 0), (.int .i64 0), .nils, .nils, (.str ⟨#[]⟩), (.str ⟨#[]⟩)] [], none⟩,
    ⟨(some 58), .mov (.tmp 14), none⟩,
    ⟨none, .store 11 (.tmp 6) (.tmp 57), none⟩,
    ⟨(some 7), .mov (.tmp 58), none⟩] [6, 7])
  (.ret)) (.skip)))
  (.region [⟨(some 59), .load (some 11) (.tmp 12), none⟩,
    ⟨(some 60), .mov (.tmp 13), none⟩,
    ⟨none, .store 11 (.tmp 9) (.tmp 59), none⟩,
    ⟨(some 10), .mov (.tmp 60), none⟩] [1, 2, 6, 8, 9, 10, 11])))))
  (.region [⟨(some 34), .mov (.tmp 11), none⟩,
    ⟨(some 35), .bin .add (.tmp 34) (.const (.int .i64 1)), none⟩,
    ⟨(some 11), .mov (.tmp 35), none⟩] [1, 2, 6, 8, 9, 10, 11]))
def cuneiformref18_Decode.body : ACode := .seq (.region [⟨(some 6), .alloc T.cuneiformref17_M [(.int .i64 0), (.int .i64 0), (.int .i64 0), (.int .i64 0), (.int .i64 0), (.int .i64 0), (.int .i64 0), .nils, .nils, (.str ⟨#[]⟩), (.str ⟨#[]⟩)], none⟩,
    ⟨(some 7), .mov (.const (.int .i64 0)), none⟩] [0, 1, 2, 6])
  (.seq (.seq (.region [⟨(some 15), .mov (.tmp 1), none⟩,
    ⟨(some 16), .bin .neq (.tmp 15) (.const (.int .i64 1)), none⟩,
    ⟨(some 17), .mov (.tmp 16), none⟩,
    ⟨(some 18), .mov (.tmp 1), some (17, true)⟩,
    ⟨(some 19), .bin .neq (.tmp 18) (.const (.int .i64 2)), some (17, true)⟩,
    ⟨(some 20), .pick (.tmp 17) (.tmp 19) (.const (.bool false)), none⟩] [0, 1, 2, 6, 20])
  (.cond (.tmp 20) (.seq (.region [⟨(some 21), .build [(.int .i64 0), (.int .i64 0), (.int .i64 0), (.int .i64 0), (.int .i64 0), (.int .i64 0), (.int .i64 0), .nils, .nils, (.str ⟨#[]⟩), (.str ⟨#[]⟩)] [], none⟩,
    ⟨none, .store 11 (.tmp 6) (.tmp 21), none⟩,
    ⟨(some 7), .mov (.const (.int .i64 10)), none⟩] [6, 7])
  (.ret)) (.skip)))
  (.seq (.region [⟨(some 22), .mov (.tmp 0), none⟩,
    ⟨(some 23), .call (.const (.fn F.cuneiformref16_All [] [])) [(.tmp 22)], none⟩,
    ⟨(some 8), .mov (.tmp 23), none⟩] [0, 1, 2, 6, 8])
  (.seq (.seq (.region [⟨(some 24), .mov (.tmp 8), none⟩,
    ⟨(some 25), .len .slice (.tmp 24), none⟩,
    ⟨(some 26), .bin .eql (.tmp 25) (.const (.int .i64 0)), none⟩] [0, 1, 2, 6, 8, 26])
  (.cond (.tmp 26) (.seq (.region [⟨(some 27), .build [(.int .i64 0), (.int .i64 0), (.int .i64 0), (.int .i64 0), (.int .i64 0), (.int .i64 0), (.int .i64 0), .nils, .nils, (.str ⟨#[]⟩), (.str ⟨#[]⟩)] [], none⟩,
    ⟨none, .store 11 (.tmp 6) (.tmp 27), none⟩,
    ⟨(some 7), .mov (.const (.int .i64 9)), none⟩] [6, 7])
  (.ret)) (.skip)))
  (.seq (.region [⟨(some 28), .mov (.tmp 0), none⟩,
    ⟨(some 29), .build [(.int .i64 0), (.int .i64 0), (.int .i64 0), (.int .i64 0), (.int .i64 0), (.int .i64 0), (.int .i64 0), .nils, .nils, (.str ⟨#[]⟩), (.str ⟨#[]⟩)] [(0, 1, (.tmp 28))], none⟩,
    ⟨(some 9), .alloc T.cuneiformref17_M [(.int .i64 0), (.int .i64 0), (.int .i64 0), (.int .i64 0), (.int .i64 0), (.int .i64 0), (.int .i64 0), .nils, .nils, (.str ⟨#[]⟩), (.str ⟨#[]⟩)], none⟩,
    ⟨none, .store 11 (.tmp 9) (.tmp 29), none⟩] [1, 2, 6, 8, 9])
  (.seq (.region [⟨(some 10), .mov (.const (.int .i64 0)), none⟩] [1, 2, 6, 8, 9, 10])
  (.seq (.seq (.region [⟨(some 11), .mov (.const (.int .i64 0)), none⟩] [1, 2, 6, 8, 9, 10, 11])
  (.block 0 (.loop cuneiformref18_Decode.b1)))
  (.seq (.seq (.region [⟨(some 61), .mov (.tmp 10), none⟩,
    ⟨(some 62), .mov (.tmp 2), none⟩,
    ⟨(some 63), .len .slice (.tmp 62), none⟩,
    ⟨(some 64), .bin .lss (.tmp 61) (.tmp 63), none⟩] [1, 6, 9, 64])
  (.cond (.tmp 64) (.seq (.region [⟨(some 65), .build [(.int .i64 0), (.int .i64 0), (.int .i64 0), (.int .i64 0), (.int .i64 0), (.int .i64 0), (.int .i64 0), .nils, .nils, (.str ⟨#[]⟩), (.str ⟨#[]⟩)] [], none⟩,
    ⟨none, .store 11 (.tmp 6) (.tmp 65), none⟩,
    ⟨(some 7), .mov (.const (.int .i64 3)), none⟩] [6, 7])
  (.ret)) (.skip)))
  (.seq (.region [⟨(some 66), .load (some 11) (.tmp 9), none⟩,
    ⟨(some 67), .mov (.tmp 1), none⟩,
    ⟨(some 68), .call (.const (.fn F.cuneiformref17_Project [] [])) [(.tmp 66), (.tmp 67)], none⟩,
    ⟨none, .store 11 (.tmp 6) (.tmp 68), none⟩,
    ⟨(some 7), .mov (.const (.int .i64 0)), none⟩] [6, 7])
  (.ret)))))))))
def cuneiformref18_Decode : AFun := ⟨69, 3, [.cell 6 (some 11), .tmp 7], cuneiformref18_Decode.body⟩
def cuneiformref17_Same.d0 : List AOper := [⟨(some 56), .field 7 (.tmp 2), none⟩,
    ⟨(some 57), .load none (.tmp 56), none⟩,
    ⟨(some 58), .mov (.tmp 5), none⟩,
    ⟨(some 59), .idx 2 none (.tmp 57) (.tmp 58), none⟩,
    ⟨(some 60), .load (some 2) (.tmp 59), none⟩,
    ⟨(some 61), .field 7 (.tmp 3), none⟩,
    ⟨(some 62), .load none (.tmp 61), none⟩,
    ⟨(some 63), .mov (.tmp 5), none⟩,
    ⟨(some 64), .idx 2 none (.tmp 62) (.tmp 63), none⟩,
    ⟨(some 65), .load (some 2) (.tmp 64), none⟩,
    ⟨(some 66), .eq true (.cells [.int, .int]) (.tmp 60) (.tmp 65), none⟩]
def cuneiformref17_Same.d0b : List (List Nat) := [[], [0], [], [0, 1, 2], [0, 1, 2, 3], [], [5], [], [5, 6, 7], [5, 6, 7, 8], [0, 1, 2, 3, 4, 5, 6, 7, 8, 9]]
def cuneiformref17_Same.b1 : ACode := .seq (.seq (.region [⟨(some 49), .mov (.tmp 5), none⟩,
    ⟨(some 50), .field 7 (.tmp 2), none⟩,
    ⟨(some 51), .load none (.tmp 50), none⟩,
    ⟨(some 52), .len .slice (.tmp 51), none⟩,
    ⟨(some 53), .bin .lss (.tmp 49) (.tmp 52), none⟩] [2, 3, 5, 53])
  (.cond (.tmp 53) (.skip) (.exit 0)))
  (.seq (.block 1 (.seq (.draw cuneiformref17_Same.d0 cuneiformref17_Same.d0b [[0, 1, 2, 3, 4, 5, 6, 7, 8, 9, 10]] [] [2, 3, 5, 66])
  (.cond (.tmp 66) (.seq (.region [⟨(some 4), .mov (.const (.bool false)), none⟩] [4])
  (.ret)) (.skip))))
  (.region [⟨(some 54), .mov (.tmp 5), none⟩,
    ⟨(some 55), .bin .add (.tmp 54) (.const (.int .i64 1)), none⟩,
    ⟨(some 5), .mov (.tmp 55), none⟩] [2, 3, 5]))
def cuneiformref17_Same.body : ACode := .seq (.region [⟨(some 2), .box T.cuneiformref17_M (.tmp 0), none⟩,
    ⟨(some 3), .box T.cuneiformref17_M (.tmp 1), none⟩,
    ⟨(some 4), .mov (.const (.bool false)), none⟩] [2, 3])
  (.seq (.seq (.region [⟨(some 6), .field 0 (.tmp 2), none⟩,
    ⟨(some 7), .load none (.tmp 6), none⟩,
    ⟨(some 8), .field 0 (.tmp 3), none⟩,
    ⟨(some 9), .load none (.tmp 8), none⟩,
    ⟨(some 10), .bin .neq (.tmp 7) (.tmp 9), none⟩,
    ⟨(some 11), .mov (.tmp 10), none⟩,
    ⟨(some 12), .field 1 (.tmp 2), some (11, false)⟩,
    ⟨(some 13), .load (some 6) (.tmp 12), some (11, false)⟩,
    ⟨(some 14), .field 1 (.tmp 3), some (11, false)⟩,
    ⟨(some 15), .load (some 6) (.tmp 14), some (11, false)⟩,
    ⟨(some 16), .eq true (.cells [.int, .int, .int, .int, .int, .int]) (.tmp 13) (.tmp 15), some (11, false)⟩,
    ⟨(some 17), .pick (.tmp 11) (.const (.bool true)) (.tmp 16), none⟩,
    ⟨(some 18), .mov (.tmp 17), none⟩,
    ⟨(some 19), .field 7 (.tmp 2), some (18, false)⟩,
    ⟨(some 20), .load none (.tmp 19), some (18, false)⟩,
    ⟨(some 21), .len .slice (.tmp 20), some (18, false)⟩,
    ⟨(some 22), .field 7 (.tmp 3), some (18, false)⟩,
    ⟨(some 23), .load none (.tmp 22), some (18, false)⟩,
    ⟨(some 24), .len .slice (.tmp 23), some (18, false)⟩,
    ⟨(some 25), .bin .neq (.tmp 21) (.tmp 24), some (18, false)⟩,
    ⟨(some 26), .pick (.tmp 18) (.const (.bool true)) (.tmp 25), none⟩,
    ⟨(some 27), .mov (.tmp 26), none⟩,
    ⟨(some 28), .field 8 (.tmp 2), some (27, false)⟩,
    ⟨(some 29), .load none (.tmp 28), some (27, false)⟩,
    ⟨(some 30), .field 8 (.tmp 3), some (27, false)⟩,
    ⟨(some 31), .load none (.tmp 30), some (27, false)⟩,
    ⟨(some 32), .call (.const (.fn F.cuneiformref01_Ints [] [])) [(.tmp 29), (.tmp 31)], some (27, false)⟩,
    ⟨(some 33), .un .not (.tmp 32), some (27, false)⟩,
    ⟨(some 34), .pick (.tmp 27) (.const (.bool true)) (.tmp 33), none⟩,
    ⟨(some 35), .mov (.tmp 34), none⟩,
    ⟨(some 36), .field 9 (.tmp 2), some (35, false)⟩,
    ⟨(some 37), .load none (.tmp 36), some (35, false)⟩,
    ⟨(some 38), .field 9 (.tmp 3), some (35, false)⟩,
    ⟨(some 39), .load none (.tmp 38), some (35, false)⟩,
    ⟨(some 40), .bin .neq (.tmp 37) (.tmp 39), some (35, false)⟩,
    ⟨(some 41), .pick (.tmp 35) (.const (.bool true)) (.tmp 40), none⟩,
    ⟨(some 42), .mov (.tmp 41), none⟩,
    ⟨(some 43), .field 10 (.tmp 2), some (42, false)⟩,
    ⟨(some 44), .load none (.tmp 43), some (42, false)⟩,
    ⟨(some 45), .field 10 (.tmp 3), some (42, false)⟩,
    ⟨(some 46), .load none (.tmp 45), some (42, false)⟩,
    ⟨(some 47), .bin .neq (.tmp 44) (.tmp 46), some (42, false)⟩,
    ⟨(some 48), .pick (.tmp 42) (.const (.bool true)) (.tmp 47), none⟩] [2, 3, 48])
  (.cond (.tmp 48) (.seq (.region [⟨(some 4), .mov (.const (.bool false)), none⟩] [4])
  (.ret)) (.skip)))
  (.seq (.seq (.region [⟨(some 5), .mov (.const (.int .i64 0)), none⟩] [2, 3, 5])
  (.block 0 (.loop cuneiformref17_Same.b1)))
  (.seq (.region [⟨(some 4), .mov (.const (.bool true)), none⟩] [4])
  (.ret))))
def cuneiformref17_Same : AFun := ⟨67, 2, [.tmp 4], cuneiformref17_Same.body⟩
def cuneiformlaw17_Of.d0 : List AOper := [⟨(some 23), .field 7 (.tmp 3), none⟩,
    ⟨(some 24), .load none (.tmp 23), none⟩,
    ⟨(some 25), .field 7 (.tmp 1), none⟩,
    ⟨(some 26), .load none (.tmp 25), none⟩,
    ⟨(some 27), .mov (.tmp 4), none⟩,
    ⟨(some 28), .idx 2 none (.tmp 26) (.tmp 27), none⟩,
    ⟨(some 29), .field 0 (.tmp 28), none⟩,
    ⟨(some 30), .load none (.tmp 29), none⟩,
    ⟨(some 31), .field 7 (.tmp 1), none⟩,
    ⟨(some 32), .load none (.tmp 31), none⟩,
    ⟨(some 33), .mov (.tmp 4), none⟩,
    ⟨(some 34), .idx 2 none (.tmp 32) (.tmp 33), none⟩,
    ⟨(some 35), .field 1 (.tmp 34), none⟩,
    ⟨(some 36), .load none (.tmp 35), none⟩,
    ⟨(some 37), .build [(.int .i64 0), (.int .i64 0)] [(0, 1, (.tmp 30)), (1, 1, (.tmp 36))], none⟩,
    ⟨(some 38), .lit T.n2_int 2 1 [(.int .i64 0), (.int .i64 0)] [(0, 2, (.tmp 37))], none⟩,
    ⟨(some 39), .append T.n2_int 2 16 (.tmp 24) (.tmp 38), none⟩,
    ⟨(some 40), .field 7 (.tmp 3), none⟩,
    ⟨none, .store 1 (.tmp 40) (.tmp 39), none⟩]
def cuneiformlaw17_Of.d0b : List (List Nat) := [[], [0], [], [2], [], [2, 3, 4], [2, 3, 4, 5], [2, 3, 4, 5, 6], [], [8], [], [8, 9, 10], [8, 9, 10, 11], [8, 9, 10, 11, 12], [2, 3, 4, 5, 6, 7, 8, 9, 10, 11, 12, 13], [2, 3, 4, 5, 6, 7, 8, 9, 10, 11, 12, 13, 14], [0, 1, 2, 3, 4, 5, 6, 7, 8, 9, 10, 11, 12, 13, 14, 15], [0, 1, 2, 3, 4, 5, 6, 7, 8, 9, 10, 11, 12, 13, 14, 15, 16], [0, 1, 2, 3, 4, 5, 6, 7, 8, 9, 10, 11, 12, 13, 14, 15, 16, 17]]
def cuneiformlaw17_Of.b1 : ACode := .seq (.seq (.region [⟨(some 16), .mov (.tmp 4), none⟩,
    ⟨(some 17), .field 7 (.tmp 1), none⟩,
    ⟨(some 18), .load none (.tmp 17), none⟩,
    ⟨(some 19), .len .slice (.tmp 18), none⟩,
    ⟨(some 20), .bin .lss (.tmp 16) (.tmp 19), none⟩] [1, 2, 3, 4, 20])
  (.cond (.tmp 20) (.skip) (.exit 0)))
  (.seq (.block 1 (.draw cuneiformlaw17_Of.d0 cuneiformlaw17_Of.d0b [[0, 1, 2, 3, 4, 5, 6, 7, 8, 9, 10, 11, 12, 13, 14, 15, 16, 17, 18]] [(15, 1)] [1, 2, 3, 4]))
  (.region [⟨(some 21), .mov (.tmp 4), none⟩,
    ⟨(some 22), .bin .add (.tmp 21) (.const (.int .i64 1)), none⟩,
    ⟨(some 4), .mov (.tmp 22), none⟩] [1, 2, 3, 4]))
def cuneiformlaw17_Of.body : ACode := .seq (.region [⟨(some 1), .box T.msg_Msg (.tmp 0), none⟩,
    ⟨(some 2), .alloc T.cuneiformref17_M [(.int .i64 0), (.int .i64 0), (.int .i64 0), (.int .i64 0), (.int .i64 0), (.int .i64 0), (.int .i64 0), .nils, .nils, (.str ⟨#[]⟩), (.str ⟨#[]⟩)], none⟩] [1, 2])
  (.seq (.region [⟨(some 5), .field 0 (.tmp 1), none⟩,
    ⟨(some 6), .load none (.tmp 5), none⟩,
    ⟨(some 7), .field 1 (.tmp 1), none⟩,
    ⟨(some 8), .load (some 6) (.tmp 7), none⟩,
    ⟨(some 9), .field 8 (.tmp 1), none⟩,
    ⟨(some 10), .load none (.tmp 9), none⟩,
    ⟨(some 11), .field 9 (.tmp 1), none⟩,
    ⟨(some 12), .load none (.tmp 11), none⟩,
    ⟨(some 13), .field 10 (.tmp 1), none⟩,
    ⟨(some 14), .load none (.tmp 13), none⟩,
    ⟨(some 15), .build [(.int .i64 0), (.int .i64 0), (.int .i64 0), (.int .i64 0), (.int .i64 0), (.int .i64 0), (.int .i64 0), .nils, .nils, (.str ⟨#[]⟩), (.str ⟨#[]⟩)] [(0, 1, (.tmp 6)), (1, 6, (.tmp 8)), (8, 1, (.tmp 10)), (9, 1, (.tmp 12)), (10, 1, (.tmp 14))], none⟩,
    ⟨(some 3), .alloc T.cuneiformref17_M [(.int .i64 0), (.int .i64 0), (.int .i64 0), (.int .i64 0), (.int .i64 0), (.int .i64 0), (.int .i64 0), .nils, .nils, (.str ⟨#[]⟩), (.str ⟨#[]⟩)], none⟩,
    ⟨none, .store 11 (.tmp 3) (.tmp 15), none⟩] [1, 2, 3])
  (.seq (.seq (.region [⟨(some 4), .mov (.const (.int .i64 0)), none⟩] [1, 2, 3, 4])
  (.block 0 (.loop cuneiformlaw17_Of.b1)))
  (.seq (.region [⟨(some 41), .load (some 11) (.tmp 3), none⟩,
    ⟨none, .store 11 (.tmp 2) (.tmp 41), none⟩] [2])
  (.ret))))
def cuneiformlaw17_Of : AFun := ⟨42, 1, [.cell 2 (some 11)], cuneiformlaw17_Of.body⟩
def cuneiformlaw18_known.body : ACode := .seq (.region [⟨(some 0), .mov (.const (.bool false)), none⟩] [])
  (.seq (.region [⟨(some 6), .build [(.int .i64 0), (.int .i64 0), (.int .i64 0), (.int .i64 0), (.int .i64 0), (.int .i64 0)] [(0, 1, (.const (.int .i64 300))), (1, 1, (.const (.int .i64 2))), (2, 1, (.const (.int .i64 9)))], none⟩,
    ⟨(some 7), .build [(.int .i64 0), (.int .i64 0), (.int .i64 0), (.int .i64 0), (.int .i64 0), (.int .i64 0), (.int .i64 0), .nils, .nils, (.str ⟨#[]⟩), (.str ⟨#[]⟩)] [(0, 1, (.const (.int .i64 2))), (1, 6, (.tmp 6))], none⟩,
    ⟨(some 1), .alloc T.msg_Msg [(.int .i64 0), (.int .i64 0), (.int .i64 0), (.int .i64 0), (.int .i64 0), (.int .i64 0), (.int .i64 0), .nils, .nils, (.str ⟨#[]⟩), (.str ⟨#[]⟩)], none⟩,
    ⟨none, .store 11 (.tmp 1) (.tmp 7), none⟩] [1])
  (.seq (.region [⟨(some 9), .load (some 11) (.tmp 1), none⟩,
    ⟨(some 10), .call (.const (.fn F.body_Encode [] [])) [(.tmp 9), (.const (.int .i64 1))], none⟩,
    ⟨(some 8), .mov (.tmp 10), none⟩,
    ⟨(some 11), .extract (.tmp 8) 0, none⟩,
    ⟨(some 12), .extract (.tmp 8) 1, none⟩,
    ⟨(some 2), .mov (.tmp 11), none⟩,
    ⟨(some 3), .mov (.tmp 12), none⟩] [1, 2, 3])
  (.seq (.region [⟨(some 14), .load (some 11) (.tmp 1), none⟩,
    ⟨(some 15), .call (.const (.fn F.body_Encode [] [])) [(.tmp 14), (.const (.int .i64 2))], none⟩,
    ⟨(some 13), .mov (.tmp 15), none⟩,
    ⟨(some 16), .extract (.tmp 13) 0, none⟩,
    ⟨(some 17), .extract (.tmp 13) 1, none⟩,
    ⟨(some 4), .mov (.tmp 16), none⟩,
    ⟨(some 5), .mov (.tmp 17), none⟩] [2, 3, 4, 5])
  (.seq (.region [⟨(some 18), .mov (.tmp 3), none⟩,
    ⟨(some 19), .bin .eql (.tmp 18) (.const (.int .i64 0)), none⟩,
    ⟨(some 20), .mov (.tmp 19), none⟩,
    ⟨(some 21), .mov (.tmp 5), some (20, true)⟩,
    ⟨(some 22), .bin .eql (.tmp 21) (.const (.int .i64 0)), some (20, true)⟩,
    ⟨(some 23), .pick (.tmp 20) (.tmp 22) (.const (.bool false)), none⟩,
    ⟨(some 24), .mov (.tmp 23), none⟩,
    ⟨(some 25), .mov (.tmp 2), some (24, true)⟩,
    ⟨(some 26), .lit T.uint8 1 3 [(.int .u8 0), (.int .u8 0), (.int .u8 0)] [(0, 1, (.const (.int .u8 172))), (1, 1, (.const (.int .u8 2))), (2, 1, (.const (.int .u8 2)))], some (24, true)⟩,
    ⟨(some 27), .call (.const (.fn F.cuneiformref01_Same [] [])) [(.tmp 25), (.tmp 26)], some (24, true)⟩,
    ⟨(some 28), .pick (.tmp 24) (.tmp 27) (.const (.bool false)), none⟩,
    ⟨(some 29), .mov (.tmp 28), none⟩,
    ⟨(some 30), .mov (.tmp 4), some (29, true)⟩,
    ⟨(some 31), .lit T.uint8 1 4 [(.int .u8 0), (.int .u8 0), (.int .u8 0), (.int .u8 0)] [(0, 1, (.const (.int .u8 172))), (1, 1, (.const (.int .u8 2))), (2, 1, (.const (.int .u8 2))), (3, 1, (.const (.int .u8 9)))], some (29, true)⟩,
    ⟨(some 32), .call (.const (.fn F.cuneiformref01_Same [] [])) [(.tmp 30), (.tmp 31)], some (29, true)⟩,
    ⟨(some 33), .pick (.tmp 29) (.tmp 32) (.const (.bool false)), none⟩,
    ⟨(some 0), .mov (.tmp 33), none⟩] [0])
  (.ret)))))
def cuneiformlaw18_known : AFun := ⟨34, 0, [.tmp 0], cuneiformlaw18_known.body⟩
def body_Encode.a0 : ACode := .region [⟨(some 9), .mov (.tmp 20), none⟩] [7, 9]
def body_Encode.b0 : ACode := .block 1 (.region [⟨(some 21), .load none (.tmp 7), none⟩,
    ⟨(some 22), .mov (.tmp 9), none⟩,
    ⟨(some 23), .append T.uint8 1 1 (.tmp 21) (.tmp 22), none⟩,
    ⟨none, .store 1 (.tmp 7) (.tmp 23), none⟩] [])
def body_Encode.body : ACode := .seq (.region [⟨(some 2), .box T.msg_Msg (.tmp 0), none⟩,
    ⟨(some 4), .mov (.const .nils), none⟩,
    ⟨(some 5), .mov (.const (.int .i64 0)), none⟩] [1, 2, 4, 5])
  (.seq (.seq (.region [⟨(some 10), .load (some 11) (.tmp 2), none⟩,
    ⟨(some 11), .mov (.tmp 1), none⟩,
    ⟨(some 12), .call (.const (.fn F.body_check [] [])) [(.tmp 10), (.tmp 11)], none⟩,
    ⟨(some 6), .mov (.tmp 12), none⟩] [1, 2, 4, 5, 6])
  (.seq (.region [⟨(some 13), .mov (.tmp 6), none⟩,
    ⟨(some 14), .bin .neq (.tmp 13) (.const (.int .i64 0)), none⟩] [1, 2, 4, 5, 6, 14])
  (.cond (.tmp 14) (.seq (.region [⟨(some 15), .mov (.tmp 6), none⟩,
    ⟨(some 4), .mov (.const .nils), none⟩,
    ⟨(some 5), .mov (.tmp 15), none⟩] [4, 5])
  (.ret)) (.skip))))
  (.seq (.region [⟨(some 7), .alloc T.sl_uint8 [.nils], none⟩] [1, 2, 4, 5, 7])
  (.seq (.seq (.region [⟨(some 16), .load (some 11) (.tmp 2), none⟩,
    ⟨(some 17), .mov (.tmp 1), none⟩,
    ⟨(some 18), .call (.const (.fn F.body_Parts [] [])) [(.tmp 16), (.tmp 17)], none⟩] [4, 5, 7, 18])
  (.block 0 (.range (.tmp 18) [19, 20] body_Encode.a0 body_Encode.b0)))
  (.seq (.region [⟨(some 24), .load none (.tmp 7), none⟩,
    ⟨(some 4), .mov (.tmp 24), none⟩,
    ⟨(some 5), .mov (.const (.int .i64 0)), none⟩] [4, 5])
  (.ret)))))
def body_Encode : AFun := ⟨25, 2, [.tmp 4, .tmp 5], body_Encode.body⟩
def cuneiformref01_Same.d0 : List AOper := [⟨(some 17), .mov (.tmp 0), none⟩,
    ⟨(some 18), .mov (.tmp 5), none⟩,
    ⟨(some 19), .idx 1 none (.tmp 17) (.tmp 18), none⟩,
    ⟨(some 20), .load none (.tmp 19), none⟩,
    ⟨(some 21), .mov (.tmp 1), none⟩,
    ⟨(some 22), .mov (.tmp 5), none⟩,
    ⟨(some 23), .idx 1 none (.tmp 21) (.tmp 22), none⟩,
    ⟨(some 24), .load none (.tmp 23), none⟩,
    ⟨(some 25), .bin .neq (.tmp 20) (.tmp 24), none⟩]
def cuneiformref01_Same.d0b : List (List Nat) := [[], [], [0, 1], [0, 1, 2], [], [], [4, 5], [4, 5, 6], [0, 1, 2, 3, 4, 5, 6, 7]]
def cuneiformref01_Same.b1 : ACode := .seq (.seq (.region [⟨(some 11), .mov (.tmp 5), none⟩,
    ⟨(some 12), .mov (.tmp 0), none⟩,
    ⟨(some 13), .len .slice (.tmp 12), none⟩,
    ⟨(some 14), .bin .lss (.tmp 11) (.tmp 13), none⟩] [0, 1, 5, 14])
  (.cond (.tmp 14) (.skip) (.exit 0)))
  (.seq (.block 1 (.seq (.draw cuneiformref01_Same.d0 cuneiformref01_Same.d0b [[0, 1, 2, 3, 4, 5, 6, 7, 8]] [] [0, 1, 5, 25])
  (.cond (.tmp 25) (.seq (.region [⟨(some 4), .mov (.const (.bool false)), none⟩] [4])
  (.ret)) (.skip))))
  (.region [⟨(some 15), .mov (.tmp 5), none⟩,
    ⟨(some 16), .bin .add (.tmp 15) (.const (.int .i64 1)), none⟩,
    ⟨(some 5), .mov (.tmp 16), none⟩] [0, 1, 5]))
def cuneiformref01_Same.body : ACode := .seq (.region [⟨(some 4), .mov (.const (.bool false)), none⟩] [0, 1])
  (.seq (.seq (.region [⟨(some 6), .mov (.tmp 0), none⟩,
    ⟨(some 7), .len .slice (.tmp 6), none⟩,
    ⟨(some 8), .mov (.tmp 1), none⟩,
    ⟨(some 9), .len .slice (.tmp 8), none⟩,
    ⟨(some 10), .bin .neq (.tmp 7) (.tmp 9), none⟩] [0, 1, 10])
  (.cond (.tmp 10) (.seq (.region [⟨(some 4), .mov (.const (.bool false)), none⟩] [4])
  (.ret)) (.skip)))
  (.seq (.seq (.region [⟨(some 5), .mov (.const (.int .i64 0)), none⟩] [0, 1, 5])
  (.block 0 (.loop cuneiformref01_Same.b1)))
  (.seq (.region [⟨(some 4), .mov (.const (.bool true)), none⟩] [4])
  (.ret))))
def cuneiformref01_Same : AFun := ⟨26, 2, [.tmp 4], cuneiformref01_Same.body⟩
def msg_Check.d0 : List AOper := [⟨(some 7), .load (some 11) (.tmp 1), none⟩,
    ⟨(some 4), .alloc T.msg_Msg [(.int .i64 0), (.int .i64 0), (.int .i64 0), (.int .i64 0), (.int .i64 0), (.int .i64 0), (.int .i64 0), .nils, .nils, (.str ⟨#[]⟩), (.str ⟨#[]⟩)], none⟩,
    ⟨(some 3), .mov (.const (.int .i64 9)), none⟩,
    ⟨none, .store 11 (.tmp 4) (.tmp 7), none⟩]
def msg_Check.d0b : List (List Nat) := [[], [], [1], [0, 1, 2]]
def msg_Check.b1 : ACode := .seq (.region [⟨(some 13), .bin .lss (.tmp 12) (.tmp 11), none⟩] [1, 3, 4, 10, 11, 12, 13])
  (.seq (.cond (.tmp 13) (.skip) (.exit 0))
  (.seq (.block 1 (.seq (.region [⟨(some 14), .idx 7 none (.tmp 10) (.tmp 12), none⟩,
    ⟨(some 15), .load (some 7) (.tmp 14), none⟩,
    ⟨(some 6), .alloc T.field_Field [(.str ⟨#[]⟩), (.int .i64 0), (.int .i64 0), (.int .i64 0), (.int .i64 0), (.int .i64 0), (.int .i64 0)], none⟩,
    ⟨none, .store 7 (.tmp 6) (.tmp 15), none⟩] [1, 4, 6, 10, 11, 12])
  (.seq (.seq (.region [⟨(some 16), .load (some 11) (.tmp 1), none⟩,
    ⟨(some 17), .load (some 7) (.tmp 6), none⟩,
    ⟨(some 18), .call (.const (.fn F.msg_wrong [] [])) [(.tmp 16), (.tmp 17)], none⟩,
    ⟨(some 3), .mov (.tmp 18), none⟩] [1, 3, 4, 6, 10, 11, 12])
  (.seq (.region [⟨(some 19), .mov (.tmp 3), none⟩,
    ⟨(some 20), .bin .neq (.tmp 19) (.const (.int .i64 0)), none⟩] [1, 3, 4, 6, 10, 11, 12, 20])
  (.cond (.tmp 20) (.exit 0) (.skip))))
  (.region [⟨(some 21), .load (some 11) (.tmp 4), none⟩,
    ⟨(some 22), .load (some 7) (.tmp 6), none⟩,
    ⟨(some 23), .call (.const (.fn F.msg_without [] [])) [(.tmp 21), (.tmp 22)], none⟩,
    ⟨none, .store 11 (.tmp 4) (.tmp 23), none⟩] [1, 3, 4, 10, 11, 12]))))
  (.region [⟨(some 24), .bin .add (.tmp 12) (.const (.int .i64 1)), none⟩,
    ⟨(some 12), .mov (.tmp 24), none⟩] [1, 3, 4, 10, 11, 12])))
def msg_Check.body : ACode := .seq (.region [⟨(some 1), .box T.msg_Msg (.tmp 0), none⟩,
    ⟨(some 2), .mov (.const (.int .i64 0)), none⟩] [1])
  (.scope (.seq (.draw msg_Check.d0 msg_Check.d0b [[0, 1, 2, 3]] [(1, 0)] [1, 3, 4])
  (.seq (.skip)
  (.seq (.seq (.region [⟨(some 8), .field 0 (.tmp 1), none⟩,
    ⟨(some 9), .load none (.tmp 8), none⟩,
    ⟨(some 10), .call (.const (.fn F.field_Of [] [])) [(.tmp 9)], none⟩,
    ⟨(some 11), .len .slice (.tmp 10), none⟩,
    ⟨(some 12), .mov (.const (.int .i64 0)), none⟩] [1, 3, 4, 10, 11, 12])
  (.block 0 (.loop msg_Check.b1)))
  (.seq (.seq (.region [⟨(some 25), .mov (.tmp 3), none⟩,
    ⟨(some 26), .bin .eql (.tmp 25) (.const (.int .i64 0)), none⟩,
    ⟨(some 27), .mov (.tmp 26), none⟩,
    ⟨(some 28), .load (some 11) (.tmp 4), some (27, true)⟩,
    ⟨(some 29), .field 0 (.tmp 1), some (27, true)⟩,
    ⟨(some 30), .load none (.tmp 29), some (27, true)⟩,
    ⟨(some 31), .build [(.int .i64 0), (.int .i64 0), (.int .i64 0), (.int .i64 0), (.int .i64 0), (.int .i64 0), (.int .i64 0), .nils, .nils, (.str ⟨#[]⟩), (.str ⟨#[]⟩)] [(0, 1, (.tmp 30))], some (27, true)⟩,
    ⟨(some 32), .call (.const (.fn F.msg_Same [] [])) [(.tmp 28), (.tmp 31)], some (27, true)⟩,
    ⟨(some 33), .un .not (.tmp 32), some (27, true)⟩,
    ⟨(some 34), .pick (.tmp 27) (.tmp 33) (.const (.bool false)), none⟩] [3, 34])
  (.cond (.tmp 34) (.seq (.region [⟨(some 2), .mov (.const (.int .i64 3)), none⟩] [2])
  (.ret)) (.skip)))
  (.seq (.region [⟨(some 35), .mov (.tmp 3), none⟩,
    ⟨(some 2), .mov (.tmp 35), none⟩] [2])
  (.ret)))))))
def msg_Check : AFun := ⟨36, 1, [.tmp 2], msg_Check.body⟩
def msg_Same.body : ACode := .seq (.region [⟨(some 2), .box T.msg_Msg (.tmp 0), none⟩,
    ⟨(some 3), .box T.msg_Msg (.tmp 1), none⟩,
    ⟨(some 4), .mov (.const (.bool false)), none⟩] [2, 3])
  (.seq (.region [⟨(some 5), .field 0 (.tmp 2), none⟩,
    ⟨(some 6), .load none (.tmp 5), none⟩,
    ⟨(some 7), .field 0 (.tmp 3), none⟩,
    ⟨(some 8), .load none (.tmp 7), none⟩,
    ⟨(some 9), .bin .eql (.tmp 6) (.tmp 8), none⟩,
    ⟨(some 10), .mov (.tmp 9), none⟩,
    ⟨(some 11), .field 1 (.tmp 2), some (10, true)⟩,
    ⟨(some 12), .load (some 6) (.tmp 11), some (10, true)⟩,
    ⟨(some 13), .field 1 (.tmp 3), some (10, true)⟩,
    ⟨(some 14), .load (some 6) (.tmp 13), some (10, true)⟩,
    ⟨(some 15), .eq false (.cells [.int, .int, .int, .int, .int, .int]) (.tmp 12) (.tmp 14), some (10, true)⟩,
    ⟨(some 16), .pick (.tmp 10) (.tmp 15) (.const (.bool false)), none⟩,
    ⟨(some 17), .mov (.tmp 16), none⟩,
    ⟨(some 18), .field 7 (.tmp 2), some (17, true)⟩,
    ⟨(some 19), .load none (.tmp 18), some (17, true)⟩,
    ⟨(some 20), .field 7 (.tmp 3), some (17, true)⟩,
    ⟨(some 21), .load none (.tmp 20), some (17, true)⟩,
    ⟨(some 22), .call (.const (.fn F.slices_Equal_msg_Point_msg_Point [] [])) [(.tmp 19), (.tmp 21)], some (17, true)⟩,
    ⟨(some 23), .pick (.tmp 17) (.tmp 22) (.const (.bool false)), none⟩,
    ⟨(some 24), .mov (.tmp 23), none⟩,
    ⟨(some 25), .field 8 (.tmp 2), some (24, true)⟩,
    ⟨(some 26), .load none (.tmp 25), some (24, true)⟩,
    ⟨(some 27), .field 8 (.tmp 3), some (24, true)⟩,
    ⟨(some 28), .load none (.tmp 27), some (24, true)⟩,
    ⟨(some 29), .call (.const (.fn F.slices_Equal_int_int [] [])) [(.tmp 26), (.tmp 28)], some (24, true)⟩,
    ⟨(some 30), .pick (.tmp 24) (.tmp 29) (.const (.bool false)), none⟩,
    ⟨(some 31), .mov (.tmp 30), none⟩,
    ⟨(some 32), .field 9 (.tmp 2), some (31, true)⟩,
    ⟨(some 33), .load none (.tmp 32), some (31, true)⟩,
    ⟨(some 34), .field 9 (.tmp 3), some (31, true)⟩,
    ⟨(some 35), .load none (.tmp 34), some (31, true)⟩,
    ⟨(some 36), .bin .eql (.tmp 33) (.tmp 35), some (31, true)⟩,
    ⟨(some 37), .pick (.tmp 31) (.tmp 36) (.const (.bool false)), none⟩,
    ⟨(some 38), .mov (.tmp 37), none⟩,
    ⟨(some 39), .field 10 (.tmp 2), some (38, true)⟩,
    ⟨(some 40), .load none (.tmp 39), some (38, true)⟩,
    ⟨(some 41), .field 10 (.tmp 3), some (38, true)⟩,
    ⟨(some 42), .load none (.tmp 41), some (38, true)⟩,
    ⟨(some 43), .bin .eql (.tmp 40) (.tmp 42), some (38, true)⟩,
    ⟨(some 44), .pick (.tmp 38) (.tmp 43) (.const (.bool false)), none⟩,
    ⟨(some 4), .mov (.tmp 44), none⟩] [4])
  (.ret))
def msg_Same : AFun := ⟨45, 2, [.tmp 4], msg_Same.body⟩
def msg_Project.b0 : ACode := .seq (.region [⟨(some 14), .bin .lss (.tmp 13) (.tmp 12), none⟩] [1, 2, 4, 11, 12, 13, 14])
  (.seq (.cond (.tmp 14) (.skip) (.exit 0))
  (.seq (.block 1 (.seq (.region [⟨(some 15), .idx 7 none (.tmp 11) (.tmp 13), none⟩,
    ⟨(some 16), .load (some 7) (.tmp 15), none⟩,
    ⟨(some 6), .alloc T.field_Field [(.str ⟨#[]⟩), (.int .i64 0), (.int .i64 0), (.int .i64 0), (.int .i64 0), (.int .i64 0), (.int .i64 0)], none⟩,
    ⟨none, .store 7 (.tmp 6) (.tmp 16), none⟩] [1, 2, 4, 6, 11, 12, 13])
  (.seq (.seq (.region [⟨(some 17), .mov (.tmp 1), none⟩,
    ⟨(some 18), .bin .neq (.tmp 17) (.const (.int .i64 1)), none⟩,
    ⟨(some 19), .mov (.tmp 18), none⟩,
    ⟨(some 20), .field 5 (.tmp 6), some (19, false)⟩,
    ⟨(some 21), .load none (.tmp 20), some (19, false)⟩,
    ⟨(some 22), .bin .eql (.tmp 21) (.const (.int .i64 1)), some (19, false)⟩,
    ⟨(some 23), .pick (.tmp 19) (.const (.bool true)) (.tmp 22), none⟩] [1, 2, 4, 6, 11, 12, 13, 23])
  (.cond (.tmp 23) (.exit 1) (.skip)))
  (.seq (.region [⟨(some 24), .load (some 11) (.tmp 2), none⟩,
    ⟨(some 25), .load (some 7) (.tmp 6), none⟩,
    ⟨(some 26), .call (.const (.fn F.msg_without [] [])) [(.tmp 24), (.tmp 25)], none⟩,
    ⟨none, .store 11 (.tmp 2) (.tmp 26), none⟩] [1, 2, 4, 6, 11, 12, 13])
  (.seq (.region [⟨(some 27), .field 2 (.tmp 6), none⟩,
    ⟨(some 28), .load none (.tmp 27), none⟩,
    ⟨(some 29), .bin .geq (.tmp 28) (.const (.int .i64 0)), none⟩] [1, 2, 4, 6, 11, 12, 13, 29])
  (.cond (.tmp 29) (.region [⟨(some 30), .field 2 (.tmp 6), none⟩,
    ⟨(some 31), .load none (.tmp 30), none⟩,
    ⟨(some 32), .field 6 (.tmp 6), none⟩,
    ⟨(some 33), .load none (.tmp 32), none⟩,
    ⟨(some 34), .field 1 (.tmp 2), none⟩,
    ⟨(some 35), .idx 1 (some 6) (.tmp 34) (.tmp 31), none⟩,
    ⟨none, .store 1 (.tmp 35) (.tmp 33), none⟩] [1, 2, 4, 11, 12, 13]) (.skip)))))))
  (.region [⟨(some 36), .bin .add (.tmp 13) (.const (.int .i64 1)), none⟩,
    ⟨(some 13), .mov (.tmp 36), none⟩] [1, 2, 4, 11, 12, 13])))
def msg_Project.body : ACode := .seq (.region [⟨(some 2), .box T.msg_Msg (.tmp 0), none⟩,
    ⟨(some 4), .alloc T.msg_Msg [(.int .i64 0), (.int .i64 0), (.int .i64 0), (.int .i64 0), (.int .i64 0), (.int .i64 0), (.int .i64 0), .nils, .nils, (.str ⟨#[]⟩), (.str ⟨#[]⟩)], none⟩] [1, 2, 4])
  (.scope (.seq (.region [⟨(some 7), .load (some 11) (.tmp 2), none⟩,
    ⟨(some 8), .call (.const (.fn F.msg_Copy [] [])) [(.tmp 7)], none⟩,
    ⟨none, .store 11 (.tmp 2) (.tmp 8), none⟩] [1, 2, 4])
  (.seq (.skip)
  (.seq (.seq (.region [⟨(some 9), .field 0 (.tmp 2), none⟩,
    ⟨(some 10), .load none (.tmp 9), none⟩,
    ⟨(some 11), .call (.const (.fn F.field_Of [] [])) [(.tmp 10)], none⟩,
    ⟨(some 12), .len .slice (.tmp 11), none⟩,
    ⟨(some 13), .mov (.const (.int .i64 0)), none⟩] [1, 2, 4, 11, 12, 13])
  (.block 0 (.loop msg_Project.b0)))
  (.seq (.region [⟨(some 37), .load (some 11) (.tmp 2), none⟩,
    ⟨none, .store 11 (.tmp 4) (.tmp 37), none⟩] [4])
  (.ret))))))
def msg_Project : AFun := ⟨38, 2, [.cell 4 (some 11)], msg_Project.body⟩
def cuneiformref16_All.b0 : ACode := .seq (.seq (.region [⟨(some 49), .mov (.tmp 6), none⟩,
    ⟨(some 50), .mov (.tmp 5), none⟩,
    ⟨(some 51), .len .slice (.tmp 50), none⟩,
    ⟨(some 52), .bin .lss (.tmp 49) (.tmp 51), none⟩] [3, 4, 5, 6, 52])
  (.cond (.tmp 52) (.skip) (.exit 1)))
  (.seq (.block 2 (.seq (.region [⟨(some 55), .mov (.tmp 5), none⟩,
    ⟨(some 56), .mov (.tmp 6), none⟩,
    ⟨(some 57), .idx 7 none (.tmp 55) (.tmp 56), none⟩,
    ⟨(some 58), .load (some 7) (.tmp 57), none⟩,
    ⟨(some 7), .alloc T.cuneiformref16_F [(.str ⟨#[]⟩), (.int .i64 0), (.int .i64 0), (.int .i64 0), (.int .i64 0), (.int .i64 0), (.int .i64 0)], none⟩,
    ⟨none, .store 7 (.tmp 7) (.tmp 58), none⟩] [3, 4, 5, 6, 7])
  (.seq (.region [⟨(some 59), .field 2 (.tmp 7), none⟩,
    ⟨none, .store 1 (.tmp 59) (.const (.int .i64 (-1))), none⟩] [3, 4, 5, 6, 7])
  (.seq (.seq (.region [⟨(some 60), .field 1 (.tmp 7), none⟩,
    ⟨(some 61), .load none (.tmp 60), none⟩,
    ⟨(some 62), .bin .lss (.tmp 61) (.const (.int .i64 3)), none⟩] [3, 4, 5, 6, 7, 62])
  (.cond (.tmp 62) (.seq (.region [⟨(some 63), .mov (.tmp 4), none⟩,
    ⟨(some 64), .field 2 (.tmp 7), none⟩,
    ⟨none, .store 1 (.tmp 64) (.tmp 63), none⟩] [3, 4, 5, 6, 7])
  (.region [⟨(some 65), .mov (.tmp 4), none⟩,
    ⟨(some 66), .bin .add (.tmp 65) (.const (.int .i64 1)), none⟩,
    ⟨(some 4), .mov (.tmp 66), none⟩] [3, 4, 5, 6, 7])) (.skip)))
  (.region [⟨(some 67), .mov (.tmp 3), none⟩,
    ⟨(some 68), .load (some 7) (.tmp 7), none⟩,
    ⟨(some 69), .lit T.cuneiformref16_F 7 1 [(.str ⟨#[]⟩), (.int .i64 0), (.int .i64 0), (.int .i64 0), (.int .i64 0), (.int .i64 0), (.int .i64 0)] [(0, 7, (.tmp 68))], none⟩,
    ⟨(some 70), .append T.cuneiformref16_F 7 64 (.tmp 67) (.tmp 69), none⟩,
    ⟨(some 3), .mov (.tmp 70), none⟩] [3, 4, 5, 6])))))
  (.region [⟨(some 53), .mov (.tmp 6), none⟩,
    ⟨(some 54), .bin .add (.tmp 53) (.const (.int .i64 1)), none⟩,
    ⟨(some 6), .mov (.tmp 54), none⟩] [3, 4, 5, 6]))
def cuneiformref16_All.body : ACode := .seq (.region [⟨(some 2), .mov (.const .nils), none⟩] [0])
  (.seq (.region [⟨(some 3), .mov (.const .nils), none⟩] [0, 3])
  (.seq (.region [⟨(some 4), .mov (.const (.int .i64 0)), none⟩] [0, 3, 4])
  (.seq (.region [⟨(some 8), .lit T.cuneiformref16_F 7 0 [] [], none⟩,
    ⟨(some 5), .mov (.tmp 8), none⟩] [0, 3, 4, 5])
  (.seq (.seq (.region [⟨(some 9), .mov (.tmp 0), none⟩] [3, 4, 5, 9])
  (.block 0 (.seq (.region [⟨(some 11), .bin .eql (.tmp 9) (.const (.int .i64 1)), none⟩,
    ⟨(some 10), .mov (.tmp 11), none⟩] [3, 4, 5, 9, 10])
  (.cond (.tmp 10) (.region [⟨(some 12), .build [(.str ⟨#[]⟩), (.int .i64 0), (.int .i64 0), (.int .i64 0), (.int .i64 0), (.int .i64 0), (.int .i64 0)] [(0, 1, (.const (.str ⟨#[114, 111, 98, 111, 116]⟩))), (1, 1, (.const (.int .i64 1))), (2, 1, (.const (.int .i64 0))), (3, 1, (.const (.int .i64 0))), (4, 1, (.const (.int .i64 65535))), (5, 1, (.const (.int .i64 1))), (6, 1, (.const (.int .i64 0)))], none⟩,
    ⟨(some 13), .build [(.str ⟨#[]⟩), (.int .i64 0), (.int .i64 0), (.int .i64 0), (.int .i64 0), (.int .i64 0), (.int .i64 0)] [(0, 1, (.const (.str ⟨#[115, 112, 101, 101, 100]⟩))), (1, 1, (.const (.int .i64 1))), (2, 1, (.const (.int .i64 0))), (3, 1, (.const (.int .i64 1))), (4, 1, (.const (.int .i64 5000))), (5, 1, (.const (.int .i64 1))), (6, 1, (.const (.int .i64 0)))], none⟩,
    ⟨(some 14), .build [(.str ⟨#[]⟩), (.int .i64 0), (.int .i64 0), (.int .i64 0), (.int .i64 0), (.int .i64 0), (.int .i64 0)] [(0, 1, (.const (.str ⟨#[97, 99, 99, 101, 108]⟩))), (1, 1, (.const (.int .i64 1))), (2, 1, (.const (.int .i64 0))), (3, 1, (.const (.int .i64 1))), (4, 1, (.const (.int .i64 10000))), (5, 1, (.const (.int .i64 2))), (6, 1, (.const (.int .i64 500)))], none⟩,
    ⟨(some 15), .build [(.str ⟨#[]⟩), (.int .i64 0), (.int .i64 0), (.int .i64 0), (.int .i64 0), (.int .i64 0), (.int .i64 0)] [(0, 1, (.const (.str ⟨#[112, 97, 116, 104]⟩))), (1, 1, (.const (.int .i64 3))), (2, 1, (.const (.int .i64 0))), (3, 1, (.const (.int .i64 1))), (4, 1, (.const (.int .i64 16))), (5, 1, (.const (.int .i64 1))), (6, 1, (.const (.int .i64 0)))], none⟩,
    ⟨(some 16), .build [(.str ⟨#[]⟩), (.int .i64 0), (.int .i64 0), (.int .i64 0), (.int .i64 0), (.int .i64 0), (.int .i64 0)] [(0, 1, (.const (.str ⟨#[116, 97, 103]⟩))), (1, 1, (.const (.int .i64 6))), (2, 1, (.const (.int .i64 0))), (3, 1, (.const (.int .i64 0))), (4, 1, (.const (.int .i64 16))), (5, 1, (.const (.int .i64 2))), (6, 1, (.const (.int .i64 0)))], none⟩,
    ⟨(some 17), .lit T.cuneiformref16_F 7 5 [(.str ⟨#[]⟩), (.int .i64 0), (.int .i64 0), (.int .i64 0), (.int .i64 0), (.int .i64 0), (.int .i64 0), (.str ⟨#[]⟩), (.int .i64 0), (.int .i64 0), (.int .i64 0), (.int .i64 0), (.int .i64 0), (.int .i64 0), (.str ⟨#[]⟩), (.int .i64 0), (.int .i64 0), (.int .i64 0), (.int .i64 0), (.int .i64 0), (.int .i64 0), (.str ⟨#[]⟩), (.int .i64 0), (.int .i64 0), (.int .i64 0), (.int .i64 0), (.int .i64 0), (.int .i64 0), (.str ⟨#[]⟩), (.int .i64 0), (.int .i64 0), (.int .i64 0), (.int .i64 0), (.int .i64 0), (.int .i64 0)] [(0, 7, (.tmp 12)), (7, 7, (.tmp 13)), (14, 7, (.tmp 14)), (21, 7, (.tmp 15)), (28, 7, (.tmp 16))], none⟩,
    ⟨(some 5), .mov (.tmp 17), none⟩] [3, 4, 5]) (.seq (.region [⟨(some 19), .bin .eql (.tmp 9) (.const (.int .i64 2)), none⟩,
    ⟨(some 18), .mov (.tmp 19), none⟩] [3, 4, 5, 9, 18])
  (.cond (.tmp 18) (.region [⟨(some 20), .build [(.str ⟨#[]⟩), (.int .i64 0), (.int .i64 0), (.int .i64 0), (.int .i64 0), (.int .i64 0), (.int .i64 0)] [(0, 1, (.const (.str ⟨#[114, 111, 98, 111, 116]⟩))), (1, 1, (.const (.int .i64 1))), (2, 1, (.const (.int .i64 0))), (3, 1, (.const (.int .i64 0))), (4, 1, (.const (.int .i64 65535))), (5, 1, (.const (.int .i64 1))), (6, 1, (.const (.int .i64 0)))], none⟩,
    ⟨(some 21), .build [(.str ⟨#[]⟩), (.int .i64 0), (.int .i64 0), (.int .i64 0), (.int .i64 0), (.int .i64 0), (.int .i64 0)] [(0, 1, (.const (.str ⟨#[114, 101, 97, 115, 111, 110]⟩))), (1, 1, (.const (.int .i64 1))), (2, 1, (.const (.int .i64 0))), (3, 1, (.const (.int .i64 0))), (4, 1, (.const (.int .i64 15))), (5, 1, (.const (.int .i64 1))), (6, 1, (.const (.int .i64 0)))], none⟩,
    ⟨(some 22), .build [(.str ⟨#[]⟩), (.int .i64 0), (.int .i64 0), (.int .i64 0), (.int .i64 0), (.int .i64 0), (.int .i64 0)] [(0, 1, (.const (.str ⟨#[122, 111, 110, 101]⟩))), (1, 1, (.const (.int .i64 1))), (2, 1, (.const (.int .i64 0))), (3, 1, (.const (.int .i64 0))), (4, 1, (.const (.int .i64 4095))), (5, 1, (.const (.int .i64 2))), (6, 1, (.const (.int .i64 0)))], none⟩,
    ⟨(some 23), .lit T.cuneiformref16_F 7 3 [(.str ⟨#[]⟩), (.int .i64 0), (.int .i64 0), (.int .i64 0), (.int .i64 0), (.int .i64 0), (.int .i64 0), (.str ⟨#[]⟩), (.int .i64 0), (.int .i64 0), (.int .i64 0), (.int .i64 0), (.int .i64 0), (.int .i64 0), (.str ⟨#[]⟩), (.int .i64 0), (.int .i64 0), (.int .i64 0), (.int .i64 0), (.int .i64 0), (.int .i64 0)] [(0, 7, (.tmp 20)), (7, 7, (.tmp 21)), (14, 7, (.tmp 22))], none⟩,
    ⟨(some 5), .mov (.tmp 23), none⟩] [3, 4, 5]) (.seq (.region [⟨(some 25), .bin .eql (.tmp 9) (.const (.int .i64 3)), none⟩,
    ⟨(some 24), .mov (.tmp 25), none⟩] [3, 4, 5, 9, 24])
  (.cond (.tmp 24) (.region [⟨(some 26), .build [(.str ⟨#[]⟩), (.int .i64 0), (.int .i64 0), (.int .i64 0), (.int .i64 0), (.int .i64 0), (.int .i64 0)] [(0, 1, (.const (.str ⟨#[114, 111, 98, 111, 116]⟩))), (1, 1, (.const (.int .i64 1))), (2, 1, (.const (.int .i64 0))), (3, 1, (.const (.int .i64 0))), (4, 1, (.const (.int .i64 65535))), (5, 1, (.const (.int .i64 1))), (6, 1, (.const (.int .i64 0)))], none⟩,
    ⟨(some 27), .build [(.str ⟨#[]⟩), (.int .i64 0), (.int .i64 0), (.int .i64 0), (.int .i64 0), (.int .i64 0), (.int .i64 0)] [(0, 1, (.const (.str ⟨#[122, 111, 110, 101]⟩))), (1, 1, (.const (.int .i64 1))), (2, 1, (.const (.int .i64 0))), (3, 1, (.const (.int .i64 0))), (4, 1, (.const (.int .i64 4095))), (5, 1, (.const (.int .i64 1))), (6, 1, (.const (.int .i64 0)))], none⟩,
    ⟨(some 28), .build [(.str ⟨#[]⟩), (.int .i64 0), (.int .i64 0), (.int .i64 0), (.int .i64 0), (.int .i64 0), (.int .i64 0)] [(0, 1, (.const (.str ⟨#[108, 101, 97, 115, 101]⟩))), (1, 1, (.const (.int .i64 1))), (2, 1, (.const (.int .i64 0))), (3, 1, (.const (.int .i64 1))), (4, 1, (.const (.int .i64 255))), (5, 1, (.const (.int .i64 2))), (6, 1, (.const (.int .i64 1)))], none⟩,
    ⟨(some 29), .build [(.str ⟨#[]⟩), (.int .i64 0), (.int .i64 0), (.int .i64 0), (.int .i64 0), (.int .i64 0), (.int .i64 0)] [(0, 1, (.const (.str ⟨#[99, 101, 108, 108, 115]⟩))), (1, 1, (.const (.int .i64 4))), (2, 1, (.const (.int .i64 0))), (3, 1, (.const (.int .i64 1))), (4, 1, (.const (.int .i64 32))), (5, 1, (.const (.int .i64 1))), (6, 1, (.const (.int .i64 0)))], none⟩,
    ⟨(some 30), .lit T.cuneiformref16_F 7 4 [(.str ⟨#[]⟩), (.int .i64 0), (.int .i64 0), (.int .i64 0), (.int .i64 0), (.int .i64 0), (.int .i64 0), (.str ⟨#[]⟩), (.int .i64 0), (.int .i64 0), (.int .i64 0), (.int .i64 0), (.int .i64 0), (.int .i64 0), (.str ⟨#[]⟩), (.int .i64 0), (.int .i64 0), (.int .i64 0), (.int .i64 0), (.int .i64 0), (.int .i64 0), (.str ⟨#[]⟩), (.int .i64 0), (.int .i64 0), (.int .i64 0), (.int .i64 0), (.int .i64 0), (.int .i64 0)] [(0, 7, (.tmp 26)), (7, 7, (.tmp 27)), (14, 7, (.tmp 28)), (21, 7, (.tmp 29))], none⟩,
    ⟨(some 5), .mov (.tmp 30), none⟩] [3, 4, 5]) (.seq (.region [⟨(some 32), .bin .eql (.tmp 9) (.const (.int .i64 4)), none⟩,
    ⟨(some 31), .mov (.tmp 32), none⟩] [3, 4, 5, 9, 31])
  (.cond (.tmp 31) (.region [⟨(some 33), .build [(.str ⟨#[]⟩), (.int .i64 0), (.int .i64 0), (.int .i64 0), (.int .i64 0), (.int .i64 0), (.int .i64 0)] [(0, 1, (.const (.str ⟨#[114, 111, 98, 111, 116]⟩))), (1, 1, (.const (.int .i64 1))), (2, 1, (.const (.int .i64 0))), (3, 1, (.const (.int .i64 0))), (4, 1, (.const (.int .i64 65535))), (5, 1, (.const (.int .i64 1))), (6, 1, (.const (.int .i64 0)))], none⟩,
    ⟨(some 34), .build [(.str ⟨#[]⟩), (.int .i64 0), (.int .i64 0), (.int .i64 0), (.int .i64 0), (.int .i64 0), (.int .i64 0)] [(0, 1, (.const (.str ⟨#[120]⟩))), (1, 1, (.const (.int .i64 2))), (2, 1, (.const (.int .i64 0))), (3, 1, (.const (.int .i64 (-1000000)))), (4, 1, (.const (.int .i64 1000000))), (5, 1, (.const (.int .i64 1))), (6, 1, (.const (.int .i64 0)))], none⟩,
    ⟨(some 35), .build [(.str ⟨#[]⟩), (.int .i64 0), (.int .i64 0), (.int .i64 0), (.int .i64 0), (.int .i64 0), (.int .i64 0)] [(0, 1, (.const (.str ⟨#[121]⟩))), (1, 1, (.const (.int .i64 2))), (2, 1, (.const (.int .i64 0))), (3, 1, (.const (.int .i64 (-1000000)))), (4, 1, (.const (.int .i64 1000000))), (5, 1, (.const (.int .i64 1))), (6, 1, (.const (.int .i64 0)))], none⟩,
    ⟨(some 36), .build [(.str ⟨#[]⟩), (.int .i64 0), (.int .i64 0), (.int .i64 0), (.int .i64 0), (.int .i64 0), (.int .i64 0)] [(0, 1, (.const (.str ⟨#[104, 101, 97, 100, 105, 110, 103]⟩))), (1, 1, (.const (.int .i64 1))), (2, 1, (.const (.int .i64 0))), (3, 1, (.const (.int .i64 0))), (4, 1, (.const (.int .i64 35999))), (5, 1, (.const (.int .i64 1))), (6, 1, (.const (.int .i64 0)))], none⟩,
    ⟨(some 37), .build [(.str ⟨#[]⟩), (.int .i64 0), (.int .i64 0), (.int .i64 0), (.int .i64 0), (.int .i64 0), (.int .i64 0)] [(0, 1, (.const (.str ⟨#[98, 97, 116, 116, 101, 114, 121]⟩))), (1, 1, (.const (.int .i64 1))), (2, 1, (.const (.int .i64 0))), (3, 1, (.const (.int .i64 0))), (4, 1, (.const (.int .i64 1000))), (5, 1, (.const (.int .i64 1))), (6, 1, (.const (.int .i64 0)))], none⟩,
    ⟨(some 38), .build [(.str ⟨#[]⟩), (.int .i64 0), (.int .i64 0), (.int .i64 0), (.int .i64 0), (.int .i64 0), (.int .i64 0)] [(0, 1, (.const (.str ⟨#[115, 117, 114, 101]⟩))), (1, 1, (.const (.int .i64 1))), (2, 1, (.const (.int .i64 0))), (3, 1, (.const (.int .i64 0))), (4, 1, (.const (.int .i64 100))), (5, 1, (.const (.int .i64 2))), (6, 1, (.const (.int .i64 100)))], none⟩,
    ⟨(some 39), .lit T.cuneiformref16_F 7 6 [(.str ⟨#[]⟩), (.int .i64 0), (.int .i64 0), (.int .i64 0), (.int .i64 0), (.int .i64 0), (.int .i64 0), (.str ⟨#[]⟩), (.int .i64 0), (.int .i64 0), (.int .i64 0), (.int .i64 0), (.int .i64 0), (.int .i64 0), (.str ⟨#[]⟩), (.int .i64 0), (.int .i64 0), (.int .i64 0), (.int .i64 0), (.int .i64 0), (.int .i64 0), (.str ⟨#[]⟩), (.int .i64 0), (.int .i64 0), (.int .i64 0), (.int .i64 0), (.int .i64 0), (.int .i64 0), (.str ⟨#[]⟩), (.int .i64 0), (.int .i64 0), (.int .i64 0), (.int .i64 0), (.int .i64 0), (.int .i64 0), (.str ⟨#[]⟩), (.int .i64 0), (.int .i64 0), (.int .i64 0), (.int .i64 0), (.int .i64 0), (.int .i64 0)] [(0, 7, (.tmp 33)), (7, 7, (.tmp 34)), (14, 7, (.tmp 35)), (21, 7, (.tmp 36)), (28, 7, (.tmp 37)), (35, 7, (.tmp 38))], none⟩,
    ⟨(some 5), .mov (.tmp 39), none⟩] [3, 4, 5]) (.seq (.region [⟨(some 41), .bin .eql (.tmp 9) (.const (.int .i64 5)), none⟩,
    ⟨(some 40), .mov (.tmp 41), none⟩] [3, 4, 5, 40])
  (.cond (.tmp 40) (.region [⟨(some 42), .build [(.str ⟨#[]⟩), (.int .i64 0), (.int .i64 0), (.int .i64 0), (.int .i64 0), (.int .i64 0), (.int .i64 0)] [(0, 1, (.const (.str ⟨#[114, 111, 98, 111, 116]⟩))), (1, 1, (.const (.int .i64 1))), (2, 1, (.const (.int .i64 0))), (3, 1, (.const (.int .i64 0))), (4, 1, (.const (.int .i64 65535))), (5, 1, (.const (.int .i64 1))), (6, 1, (.const (.int .i64 0)))], none⟩,
    ⟨(some 43), .build [(.str ⟨#[]⟩), (.int .i64 0), (.int .i64 0), (.int .i64 0), (.int .i64 0), (.int .i64 0), (.int .i64 0)] [(0, 1, (.const (.str ⟨#[99, 111, 100, 101]⟩))), (1, 1, (.const (.int .i64 1))), (2, 1, (.const (.int .i64 0))), (3, 1, (.const (.int .i64 1))), (4, 1, (.const (.int .i64 9999))), (5, 1, (.const (.int .i64 1))), (6, 1, (.const (.int .i64 0)))], none⟩,
    ⟨(some 44), .build [(.str ⟨#[]⟩), (.int .i64 0), (.int .i64 0), (.int .i64 0), (.int .i64 0), (.int .i64 0), (.int .i64 0)] [(0, 1, (.const (.str ⟨#[115, 101, 118, 101, 114, 105, 116, 121]⟩))), (1, 1, (.const (.int .i64 1))), (2, 1, (.const (.int .i64 0))), (3, 1, (.const (.int .i64 0))), (4, 1, (.const (.int .i64 4))), (5, 1, (.const (.int .i64 1))), (6, 1, (.const (.int .i64 0)))], none⟩,
    ⟨(some 45), .build [(.str ⟨#[]⟩), (.int .i64 0), (.int .i64 0), (.int .i64 0), (.int .i64 0), (.int .i64 0), (.int .i64 0)] [(0, 1, (.const (.str ⟨#[112, 97, 114, 116]⟩))), (1, 1, (.const (.int .i64 1))), (2, 1, (.const (.int .i64 0))), (3, 1, (.const (.int .i64 0))), (4, 1, (.const (.int .i64 255))), (5, 1, (.const (.int .i64 2))), (6, 1, (.const (.int .i64 0)))], none⟩,
    ⟨(some 46), .build [(.str ⟨#[]⟩), (.int .i64 0), (.int .i64 0), (.int .i64 0), (.int .i64 0), (.int .i64 0), (.int .i64 0)] [(0, 1, (.const (.str ⟨#[116, 105, 109, 101, 115]⟩))), (1, 1, (.const (.int .i64 1))), (2, 1, (.const (.int .i64 0))), (3, 1, (.const (.int .i64 1))), (4, 1, (.const (.int .i64 1000000))), (5, 1, (.const (.int .i64 2))), (6, 1, (.const (.int .i64 1)))], none⟩,
    ⟨(some 47), .build [(.str ⟨#[]⟩), (.int .i64 0), (.int .i64 0), (.int .i64 0), (.int .i64 0), (.int .i64 0), (.int .i64 0)] [(0, 1, (.const (.str ⟨#[116, 101, 120, 116]⟩))), (1, 1, (.const (.int .i64 5))), (2, 1, (.const (.int .i64 0))), (3, 1, (.const (.int .i64 0))), (4, 1, (.const (.int .i64 64))), (5, 1, (.const (.int .i64 1))), (6, 1, (.const (.int .i64 0)))], none⟩,
    ⟨(some 48), .lit T.cuneiformref16_F 7 6 [(.str ⟨#[]⟩), (.int .i64 0), (.int .i64 0), (.int .i64 0), (.int .i64 0), (.int .i64 0), (.int .i64 0), (.str ⟨#[]⟩), (.int .i64 0), (.int .i64 0), (.int .i64 0), (.int .i64 0), (.int .i64 0), (.int .i64 0), (.str ⟨#[]⟩), (.int .i64 0), (.int .i64 0), (.int .i64 0), (.int .i64 0), (.int .i64 0), (.int .i64 0), (.str ⟨#[]⟩), (.int .i64 0), (.int .i64 0), (.int .i64 0), (.int .i64 0), (.int .i64 0), (.int .i64 0), (.str ⟨#[]⟩), (.int .i64 0), (.int .i64 0), (.int .i64 0), (.int .i64 0), (.int .i64 0), (.int .i64 0), (.str ⟨#[]⟩), (.int .i64 0), (.int .i64 0), (.int .i64 0), (.int .i64 0), (.int .i64 0), (.int .i64 0)] [(0, 7, (.tmp 42)), (7, 7, (.tmp 43)), (14, 7, (.tmp 44)), (21, 7, (.tmp 45)), (28, 7, (.tmp 46)), (35, 7, (.tmp 47))], none⟩,
    ⟨(some 5), .mov (.tmp 48), none⟩] [3, 4, 5]) (.skip)))))))))))))
  (.seq (.seq (.region [⟨(some 6), .mov (.const (.int .i64 0)), none⟩] [3, 4, 5, 6])
  (.block 1 (.loop cuneiformref16_All.b0)))
  (.seq (.region [⟨(some 71), .mov (.tmp 3), none⟩,
    ⟨(some 2), .mov (.tmp 71), none⟩] [2])
  (.ret)))))))
def cuneiformref16_All : AFun := ⟨72, 1, [.tmp 2], cuneiformref16_All.body⟩
def body_Parts.body : ACode := .seq (.region [⟨(some 2), .box T.msg_Msg (.tmp 0), none⟩,
    ⟨(some 3), .box T.int (.tmp 1), none⟩,
    ⟨(some 4), .mov (.const .nilf), none⟩] [2, 3])
  (.seq (.region [⟨(some 5), .mkfn F.body_Parts_1 [] [(.tmp 2), (.tmp 3)], none⟩,
    ⟨(some 4), .mov (.tmp 5), none⟩] [4])
  (.ret))
def body_Parts : AFun := ⟨6, 2, [.tmp 4], body_Parts.body⟩
def cuneiformref17_Project.d0 : List AOper := [⟨(some 48), .mov (.tmp 5), none⟩,
    ⟨(some 49), .mov (.tmp 6), none⟩,
    ⟨(some 50), .idx 7 none (.tmp 48) (.tmp 49), none⟩,
    ⟨(some 51), .field 2 (.tmp 50), none⟩,
    ⟨(some 52), .load none (.tmp 51), none⟩,
    ⟨(some 53), .mov (.tmp 5), none⟩,
    ⟨(some 54), .mov (.tmp 6), none⟩,
    ⟨(some 55), .idx 7 none (.tmp 53) (.tmp 54), none⟩,
    ⟨(some 56), .field 6 (.tmp 55), none⟩,
    ⟨(some 57), .load none (.tmp 56), none⟩,
    ⟨(some 58), .field 1 (.tmp 2), none⟩,
    ⟨(some 59), .idx 1 (some 6) (.tmp 58) (.tmp 52), none⟩,
    ⟨none, .store 1 (.tmp 59) (.tmp 57), none⟩]
def cuneiformref17_Project.d0b : List (List Nat) := [[], [], [0, 1], [0, 1, 2], [0, 1, 2, 3], [], [], [5, 6], [5, 6, 7], [5, 6, 7, 8], [], [0, 1, 2, 3, 4, 5, 6, 7, 8, 9, 10], [0, 1, 2, 3, 4, 5, 6, 7, 8, 9, 10, 11]]
def cuneiformref17_Project.b1 : ACode := .seq (.seq (.region [⟨(some 13), .mov (.tmp 6), none⟩,
    ⟨(some 14), .mov (.tmp 5), none⟩,
    ⟨(some 15), .len .slice (.tmp 14), none⟩,
    ⟨(some 16), .bin .lss (.tmp 13) (.tmp 15), none⟩] [2, 4, 5, 6, 16])
  (.cond (.tmp 16) (.skip) (.exit 0)))
  (.seq (.block 1 (.seq (.seq (.region [⟨(some 19), .mov (.tmp 5), none⟩,
    ⟨(some 20), .mov (.tmp 6), none⟩,
    ⟨(some 21), .idx 7 none (.tmp 19) (.tmp 20), none⟩,
    ⟨(some 22), .field 5 (.tmp 21), none⟩,
    ⟨(some 23), .load none (.tmp 22), none⟩,
    ⟨(some 24), .bin .eql (.tmp 23) (.const (.int .i64 2)), none⟩,
    ⟨(some 25), .mov (.tmp 24), none⟩,
    ⟨(some 26), .mov (.tmp 5), some (25, true)⟩,
    ⟨(some 27), .mov (.tmp 6), some (25, true)⟩,
    ⟨(some 28), .idx 7 none (.tmp 26) (.tmp 27), some (25, true)⟩,
    ⟨(some 29), .field 1 (.tmp 28), some (25, true)⟩,
    ⟨(some 30), .load none (.tmp 29), some (25, true)⟩,
    ⟨(some 31), .bin .eql (.tmp 30) (.const (.int .i64 6)), some (25, true)⟩,
    ⟨(some 32), .pick (.tmp 25) (.tmp 31) (.const (.bool false)), none⟩] [2, 4, 5, 6, 32])
  (.cond (.tmp 32) (.region [⟨(some 33), .field 10 (.tmp 2), none⟩,
    ⟨none, .store 1 (.tmp 33) (.const (.str ⟨#[]⟩)), none⟩] [2, 4, 5, 6]) (.skip)))
  (.seq (.region [⟨(some 34), .mov (.tmp 5), none⟩,
    ⟨(some 35), .mov (.tmp 6), none⟩,
    ⟨(some 36), .idx 7 none (.tmp 34) (.tmp 35), none⟩,
    ⟨(some 37), .field 5 (.tmp 36), none⟩,
    ⟨(some 38), .load none (.tmp 37), none⟩,
    ⟨(some 39), .bin .eql (.tmp 38) (.const (.int .i64 2)), none⟩,
    ⟨(some 40), .mov (.tmp 39), none⟩,
    ⟨(some 41), .mov (.tmp 5), some (40, true)⟩,
    ⟨(some 42), .mov (.tmp 6), some (40, true)⟩,
    ⟨(some 43), .idx 7 none (.tmp 41) (.tmp 42), some (40, true)⟩,
    ⟨(some 44), .field 2 (.tmp 43), some (40, true)⟩,
    ⟨(some 45), .load none (.tmp 44), some (40, true)⟩,
    ⟨(some 46), .bin .geq (.tmp 45) (.const (.int .i64 0)), some (40, true)⟩,
    ⟨(some 47), .pick (.tmp 40) (.tmp 46) (.const (.bool false)), none⟩] [2, 4, 5, 6, 47])
  (.cond (.tmp 47) (.draw cuneiformref17_Project.d0 cuneiformref17_Project.d0b [[0, 1, 2, 3, 4, 5, 6, 7, 8, 9, 10, 11, 12]] [] [2, 4, 5, 6]) (.skip)))))
  (.region [⟨(some 17), .mov (.tmp 6), none⟩,
    ⟨(some 18), .bin .add (.tmp 17) (.const (.int .i64 1)), none⟩,
    ⟨(some 6), .mov (.tmp 18), none⟩] [2, 4, 5, 6]))
def cuneiformref17_Project.body : ACode := .seq (.region [⟨(some 2), .box T.cuneiformref17_M (.tmp 0), none⟩,
    ⟨(some 4), .alloc T.cuneiformref17_M [(.int .i64 0), (.int .i64 0), (.int .i64 0), (.int .i64 0), (.int .i64 0), (.int .i64 0), (.int .i64 0), .nils, .nils, (.str ⟨#[]⟩), (.str ⟨#[]⟩)], none⟩] [1, 2, 4])
  (.seq (.seq (.region [⟨(some 7), .mov (.tmp 1), none⟩,
    ⟨(some 8), .bin .neq (.tmp 7) (.const (.int .i64 1)), none⟩] [2, 4, 8])
  (.cond (.tmp 8) (.seq (.region [⟨(some 9), .load (some 11) (.tmp 2), none⟩,
    ⟨none, .store 11 (.tmp 4) (.tmp 9), none⟩] [4])
  (.ret)) (.skip)))
  (.seq (.region [⟨(some 10), .field 0 (.tmp 2), none⟩,
    ⟨(some 11), .load none (.tmp 10), none⟩,
    ⟨(some 12), .call (.const (.fn F.cuneiformref16_All [] [])) [(.tmp 11)], none⟩,
    ⟨(some 5), .mov (.tmp 12), none⟩] [2, 4, 5])
  (.seq (.seq (.region [⟨(some 6), .mov (.const (.int .i64 0)), none⟩] [2, 4, 5, 6])
  (.block 0 (.loop cuneiformref17_Project.b1)))
  (.seq (.region [⟨(some 60), .load (some 11) (.tmp 2), none⟩,
    ⟨none, .store 11 (.tmp 4) (.tmp 60), none⟩] [4])
  (.ret)))))
def cuneiformref17_Project : AFun := ⟨61, 2, [.cell 4 (some 11)], cuneiformref17_Project.body⟩
def field_Word.body : ACode := .seq (.region [⟨(some 2), .mov (.const (.str ⟨#[]⟩)), none⟩] [0])
  (.seq (.seq (.region [⟨(some 3), .mov (.tmp 0), none⟩] [3])
  (.block 0 (.seq (.region [⟨(some 5), .bin .eql (.tmp 3) (.const (.int .i64 1)), none⟩,
    ⟨(some 4), .mov (.tmp 5), none⟩] [3, 4])
  (.cond (.tmp 4) (.seq (.region [⟨(some 2), .mov (.const (.str ⟨#[109, 111, 118, 101]⟩)), none⟩] [2])
  (.ret)) (.seq (.region [⟨(some 7), .bin .eql (.tmp 3) (.const (.int .i64 2)), none⟩,
    ⟨(some 6), .mov (.tmp 7), none⟩] [3, 6])
  (.cond (.tmp 6) (.seq (.region [⟨(some 2), .mov (.const (.str ⟨#[104, 111, 108, 100]⟩)), none⟩] [2])
  (.ret)) (.seq (.region [⟨(some 9), .bin .eql (.tmp 3) (.const (.int .i64 3)), none⟩,
    ⟨(some 8), .mov (.tmp 9), none⟩] [3, 8])
  (.cond (.tmp 8) (.seq (.region [⟨(some 2), .mov (.const (.str ⟨#[103, 114, 97, 110, 116]⟩)), none⟩] [2])
  (.ret)) (.seq (.region [⟨(some 11), .bin .eql (.tmp 3) (.const (.int .i64 4)), none⟩,
    ⟨(some 10), .mov (.tmp 11), none⟩] [3, 10])
  (.cond (.tmp 10) (.seq (.region [⟨(some 2), .mov (.const (.str ⟨#[112, 111, 115, 101]⟩)), none⟩] [2])
  (.ret)) (.seq (.region [⟨(some 13), .bin .eql (.tmp 3) (.const (.int .i64 5)), none⟩,
    ⟨(some 12), .mov (.tmp 13), none⟩] [12])
  (.cond (.tmp 12) (.seq (.region [⟨(some 2), .mov (.const (.str ⟨#[102, 97, 117, 108, 116]⟩)), none⟩] [2])
  (.ret)) (.skip)))))))))))))
  (.seq (.region [⟨(some 2), .mov (.const (.str ⟨#[]⟩)), none⟩] [2])
  (.ret)))
def field_Word : AFun := ⟨14, 1, [.tmp 2], field_Word.body⟩
def lens_New.body : ACode := .seq (.region [⟨(some 2), .mov (.const .nilp), none⟩] [0])
  (.seq (.region [⟨(some 3), .mov (.tmp 0), none⟩,
    ⟨(some 4), .append T.uint8 1 1 (.const .nils) (.tmp 3), none⟩,
    ⟨(some 5), .build [.nils, (.int .i64 0), (.int .i64 0)] [(0, 1, (.tmp 4))], none⟩,
    ⟨(some 6), .box T.lens_Lens (.tmp 5), none⟩,
    ⟨(some 2), .mov (.tmp 6), none⟩] [2])
  (.ret))
def lens_New : AFun := ⟨7, 1, [.tmp 2], lens_New.body⟩
def field_All.body : ACode := .seq (.region [⟨(some 2), .box T.int (.tmp 0), none⟩,
    ⟨(some 3), .box T.int (.tmp 1), none⟩,
    ⟨(some 4), .mov (.const .nilf), none⟩] [2, 3])
  (.seq (.region [⟨(some 5), .mkfn F.field_All_1 [] [(.tmp 2), (.tmp 3)], none⟩,
    ⟨(some 4), .mov (.tmp 5), none⟩] [4])
  (.ret))
def field_All : AFun := ⟨6, 2, [.tmp 4], field_All.body⟩
def body_reader_field.d0 : List AOper := [⟨(some 10), .mov (.tmp 1), none⟩,
    ⟨(some 11), .field 2 (.tmp 5), none⟩,
    ⟨(some 12), .load none (.tmp 11), none⟩,
    ⟨(some 13), .mov (.tmp 0), none⟩,
    ⟨(some 14), .nilc (.tmp 13), none⟩,
    ⟨(some 15), .field 0 (.tmp 14), none⟩,
    ⟨(some 16), .load none (.tmp 15), none⟩,
    ⟨(some 17), .field 4 (.tmp 5), none⟩,
    ⟨(some 18), .load none (.tmp 17), none⟩,
    ⟨(some 19), .conv .u64 (.tmp 18), none⟩,
    ⟨(some 20), .call (.const (.fn F.lens_Lens_Number [] [])) [(.tmp 16), (.tmp 19)], none⟩,
    ⟨(some 21), .conv .i64 (.tmp 20), none⟩,
    ⟨(some 22), .nilc (.tmp 10), none⟩,
    ⟨(some 23), .field 1 (.tmp 22), none⟩,
    ⟨(some 24), .idx 1 (some 6) (.tmp 23) (.tmp 12), none⟩,
    ⟨none, .store 1 (.tmp 24) (.tmp 21), none⟩]
def body_reader_field.d0b : List (List Nat) := [[], [], [1], [], [3], [3, 4], [3, 4, 5], [], [7], [7, 8], [3, 4, 5, 6, 7, 8, 9], [3, 4, 5, 6, 7, 8, 9, 10], [0], [0, 12], [0, 1, 2, 3, 4, 5, 6, 7, 8, 9, 10, 11, 12, 13], [0, 1, 2, 3, 4, 5, 6, 7, 8, 9, 10, 11, 12, 13, 14]]
def body_reader_field.d1 : List AOper := [⟨(some 25), .mov (.tmp 0), none⟩,
    ⟨(some 26), .mov (.tmp 1), none⟩,
    ⟨(some 27), .field 2 (.tmp 5), none⟩,
    ⟨(some 28), .load none (.tmp 27), none⟩,
    ⟨(some 29), .nilc (.tmp 26), none⟩,
    ⟨(some 30), .field 1 (.tmp 29), none⟩,
    ⟨(some 31), .idx 1 (some 6) (.tmp 30) (.tmp 28), none⟩,
    ⟨(some 32), .load none (.tmp 31), none⟩,
    ⟨(some 33), .field 3 (.tmp 5), none⟩,
    ⟨(some 34), .load none (.tmp 33), none⟩,
    ⟨(some 35), .bin .lss (.tmp 32) (.tmp 34), none⟩,
    ⟨(some 36), .call (.const (.fn F.body_reader_note [] [])) [(.tmp 25), (.tmp 35), (.const (.int .i64 5))], none⟩]
def body_reader_field.d1b : List (List Nat) := [[], [], [], [2], [1], [1, 4], [1, 2, 3, 4, 5], [1, 2, 3, 4, 5, 6], [], [8], [1, 2, 3, 4, 5, 6, 7, 8, 9], [0, 1, 2, 3, 4, 5, 6, 7, 8, 9, 10]]
def body_reader_field.d2 : List AOper := [⟨(some 39), .mov (.tmp 1), none⟩,
    ⟨(some 40), .field 2 (.tmp 5), none⟩,
    ⟨(some 41), .load none (.tmp 40), none⟩,
    ⟨(some 42), .mov (.tmp 0), none⟩,
    ⟨(some 43), .nilc (.tmp 42), none⟩,
    ⟨(some 44), .field 0 (.tmp 43), none⟩,
    ⟨(some 45), .load none (.tmp 44), none⟩,
    ⟨(some 46), .field 3 (.tmp 5), none⟩,
    ⟨(some 47), .load none (.tmp 46), none⟩,
    ⟨(some 48), .field 4 (.tmp 5), none⟩,
    ⟨(some 49), .load none (.tmp 48), none⟩,
    ⟨(some 50), .call (.const (.fn F.lens_Lens_Signed [] [])) [(.tmp 45), (.tmp 47), (.tmp 49)], none⟩,
    ⟨(some 51), .nilc (.tmp 39), none⟩,
    ⟨(some 52), .field 1 (.tmp 51), none⟩,
    ⟨(some 53), .idx 1 (some 6) (.tmp 52) (.tmp 41), none⟩,
    ⟨none, .store 1 (.tmp 53) (.tmp 50), none⟩]
def body_reader_field.d2b : List (List Nat) := [[], [], [1], [], [3], [3, 4], [3, 4, 5], [], [7], [], [9], [3, 4, 5, 6, 7, 8, 9, 10], [0], [0, 12], [0, 1, 2, 3, 4, 5, 6, 7, 8, 9, 10, 11, 12, 13], [0, 1, 2, 3, 4, 5, 6, 7, 8, 9, 10, 11, 12, 13, 14]]
def body_reader_field.body : ACode := .seq (.region [⟨(some 5), .box T.field_Field (.tmp 2), none⟩] [0, 1, 5])
  (.seq (.region [⟨(some 6), .field 1 (.tmp 5), none⟩,
    ⟨(some 7), .load none (.tmp 6), none⟩] [0, 1, 5, 7])
  (.block 0 (.seq (.region [⟨(some 9), .bin .eql (.tmp 7) (.const (.int .i64 1)), none⟩,
    ⟨(some 8), .mov (.tmp 9), none⟩] [0, 1, 5, 7, 8])
  (.cond (.tmp 8) (.seq (.draw body_reader_field.d0 body_reader_field.d0b [[0, 1, 2, 3, 4, 5, 6, 7, 8, 9, 12, 13, 10, 11, 14, 15]] [(10, 2)] [0, 1, 5])
  (.draw body_reader_field.d1 body_reader_field.d1b [[0, 1, 2, 3, 4, 5, 6, 7, 8, 9, 10, 11]] [] [])) (.seq (.region [⟨(some 38), .bin .eql (.tmp 7) (.const (.int .i64 2)), none⟩,
    ⟨(some 37), .mov (.tmp 38), none⟩] [0, 1, 5, 7, 37])
  (.cond (.tmp 37) (.draw body_reader_field.d2 body_reader_field.d2b [[0, 1, 2, 3, 4, 5, 6, 7, 8, 9, 10, 12, 13, 11, 14, 15]] [(11, 2)] []) (.seq (.region [⟨(some 55), .bin .eql (.tmp 7) (.const (.int .i64 3)), none⟩,
    ⟨(some 54), .mov (.tmp 55), none⟩] [0, 1, 5, 7, 54])
  (.cond (.tmp 54) (.region [⟨(some 56), .mov (.tmp 1), none⟩,
    ⟨(some 57), .mov (.tmp 0), none⟩,
    ⟨(some 58), .call (.const (.fn F.body_reader_points [] [])) [(.tmp 57)], none⟩,
    ⟨(some 59), .nilc (.tmp 56), none⟩,
    ⟨(some 60), .field 7 (.tmp 59), none⟩,
    ⟨none, .store 1 (.tmp 60) (.tmp 58), none⟩] []) (.seq (.region [⟨(some 62), .bin .eql (.tmp 7) (.const (.int .i64 4)), none⟩,
    ⟨(some 61), .mov (.tmp 62), none⟩] [0, 1, 5, 7, 61])
  (.cond (.tmp 61) (.region [⟨(some 63), .mov (.tmp 1), none⟩,
    ⟨(some 64), .mov (.tmp 0), none⟩,
    ⟨(some 65), .call (.const (.fn F.body_reader_cells [] [])) [(.tmp 64)], none⟩,
    ⟨(some 66), .nilc (.tmp 63), none⟩,
    ⟨(some 67), .field 8 (.tmp 66), none⟩,
    ⟨none, .store 1 (.tmp 67) (.tmp 65), none⟩] []) (.seq (.region [⟨(some 69), .bin .eql (.tmp 7) (.const (.int .i64 5)), none⟩,
    ⟨(some 68), .mov (.tmp 69), none⟩] [0, 1, 5, 7, 68])
  (.cond (.tmp 68) (.region [⟨(some 70), .mov (.tmp 1), none⟩,
    ⟨(some 71), .mov (.tmp 0), none⟩,
    ⟨(some 72), .field 4 (.tmp 5), none⟩,
    ⟨(some 73), .load none (.tmp 72), none⟩,
    ⟨(some 74), .call (.const (.fn F.body_reader_text [] [])) [(.tmp 71), (.tmp 73)], none⟩,
    ⟨(some 75), .nilc (.tmp 70), none⟩,
    ⟨(some 76), .field 9 (.tmp 75), none⟩,
    ⟨none, .store 1 (.tmp 76) (.tmp 74), none⟩] []) (.seq (.region [⟨(some 78), .bin .eql (.tmp 7) (.const (.int .i64 6)), none⟩,
    ⟨(some 77), .mov (.tmp 78), none⟩] [0, 1, 5, 77])
  (.cond (.tmp 77) (.region [⟨(some 79), .mov (.tmp 1), none⟩,
    ⟨(some 80), .mov (.tmp 0), none⟩,
    ⟨(some 81), .field 4 (.tmp 5), none⟩,
    ⟨(some 82), .load none (.tmp 81), none⟩,
    ⟨(some 83), .call (.const (.fn F.body_reader_text [] [])) [(.tmp 80), (.tmp 82)], none⟩,
    ⟨(some 84), .nilc (.tmp 79), none⟩,
    ⟨(some 85), .field 10 (.tmp 84), none⟩,
    ⟨none, .store 1 (.tmp 85) (.tmp 83), none⟩] []) (.skip)))))))))))))))
def body_reader_field : AFun := ⟨86, 3, [], body_reader_field.body⟩
def body_reader_err.body : ACode := .seq (.region [⟨(some 2), .mov (.const (.int .i64 0)), none⟩] [0])
  (.seq (.seq (.region [⟨(some 3), .mov (.tmp 0), none⟩,
    ⟨(some 4), .nilc (.tmp 3), none⟩,
    ⟨(some 5), .field 1 (.tmp 4), none⟩,
    ⟨(some 6), .load none (.tmp 5), none⟩,
    ⟨(some 7), .bin .neq (.tmp 6) (.const (.int .i64 0)), none⟩] [0, 7])
  (.cond (.tmp 7) (.seq (.region [⟨(some 8), .mov (.tmp 0), none⟩,
    ⟨(some 9), .nilc (.tmp 8), none⟩,
    ⟨(some 10), .field 1 (.tmp 9), none⟩,
    ⟨(some 11), .load none (.tmp 10), none⟩,
    ⟨(some 2), .mov (.tmp 11), none⟩] [2])
  (.ret)) (.skip)))
  (.seq (.region [⟨(some 12), .mov (.tmp 0), none⟩,
    ⟨(some 13), .nilc (.tmp 12), none⟩,
    ⟨(some 14), .field 0 (.tmp 13), none⟩,
    ⟨(some 15), .load none (.tmp 14), none⟩,
    ⟨(some 16), .call (.const (.fn F.lens_Lens_Err [] [])) [(.tmp 15)], none⟩,
    ⟨(some 2), .mov (.tmp 16), none⟩] [2])
  (.ret)))
def body_reader_err : AFun := ⟨17, 1, [.tmp 2], body_reader_err.body⟩
def lens_Lens_End.body : ACode := .seq (.region [⟨(some 2), .mov (.const (.int .i64 0)), none⟩] [0])
  (.seq (.seq (.region [⟨(some 4), .mov (.tmp 0), none⟩,
    ⟨(some 5), .call (.const (.fn F.lens_Lens_Err [] [])) [(.tmp 4)], none⟩,
    ⟨(some 3), .mov (.tmp 5), none⟩] [0, 3])
  (.seq (.region [⟨(some 6), .mov (.tmp 3), none⟩,
    ⟨(some 7), .bin .neq (.tmp 6) (.const (.int .i64 0)), none⟩,
    ⟨(some 8), .mov (.tmp 7), none⟩,
    ⟨(some 9), .mov (.tmp 0), some (8, false)⟩,
    ⟨(some 10), .call (.const (.fn F.lens_Lens_Left [] [])) [(.tmp 9)], some (8, false)⟩,
    ⟨(some 11), .bin .eql (.tmp 10) (.const (.int .i64 0)), some (8, false)⟩,
    ⟨(some 12), .pick (.tmp 8) (.const (.bool true)) (.tmp 11), none⟩] [3, 12])
  (.cond (.tmp 12) (.seq (.region [⟨(some 13), .mov (.tmp 3), none⟩,
    ⟨(some 2), .mov (.tmp 13), none⟩] [2])
  (.ret)) (.skip))))
  (.seq (.region [⟨(some 2), .mov (.const (.int .i64 3)), none⟩] [2])
  (.ret)))
def lens_Lens_End : AFun := ⟨14, 1, [.tmp 2], lens_Lens_End.body⟩
def cuneiformref18_field.d0 : List AOper := [⟨(some 61), .field 2 (.tmp 5), none⟩,
    ⟨(some 62), .load none (.tmp 61), none⟩,
    ⟨(some 63), .mov (.tmp 11), none⟩,
    ⟨(some 64), .call (.const (.fn F.cuneiformref01_Zag [] [])) [(.tmp 63)], none⟩,
    ⟨(some 65), .field 1 (.tmp 4), none⟩,
    ⟨(some 66), .idx 1 (some 6) (.tmp 65) (.tmp 62), none⟩,
    ⟨none, .store 1 (.tmp 66) (.tmp 64), none⟩]
def cuneiformref18_field.d0b : List (List Nat) := [[], [0], [], [2], [], [0, 1, 2, 3, 4], [0, 1, 2, 3, 4, 5]]
def cuneiformref18_field.b1 : ACode := .seq (.seq (.region [⟨(some 126), .mov (.tmp 15), none⟩,
    ⟨(some 127), .mov (.tmp 14), none⟩,
    ⟨(some 128), .len .str (.tmp 127), none⟩,
    ⟨(some 129), .bin .lss (.tmp 126) (.tmp 128), none⟩] [3, 4, 5, 8, 11, 12, 14, 15, 129])
  (.cond (.tmp 129) (.skip) (.exit 2)))
  (.seq (.block 3 (.seq (.region [⟨(some 132), .mov (.tmp 14), none⟩,
    ⟨(some 133), .mov (.tmp 15), none⟩,
    ⟨(some 134), .sidx (.tmp 132) (.tmp 133), none⟩,
    ⟨(some 135), .bin .lss (.tmp 134) (.const (.int .u8 32)), none⟩,
    ⟨(some 136), .mov (.tmp 135), none⟩,
    ⟨(some 137), .mov (.tmp 14), some (136, false)⟩,
    ⟨(some 138), .mov (.tmp 15), some (136, false)⟩,
    ⟨(some 139), .sidx (.tmp 137) (.tmp 138), some (136, false)⟩,
    ⟨(some 140), .bin .gtr (.tmp 139) (.const (.int .u8 126)), some (136, false)⟩,
    ⟨(some 141), .pick (.tmp 136) (.const (.bool true)) (.tmp 140), none⟩] [3, 4, 5, 8, 11, 12, 14, 15, 141])
  (.cond (.tmp 141) (.seq (.region [⟨(some 142), .load (some 11) (.tmp 4), none⟩,
    ⟨(some 143), .mov (.tmp 3), none⟩,
    ⟨none, .store 11 (.tmp 8) (.tmp 142), none⟩,
    ⟨(some 9), .mov (.tmp 143), none⟩,
    ⟨(some 10), .mov (.const (.int .i64 19)), none⟩] [8, 9, 10])
  (.ret)) (.skip))))
  (.region [⟨(some 130), .mov (.tmp 15), none⟩,
    ⟨(some 131), .bin .add (.tmp 130) (.const (.int .i64 1)), none⟩,
    ⟨(some 15), .mov (.tmp 131), none⟩] [3, 4, 5, 8, 11, 12, 14, 15]))
def cuneiformref18_field.body : ACode := .seq (.region [⟨(some 4), .box T.cuneiformref17_M (.tmp 0), none⟩,
    ⟨(some 5), .box T.cuneiformref16_F (.tmp 1), none⟩,
    ⟨(some 8), .alloc T.cuneiformref17_M [(.int .i64 0), (.int .i64 0), (.int .i64 0), (.int .i64 0), (.int .i64 0), (.int .i64 0), (.int .i64 0), .nils, .nils, (.str ⟨#[]⟩), (.str ⟨#[]⟩)], none⟩,
    ⟨(some 9), .mov (.const (.int .i64 0)), none⟩,
    ⟨(some 10), .mov (.const (.int .i64 0)), none⟩] [2, 3, 4, 5, 8])
  (.seq (.region [⟨(some 17), .mov (.tmp 2), none⟩,
    ⟨(some 18), .mov (.tmp 3), none⟩,
    ⟨(some 19), .call (.const (.fn F.cuneiformref01_Get [] [])) [(.tmp 17), (.tmp 18)], none⟩,
    ⟨(some 16), .mov (.tmp 19), none⟩,
    ⟨(some 20), .extract (.tmp 16) 0, none⟩,
    ⟨(some 21), .extract (.tmp 16) 1, none⟩,
    ⟨(some 22), .extract (.tmp 16) 2, none⟩,
    ⟨(some 11), .mov (.tmp 20), none⟩,
    ⟨(some 12), .mov (.tmp 21), none⟩,
    ⟨(some 13), .mov (.tmp 22), none⟩] [2, 3, 4, 5, 8, 11, 12, 13])
  (.seq (.seq (.region [⟨(some 23), .mov (.tmp 13), none⟩,
    ⟨(some 24), .bin .neq (.tmp 23) (.const (.int .i64 0)), none⟩] [2, 3, 4, 5, 8, 11, 12, 13, 24])
  (.cond (.tmp 24) (.seq (.region [⟨(some 25), .load (some 11) (.tmp 4), none⟩,
    ⟨(some 26), .mov (.tmp 3), none⟩,
    ⟨(some 27), .mov (.tmp 13), none⟩,
    ⟨none, .store 11 (.tmp 8) (.tmp 25), none⟩,
    ⟨(some 9), .mov (.tmp 26), none⟩,
    ⟨(some 10), .mov (.tmp 27), none⟩] [8, 9, 10])
  (.ret)) (.skip)))
  (.seq (.seq (.region [⟨(some 28), .field 1 (.tmp 5), none⟩,
    ⟨(some 29), .load none (.tmp 28), none⟩] [2, 3, 4, 5, 8, 11, 12, 29])
  (.block 0 (.seq (.region [⟨(some 31), .bin .eql (.tmp 29) (.const (.int .i64 1)), none⟩,
    ⟨(some 30), .mov (.tmp 31), none⟩] [2, 3, 4, 5, 8, 11, 12, 29, 30])
  (.cond (.tmp 30) (.seq (.seq (.region [⟨(some 32), .mov (.tmp 11), none⟩,
    ⟨(some 33), .field 4 (.tmp 5), none⟩,
    ⟨(some 34), .load none (.tmp 33), none⟩,
    ⟨(some 35), .conv .u64 (.tmp 34), none⟩,
    ⟨(some 36), .bin .gtr (.tmp 32) (.tmp 35), none⟩,
    ⟨(some 37), .mov (.tmp 36), none⟩,
    ⟨(some 38), .mov (.tmp 11), some (37, false)⟩,
    ⟨(some 39), .conv .i64 (.tmp 38), some (37, false)⟩,
    ⟨(some 40), .field 3 (.tmp 5), some (37, false)⟩,
    ⟨(some 41), .load none (.tmp 40), some (37, false)⟩,
    ⟨(some 42), .bin .lss (.tmp 39) (.tmp 41), some (37, false)⟩,
    ⟨(some 43), .pick (.tmp 37) (.const (.bool true)) (.tmp 42), none⟩] [3, 4, 5, 8, 11, 12, 43])
  (.cond (.tmp 43) (.seq (.region [⟨(some 44), .load (some 11) (.tmp 4), none⟩,
    ⟨(some 45), .mov (.tmp 3), none⟩,
    ⟨none, .store 11 (.tmp 8) (.tmp 44), none⟩,
    ⟨(some 9), .mov (.tmp 45), none⟩,
    ⟨(some 10), .mov (.const (.int .i64 5)), none⟩] [8, 9, 10])
  (.ret)) (.skip)))
  (.seq (.region [⟨(some 46), .field 2 (.tmp 5), none⟩,
    ⟨(some 47), .load none (.tmp 46), none⟩,
    ⟨(some 48), .mov (.tmp 11), none⟩,
    ⟨(some 49), .conv .i64 (.tmp 48), none⟩,
    ⟨(some 50), .field 1 (.tmp 4), none⟩,
    ⟨(some 51), .idx 1 (some 6) (.tmp 50) (.tmp 47), none⟩,
    ⟨none, .store 1 (.tmp 51) (.tmp 49), none⟩] [4, 8, 12])
  (.seq (.region [⟨(some 52), .load (some 11) (.tmp 4), none⟩,
    ⟨(some 53), .mov (.tmp 12), none⟩,
    ⟨none, .store 11 (.tmp 8) (.tmp 52), none⟩,
    ⟨(some 9), .mov (.tmp 53), none⟩,
    ⟨(some 10), .mov (.const (.int .i64 0)), none⟩] [8, 9, 10])
  (.ret)))) (.seq (.region [⟨(some 55), .bin .eql (.tmp 29) (.const (.int .i64 2)), none⟩,
    ⟨(some 54), .mov (.tmp 55), none⟩] [2, 3, 4, 5, 8, 11, 12, 54])
  (.cond (.tmp 54) (.seq (.seq (.region [⟨(some 56), .mov (.tmp 11), none⟩,
    ⟨(some 57), .call (.const (.fn F.cuneiformref01_Zag [] [])) [(.tmp 56)], none⟩,
    ⟨(some 58), .call (.const (.fn F.cuneiformref18_far [] [])) [(.tmp 57)], none⟩] [3, 4, 5, 8, 11, 12, 58])
  (.cond (.tmp 58) (.seq (.region [⟨(some 59), .load (some 11) (.tmp 4), none⟩,
    ⟨(some 60), .mov (.tmp 3), none⟩,
    ⟨none, .store 11 (.tmp 8) (.tmp 59), none⟩,
    ⟨(some 9), .mov (.tmp 60), none⟩,
    ⟨(some 10), .mov (.const (.int .i64 5)), none⟩] [8, 9, 10])
  (.ret)) (.skip)))
  (.seq (.draw cuneiformref18_field.d0 cuneiformref18_field.d0b [[0, 1, 2, 4, 3, 5, 6]] [(3, 1)] [4, 8, 12])
  (.seq (.region [⟨(some 67), .load (some 11) (.tmp 4), none⟩,
    ⟨(some 68), .mov (.tmp 12), none⟩,
    ⟨none, .store 11 (.tmp 8) (.tmp 67), none⟩,
    ⟨(some 9), .mov (.tmp 68), none⟩,
    ⟨(some 10), .mov (.const (.int .i64 0)), none⟩] [8, 9, 10])
  (.ret)))) (.skip)))))))
  (.seq (.seq (.region [⟨(some 69), .mov (.tmp 11), none⟩,
    ⟨(some 70), .bin .eql (.tmp 69) (.const (.int .u64 0)), none⟩,
    ⟨(some 71), .mov (.tmp 70), none⟩,
    ⟨(some 72), .field 3 (.tmp 5), some (71, true)⟩,
    ⟨(some 73), .load none (.tmp 72), some (71, true)⟩,
    ⟨(some 74), .bin .gtr (.tmp 73) (.const (.int .i64 0)), some (71, true)⟩,
    ⟨(some 75), .pick (.tmp 71) (.tmp 74) (.const (.bool false)), none⟩] [2, 3, 4, 5, 8, 11, 12, 75])
  (.cond (.tmp 75) (.seq (.region [⟨(some 76), .load (some 11) (.tmp 4), none⟩,
    ⟨(some 77), .mov (.tmp 3), none⟩,
    ⟨none, .store 11 (.tmp 8) (.tmp 76), none⟩,
    ⟨(some 9), .mov (.tmp 77), none⟩,
    ⟨(some 10), .mov (.const (.int .i64 13)), none⟩] [8, 9, 10])
  (.ret)) (.skip)))
  (.seq (.seq (.region [⟨(some 78), .mov (.tmp 11), none⟩,
    ⟨(some 79), .field 4 (.tmp 5), none⟩,
    ⟨(some 80), .load none (.tmp 79), none⟩,
    ⟨(some 81), .conv .u64 (.tmp 80), none⟩,
    ⟨(some 82), .bin .gtr (.tmp 78) (.tmp 81), none⟩] [2, 3, 4, 5, 8, 11, 12, 82])
  (.cond (.tmp 82) (.seq (.region [⟨(some 83), .load (some 11) (.tmp 4), none⟩,
    ⟨(some 84), .mov (.tmp 3), none⟩,
    ⟨none, .store 11 (.tmp 8) (.tmp 83), none⟩,
    ⟨(some 9), .mov (.tmp 84), none⟩,
    ⟨(some 10), .mov (.const (.int .i64 6)), none⟩] [8, 9, 10])
  (.ret)) (.skip)))
  (.seq (.seq (.region [⟨(some 85), .field 1 (.tmp 5), none⟩,
    ⟨(some 86), .load none (.tmp 85), none⟩] [2, 3, 4, 5, 8, 11, 12, 86])
  (.block 1 (.seq (.region [⟨(some 88), .bin .eql (.tmp 86) (.const (.int .i64 3)), none⟩,
    ⟨(some 87), .mov (.tmp 88), none⟩] [2, 3, 4, 5, 8, 11, 12, 86, 87])
  (.cond (.tmp 87) (.seq (.region [⟨(some 89), .load (some 11) (.tmp 4), none⟩,
    ⟨(some 90), .mov (.tmp 11), none⟩,
    ⟨(some 91), .conv .i64 (.tmp 90), none⟩,
    ⟨(some 92), .mov (.tmp 2), none⟩,
    ⟨(some 93), .mov (.tmp 12), none⟩,
    ⟨(some 94), .call (.const (.fn F.cuneiformref18_path [] [])) [(.tmp 89), (.tmp 91), (.tmp 92), (.tmp 93)], none⟩,
    ⟨(some 95), .extract (.tmp 94) 0, none⟩,
    ⟨(some 96), .extract (.tmp 94) 1, none⟩,
    ⟨(some 97), .extract (.tmp 94) 2, none⟩,
    ⟨none, .store 11 (.tmp 8) (.tmp 95), none⟩,
    ⟨(some 9), .mov (.tmp 96), none⟩,
    ⟨(some 10), .mov (.tmp 97), none⟩] [8, 9, 10])
  (.ret)) (.seq (.region [⟨(some 99), .bin .eql (.tmp 86) (.const (.int .i64 4)), none⟩,
    ⟨(some 98), .mov (.tmp 99), none⟩] [2, 3, 4, 5, 8, 11, 12, 98])
  (.cond (.tmp 98) (.seq (.region [⟨(some 100), .load (some 11) (.tmp 4), none⟩,
    ⟨(some 101), .mov (.tmp 11), none⟩,
    ⟨(some 102), .conv .i64 (.tmp 101), none⟩,
    ⟨(some 103), .mov (.tmp 2), none⟩,
    ⟨(some 104), .mov (.tmp 12), none⟩,
    ⟨(some 105), .call (.const (.fn F.cuneiformref18_cells [] [])) [(.tmp 100), (.tmp 102), (.tmp 103), (.tmp 104)], none⟩,
    ⟨(some 106), .extract (.tmp 105) 0, none⟩,
    ⟨(some 107), .extract (.tmp 105) 1, none⟩,
    ⟨(some 108), .extract (.tmp 105) 2, none⟩,
    ⟨none, .store 11 (.tmp 8) (.tmp 106), none⟩,
    ⟨(some 9), .mov (.tmp 107), none⟩,
    ⟨(some 10), .mov (.tmp 108), none⟩] [8, 9, 10])
  (.ret)) (.skip)))))))
  (.seq (.seq (.region [⟨(some 109), .mov (.tmp 11), none⟩,
    ⟨(some 110), .conv .i64 (.tmp 109), none⟩,
    ⟨(some 111), .mov (.tmp 2), none⟩,
    ⟨(some 112), .len .slice (.tmp 111), none⟩,
    ⟨(some 113), .mov (.tmp 12), none⟩,
    ⟨(some 114), .bin .sub (.tmp 112) (.tmp 113), none⟩,
    ⟨(some 115), .bin .gtr (.tmp 110) (.tmp 114), none⟩] [2, 3, 4, 5, 8, 11, 12, 115])
  (.cond (.tmp 115) (.seq (.region [⟨(some 116), .load (some 11) (.tmp 4), none⟩,
    ⟨(some 117), .mov (.tmp 3), none⟩,
    ⟨none, .store 11 (.tmp 8) (.tmp 116), none⟩,
    ⟨(some 9), .mov (.tmp 117), none⟩,
    ⟨(some 10), .mov (.const (.int .i64 4)), none⟩] [8, 9, 10])
  (.ret)) (.skip)))
  (.seq (.region [⟨(some 118), .mov (.tmp 2), none⟩,
    ⟨(some 119), .mov (.tmp 12), none⟩,
    ⟨(some 120), .mov (.tmp 12), none⟩,
    ⟨(some 121), .mov (.tmp 11), none⟩,
    ⟨(some 122), .conv .i64 (.tmp 121), none⟩,
    ⟨(some 123), .bin .add (.tmp 120) (.tmp 122), none⟩,
    ⟨(some 124), .slice 1 .slice (.tmp 118) (some (.tmp 119)) (some (.tmp 123)) none, none⟩,
    ⟨(some 125), .b2s (.tmp 124), none⟩,
    ⟨(some 14), .mov (.tmp 125), none⟩] [3, 4, 5, 8, 11, 12, 14])
  (.seq (.seq (.region [⟨(some 15), .mov (.const (.int .i64 0)), none⟩] [3, 4, 5, 8, 11, 12, 14, 15])
  (.block 2 (.loop cuneiformref18_field.b1)))
  (.seq (.seq (.region [⟨(some 144), .field 1 (.tmp 5), none⟩,
    ⟨(some 145), .load none (.tmp 144), none⟩,
    ⟨(some 146), .bin .eql (.tmp 145) (.const (.int .i64 5)), none⟩] [4, 8, 11, 12, 14, 146])
  (.cond (.tmp 146) (.region [⟨(some 147), .mov (.tmp 14), none⟩,
    ⟨(some 148), .field 9 (.tmp 4), none⟩,
    ⟨none, .store 1 (.tmp 148) (.tmp 147), none⟩] [4, 8, 11, 12]) (.region [⟨(some 149), .mov (.tmp 14), none⟩,
    ⟨(some 150), .field 10 (.tmp 4), none⟩,
    ⟨none, .store 1 (.tmp 150) (.tmp 149), none⟩] [4, 8, 11, 12])))
  (.seq (.region [⟨(some 151), .load (some 11) (.tmp 4), none⟩,
    ⟨(some 152), .mov (.tmp 12), none⟩,
    ⟨(some 153), .mov (.tmp 11), none⟩,
    ⟨(some 154), .conv .i64 (.tmp 153), none⟩,
    ⟨(some 155), .bin .add (.tmp 152) (.tmp 154), none⟩,
    ⟨none, .store 11 (.tmp 8) (.tmp 151), none⟩,
    ⟨(some 9), .mov (.tmp 155), none⟩,
    ⟨(some 10), .mov (.const (.int .i64 0)), none⟩] [8, 9, 10])
  (.ret))))))))))))
def cuneiformref18_field : AFun := ⟨156, 4, [.cell 8 (some 11), .tmp 9, .tmp 10], cuneiformref18_field.body⟩
def cuneiformref01_Ints.d0 : List AOper := [⟨(some 17), .mov (.tmp 0), none⟩,
    ⟨(some 18), .mov (.tmp 5), none⟩,
    ⟨(some 19), .idx 1 none (.tmp 17) (.tmp 18), none⟩,
    ⟨(some 20), .load none (.tmp 19), none⟩,
    ⟨(some 21), .mov (.tmp 1), none⟩,
    ⟨(some 22), .mov (.tmp 5), none⟩,
    ⟨(some 23), .idx 1 none (.tmp 21) (.tmp 22), none⟩,
    ⟨(some 24), .load none (.tmp 23), none⟩,
    ⟨(some 25), .bin .neq (.tmp 20) (.tmp 24), none⟩]
def cuneiformref01_Ints.d0b : List (List Nat) := [[], [], [0, 1], [0, 1, 2], [], [], [4, 5], [4, 5, 6], [0, 1, 2, 3, 4, 5, 6, 7]]
def cuneiformref01_Ints.b1 : ACode := .seq (.seq (.region [⟨(some 11), .mov (.tmp 5), none⟩,
    ⟨(some 12), .mov (.tmp 0), none⟩,
    ⟨(some 13), .len .slice (.tmp 12), none⟩,
    ⟨(some 14), .bin .lss (.tmp 11) (.tmp 13), none⟩] [0, 1, 5, 14])
  (.cond (.tmp 14) (.skip) (.exit 0)))
  (.seq (.block 1 (.seq (.draw cuneiformref01_Ints.d0 cuneiformref01_Ints.d0b [[0, 1, 2, 3, 4, 5, 6, 7, 8]] [] [0, 1, 5, 25])
  (.cond (.tmp 25) (.seq (.region [⟨(some 4), .mov (.const (.bool false)), none⟩] [4])
  (.ret)) (.skip))))
  (.region [⟨(some 15), .mov (.tmp 5), none⟩,
    ⟨(some 16), .bin .add (.tmp 15) (.const (.int .i64 1)), none⟩,
    ⟨(some 5), .mov (.tmp 16), none⟩] [0, 1, 5]))
def cuneiformref01_Ints.body : ACode := .seq (.region [⟨(some 4), .mov (.const (.bool false)), none⟩] [0, 1])
  (.seq (.seq (.region [⟨(some 6), .mov (.tmp 0), none⟩,
    ⟨(some 7), .len .slice (.tmp 6), none⟩,
    ⟨(some 8), .mov (.tmp 1), none⟩,
    ⟨(some 9), .len .slice (.tmp 8), none⟩,
    ⟨(some 10), .bin .neq (.tmp 7) (.tmp 9), none⟩] [0, 1, 10])
  (.cond (.tmp 10) (.seq (.region [⟨(some 4), .mov (.const (.bool false)), none⟩] [4])
  (.ret)) (.skip)))
  (.seq (.seq (.region [⟨(some 5), .mov (.const (.int .i64 0)), none⟩] [0, 1, 5])
  (.block 0 (.loop cuneiformref01_Ints.b1)))
  (.seq (.region [⟨(some 4), .mov (.const (.bool true)), none⟩] [4])
  (.ret))))
def cuneiformref01_Ints : AFun := ⟨26, 2, [.tmp 4], cuneiformref01_Ints.body⟩
def body_check.body : ACode := .seq (.region [⟨(some 2), .box T.msg_Msg (.tmp 0), none⟩,
    ⟨(some 4), .mov (.const (.int .i64 0)), none⟩] [1, 2])
  (.seq (.seq (.region [⟨(some 5), .mov (.tmp 1), none⟩,
    ⟨(some 6), .bin .neq (.tmp 5) (.const (.int .i64 1)), none⟩,
    ⟨(some 7), .mov (.tmp 6), none⟩,
    ⟨(some 8), .mov (.tmp 1), some (7, true)⟩,
    ⟨(some 9), .bin .neq (.tmp 8) (.const (.int .i64 2)), some (7, true)⟩,
    ⟨(some 10), .pick (.tmp 7) (.tmp 9) (.const (.bool false)), none⟩] [2, 10])
  (.cond (.tmp 10) (.seq (.region [⟨(some 4), .mov (.const (.int .i64 10)), none⟩] [4])
  (.ret)) (.skip)))
  (.seq (.region [⟨(some 11), .load (some 11) (.tmp 2), none⟩,
    ⟨(some 12), .call (.const (.fn F.msg_Check [] [])) [(.tmp 11)], none⟩,
    ⟨(some 4), .mov (.tmp 12), none⟩] [4])
  (.ret)))
def body_check : AFun := ⟨13, 2, [.tmp 4], body_check.body⟩
def field_Of.body : ACode := .seq (.region [⟨(some 2), .mov (.const .nils), none⟩] [0])
  (.seq (.seq (.region [⟨(some 3), .mov (.tmp 0), none⟩] [3])
  (.block 0 (.seq (.region [⟨(some 5), .bin .eql (.tmp 3) (.const (.int .i64 1)), none⟩,
    ⟨(some 4), .mov (.tmp 5), none⟩] [3, 4])
  (.cond (.tmp 4) (.seq (.region [⟨(some 6), .call (.const (.fn F.field_robot [] [])) [], none⟩,
    ⟨(some 7), .build [(.str ⟨#[]⟩), (.int .i64 0), (.int .i64 0), (.int .i64 0), (.int .i64 0), (.int .i64 0), (.int .i64 0)] [(0, 1, (.const (.str ⟨#[115, 112, 101, 101, 100]⟩))), (1, 1, (.const (.int .i64 1))), (2, 1, (.const (.int .i64 1))), (3, 1, (.const (.int .i64 1))), (4, 1, (.const (.int .i64 5000))), (5, 1, (.const (.int .i64 1))), (6, 1, (.const (.int .i64 0)))], none⟩,
    ⟨(some 8), .build [(.str ⟨#[]⟩), (.int .i64 0), (.int .i64 0), (.int .i64 0), (.int .i64 0), (.int .i64 0), (.int .i64 0)] [(0, 1, (.const (.str ⟨#[97, 99, 99, 101, 108]⟩))), (1, 1, (.const (.int .i64 1))), (2, 1, (.const (.int .i64 2))), (3, 1, (.const (.int .i64 1))), (4, 1, (.const (.int .i64 10000))), (5, 1, (.const (.int .i64 2))), (6, 1, (.const (.int .i64 500)))], none⟩,
    ⟨(some 9), .build [(.str ⟨#[]⟩), (.int .i64 0), (.int .i64 0), (.int .i64 0), (.int .i64 0), (.int .i64 0), (.int .i64 0)] [(0, 1, (.const (.str ⟨#[112, 97, 116, 104]⟩))), (1, 1, (.const (.int .i64 3))), (2, 1, (.const (.int .i64 (-1)))), (3, 1, (.const (.int .i64 1))), (4, 1, (.const (.int .i64 16))), (5, 1, (.const (.int .i64 1))), (6, 1, (.const (.int .i64 0)))], none⟩,
    ⟨(some 10), .build [(.str ⟨#[]⟩), (.int .i64 0), (.int .i64 0), (.int .i64 0), (.int .i64 0), (.int .i64 0), (.int .i64 0)] [(0, 1, (.const (.str ⟨#[116, 97, 103]⟩))), (1, 1, (.const (.int .i64 6))), (2, 1, (.const (.int .i64 (-1)))), (3, 1, (.const (.int .i64 0))), (4, 1, (.const (.int .i64 16))), (5, 1, (.const (.int .i64 2))), (6, 1, (.const (.int .i64 0)))], none⟩,
    ⟨(some 11), .lit T.field_Field 7 5 [(.str ⟨#[]⟩), (.int .i64 0), (.int .i64 0), (.int .i64 0), (.int .i64 0), (.int .i64 0), (.int .i64 0), (.str ⟨#[]⟩), (.int .i64 0), (.int .i64 0), (.int .i64 0), (.int .i64 0), (.int .i64 0), (.int .i64 0), (.str ⟨#[]⟩), (.int .i64 0), (.int .i64 0), (.int .i64 0), (.int .i64 0), (.int .i64 0), (.int .i64 0), (.str ⟨#[]⟩), (.int .i64 0), (.int .i64 0), (.int .i64 0), (.int .i64 0), (.int .i64 0), (.int .i64 0), (.str ⟨#[]⟩), (.int .i64 0), (.int .i64 0), (.int .i64 0), (.int .i64 0), (.int .i64 0), (.int .i64 0)] [(0, 7, (.tmp 6)), (7, 7, (.tmp 7)), (14, 7, (.tmp 8)), (21, 7, (.tmp 9)), (28, 7, (.tmp 10))], none⟩,
    ⟨(some 2), .mov (.tmp 11), none⟩] [2])
  (.ret)) (.seq (.region [⟨(some 13), .bin .eql (.tmp 3) (.const (.int .i64 2)), none⟩,
    ⟨(some 12), .mov (.tmp 13), none⟩] [3, 12])
  (.cond (.tmp 12) (.seq (.region [⟨(some 14), .call (.const (.fn F.field_robot [] [])) [], none⟩,
    ⟨(some 15), .build [(.str ⟨#[]⟩), (.int .i64 0), (.int .i64 0), (.int .i64 0), (.int .i64 0), (.int .i64 0), (.int .i64 0)] [(0, 1, (.const (.str ⟨#[114, 101, 97, 115, 111, 110]⟩))), (1, 1, (.const (.int .i64 1))), (2, 1, (.const (.int .i64 1))), (3, 1, (.const (.int .i64 0))), (4, 1, (.const (.int .i64 15))), (5, 1, (.const (.int .i64 1))), (6, 1, (.const (.int .i64 0)))], none⟩,
    ⟨(some 16), .build [(.str ⟨#[]⟩), (.int .i64 0), (.int .i64 0), (.int .i64 0), (.int .i64 0), (.int .i64 0), (.int .i64 0)] [(0, 1, (.const (.str ⟨#[122, 111, 110, 101]⟩))), (1, 1, (.const (.int .i64 1))), (2, 1, (.const (.int .i64 2))), (3, 1, (.const (.int .i64 0))), (4, 1, (.const (.int .i64 4095))), (5, 1, (.const (.int .i64 2))), (6, 1, (.const (.int .i64 0)))], none⟩,
    ⟨(some 17), .lit T.field_Field 7 3 [(.str ⟨#[]⟩), (.int .i64 0), (.int .i64 0), (.int .i64 0), (.int .i64 0), (.int .i64 0), (.int .i64 0), (.str ⟨#[]⟩), (.int .i64 0), (.int .i64 0), (.int .i64 0), (.int .i64 0), (.int .i64 0), (.int .i64 0), (.str ⟨#[]⟩), (.int .i64 0), (.int .i64 0), (.int .i64 0), (.int .i64 0), (.int .i64 0), (.int .i64 0)] [(0, 7, (.tmp 14)), (7, 7, (.tmp 15)), (14, 7, (.tmp 16))], none⟩,
    ⟨(some 2), .mov (.tmp 17), none⟩] [2])
  (.ret)) (.seq (.region [⟨(some 19), .bin .eql (.tmp 3) (.const (.int .i64 3)), none⟩,
    ⟨(some 18), .mov (.tmp 19), none⟩] [3, 18])
  (.cond (.tmp 18) (.seq (.region [⟨(some 20), .call (.const (.fn F.field_robot [] [])) [], none⟩,
    ⟨(some 21), .build [(.str ⟨#[]⟩), (.int .i64 0), (.int .i64 0), (.int .i64 0), (.int .i64 0), (.int .i64 0), (.int .i64 0)] [(0, 1, (.const (.str ⟨#[122, 111, 110, 101]⟩))), (1, 1, (.const (.int .i64 1))), (2, 1, (.const (.int .i64 1))), (3, 1, (.const (.int .i64 0))), (4, 1, (.const (.int .i64 4095))), (5, 1, (.const (.int .i64 1))), (6, 1, (.const (.int .i64 0)))], none⟩,
    ⟨(some 22), .build [(.str ⟨#[]⟩), (.int .i64 0), (.int .i64 0), (.int .i64 0), (.int .i64 0), (.int .i64 0), (.int .i64 0)] [(0, 1, (.const (.str ⟨#[108, 101, 97, 115, 101]⟩))), (1, 1, (.const (.int .i64 1))), (2, 1, (.const (.int .i64 2))), (3, 1, (.const (.int .i64 1))), (4, 1, (.const (.int .i64 255))), (5, 1, (.const (.int .i64 2))), (6, 1, (.const (.int .i64 1)))], none⟩,
    ⟨(some 23), .build [(.str ⟨#[]⟩), (.int .i64 0), (.int .i64 0), (.int .i64 0), (.int .i64 0), (.int .i64 0), (.int .i64 0)] [(0, 1, (.const (.str ⟨#[99, 101, 108, 108, 115]⟩))), (1, 1, (.const (.int .i64 4))), (2, 1, (.const (.int .i64 (-1)))), (3, 1, (.const (.int .i64 1))), (4, 1, (.const (.int .i64 32))), (5, 1, (.const (.int .i64 1))), (6, 1, (.const (.int .i64 0)))], none⟩,
    ⟨(some 24), .lit T.field_Field 7 4 [(.str ⟨#[]⟩), (.int .i64 0), (.int .i64 0), (.int .i64 0), (.int .i64 0), (.int .i64 0), (.int .i64 0), (.str ⟨#[]⟩), (.int .i64 0), (.int .i64 0), (.int .i64 0), (.int .i64 0), (.int .i64 0), (.int .i64 0), (.str ⟨#[]⟩), (.int .i64 0), (.int .i64 0), (.int .i64 0), (.int .i64 0), (.int .i64 0), (.int .i64 0), (.str ⟨#[]⟩), (.int .i64 0), (.int .i64 0), (.int .i64 0), (.int .i64 0), (.int .i64 0), (.int .i64 0)] [(0, 7, (.tmp 20)), (7, 7, (.tmp 21)), (14, 7, (.tmp 22)), (21, 7, (.tmp 23))], none⟩,
    ⟨(some 2), .mov (.tmp 24), none⟩] [2])
  (.ret)) (.seq (.region [⟨(some 26), .bin .eql (.tmp 3) (.const (.int .i64 4)), none⟩,
    ⟨(some 25), .mov (.tmp 26), none⟩] [3, 25])
  (.cond (.tmp 25) (.seq (.region [⟨(some 27), .call (.const (.fn F.field_robot [] [])) [], none⟩,
    ⟨(some 28), .build [(.str ⟨#[]⟩), (.int .i64 0), (.int .i64 0), (.int .i64 0), (.int .i64 0), (.int .i64 0), (.int .i64 0)] [(0, 1, (.const (.str ⟨#[120]⟩))), (1, 1, (.const (.int .i64 2))), (2, 1, (.const (.int .i64 1))), (3, 1, (.const (.int .i64 (-1000000)))), (4, 1, (.const (.int .i64 1000000))), (5, 1, (.const (.int .i64 1))), (6, 1, (.const (.int .i64 0)))], none⟩,
    ⟨(some 29), .build [(.str ⟨#[]⟩), (.int .i64 0), (.int .i64 0), (.int .i64 0), (.int .i64 0), (.int .i64 0), (.int .i64 0)] [(0, 1, (.const (.str ⟨#[121]⟩))), (1, 1, (.const (.int .i64 2))), (2, 1, (.const (.int .i64 2))), (3, 1, (.const (.int .i64 (-1000000)))), (4, 1, (.const (.int .i64 1000000))), (5, 1, (.const (.int .i64 1))), (6, 1, (.const (.int .i64 0)))], none⟩,
    ⟨(some 30), .build [(.str ⟨#[]⟩), (.int .i64 0), (.int .i64 0), (.int .i64 0), (.int .i64 0), (.int .i64 0), (.int .i64 0)] [(0, 1, (.const (.str ⟨#[104, 101, 97, 100, 105, 110, 103]⟩))), (1, 1, (.const (.int .i64 1))), (2, 1, (.const (.int .i64 3))), (3, 1, (.const (.int .i64 0))), (4, 1, (.const (.int .i64 35999))), (5, 1, (.const (.int .i64 1))), (6, 1, (.const (.int .i64 0)))], none⟩,
    ⟨(some 31), .build [(.str ⟨#[]⟩), (.int .i64 0), (.int .i64 0), (.int .i64 0), (.int .i64 0), (.int .i64 0), (.int .i64 0)] [(0, 1, (.const (.str ⟨#[98, 97, 116, 116, 101, 114, 121]⟩))), (1, 1, (.const (.int .i64 1))), (2, 1, (.const (.int .i64 4))), (3, 1, (.const (.int .i64 0))), (4, 1, (.const (.int .i64 1000))), (5, 1, (.const (.int .i64 1))), (6, 1, (.const (.int .i64 0)))], none⟩,
    ⟨(some 32), .build [(.str ⟨#[]⟩), (.int .i64 0), (.int .i64 0), (.int .i64 0), (.int .i64 0), (.int .i64 0), (.int .i64 0)] [(0, 1, (.const (.str ⟨#[115, 117, 114, 101]⟩))), (1, 1, (.const (.int .i64 1))), (2, 1, (.const (.int .i64 5))), (3, 1, (.const (.int .i64 0))), (4, 1, (.const (.int .i64 100))), (5, 1, (.const (.int .i64 2))), (6, 1, (.const (.int .i64 100)))], none⟩,
    ⟨(some 33), .lit T.field_Field 7 6 [(.str ⟨#[]⟩), (.int .i64 0), (.int .i64 0), (.int .i64 0), (.int .i64 0), (.int .i64 0), (.int .i64 0), (.str ⟨#[]⟩), (.int .i64 0), (.int .i64 0), (.int .i64 0), (.int .i64 0), (.int .i64 0), (.int .i64 0), (.str ⟨#[]⟩), (.int .i64 0), (.int .i64 0), (.int .i64 0), (.int .i64 0), (.int .i64 0), (.int .i64 0), (.str ⟨#[]⟩), (.int .i64 0), (.int .i64 0), (.int .i64 0), (.int .i64 0), (.int .i64 0), (.int .i64 0), (.str ⟨#[]⟩), (.int .i64 0), (.int .i64 0), (.int .i64 0), (.int .i64 0), (.int .i64 0), (.int .i64 0), (.str ⟨#[]⟩), (.int .i64 0), (.int .i64 0), (.int .i64 0), (.int .i64 0), (.int .i64 0), (.int .i64 0)] [(0, 7, (.tmp 27)), (7, 7, (.tmp 28)), (14, 7, (.tmp 29)), (21, 7, (.tmp 30)), (28, 7, (.tmp 31)), (35, 7, (.tmp 32))], none⟩,
    ⟨(some 2), .mov (.tmp 33), none⟩] [2])
  (.ret)) (.seq (.region [⟨(some 35), .bin .eql (.tmp 3) (.const (.int .i64 5)), none⟩,
    ⟨(some 34), .mov (.tmp 35), none⟩] [34])
  (.cond (.tmp 34) (.seq (.region [⟨(some 36), .call (.const (.fn F.field_robot [] [])) [], none⟩,
    ⟨(some 37), .build [(.str ⟨#[]⟩), (.int .i64 0), (.int .i64 0), (.int .i64 0), (.int .i64 0), (.int .i64 0), (.int .i64 0)] [(0, 1, (.const (.str ⟨#[99, 111, 100, 101]⟩))), (1, 1, (.const (.int .i64 1))), (2, 1, (.const (.int .i64 1))), (3, 1, (.const (.int .i64 1))), (4, 1, (.const (.int .i64 9999))), (5, 1, (.const (.int .i64 1))), (6, 1, (.const (.int .i64 0)))], none⟩,
    ⟨(some 38), .build [(.str ⟨#[]⟩), (.int .i64 0), (.int .i64 0), (.int .i64 0), (.int .i64 0), (.int .i64 0), (.int .i64 0)] [(0, 1, (.const (.str ⟨#[115, 101, 118, 101, 114, 105, 116, 121]⟩))), (1, 1, (.const (.int .i64 1))), (2, 1, (.const (.int .i64 2))), (3, 1, (.const (.int .i64 0))), (4, 1, (.const (.int .i64 4))), (5, 1, (.const (.int .i64 1))), (6, 1, (.const (.int .i64 0)))], none⟩,
    ⟨(some 39), .build [(.str ⟨#[]⟩), (.int .i64 0), (.int .i64 0), (.int .i64 0), (.int .i64 0), (.int .i64 0), (.int .i64 0)] [(0, 1, (.const (.str ⟨#[112, 97, 114, 116]⟩))), (1, 1, (.const (.int .i64 1))), (2, 1, (.const (.int .i64 3))), (3, 1, (.const (.int .i64 0))), (4, 1, (.const (.int .i64 255))), (5, 1, (.const (.int .i64 2))), (6, 1, (.const (.int .i64 0)))], none⟩,
    ⟨(some 40), .build [(.str ⟨#[]⟩), (.int .i64 0), (.int .i64 0), (.int .i64 0), (.int .i64 0), (.int .i64 0), (.int .i64 0)] [(0, 1, (.const (.str ⟨#[116, 105, 109, 101, 115]⟩))), (1, 1, (.const (.int .i64 1))), (2, 1, (.const (.int .i64 4))), (3, 1, (.const (.int .i64 1))), (4, 1, (.const (.int .i64 1000000))), (5, 1, (.const (.int .i64 2))), (6, 1, (.const (.int .i64 1)))], none⟩,
    ⟨(some 41), .build [(.str ⟨#[]⟩), (.int .i64 0), (.int .i64 0), (.int .i64 0), (.int .i64 0), (.int .i64 0), (.int .i64 0)] [(0, 1, (.const (.str ⟨#[116, 101, 120, 116]⟩))), (1, 1, (.const (.int .i64 5))), (2, 1, (.const (.int .i64 (-1)))), (3, 1, (.const (.int .i64 0))), (4, 1, (.const (.int .i64 64))), (5, 1, (.const (.int .i64 1))), (6, 1, (.const (.int .i64 0)))], none⟩,
    ⟨(some 42), .lit T.field_Field 7 6 [(.str ⟨#[]⟩), (.int .i64 0), (.int .i64 0), (.int .i64 0), (.int .i64 0), (.int .i64 0), (.int .i64 0), (.str ⟨#[]⟩), (.int .i64 0), (.int .i64 0), (.int .i64 0), (.int .i64 0), (.int .i64 0), (.int .i64 0), (.str ⟨#[]⟩), (.int .i64 0), (.int .i64 0), (.int .i64 0), (.int .i64 0), (.int .i64 0), (.int .i64 0), (.str ⟨#[]⟩), (.int .i64 0), (.int .i64 0), (.int .i64 0), (.int .i64 0), (.int .i64 0), (.int .i64 0), (.str ⟨#[]⟩), (.int .i64 0), (.int .i64 0), (.int .i64 0), (.int .i64 0), (.int .i64 0), (.int .i64 0), (.str ⟨#[]⟩), (.int .i64 0), (.int .i64 0), (.int .i64 0), (.int .i64 0), (.int .i64 0), (.int .i64 0)] [(0, 7, (.tmp 36)), (7, 7, (.tmp 37)), (14, 7, (.tmp 38)), (21, 7, (.tmp 39)), (28, 7, (.tmp 40)), (35, 7, (.tmp 41))], none⟩,
    ⟨(some 2), .mov (.tmp 42), none⟩] [2])
  (.ret)) (.skip)))))))))))))
  (.seq (.region [⟨(some 2), .mov (.const .nils), none⟩] [2])
  (.ret)))
def field_Of : AFun := ⟨43, 1, [.tmp 2], field_Of.body⟩
def msg_wrong.body : ACode := .seq (.region [⟨(some 2), .box T.msg_Msg (.tmp 0), none⟩,
    ⟨(some 3), .box T.field_Field (.tmp 1), none⟩,
    ⟨(some 4), .mov (.const (.int .i64 0)), none⟩] [2, 3])
  (.seq (.seq (.region [⟨(some 6), .field 1 (.tmp 3), none⟩,
    ⟨(some 7), .load none (.tmp 6), none⟩] [2, 3, 7])
  (.block 0 (.seq (.region [⟨(some 9), .bin .eql (.tmp 7) (.const (.int .i64 3)), none⟩,
    ⟨(some 8), .mov (.tmp 9), none⟩] [2, 3, 7, 8])
  (.cond (.tmp 8) (.seq (.region [⟨(some 10), .field 7 (.tmp 2), none⟩,
    ⟨(some 11), .load none (.tmp 10), none⟩,
    ⟨(some 12), .load (some 7) (.tmp 3), none⟩,
    ⟨(some 13), .call (.const (.fn F.msg_path [] [])) [(.tmp 11), (.tmp 12)], none⟩,
    ⟨(some 4), .mov (.tmp 13), none⟩] [4])
  (.ret)) (.seq (.region [⟨(some 15), .bin .eql (.tmp 7) (.const (.int .i64 4)), none⟩,
    ⟨(some 14), .mov (.tmp 15), none⟩] [2, 3, 7, 14])
  (.cond (.tmp 14) (.seq (.region [⟨(some 16), .field 8 (.tmp 2), none⟩,
    ⟨(some 17), .load none (.tmp 16), none⟩,
    ⟨(some 18), .load (some 7) (.tmp 3), none⟩,
    ⟨(some 19), .call (.const (.fn F.msg_cells [] [])) [(.tmp 17), (.tmp 18)], none⟩,
    ⟨(some 4), .mov (.tmp 19), none⟩] [4])
  (.ret)) (.seq (.region [⟨(some 21), .bin .eql (.tmp 7) (.const (.int .i64 5)), none⟩,
    ⟨(some 20), .mov (.tmp 21), none⟩] [2, 3, 7, 20])
  (.cond (.tmp 20) (.seq (.region [⟨(some 22), .field 9 (.tmp 2), none⟩,
    ⟨(some 23), .load none (.tmp 22), none⟩,
    ⟨(some 24), .load (some 7) (.tmp 3), none⟩,
    ⟨(some 25), .call (.const (.fn F.msg_text [] [])) [(.tmp 23), (.tmp 24)], none⟩,
    ⟨(some 4), .mov (.tmp 25), none⟩] [4])
  (.ret)) (.seq (.region [⟨(some 27), .bin .eql (.tmp 7) (.const (.int .i64 6)), none⟩,
    ⟨(some 26), .mov (.tmp 27), none⟩] [2, 3, 26])
  (.cond (.tmp 26) (.seq (.region [⟨(some 28), .field 10 (.tmp 2), none⟩,
    ⟨(some 29), .load none (.tmp 28), none⟩,
    ⟨(some 30), .load (some 7) (.tmp 3), none⟩,
    ⟨(some 31), .call (.const (.fn F.msg_text [] [])) [(.tmp 29), (.tmp 30)], none⟩,
    ⟨(some 4), .mov (.tmp 31), none⟩] [4])
  (.ret)) (.skip)))))))))))
  (.seq (.seq (.region [⟨(some 32), .field 2 (.tmp 3), none⟩,
    ⟨(some 33), .load none (.tmp 32), none⟩,
    ⟨(some 34), .field 1 (.tmp 2), none⟩,
    ⟨(some 35), .idx 1 (some 6) (.tmp 34) (.tmp 33), none⟩,
    ⟨(some 36), .load none (.tmp 35), none⟩,
    ⟨(some 5), .mov (.tmp 36), none⟩] [3, 5])
  (.seq (.region [⟨(some 37), .mov (.tmp 5), none⟩,
    ⟨(some 38), .field 3 (.tmp 3), none⟩,
    ⟨(some 39), .load none (.tmp 38), none⟩,
    ⟨(some 40), .bin .lss (.tmp 37) (.tmp 39), none⟩,
    ⟨(some 41), .mov (.tmp 40), none⟩,
    ⟨(some 42), .mov (.tmp 5), some (41, false)⟩,
    ⟨(some 43), .field 4 (.tmp 3), some (41, false)⟩,
    ⟨(some 44), .load none (.tmp 43), some (41, false)⟩,
    ⟨(some 45), .bin .gtr (.tmp 42) (.tmp 44), some (41, false)⟩,
    ⟨(some 46), .pick (.tmp 41) (.const (.bool true)) (.tmp 45), none⟩] [46])
  (.cond (.tmp 46) (.seq (.region [⟨(some 4), .mov (.const (.int .i64 5)), none⟩] [4])
  (.ret)) (.skip))))
  (.seq (.region [⟨(some 4), .mov (.const (.int .i64 0)), none⟩] [4])
  (.ret))))
def msg_wrong : AFun := ⟨47, 2, [.tmp 4], msg_wrong.body⟩
def msg_without.body : ACode := .seq (.region [⟨(some 2), .box T.msg_Msg (.tmp 0), none⟩,
    ⟨(some 3), .box T.field_Field (.tmp 1), none⟩,
    ⟨(some 4), .alloc T.msg_Msg [(.int .i64 0), (.int .i64 0), (.int .i64 0), (.int .i64 0), (.int .i64 0), (.int .i64 0), (.int .i64 0), .nils, .nils, (.str ⟨#[]⟩), (.str ⟨#[]⟩)], none⟩] [2, 3, 4])
  (.seq (.seq (.region [⟨(some 5), .field 1 (.tmp 3), none⟩,
    ⟨(some 6), .load none (.tmp 5), none⟩] [2, 3, 4, 6])
  (.block 0 (.seq (.region [⟨(some 12), .bin .eql (.tmp 6) (.const (.int .i64 3)), none⟩,
    ⟨(some 11), .mov (.tmp 12), none⟩] [2, 3, 4, 6, 11])
  (.cond (.tmp 11) (.region [⟨(some 13), .field 7 (.tmp 2), none⟩,
    ⟨none, .store 1 (.tmp 13) (.const .nils), none⟩] [2, 4]) (.seq (.region [⟨(some 15), .bin .eql (.tmp 6) (.const (.int .i64 4)), none⟩,
    ⟨(some 14), .mov (.tmp 15), none⟩] [2, 3, 4, 6, 14])
  (.cond (.tmp 14) (.region [⟨(some 16), .field 8 (.tmp 2), none⟩,
    ⟨none, .store 1 (.tmp 16) (.const .nils), none⟩] [2, 4]) (.seq (.region [⟨(some 18), .bin .eql (.tmp 6) (.const (.int .i64 5)), none⟩,
    ⟨(some 17), .mov (.tmp 18), none⟩] [2, 3, 4, 6, 17])
  (.cond (.tmp 17) (.region [⟨(some 19), .field 9 (.tmp 2), none⟩,
    ⟨none, .store 1 (.tmp 19) (.const (.str ⟨#[]⟩)), none⟩] [2, 4]) (.seq (.region [⟨(some 21), .bin .eql (.tmp 6) (.const (.int .i64 6)), none⟩,
    ⟨(some 20), .mov (.tmp 21), none⟩] [2, 3, 4, 20])
  (.cond (.tmp 20) (.region [⟨(some 22), .field 10 (.tmp 2), none⟩,
    ⟨none, .store 1 (.tmp 22) (.const (.str ⟨#[]⟩)), none⟩] [2, 4]) (.region [⟨(some 7), .field 2 (.tmp 3), none⟩,
    ⟨(some 8), .load none (.tmp 7), none⟩,
    ⟨(some 9), .field 1 (.tmp 2), none⟩,
    ⟨(some 10), .idx 1 (some 6) (.tmp 9) (.tmp 8), none⟩,
    ⟨none, .store 1 (.tmp 10) (.const (.int .i64 0)), none⟩] [2, 4])))))))))))
  (.seq (.region [⟨(some 23), .load (some 11) (.tmp 2), none⟩,
    ⟨none, .store 11 (.tmp 4) (.tmp 23), none⟩] [4])
  (.ret)))
def msg_without : AFun := ⟨24, 2, [.cell 4 (some 11)], msg_without.body⟩
def slices_Equal_msg_Point_msg_Point.d0 : List AOper := [⟨(some 16), .mov (.tmp 0), none⟩,
    ⟨(some 17), .mov (.tmp 5), none⟩,
    ⟨(some 18), .idx 2 none (.tmp 16) (.tmp 17), none⟩,
    ⟨(some 19), .load (some 2) (.tmp 18), none⟩,
    ⟨(some 20), .mov (.tmp 1), none⟩,
    ⟨(some 21), .mov (.tmp 5), none⟩,
    ⟨(some 22), .idx 2 none (.tmp 20) (.tmp 21), none⟩,
    ⟨(some 23), .load (some 2) (.tmp 22), none⟩,
    ⟨(some 24), .eq true (.cells [.int, .int]) (.tmp 19) (.tmp 23), none⟩]
def slices_Equal_msg_Point_msg_Point.d0b : List (List Nat) := [[], [], [0, 1], [0, 1, 2], [], [], [4, 5], [4, 5, 6], [0, 1, 2, 3, 4, 5, 6, 7]]
def slices_Equal_msg_Point_msg_Point.b1 : ACode := .seq (.region [⟨(some 14), .bin .lss (.tmp 13) (.tmp 12), none⟩] [0, 1, 12, 13, 14])
  (.seq (.cond (.tmp 14) (.skip) (.exit 0))
  (.seq (.block 1 (.seq (.region [⟨(some 15), .mov (.tmp 13), none⟩,
    ⟨(some 5), .mov (.tmp 15), none⟩] [0, 1, 5, 12, 13])
  (.seq (.draw slices_Equal_msg_Point_msg_Point.d0 slices_Equal_msg_Point_msg_Point.d0b [[0, 1, 2, 3, 4, 5, 6, 7, 8]] [] [0, 1, 12, 13, 24])
  (.cond (.tmp 24) (.seq (.region [⟨(some 4), .mov (.const (.bool false)), none⟩] [4])
  (.ret)) (.skip)))))
  (.region [⟨(some 25), .bin .add (.tmp 13) (.const (.int .i64 1)), none⟩,
    ⟨(some 13), .mov (.tmp 25), none⟩] [0, 1, 12, 13])))
def slices_Equal_msg_Point_msg_Point.body : ACode := .seq (.region [⟨(some 4), .mov (.const (.bool false)), none⟩] [0, 1])
  (.seq (.seq (.region [⟨(some 6), .mov (.tmp 0), none⟩,
    ⟨(some 7), .len .slice (.tmp 6), none⟩,
    ⟨(some 8), .mov (.tmp 1), none⟩,
    ⟨(some 9), .len .slice (.tmp 8), none⟩,
    ⟨(some 10), .bin .neq (.tmp 7) (.tmp 9), none⟩] [0, 1, 10])
  (.cond (.tmp 10) (.seq (.region [⟨(some 4), .mov (.const (.bool false)), none⟩] [4])
  (.ret)) (.skip)))
  (.seq (.seq (.region [⟨(some 11), .mov (.tmp 0), none⟩,
    ⟨(some 12), .len .slice (.tmp 11), none⟩,
    ⟨(some 13), .mov (.const (.int .i64 0)), none⟩] [0, 1, 12, 13])
  (.block 0 (.loop slices_Equal_msg_Point_msg_Point.b1)))
  (.seq (.region [⟨(some 4), .mov (.const (.bool true)), none⟩] [4])
  (.ret))))
def slices_Equal_msg_Point_msg_Point : AFun := ⟨26, 2, [.tmp 4], slices_Equal_msg_Point_msg_Point.body⟩
def slices_Equal_int_int.d0 : List AOper := [⟨(some 16), .mov (.tmp 0), none⟩,
    ⟨(some 17), .mov (.tmp 5), none⟩,
    ⟨(some 18), .idx 1 none (.tmp 16) (.tmp 17), none⟩,
    ⟨(some 19), .load none (.tmp 18), none⟩,
    ⟨(some 20), .mov (.tmp 1), none⟩,
    ⟨(some 21), .mov (.tmp 5), none⟩,
    ⟨(some 22), .idx 1 none (.tmp 20) (.tmp 21), none⟩,
    ⟨(some 23), .load none (.tmp 22), none⟩,
    ⟨(some 24), .bin .neq (.tmp 19) (.tmp 23), none⟩]
def slices_Equal_int_int.d0b : List (List Nat) := [[], [], [0, 1], [0, 1, 2], [], [], [4, 5], [4, 5, 6], [0, 1, 2, 3, 4, 5, 6, 7]]
def slices_Equal_int_int.b1 : ACode := .seq (.region [⟨(some 14), .bin .lss (.tmp 13) (.tmp 12), none⟩] [0, 1, 12, 13, 14])
  (.seq (.cond (.tmp 14) (.skip) (.exit 0))
  (.seq (.block 1 (.seq (.region [⟨(some 15), .mov (.tmp 13), none⟩,
    ⟨(some 5), .mov (.tmp 15), none⟩] [0, 1, 5, 12, 13])
  (.seq (.draw slices_Equal_int_int.d0 slices_Equal_int_int.d0b [[0, 1, 2, 3, 4, 5, 6, 7, 8]] [] [0, 1, 12, 13, 24])
  (.cond (.tmp 24) (.seq (.region [⟨(some 4), .mov (.const (.bool false)), none⟩] [4])
  (.ret)) (.skip)))))
  (.region [⟨(some 25), .bin .add (.tmp 13) (.const (.int .i64 1)), none⟩,
    ⟨(some 13), .mov (.tmp 25), none⟩] [0, 1, 12, 13])))
def slices_Equal_int_int.body : ACode := .seq (.region [⟨(some 4), .mov (.const (.bool false)), none⟩] [0, 1])
  (.seq (.seq (.region [⟨(some 6), .mov (.tmp 0), none⟩,
    ⟨(some 7), .len .slice (.tmp 6), none⟩,
    ⟨(some 8), .mov (.tmp 1), none⟩,
    ⟨(some 9), .len .slice (.tmp 8), none⟩,
    ⟨(some 10), .bin .neq (.tmp 7) (.tmp 9), none⟩] [0, 1, 10])
  (.cond (.tmp 10) (.seq (.region [⟨(some 4), .mov (.const (.bool false)), none⟩] [4])
  (.ret)) (.skip)))
  (.seq (.seq (.region [⟨(some 11), .mov (.tmp 0), none⟩,
    ⟨(some 12), .len .slice (.tmp 11), none⟩,
    ⟨(some 13), .mov (.const (.int .i64 0)), none⟩] [0, 1, 12, 13])
  (.block 0 (.loop slices_Equal_int_int.b1)))
  (.seq (.region [⟨(some 4), .mov (.const (.bool true)), none⟩] [4])
  (.ret))))
def slices_Equal_int_int : AFun := ⟨26, 2, [.tmp 4], slices_Equal_int_int.body⟩
def msg_Copy.d0 : List AOper := [⟨(some 3), .field 7 (.tmp 1), none⟩,
    ⟨(some 4), .load none (.tmp 3), none⟩,
    ⟨(some 5), .call (.const (.fn F.slices_Clone_msg_Point_msg_Point [] [])) [(.tmp 4)], none⟩,
    ⟨(some 6), .field 8 (.tmp 1), none⟩,
    ⟨(some 7), .load none (.tmp 6), none⟩,
    ⟨(some 8), .call (.const (.fn F.slices_Clone_int_int [] [])) [(.tmp 7)], none⟩,
    ⟨(some 9), .field 7 (.tmp 1), none⟩,
    ⟨none, .store 1 (.tmp 9) (.tmp 5), none⟩,
    ⟨(some 10), .field 8 (.tmp 1), none⟩,
    ⟨none, .store 1 (.tmp 10) (.tmp 8), none⟩]
def msg_Copy.d0b : List (List Nat) := [[], [0], [0, 1], [], [3], [0, 1, 2, 3, 4], [0, 1, 2, 3, 4], [0, 1, 2, 3, 4, 5, 6], [0, 1, 2, 3, 4, 5, 6, 7], [0, 1, 2, 3, 4, 5, 6, 7, 8]]
def msg_Copy.body : ACode := .seq (.region [⟨(some 1), .box T.msg_Msg (.tmp 0), none⟩,
    ⟨(some 2), .alloc T.msg_Msg [(.int .i64 0), (.int .i64 0), (.int .i64 0), (.int .i64 0), (.int .i64 0), (.int .i64 0), (.int .i64 0), .nils, .nils, (.str ⟨#[]⟩), (.str ⟨#[]⟩)], none⟩] [1, 2])
  (.seq (.draw msg_Copy.d0 msg_Copy.d0b [[0, 1, 3, 4, 2, 6, 5, 7, 8, 9]] [(2, 4)] [1, 2])
  (.seq (.region [⟨(some 11), .load (some 11) (.tmp 1), none⟩,
    ⟨none, .store 11 (.tmp 2) (.tmp 11), none⟩] [2])
  (.ret)))
def msg_Copy : AFun := ⟨12, 1, [.cell 2 (some 11)], msg_Copy.body⟩
def body_Parts_1.d0 : List AOper := [⟨(some 14), .load none (.tmp 3), none⟩,
    ⟨(some 15), .field 0 (.tmp 4), none⟩,
    ⟨(some 16), .load none (.tmp 15), none⟩,
    ⟨(some 17), .load (some 11) (.tmp 1), none⟩,
    ⟨(some 18), .load (some 7) (.tmp 4), none⟩,
    ⟨(some 19), .call (.const (.fn F.body_part [] [])) [(.tmp 17), (.tmp 18)], none⟩,
    ⟨(some 20), .call (.tmp 14) [(.tmp 16), (.tmp 19)], none⟩,
    ⟨(some 21), .un .not (.tmp 20), none⟩]
def body_Parts_1.d0b : List (List Nat) := [[], [], [1], [], [], [3, 4], [0, 1, 2, 3, 4, 5], [0, 1, 2, 3, 4, 5, 6]]
def body_Parts_1.a1 : ACode := .region [⟨(some 4), .alloc T.field_Field [(.str ⟨#[]⟩), (.int .i64 0), (.int .i64 0), (.int .i64 0), (.int .i64 0), (.int .i64 0), (.int .i64 0)], none⟩,
    ⟨none, .store 7 (.tmp 4) (.tmp 13), none⟩] [1, 3, 4]
def body_Parts_1.b1 : ACode := .block 1 (.seq (.draw body_Parts_1.d0 body_Parts_1.d0b [[0, 1, 2, 3, 4, 5, 6, 7]] [(5, 0), (5, 2)] [21])
  (.cond (.tmp 21) (.exit 0) (.skip)))
def body_Parts_1.body : ACode := .seq (.region [⟨(some 3), .box T.func_string_sl_uint8_bool (.tmp 0), none⟩] [1, 2, 3])
  (.scope (.seq (.seq (.region [⟨(some 5), .load (some 11) (.tmp 1), none⟩,
    ⟨(some 6), .load none (.tmp 2), none⟩,
    ⟨(some 7), .call (.const (.fn F.body_check [] [])) [(.tmp 5), (.tmp 6)], none⟩,
    ⟨(some 8), .bin .neq (.tmp 7) (.const (.int .i64 0)), none⟩] [1, 2, 3, 8])
  (.cond (.tmp 8) (.ret) (.skip)))
  (.seq (.skip)
  (.seq (.region [⟨(some 9), .field 0 (.tmp 1), none⟩,
    ⟨(some 10), .load none (.tmp 9), none⟩,
    ⟨(some 11), .load none (.tmp 2), none⟩,
    ⟨(some 12), .call (.const (.fn F.field_All [] [])) [(.tmp 10), (.tmp 11)], none⟩] [1, 3, 12])
  (.block 0 (.range (.tmp 12) [13] body_Parts_1.a1 body_Parts_1.b1))))))
def body_Parts_1 : AFun := ⟨22, 3, [], body_Parts_1.body⟩
def body_part.body : ACode := .seq (.region [⟨(some 2), .box T.msg_Msg (.tmp 0), none⟩,
    ⟨(some 3), .box T.field_Field (.tmp 1), none⟩,
    ⟨(some 4), .mov (.const .nils), none⟩] [2, 3])
  (.seq (.region [⟨(some 6), .call (.const (.fn F.pen_New [] [])) [(.const (.int .i64 192))], none⟩,
    ⟨(some 5), .mov (.tmp 6), none⟩] [2, 3, 5])
  (.seq (.seq (.region [⟨(some 7), .field 1 (.tmp 3), none⟩,
    ⟨(some 8), .load none (.tmp 7), none⟩] [2, 3, 5, 8])
  (.block 0 (.seq (.region [⟨(some 10), .bin .eql (.tmp 8) (.const (.int .i64 1)), none⟩,
    ⟨(some 9), .mov (.tmp 10), none⟩] [2, 3, 5, 8, 9])
  (.cond (.tmp 9) (.region [⟨(some 11), .mov (.tmp 5), none⟩,
    ⟨(some 12), .field 2 (.tmp 3), none⟩,
    ⟨(some 13), .load none (.tmp 12), none⟩,
    ⟨(some 14), .field 1 (.tmp 2), none⟩,
    ⟨(some 15), .idx 1 (some 6) (.tmp 14) (.tmp 13), none⟩,
    ⟨(some 16), .load none (.tmp 15), none⟩,
    ⟨(some 17), .conv .u64 (.tmp 16), none⟩,
    ⟨(some 18), .lit T.uint64 1 1 [(.int .u64 0)] [(0, 1, (.tmp 17))], none⟩,
    ⟨(some 19), .call (.const (.fn F.pen_Pen_Number [] [])) [(.tmp 11), (.tmp 18)], none⟩] [5]) (.seq (.region [⟨(some 21), .bin .eql (.tmp 8) (.const (.int .i64 2)), none⟩,
    ⟨(some 20), .mov (.tmp 21), none⟩] [2, 3, 5, 8, 20])
  (.cond (.tmp 20) (.region [⟨(some 22), .mov (.tmp 5), none⟩,
    ⟨(some 23), .field 2 (.tmp 3), none⟩,
    ⟨(some 24), .load none (.tmp 23), none⟩,
    ⟨(some 25), .field 1 (.tmp 2), none⟩,
    ⟨(some 26), .idx 1 (some 6) (.tmp 25) (.tmp 24), none⟩,
    ⟨(some 27), .load none (.tmp 26), none⟩,
    ⟨(some 28), .lit T.int64 1 1 [(.int .i64 0)] [(0, 1, (.tmp 27))], none⟩,
    ⟨(some 29), .call (.const (.fn F.pen_Pen_Signed [] [])) [(.tmp 22), (.tmp 28)], none⟩] [5]) (.seq (.region [⟨(some 31), .bin .eql (.tmp 8) (.const (.int .i64 3)), none⟩,
    ⟨(some 30), .mov (.tmp 31), none⟩] [2, 5, 8, 30])
  (.cond (.tmp 30) (.region [⟨(some 32), .mov (.tmp 5), none⟩,
    ⟨(some 33), .field 7 (.tmp 2), none⟩,
    ⟨(some 34), .load none (.tmp 33), none⟩,
    ⟨(some 35), .call (.const (.fn F.body_points [] [])) [(.tmp 32), (.tmp 34)], none⟩] [5]) (.seq (.region [⟨(some 37), .bin .eql (.tmp 8) (.const (.int .i64 4)), none⟩,
    ⟨(some 36), .mov (.tmp 37), none⟩] [2, 5, 8, 36])
  (.cond (.tmp 36) (.region [⟨(some 38), .mov (.tmp 5), none⟩,
    ⟨(some 39), .field 8 (.tmp 2), none⟩,
    ⟨(some 40), .load none (.tmp 39), none⟩,
    ⟨(some 41), .call (.const (.fn F.body_cells [] [])) [(.tmp 38), (.tmp 40)], none⟩] [5]) (.seq (.region [⟨(some 43), .bin .eql (.tmp 8) (.const (.int .i64 5)), none⟩,
    ⟨(some 42), .mov (.tmp 43), none⟩] [2, 5, 8, 42])
  (.cond (.tmp 42) (.region [⟨(some 44), .mov (.tmp 5), none⟩,
    ⟨(some 45), .field 9 (.tmp 2), none⟩,
    ⟨(some 46), .load none (.tmp 45), none⟩,
    ⟨(some 47), .s2b (.tmp 46), none⟩,
    ⟨(some 48), .call (.const (.fn F.pen_Pen_Field [] [])) [(.tmp 44), (.tmp 47)], none⟩] [5]) (.seq (.region [⟨(some 50), .bin .eql (.tmp 8) (.const (.int .i64 6)), none⟩,
    ⟨(some 49), .mov (.tmp 50), none⟩] [2, 5, 49])
  (.cond (.tmp 49) (.region [⟨(some 51), .mov (.tmp 5), none⟩,
    ⟨(some 52), .field 10 (.tmp 2), none⟩,
    ⟨(some 53), .load none (.tmp 52), none⟩,
    ⟨(some 54), .s2b (.tmp 53), none⟩,
    ⟨(some 55), .call (.const (.fn F.pen_Pen_Field [] [])) [(.tmp 51), (.tmp 54)], none⟩] [5]) (.skip)))))))))))))))
  (.seq (.region [⟨(some 56), .mov (.tmp 5), none⟩,
    ⟨(some 57), .call (.const (.fn F.pen_Pen_Bytes [] [])) [(.tmp 56)], none⟩,
    ⟨(some 4), .mov (.tmp 57), none⟩] [4])
  (.ret))))
def body_part : AFun := ⟨58, 2, [.tmp 4], body_part.body⟩
def field_All_1.b0 : ACode := .seq (.region [⟨(some 10), .bin .lss (.tmp 9) (.tmp 8), none⟩] [0, 2, 7, 8, 9, 10])
  (.seq (.cond (.tmp 10) (.skip) (.exit 0))
  (.seq (.block 1 (.seq (.region [⟨(some 11), .idx 7 none (.tmp 7) (.tmp 9), none⟩,
    ⟨(some 12), .load (some 7) (.tmp 11), none⟩,
    ⟨(some 5), .alloc T.field_Field [(.str ⟨#[]⟩), (.int .i64 0), (.int .i64 0), (.int .i64 0), (.int .i64 0), (.int .i64 0), (.int .i64 0)], none⟩,
    ⟨none, .store 7 (.tmp 5) (.tmp 12), none⟩] [0, 2, 5, 7, 8, 9])
  (.seq (.seq (.region [⟨(some 13), .field 5 (.tmp 5), none⟩,
    ⟨(some 14), .load none (.tmp 13), none⟩,
    ⟨(some 15), .load none (.tmp 2), none⟩,
    ⟨(some 16), .bin .gtr (.tmp 14) (.tmp 15), none⟩] [0, 2, 5, 7, 8, 9, 16])
  (.cond (.tmp 16) (.exit 1) (.skip)))
  (.seq (.region [⟨(some 17), .mov (.tmp 0), none⟩,
    ⟨(some 18), .load (some 7) (.tmp 5), none⟩,
    ⟨(some 19), .call (.tmp 17) [(.tmp 18)], none⟩,
    ⟨(some 20), .un .not (.tmp 19), none⟩] [0, 2, 7, 8, 9, 20])
  (.cond (.tmp 20) (.exit 0) (.skip))))))
  (.region [⟨(some 21), .bin .add (.tmp 9) (.const (.int .i64 1)), none⟩,
    ⟨(some 9), .mov (.tmp 21), none⟩] [0, 2, 7, 8, 9])))
def field_All_1.body : ACode := .scope (.seq (.skip)
  (.seq (.region [⟨(some 6), .load none (.tmp 1), none⟩,
    ⟨(some 7), .call (.const (.fn F.field_Of [] [])) [(.tmp 6)], none⟩,
    ⟨(some 8), .len .slice (.tmp 7), none⟩,
    ⟨(some 9), .mov (.const (.int .i64 0)), none⟩] [0, 2, 7, 8, 9])
  (.block 0 (.loop field_All_1.b0))))
def field_All_1 : AFun := ⟨22, 3, [], field_All_1.body⟩
def lens_Lens_Number.body : ACode := .seq (.region [⟨(some 3), .box T.uint64 (.tmp 1), none⟩,
    ⟨(some 4), .mov (.const (.int .u64 0)), none⟩] [0, 3])
  (.seq (.region [⟨(some 5), .alloc T.uint64 [(.int .u64 0)], none⟩,
    ⟨none, .store 1 (.tmp 5) (.const (.int .u64 0)), none⟩] [0, 3, 5])
  (.seq (.region [⟨(some 6), .mov (.tmp 0), none⟩,
    ⟨(some 7), .mkfn F.lens_Lens_Number_1 [] [(.tmp 3), (.tmp 5)], none⟩,
    ⟨(some 8), .call (.const (.fn F.lens_Lens_read [] [])) [(.tmp 6), (.tmp 7)], none⟩] [5])
  (.seq (.region [⟨(some 9), .load none (.tmp 5), none⟩,
    ⟨(some 4), .mov (.tmp 9), none⟩] [4])
  (.ret))))
def lens_Lens_Number : AFun := ⟨10, 2, [.tmp 4], lens_Lens_Number.body⟩
def body_reader_note.body : ACode := .seq (.region [⟨(some 6), .mov (.tmp 1), none⟩,
    ⟨(some 7), .mov (.tmp 6), none⟩,
    ⟨(some 8), .mov (.tmp 0), some (7, true)⟩,
    ⟨(some 9), .call (.const (.fn F.body_reader_err [] [])) [(.tmp 8)], some (7, true)⟩,
    ⟨(some 10), .bin .eql (.tmp 9) (.const (.int .i64 0)), some (7, true)⟩,
    ⟨(some 11), .pick (.tmp 7) (.tmp 10) (.const (.bool false)), none⟩] [0, 2, 11])
  (.cond (.tmp 11) (.region [⟨(some 12), .mov (.tmp 0), none⟩,
    ⟨(some 13), .mov (.tmp 2), none⟩,
    ⟨(some 14), .nilc (.tmp 12), none⟩,
    ⟨(some 15), .field 1 (.tmp 14), none⟩,
    ⟨none, .store 1 (.tmp 15) (.tmp 13), none⟩] []) (.skip))
def body_reader_note : AFun := ⟨16, 3, [], body_reader_note.body⟩
def lens_Lens_Signed.body : ACode := .seq (.region [⟨(some 4), .box T.int64 (.tmp 1), none⟩,
    ⟨(some 5), .box T.int64 (.tmp 2), none⟩,
    ⟨(some 6), .mov (.const (.int .i64 0)), none⟩] [0, 4, 5])
  (.seq (.region [⟨(some 7), .alloc T.int64 [(.int .i64 0)], none⟩,
    ⟨none, .store 1 (.tmp 7) (.const (.int .i64 0)), none⟩] [0, 4, 5, 7])
  (.seq (.region [⟨(some 8), .mov (.tmp 0), none⟩,
    ⟨(some 9), .mkfn F.lens_Lens_Signed_1 [] [(.tmp 4), (.tmp 5), (.tmp 7)], none⟩,
    ⟨(some 10), .call (.const (.fn F.lens_Lens_read [] [])) [(.tmp 8), (.tmp 9)], none⟩] [7])
  (.seq (.region [⟨(some 11), .load none (.tmp 7), none⟩,
    ⟨(some 6), .mov (.tmp 11), none⟩] [6])
  (.ret))))
def lens_Lens_Signed : AFun := ⟨12, 3, [.tmp 6], lens_Lens_Signed.body⟩
def body_reader_points.b0 : ACode := .seq (.region [⟨(some 10), .bin .lss (.tmp 9) (.tmp 8), none⟩] [1, 3, 4, 5, 8, 9, 10])
  (.seq (.cond (.tmp 10) (.skip) (.exit 0))
  (.seq (.block 1 (.seq (.region [⟨(some 11), .mov (.tmp 4), none⟩,
    ⟨(some 12), .field 0 (.tmp 5), none⟩,
    ⟨(some 13), .load none (.tmp 12), none⟩,
    ⟨(some 14), .call (.tmp 11) [(.tmp 13)], none⟩,
    ⟨(some 15), .field 0 (.tmp 5), none⟩,
    ⟨none, .store 1 (.tmp 15) (.tmp 14), none⟩] [1, 3, 4, 5, 8, 9])
  (.seq (.region [⟨(some 16), .mov (.tmp 4), none⟩,
    ⟨(some 17), .field 1 (.tmp 5), none⟩,
    ⟨(some 18), .load none (.tmp 17), none⟩,
    ⟨(some 19), .call (.tmp 16) [(.tmp 18)], none⟩,
    ⟨(some 20), .field 1 (.tmp 5), none⟩,
    ⟨none, .store 1 (.tmp 20) (.tmp 19), none⟩] [1, 3, 4, 5, 8, 9])
  (.seq (.seq (.region [⟨(some 21), .load none (.tmp 1), none⟩,
    ⟨(some 22), .call (.const (.fn F.body_reader_err [] [])) [(.tmp 21)], none⟩,
    ⟨(some 23), .bin .neq (.tmp 22) (.const (.int .i64 0)), none⟩] [1, 3, 4, 5, 8, 9, 23])
  (.cond (.tmp 23) (.exit 0) (.skip)))
  (.region [⟨(some 24), .mov (.tmp 3), none⟩,
    ⟨(some 25), .load (some 2) (.tmp 5), none⟩,
    ⟨(some 26), .lit T.msg_Point 2 1 [(.int .i64 0), (.int .i64 0)] [(0, 2, (.tmp 25))], none⟩,
    ⟨(some 27), .append T.msg_Point 2 16 (.tmp 24) (.tmp 26), none⟩,
    ⟨(some 3), .mov (.tmp 27), none⟩] [1, 3, 4, 5, 8, 9])))))
  (.region [⟨(some 28), .bin .add (.tmp 9) (.const (.int .i64 1)), none⟩,
    ⟨(some 9), .mov (.tmp 28), none⟩] [1, 3, 4, 5, 8, 9])))
def body_reader_points.body : ACode := .seq (.region [⟨(some 1), .box T.p_body_reader (.tmp 0), none⟩,
    ⟨(some 2), .mov (.const .nils), none⟩] [1])
  (.scope (.seq (.region [⟨(some 3), .mov (.const .nils), none⟩] [1, 3])
  (.seq (.region [⟨(some 6), .mkfn F.body_reader_points_1 [] [(.tmp 1)], none⟩,
    ⟨(some 4), .mov (.tmp 6), none⟩] [1, 3, 4])
  (.seq (.region [⟨(some 5), .alloc T.msg_Point [(.int .i64 0), (.int .i64 0)], none⟩] [1, 3, 4, 5])
  (.seq (.skip)
  (.seq (.seq (.region [⟨(some 7), .load none (.tmp 1), none⟩,
    ⟨(some 8), .call (.const (.fn F.body_reader_count [] [])) [(.tmp 7), (.const (.int .i64 16))], none⟩,
    ⟨(some 9), .mov (.const (.int .i64 0)), none⟩] [1, 3, 4, 5, 8, 9])
  (.block 0 (.loop body_reader_points.b0)))
  (.seq (.region [⟨(some 29), .mov (.tmp 3), none⟩,
    ⟨(some 2), .mov (.tmp 29), none⟩] [2])
  (.ret))))))))
def body_reader_points : AFun := ⟨30, 1, [.tmp 2], body_reader_points.body⟩
def body_reader_cells.b0 : ACode := .seq (.region [⟨(some 8), .bin .lss (.tmp 7) (.tmp 6), none⟩] [0, 3, 4, 6, 7, 8])
  (.seq (.cond (.tmp 8) (.skip) (.exit 0))
  (.seq (.block 1 (.seq (.region [⟨(some 9), .mov (.tmp 4), none⟩,
    ⟨(some 10), .mov (.tmp 0), none⟩,
    ⟨(some 11), .nilc (.tmp 10), none⟩,
    ⟨(some 12), .field 0 (.tmp 11), none⟩,
    ⟨(some 13), .load none (.tmp 12), none⟩,
    ⟨(some 14), .call (.const (.fn F.lens_Lens_Number [] [])) [(.tmp 13), (.const (.int .u64 65535))], none⟩,
    ⟨(some 15), .conv .i64 (.tmp 14), none⟩,
    ⟨(some 16), .bin .add (.tmp 15) (.const (.int .i64 1)), none⟩,
    ⟨(some 17), .bin .add (.tmp 9) (.tmp 16), none⟩,
    ⟨(some 4), .mov (.tmp 17), none⟩] [0, 3, 4, 6, 7])
  (.seq (.region [⟨(some 18), .mov (.tmp 0), none⟩,
    ⟨(some 19), .mov (.tmp 4), none⟩,
    ⟨(some 20), .bin .gtr (.tmp 19) (.const (.int .i64 65535)), none⟩,
    ⟨(some 21), .call (.const (.fn F.body_reader_note [] [])) [(.tmp 18), (.tmp 20), (.const (.int .i64 5))], none⟩] [0, 3, 4, 6, 7])
  (.seq (.seq (.region [⟨(some 22), .mov (.tmp 0), none⟩,
    ⟨(some 23), .call (.const (.fn F.body_reader_err [] [])) [(.tmp 22)], none⟩,
    ⟨(some 24), .bin .neq (.tmp 23) (.const (.int .i64 0)), none⟩] [0, 3, 4, 6, 7, 24])
  (.cond (.tmp 24) (.exit 0) (.skip)))
  (.region [⟨(some 25), .mov (.tmp 3), none⟩,
    ⟨(some 26), .mov (.tmp 4), none⟩,
    ⟨(some 27), .lit T.int 1 1 [(.int .i64 0)] [(0, 1, (.tmp 26))], none⟩,
    ⟨(some 28), .append T.int 1 8 (.tmp 25) (.tmp 27), none⟩,
    ⟨(some 3), .mov (.tmp 28), none⟩] [0, 3, 4, 6, 7])))))
  (.region [⟨(some 29), .bin .add (.tmp 7) (.const (.int .i64 1)), none⟩,
    ⟨(some 7), .mov (.tmp 29), none⟩] [0, 3, 4, 6, 7])))
def body_reader_cells.body : ACode := .seq (.region [⟨(some 2), .mov (.const .nils), none⟩] [0])
  (.scope (.seq (.region [⟨(some 3), .mov (.const .nils), none⟩] [0, 3])
  (.seq (.region [⟨(some 4), .mov (.const (.int .i64 (-1))), none⟩] [0, 3, 4])
  (.seq (.skip)
  (.seq (.seq (.region [⟨(some 5), .mov (.tmp 0), none⟩,
    ⟨(some 6), .call (.const (.fn F.body_reader_count [] [])) [(.tmp 5), (.const (.int .i64 32))], none⟩,
    ⟨(some 7), .mov (.const (.int .i64 0)), none⟩] [0, 3, 4, 6, 7])
  (.block 0 (.loop body_reader_cells.b0)))
  (.seq (.region [⟨(some 30), .mov (.tmp 3), none⟩,
    ⟨(some 2), .mov (.tmp 30), none⟩] [2])
  (.ret)))))))
def body_reader_cells : AFun := ⟨31, 1, [.tmp 2], body_reader_cells.body⟩
def body_reader_text.b0 : ACode := .seq (.region [⟨(some 17), .bin .lss (.tmp 16) (.tmp 15), none⟩] [0, 5, 14, 15, 16, 17])
  (.seq (.cond (.tmp 17) (.skip) (.exit 0))
  (.seq (.block 1 (.seq (.region [⟨(some 18), .idx 1 none (.tmp 14) (.tmp 16), none⟩,
    ⟨(some 19), .load none (.tmp 18), none⟩,
    ⟨(some 7), .mov (.tmp 19), none⟩] [0, 5, 7, 14, 15, 16])
  (.region [⟨(some 20), .mov (.tmp 0), none⟩,
    ⟨(some 21), .mov (.tmp 7), none⟩,
    ⟨(some 22), .bin .lss (.tmp 21) (.const (.int .u8 32)), none⟩,
    ⟨(some 23), .mov (.tmp 22), none⟩,
    ⟨(some 24), .mov (.tmp 7), some (23, false)⟩,
    ⟨(some 25), .bin .gtr (.tmp 24) (.const (.int .u8 126)), some (23, false)⟩,
    ⟨(some 26), .pick (.tmp 23) (.const (.bool true)) (.tmp 25), none⟩,
    ⟨(some 27), .call (.const (.fn F.body_reader_note [] [])) [(.tmp 20), (.tmp 26), (.const (.int .i64 19))], none⟩] [0, 5, 14, 15, 16])))
  (.region [⟨(some 28), .bin .add (.tmp 16) (.const (.int .i64 1)), none⟩,
    ⟨(some 16), .mov (.tmp 28), none⟩] [0, 5, 14, 15, 16])))
def body_reader_text.body : ACode := .seq (.region [⟨(some 4), .mov (.const (.str ⟨#[]⟩)), none⟩] [0, 1])
  (.seq (.region [⟨(some 8), .mov (.tmp 0), none⟩,
    ⟨(some 9), .nilc (.tmp 8), none⟩,
    ⟨(some 10), .field 0 (.tmp 9), none⟩,
    ⟨(some 11), .load none (.tmp 10), none⟩,
    ⟨(some 12), .mov (.tmp 1), none⟩,
    ⟨(some 13), .call (.const (.fn F.lens_Lens_Field [] [])) [(.tmp 11), (.tmp 12)], none⟩,
    ⟨(some 5), .mov (.tmp 13), none⟩] [0, 5])
  (.seq (.seq (.region [⟨(some 14), .mov (.tmp 5), none⟩,
    ⟨(some 15), .len .slice (.tmp 14), none⟩,
    ⟨(some 16), .mov (.const (.int .i64 0)), none⟩] [0, 5, 14, 15, 16])
  (.block 0 (.loop body_reader_text.b0)))
  (.seq (.region [⟨(some 29), .mov (.tmp 5), none⟩,
    ⟨(some 30), .b2s (.tmp 29), none⟩,
    ⟨(some 4), .mov (.tmp 30), none⟩] [4])
  (.ret))))
def body_reader_text : AFun := ⟨31, 2, [.tmp 4], body_reader_text.body⟩
def lens_Lens_Err.body : ACode := .seq (.region [⟨(some 2), .mov (.const (.int .i64 0)), none⟩] [0])
  (.seq (.seq (.region [⟨(some 3), .mov (.tmp 0), none⟩,
    ⟨(some 4), .eq false .ptr (.tmp 3) (.const .nilp), none⟩] [0, 4])
  (.cond (.tmp 4) (.seq (.region [⟨(some 2), .mov (.const (.int .i64 1)), none⟩] [2])
  (.ret)) (.skip)))
  (.seq (.region [⟨(some 5), .mov (.tmp 0), none⟩,
    ⟨(some 6), .nilc (.tmp 5), none⟩,
    ⟨(some 7), .field 2 (.tmp 6), none⟩,
    ⟨(some 8), .load none (.tmp 7), none⟩,
    ⟨(some 2), .mov (.tmp 8), none⟩] [2])
  (.ret)))
def lens_Lens_Err : AFun := ⟨9, 1, [.tmp 2], lens_Lens_Err.body⟩
def lens_Lens_Left.body : ACode := .seq (.region [⟨(some 2), .mov (.const (.int .i64 0)), none⟩] [0])
  (.seq (.seq (.region [⟨(some 3), .mov (.tmp 0), none⟩,
    ⟨(some 4), .eq false .ptr (.tmp 3) (.const .nilp), none⟩] [0, 4])
  (.cond (.tmp 4) (.seq (.region [⟨(some 2), .mov (.const (.int .i64 0)), none⟩] [2])
  (.ret)) (.skip)))
  (.seq (.region [⟨(some 5), .mov (.tmp 0), none⟩,
    ⟨(some 6), .call (.const (.fn F.lens_Lens_left [] [])) [(.tmp 5)], none⟩,
    ⟨(some 7), .len .slice (.tmp 6), none⟩,
    ⟨(some 2), .mov (.tmp 7), none⟩] [2])
  (.ret)))
def lens_Lens_Left : AFun := ⟨8, 1, [.tmp 2], lens_Lens_Left.body⟩
def cuneiformref01_Get.b0 : ACode := .seq (.seq (.region [⟨(some 11), .mov (.tmp 7), none⟩,
    ⟨(some 12), .mov (.tmp 0), none⟩,
    ⟨(some 13), .len .slice (.tmp 12), none⟩,
    ⟨(some 14), .bin .lss (.tmp 11) (.tmp 13), none⟩,
    ⟨(some 15), .mov (.tmp 14), none⟩,
    ⟨(some 16), .mov (.tmp 7), some (15, true)⟩,
    ⟨(some 17), .mov (.tmp 1), some (15, true)⟩,
    ⟨(some 18), .bin .sub (.tmp 16) (.tmp 17), some (15, true)⟩,
    ⟨(some 19), .bin .lss (.tmp 18) (.const (.int .i64 10)), some (15, true)⟩,
    ⟨(some 20), .pick (.tmp 15) (.tmp 19) (.const (.bool false)), none⟩,
    ⟨(some 21), .mov (.tmp 20), none⟩,
    ⟨(some 22), .mov (.tmp 0), some (21, true)⟩,
    ⟨(some 23), .mov (.tmp 7), some (21, true)⟩,
    ⟨(some 24), .idx 1 none (.tmp 22) (.tmp 23), some (21, true)⟩,
    ⟨(some 25), .load none (.tmp 24), some (21, true)⟩,
    ⟨(some 26), .bin .gtr (.tmp 25) (.const (.int .u8 127)), some (21, true)⟩,
    ⟨(some 27), .pick (.tmp 21) (.tmp 26) (.const (.bool false)), none⟩] [0, 1, 7, 27])
  (.cond (.tmp 27) (.skip) (.exit 0)))
  (.block 1 (.region [⟨(some 28), .mov (.tmp 7), none⟩,
    ⟨(some 29), .bin .add (.tmp 28) (.const (.int .i64 1)), none⟩,
    ⟨(some 7), .mov (.tmp 29), none⟩] [0, 1, 7]))
def cuneiformref01_Get.b1 : ACode := .seq (.seq (.region [⟨(some 41), .mov (.tmp 9), none⟩,
    ⟨(some 42), .mov (.tmp 1), none⟩,
    ⟨(some 43), .bin .geq (.tmp 41) (.tmp 42), none⟩] [0, 1, 7, 8, 9, 43])
  (.cond (.tmp 43) (.skip) (.exit 2)))
  (.seq (.block 3 (.seq (.seq (.region [⟨(some 46), .mov (.tmp 8), none⟩,
    ⟨(some 47), .bin .gtr (.tmp 46) (.const (.int .u64 144115188075855871)), none⟩] [0, 1, 7, 8, 9, 47])
  (.cond (.tmp 47) (.seq (.region [⟨(some 48), .mov (.tmp 1), none⟩,
    ⟨(some 4), .mov (.const (.int .u64 0)), none⟩,
    ⟨(some 5), .mov (.tmp 48), none⟩,
    ⟨(some 6), .mov (.const (.int .i64 3)), none⟩] [4, 5, 6])
  (.ret)) (.skip)))
  (.region [⟨(some 49), .mov (.tmp 8), none⟩,
    ⟨(some 50), .bin .mul (.tmp 49) (.const (.int .u64 128)), none⟩,
    ⟨(some 51), .mov (.tmp 0), none⟩,
    ⟨(some 52), .mov (.tmp 9), none⟩,
    ⟨(some 53), .idx 1 none (.tmp 51) (.tmp 52), none⟩,
    ⟨(some 54), .load none (.tmp 53), none⟩,
    ⟨(some 55), .bin .rem (.tmp 54) (.const (.int .u8 128)), none⟩,
    ⟨(some 56), .conv .u64 (.tmp 55), none⟩,
    ⟨(some 57), .bin .add (.tmp 50) (.tmp 56), none⟩,
    ⟨(some 8), .mov (.tmp 57), none⟩] [0, 1, 7, 8, 9])))
  (.region [⟨(some 44), .mov (.tmp 9), none⟩,
    ⟨(some 45), .bin .sub (.tmp 44) (.const (.int .i64 1)), none⟩,
    ⟨(some 9), .mov (.tmp 45), none⟩] [0, 1, 7, 8, 9]))
def cuneiformref01_Get.body : ACode := .seq (.region [⟨(some 4), .mov (.const (.int .u64 0)), none⟩,
    ⟨(some 5), .mov (.const (.int .i64 0)), none⟩,
    ⟨(some 6), .mov (.const (.int .i64 0)), none⟩] [0, 1])
  (.seq (.region [⟨(some 10), .mov (.tmp 1), none⟩,
    ⟨(some 7), .mov (.tmp 10), none⟩] [0, 1, 7])
  (.seq (.block 0 (.loop cuneiformref01_Get.b0))
  (.seq (.seq (.region [⟨(some 30), .mov (.tmp 7), none⟩,
    ⟨(some 31), .mov (.tmp 1), none⟩,
    ⟨(some 32), .bin .sub (.tmp 30) (.tmp 31), none⟩,
    ⟨(some 33), .bin .eql (.tmp 32) (.const (.int .i64 10)), none⟩] [0, 1, 7, 33])
  (.cond (.tmp 33) (.seq (.region [⟨(some 34), .mov (.tmp 1), none⟩,
    ⟨(some 4), .mov (.const (.int .u64 0)), none⟩,
    ⟨(some 5), .mov (.tmp 34), none⟩,
    ⟨(some 6), .mov (.const (.int .i64 3)), none⟩] [4, 5, 6])
  (.ret)) (.skip)))
  (.seq (.seq (.region [⟨(some 35), .mov (.tmp 7), none⟩,
    ⟨(some 36), .mov (.tmp 0), none⟩,
    ⟨(some 37), .len .slice (.tmp 36), none⟩,
    ⟨(some 38), .bin .geq (.tmp 35) (.tmp 37), none⟩] [0, 1, 7, 38])
  (.cond (.tmp 38) (.seq (.region [⟨(some 39), .mov (.tmp 1), none⟩,
    ⟨(some 4), .mov (.const (.int .u64 0)), none⟩,
    ⟨(some 5), .mov (.tmp 39), none⟩,
    ⟨(some 6), .mov (.const (.int .i64 4)), none⟩] [4, 5, 6])
  (.ret)) (.skip)))
  (.seq (.region [⟨(some 8), .mov (.const (.int .u64 0)), none⟩] [0, 1, 7, 8])
  (.seq (.seq (.region [⟨(some 40), .mov (.tmp 7), none⟩,
    ⟨(some 9), .mov (.tmp 40), none⟩] [0, 1, 7, 8, 9])
  (.block 2 (.loop cuneiformref01_Get.b1)))
  (.seq (.seq (.region [⟨(some 58), .mov (.tmp 7), none⟩,
    ⟨(some 59), .mov (.tmp 1), none⟩,
    ⟨(some 60), .bin .gtr (.tmp 58) (.tmp 59), none⟩,
    ⟨(some 61), .mov (.tmp 60), none⟩,
    ⟨(some 62), .mov (.tmp 0), some (61, true)⟩,
    ⟨(some 63), .mov (.tmp 7), some (61, true)⟩,
    ⟨(some 64), .idx 1 none (.tmp 62) (.tmp 63), some (61, true)⟩,
    ⟨(some 65), .load none (.tmp 64), some (61, true)⟩,
    ⟨(some 66), .bin .eql (.tmp 65) (.const (.int .u8 0)), some (61, true)⟩,
    ⟨(some 67), .pick (.tmp 61) (.tmp 66) (.const (.bool false)), none⟩] [1, 7, 8, 67])
  (.cond (.tmp 67) (.seq (.region [⟨(some 68), .mov (.tmp 1), none⟩,
    ⟨(some 4), .mov (.const (.int .u64 0)), none⟩,
    ⟨(some 5), .mov (.tmp 68), none⟩,
    ⟨(some 6), .mov (.const (.int .i64 3)), none⟩] [4, 5, 6])
  (.ret)) (.skip)))
  (.seq (.region [⟨(some 69), .mov (.tmp 8), none⟩,
    ⟨(some 70), .mov (.tmp 7), none⟩,
    ⟨(some 71), .bin .add (.tmp 70) (.const (.int .i64 1)), none⟩,
    ⟨(some 4), .mov (.tmp 69), none⟩,
    ⟨(some 5), .mov (.tmp 71), none⟩,
    ⟨(some 6), .mov (.const (.int .i64 0)), none⟩] [4, 5, 6])
  (.ret)))))))))
def cuneiformref01_Get : AFun := ⟨72, 2, [.tmp 4, .tmp 5, .tmp 6], cuneiformref01_Get.body⟩
def cuneiformref18_far.body : ACode := .seq (.region [⟨(some 2), .mov (.const (.bool false)), none⟩] [0])
  (.seq (.region [⟨(some 3), .mov (.tmp 0), none⟩,
    ⟨(some 4), .bin .lss (.tmp 3) (.const (.int .i64 (-1000000))), none⟩,
    ⟨(some 5), .mov (.tmp 4), none⟩,
    ⟨(some 6), .mov (.tmp 0), some (5, false)⟩,
    ⟨(some 7), .bin .gtr (.tmp 6) (.const (.int .i64 1000000)), some (5, false)⟩,
    ⟨(some 8), .pick (.tmp 5) (.const (.bool true)) (.tmp 7), none⟩,
    ⟨(some 2), .mov (.tmp 8), none⟩] [2])
  (.ret))
def cuneiformref18_far : AFun := ⟨9, 1, [.tmp 2], cuneiformref18_far.body⟩
def cuneiformref01_Zag.body : ACode := .seq (.region [⟨(some 2), .mov (.const (.int .i64 0)), none⟩] [0])
  (.seq (.seq (.region [⟨(some 3), .mov (.tmp 0), none⟩,
    ⟨(some 4), .bin .rem (.tmp 3) (.const (.int .u64 2)), none⟩,
    ⟨(some 5), .bin .eql (.tmp 4) (.const (.int .u64 1)), none⟩] [0, 5])
  (.cond (.tmp 5) (.seq (.region [⟨(some 6), .mov (.tmp 0), none⟩,
    ⟨(some 7), .bin .quo (.tmp 6) (.const (.int .u64 2)), none⟩,
    ⟨(some 8), .conv .i64 (.tmp 7), none⟩,
    ⟨(some 9), .un .neg (.tmp 8), none⟩,
    ⟨(some 10), .bin .sub (.tmp 9) (.const (.int .i64 1)), none⟩,
    ⟨(some 2), .mov (.tmp 10), none⟩] [2])
  (.ret)) (.skip)))
  (.seq (.region [⟨(some 11), .mov (.tmp 0), none⟩,
    ⟨(some 12), .bin .quo (.tmp 11) (.const (.int .u64 2)), none⟩,
    ⟨(some 13), .conv .i64 (.tmp 12), none⟩,
    ⟨(some 2), .mov (.tmp 13), none⟩] [2])
  (.ret)))
def cuneiformref01_Zag : AFun := ⟨14, 1, [.tmp 2], cuneiformref01_Zag.body⟩
def cuneiformref18_path.b0 : ACode := .seq (.seq (.region [⟨(some 24), .mov (.tmp 13), none⟩,
    ⟨(some 25), .bin .lss (.tmp 24) (.const (.int .i64 2)), none⟩] [1, 2, 3, 4, 8, 11, 12, 13, 25])
  (.cond (.tmp 25) (.skip) (.exit 2)))
  (.seq (.block 3 (.seq (.region [⟨(some 29), .mov (.tmp 2), none⟩,
    ⟨(some 30), .mov (.tmp 3), none⟩,
    ⟨(some 31), .call (.const (.fn F.cuneiformref01_Get [] [])) [(.tmp 29), (.tmp 30)], none⟩,
    ⟨(some 28), .mov (.tmp 31), none⟩,
    ⟨(some 32), .extract (.tmp 28) 0, none⟩,
    ⟨(some 33), .extract (.tmp 28) 1, none⟩,
    ⟨(some 34), .extract (.tmp 28) 2, none⟩,
    ⟨(some 14), .mov (.tmp 32), none⟩,
    ⟨(some 15), .mov (.tmp 33), none⟩,
    ⟨(some 16), .mov (.tmp 34), none⟩] [1, 2, 3, 4, 8, 11, 12, 13, 14, 15, 16])
  (.seq (.seq (.region [⟨(some 35), .mov (.tmp 16), none⟩,
    ⟨(some 36), .bin .neq (.tmp 35) (.const (.int .i64 0)), none⟩] [1, 2, 3, 4, 8, 11, 12, 13, 14, 15, 16, 36])
  (.cond (.tmp 36) (.seq (.region [⟨(some 37), .load (some 11) (.tmp 4), none⟩,
    ⟨(some 38), .mov (.tmp 3), none⟩,
    ⟨(some 39), .mov (.tmp 16), none⟩,
    ⟨none, .store 11 (.tmp 8) (.tmp 37), none⟩,
    ⟨(some 9), .mov (.tmp 38), none⟩,
    ⟨(some 10), .mov (.tmp 39), none⟩] [8, 9, 10])
  (.ret)) (.skip)))
  (.seq (.region [⟨(some 40), .mov (.tmp 14), none⟩,
    ⟨(some 41), .call (.const (.fn F.cuneiformref01_Zag [] [])) [(.tmp 40)], none⟩,
    ⟨(some 17), .mov (.tmp 41), none⟩] [1, 2, 3, 4, 8, 11, 12, 13, 15, 17])
  (.seq (.seq (.region [⟨(some 42), .mov (.tmp 17), none⟩,
    ⟨(some 43), .bin .lss (.tmp 42) (.const (.int .i64 (-2000000))), none⟩,
    ⟨(some 44), .mov (.tmp 43), none⟩,
    ⟨(some 45), .mov (.tmp 17), some (44, false)⟩,
    ⟨(some 46), .bin .gtr (.tmp 45) (.const (.int .i64 2000000)), some (44, false)⟩,
    ⟨(some 47), .pick (.tmp 44) (.const (.bool true)) (.tmp 46), none⟩,
    ⟨(some 48), .mov (.tmp 47), none⟩,
    ⟨(some 49), .mov (.tmp 13), some (48, false)⟩,
    ⟨(some 50), .idx 1 (some 2) (.tmp 11) (.tmp 49), some (48, false)⟩,
    ⟨(some 51), .load none (.tmp 50), some (48, false)⟩,
    ⟨(some 52), .mov (.tmp 17), some (48, false)⟩,
    ⟨(some 53), .bin .add (.tmp 51) (.tmp 52), some (48, false)⟩,
    ⟨(some 54), .call (.const (.fn F.cuneiformref18_far [] [])) [(.tmp 53)], some (48, false)⟩,
    ⟨(some 55), .pick (.tmp 48) (.const (.bool true)) (.tmp 54), none⟩] [1, 2, 3, 4, 8, 11, 12, 13, 15, 17, 55])
  (.cond (.tmp 55) (.seq (.region [⟨(some 56), .load (some 11) (.tmp 4), none⟩,
    ⟨(some 57), .mov (.tmp 3), none⟩,
    ⟨none, .store 11 (.tmp 8) (.tmp 56), none⟩,
    ⟨(some 9), .mov (.tmp 57), none⟩,
    ⟨(some 10), .mov (.const (.int .i64 5)), none⟩] [8, 9, 10])
  (.ret)) (.skip)))
  (.seq (.region [⟨(some 58), .mov (.tmp 13), none⟩,
    ⟨(some 59), .mov (.tmp 13), none⟩,
    ⟨(some 60), .idx 1 (some 2) (.tmp 11) (.tmp 59), none⟩,
    ⟨(some 61), .load none (.tmp 60), none⟩,
    ⟨(some 62), .mov (.tmp 17), none⟩,
    ⟨(some 63), .bin .add (.tmp 61) (.tmp 62), none⟩,
    ⟨(some 64), .idx 1 (some 2) (.tmp 11) (.tmp 58), none⟩,
    ⟨none, .store 1 (.tmp 64) (.tmp 63), none⟩] [1, 2, 4, 8, 11, 12, 13, 15])
  (.region [⟨(some 65), .mov (.tmp 15), none⟩,
    ⟨(some 3), .mov (.tmp 65), none⟩] [1, 2, 3, 4, 8, 11, 12, 13])))))))
  (.region [⟨(some 26), .mov (.tmp 13), none⟩,
    ⟨(some 27), .bin .add (.tmp 26) (.const (.int .i64 1)), none⟩,
    ⟨(some 13), .mov (.tmp 27), none⟩] [1, 2, 3, 4, 8, 11, 12, 13]))
def cuneiformref18_path.d1 : List AOper := [⟨(some 66), .lit T.n2_int 2 0 [] [], none⟩,
    ⟨(some 67), .field 7 (.tmp 4), none⟩,
    ⟨(some 68), .load none (.tmp 67), none⟩,
    ⟨(some 69), .append T.n2_int 2 16 (.tmp 66) (.tmp 68), none⟩,
    ⟨(some 70), .load (some 2) (.tmp 11), none⟩,
    ⟨(some 71), .lit T.n2_int 2 1 [(.int .i64 0), (.int .i64 0)] [(0, 2, (.tmp 70))], none⟩,
    ⟨(some 72), .append T.n2_int 2 16 (.tmp 69) (.tmp 71), none⟩,
    ⟨(some 73), .field 7 (.tmp 4), none⟩,
    ⟨none, .store 1 (.tmp 73) (.tmp 72), none⟩]
def cuneiformref18_path.d1b : List (List Nat) := [[], [], [1], [0, 1, 2], [], [4], [0, 1, 2, 3, 4, 5], [0, 1, 2, 3, 4, 5, 6], [0, 1, 2, 3, 4, 5, 6, 7]]
def cuneiformref18_path.b2 : ACode := .seq (.seq (.region [⟨(some 19), .mov (.tmp 12), none⟩,
    ⟨(some 20), .mov (.tmp 1), none⟩,
    ⟨(some 21), .bin .lss (.tmp 19) (.tmp 20), none⟩] [1, 2, 3, 4, 8, 11, 12, 21])
  (.cond (.tmp 21) (.skip) (.exit 0)))
  (.seq (.block 1 (.seq (.seq (.region [⟨(some 13), .mov (.const (.int .i64 0)), none⟩] [1, 2, 3, 4, 8, 11, 12, 13])
  (.block 2 (.loop cuneiformref18_path.b0)))
  (.draw cuneiformref18_path.d1 cuneiformref18_path.d1b [[1, 2, 4, 0, 3, 5, 6, 7, 8], [1, 2, 4, 0, 5, 3, 6, 7, 8], [1, 2, 4, 5, 0, 3, 6, 7, 8]] [(0, 2), (0, 4), (3, 4), (5, 2)] [1, 2, 3, 4, 8, 11, 12])))
  (.region [⟨(some 22), .mov (.tmp 12), none⟩,
    ⟨(some 23), .bin .add (.tmp 22) (.const (.int .i64 1)), none⟩,
    ⟨(some 12), .mov (.tmp 23), none⟩] [1, 2, 3, 4, 8, 11, 12]))
def cuneiformref18_path.body : ACode := .seq (.region [⟨(some 4), .box T.cuneiformref17_M (.tmp 0), none⟩,
    ⟨(some 8), .alloc T.cuneiformref17_M [(.int .i64 0), (.int .i64 0), (.int .i64 0), (.int .i64 0), (.int .i64 0), (.int .i64 0), (.int .i64 0), .nils, .nils, (.str ⟨#[]⟩), (.str ⟨#[]⟩)], none⟩,
    ⟨(some 9), .mov (.const (.int .i64 0)), none⟩,
    ⟨(some 10), .mov (.const (.int .i64 0)), none⟩] [1, 2, 3, 4, 8])
  (.seq (.region [⟨(some 18), .build [(.int .i64 0), (.int .i64 0)] [], none⟩,
    ⟨(some 11), .alloc T.n2_int [(.int .i64 0), (.int .i64 0)], none⟩,
    ⟨none, .store 2 (.tmp 11) (.tmp 18), none⟩] [1, 2, 3, 4, 8, 11])
  (.seq (.seq (.region [⟨(some 12), .mov (.const (.int .i64 0)), none⟩] [1, 2, 3, 4, 8, 11, 12])
  (.block 0 (.loop cuneiformref18_path.b2)))
  (.seq (.region [⟨(some 74), .load (some 11) (.tmp 4), none⟩,
    ⟨(some 75), .mov (.tmp 3), none⟩,
    ⟨none, .store 11 (.tmp 8) (.tmp 74), none⟩,
    ⟨(some 9), .mov (.tmp 75), none⟩,
    ⟨(some 10), .mov (.const (.int .i64 0)), none⟩] [8, 9, 10])
  (.ret))))
def cuneiformref18_path : AFun := ⟨76, 4, [.cell 8 (some 11), .tmp 9, .tmp 10], cuneiformref18_path.body⟩
def cuneiformref18_cells.b0 : ACode := .seq (.seq (.region [⟨(some 16), .mov (.tmp 12), none⟩,
    ⟨(some 17), .mov (.tmp 1), none⟩,
    ⟨(some 18), .bin .lss (.tmp 16) (.tmp 17), none⟩] [1, 2, 3, 4, 8, 11, 12, 18])
  (.cond (.tmp 18) (.skip) (.exit 0)))
  (.seq (.block 1 (.seq (.region [⟨(some 22), .mov (.tmp 2), none⟩,
    ⟨(some 23), .mov (.tmp 3), none⟩,
    ⟨(some 24), .call (.const (.fn F.cuneiformref01_Get [] [])) [(.tmp 22), (.tmp 23)], none⟩,
    ⟨(some 21), .mov (.tmp 24), none⟩,
    ⟨(some 25), .extract (.tmp 21) 0, none⟩,
    ⟨(some 26), .extract (.tmp 21) 1, none⟩,
    ⟨(some 27), .extract (.tmp 21) 2, none⟩,
    ⟨(some 13), .mov (.tmp 25), none⟩,
    ⟨(some 14), .mov (.tmp 26), none⟩,
    ⟨(some 15), .mov (.tmp 27), none⟩] [1, 2, 3, 4, 8, 11, 12, 13, 14, 15])
  (.seq (.seq (.region [⟨(some 28), .mov (.tmp 15), none⟩,
    ⟨(some 29), .bin .neq (.tmp 28) (.const (.int .i64 0)), none⟩] [1, 2, 3, 4, 8, 11, 12, 13, 14, 15, 29])
  (.cond (.tmp 29) (.seq (.region [⟨(some 30), .load (some 11) (.tmp 4), none⟩,
    ⟨(some 31), .mov (.tmp 3), none⟩,
    ⟨(some 32), .mov (.tmp 15), none⟩,
    ⟨none, .store 11 (.tmp 8) (.tmp 30), none⟩,
    ⟨(some 9), .mov (.tmp 31), none⟩,
    ⟨(some 10), .mov (.tmp 32), none⟩] [8, 9, 10])
  (.ret)) (.skip)))
  (.seq (.seq (.region [⟨(some 33), .mov (.tmp 13), none⟩,
    ⟨(some 34), .bin .gtr (.tmp 33) (.const (.int .u64 65535)), none⟩,
    ⟨(some 35), .mov (.tmp 34), none⟩,
    ⟨(some 36), .mov (.tmp 11), some (35, false)⟩,
    ⟨(some 37), .bin .add (.tmp 36) (.const (.int .i64 1)), some (35, false)⟩,
    ⟨(some 38), .mov (.tmp 13), some (35, false)⟩,
    ⟨(some 39), .conv .i64 (.tmp 38), some (35, false)⟩,
    ⟨(some 40), .bin .add (.tmp 37) (.tmp 39), some (35, false)⟩,
    ⟨(some 41), .bin .gtr (.tmp 40) (.const (.int .i64 65535)), some (35, false)⟩,
    ⟨(some 42), .pick (.tmp 35) (.const (.bool true)) (.tmp 41), none⟩] [1, 2, 3, 4, 8, 11, 12, 13, 14, 42])
  (.cond (.tmp 42) (.seq (.region [⟨(some 43), .load (some 11) (.tmp 4), none⟩,
    ⟨(some 44), .mov (.tmp 3), none⟩,
    ⟨none, .store 11 (.tmp 8) (.tmp 43), none⟩,
    ⟨(some 9), .mov (.tmp 44), none⟩,
    ⟨(some 10), .mov (.const (.int .i64 5)), none⟩] [8, 9, 10])
  (.ret)) (.skip)))
  (.seq (.region [⟨(some 45), .mov (.tmp 11), none⟩,
    ⟨(some 46), .bin .add (.tmp 45) (.const (.int .i64 1)), none⟩,
    ⟨(some 47), .mov (.tmp 13), none⟩,
    ⟨(some 48), .conv .i64 (.tmp 47), none⟩,
    ⟨(some 49), .bin .add (.tmp 46) (.tmp 48), none⟩,
    ⟨(some 11), .mov (.tmp 49), none⟩] [1, 2, 4, 8, 11, 12, 14])
  (.seq (.region [⟨(some 50), .mov (.tmp 14), none⟩,
    ⟨(some 3), .mov (.tmp 50), none⟩] [1, 2, 3, 4, 8, 11, 12])
  (.region [⟨(some 51), .lit T.int 1 0 [] [], none⟩,
    ⟨(some 52), .field 8 (.tmp 4), none⟩,
    ⟨(some 53), .load none (.tmp 52), none⟩,
    ⟨(some 54), .append T.int 1 8 (.tmp 51) (.tmp 53), none⟩,
    ⟨(some 55), .mov (.tmp 11), none⟩,
    ⟨(some 56), .lit T.int 1 1 [(.int .i64 0)] [(0, 1, (.tmp 55))], none⟩,
    ⟨(some 57), .append T.int 1 8 (.tmp 54) (.tmp 56), none⟩,
    ⟨(some 58), .field 8 (.tmp 4), none⟩,
    ⟨none, .store 1 (.tmp 58) (.tmp 57), none⟩] [1, 2, 3, 4, 8, 11, 12])))))))
  (.region [⟨(some 19), .mov (.tmp 12), none⟩,
    ⟨(some 20), .bin .add (.tmp 19) (.const (.int .i64 1)), none⟩,
    ⟨(some 12), .mov (.tmp 20), none⟩] [1, 2, 3, 4, 8, 11, 12]))
def cuneiformref18_cells.body : ACode := .seq (.region [⟨(some 4), .box T.cuneiformref17_M (.tmp 0), none⟩,
    ⟨(some 8), .alloc T.cuneiformref17_M [(.int .i64 0), (.int .i64 0), (.int .i64 0), (.int .i64 0), (.int .i64 0), (.int .i64 0), (.int .i64 0), .nils, .nils, (.str ⟨#[]⟩), (.str ⟨#[]⟩)], none⟩,
    ⟨(some 9), .mov (.const (.int .i64 0)), none⟩,
    ⟨(some 10), .mov (.const (.int .i64 0)), none⟩] [1, 2, 3, 4, 8])
  (.seq (.region [⟨(some 11), .mov (.const (.int .i64 (-1))), none⟩] [1, 2, 3, 4, 8, 11])
  (.seq (.seq (.region [⟨(some 12), .mov (.const (.int .i64 0)), none⟩] [1, 2, 3, 4, 8, 11, 12])
  (.block 0 (.loop cuneiformref18_cells.b0)))
  (.seq (.region [⟨(some 59), .load (some 11) (.tmp 4), none⟩,
    ⟨(some 60), .mov (.tmp 3), none⟩,
    ⟨none, .store 11 (.tmp 8) (.tmp 59), none⟩,
    ⟨(some 9), .mov (.tmp 60), none⟩,
    ⟨(some 10), .mov (.const (.int .i64 0)), none⟩] [8, 9, 10])
  (.ret))))
def cuneiformref18_cells : AFun := ⟨61, 4, [.cell 8 (some 11), .tmp 9, .tmp 10], cuneiformref18_cells.body⟩
def field_robot.body : ACode := .seq (.region [⟨(some 0), .alloc T.field_Field [(.str ⟨#[]⟩), (.int .i64 0), (.int .i64 0), (.int .i64 0), (.int .i64 0), (.int .i64 0), (.int .i64 0)], none⟩] [0])
  (.seq (.region [⟨(some 1), .build [(.str ⟨#[]⟩), (.int .i64 0), (.int .i64 0), (.int .i64 0), (.int .i64 0), (.int .i64 0), (.int .i64 0)] [(0, 1, (.const (.str ⟨#[114, 111, 98, 111, 116]⟩))), (1, 1, (.const (.int .i64 1))), (2, 1, (.const (.int .i64 0))), (3, 1, (.const (.int .i64 0))), (4, 1, (.const (.int .i64 65535))), (5, 1, (.const (.int .i64 1))), (6, 1, (.const (.int .i64 0)))], none⟩,
    ⟨none, .store 7 (.tmp 0) (.tmp 1), none⟩] [0])
  (.ret))
def field_robot : AFun := ⟨2, 0, [.cell 0 (some 7)], field_robot.body⟩
def msg_path.b0 : ACode := .seq (.region [⟨(some 18), .bin .lss (.tmp 17) (.tmp 16), none⟩] [15, 16, 17, 18])
  (.seq (.cond (.tmp 18) (.skip) (.exit 0))
  (.seq (.block 1 (.seq (.region [⟨(some 19), .idx 2 none (.tmp 15) (.tmp 17), none⟩,
    ⟨(some 20), .load (some 2) (.tmp 19), none⟩,
    ⟨(some 7), .alloc T.msg_Point [(.int .i64 0), (.int .i64 0)], none⟩,
    ⟨none, .store 2 (.tmp 7) (.tmp 20), none⟩] [7, 15, 16, 17])
  (.seq (.region [⟨(some 21), .field 0 (.tmp 7), none⟩,
    ⟨(some 22), .load none (.tmp 21), none⟩,
    ⟨(some 23), .field 1 (.tmp 7), none⟩,
    ⟨(some 24), .load none (.tmp 23), none⟩,
    ⟨(some 25), .maxmin true (.tmp 22) (.tmp 24), none⟩,
    ⟨(some 26), .bin .gtr (.tmp 25) (.const (.int .i64 1000000)), none⟩,
    ⟨(some 27), .mov (.tmp 26), none⟩,
    ⟨(some 28), .field 0 (.tmp 7), some (27, false)⟩,
    ⟨(some 29), .load none (.tmp 28), some (27, false)⟩,
    ⟨(some 30), .field 1 (.tmp 7), some (27, false)⟩,
    ⟨(some 31), .load none (.tmp 30), some (27, false)⟩,
    ⟨(some 32), .maxmin false (.tmp 29) (.tmp 31), some (27, false)⟩,
    ⟨(some 33), .bin .lss (.tmp 32) (.const (.int .i64 (-1000000))), some (27, false)⟩,
    ⟨(some 34), .pick (.tmp 27) (.const (.bool true)) (.tmp 33), none⟩] [15, 16, 17, 34])
  (.cond (.tmp 34) (.seq (.region [⟨(some 4), .mov (.const (.int .i64 5)), none⟩] [4])
  (.ret)) (.skip)))))
  (.region [⟨(some 35), .bin .add (.tmp 17) (.const (.int .i64 1)), none⟩,
    ⟨(some 17), .mov (.tmp 35), none⟩] [15, 16, 17])))
def msg_path.body : ACode := .seq (.region [⟨(some 3), .box T.field_Field (.tmp 1), none⟩,
    ⟨(some 4), .mov (.const (.int .i64 0)), none⟩] [0, 3])
  (.seq (.seq (.region [⟨(some 8), .mov (.tmp 0), none⟩,
    ⟨(some 9), .len .slice (.tmp 8), none⟩,
    ⟨(some 10), .load (some 7) (.tmp 3), none⟩,
    ⟨(some 11), .call (.const (.fn F.msg_many [] [])) [(.tmp 9), (.tmp 10)], none⟩,
    ⟨(some 5), .mov (.tmp 11), none⟩] [0, 5])
  (.seq (.region [⟨(some 12), .mov (.tmp 5), none⟩,
    ⟨(some 13), .bin .neq (.tmp 12) (.const (.int .i64 0)), none⟩] [0, 5, 13])
  (.cond (.tmp 13) (.seq (.region [⟨(some 14), .mov (.tmp 5), none⟩,
    ⟨(some 4), .mov (.tmp 14), none⟩] [4])
  (.ret)) (.skip))))
  (.seq (.seq (.region [⟨(some 15), .mov (.tmp 0), none⟩,
    ⟨(some 16), .len .slice (.tmp 15), none⟩,
    ⟨(some 17), .mov (.const (.int .i64 0)), none⟩] [15, 16, 17])
  (.block 0 (.loop msg_path.b0)))
  (.seq (.region [⟨(some 4), .mov (.const (.int .i64 0)), none⟩] [4])
  (.ret))))
def msg_path : AFun := ⟨36, 2, [.tmp 4], msg_path.body⟩
def msg_cells.b0 : ACode := .seq (.region [⟨(some 19), .bin .lss (.tmp 18) (.tmp 17), none⟩] [6, 16, 17, 18, 19])
  (.seq (.cond (.tmp 19) (.skip) (.exit 0))
  (.seq (.block 1 (.seq (.region [⟨(some 20), .idx 1 none (.tmp 16) (.tmp 18), none⟩,
    ⟨(some 21), .load none (.tmp 20), none⟩,
    ⟨(some 8), .mov (.tmp 21), none⟩] [6, 8, 16, 17, 18])
  (.seq (.block 2 (.seq (.region [⟨(some 23), .mov (.tmp 8), none⟩,
    ⟨(some 24), .bin .lss (.tmp 23) (.const (.int .i64 0)), none⟩,
    ⟨(some 25), .mov (.tmp 24), none⟩,
    ⟨(some 26), .mov (.tmp 8), some (25, false)⟩,
    ⟨(some 27), .bin .gtr (.tmp 26) (.const (.int .i64 65535)), some (25, false)⟩,
    ⟨(some 28), .pick (.tmp 25) (.const (.bool true)) (.tmp 27), none⟩,
    ⟨(some 22), .mov (.tmp 28), none⟩] [6, 8, 16, 17, 18, 22])
  (.cond (.tmp 22) (.seq (.region [⟨(some 4), .mov (.const (.int .i64 5)), none⟩] [4])
  (.ret)) (.seq (.region [⟨(some 30), .mov (.tmp 8), none⟩,
    ⟨(some 31), .mov (.tmp 6), none⟩,
    ⟨(some 32), .bin .leq (.tmp 30) (.tmp 31), none⟩,
    ⟨(some 29), .mov (.tmp 32), none⟩] [8, 16, 17, 18, 29])
  (.cond (.tmp 29) (.seq (.region [⟨(some 4), .mov (.const (.int .i64 3)), none⟩] [4])
  (.ret)) (.skip))))))
  (.region [⟨(some 33), .mov (.tmp 8), none⟩,
    ⟨(some 6), .mov (.tmp 33), none⟩] [6, 16, 17, 18]))))
  (.region [⟨(some 34), .bin .add (.tmp 18) (.const (.int .i64 1)), none⟩,
    ⟨(some 18), .mov (.tmp 34), none⟩] [6, 16, 17, 18])))
def msg_cells.body : ACode := .seq (.region [⟨(some 3), .box T.field_Field (.tmp 1), none⟩,
    ⟨(some 4), .mov (.const (.int .i64 0)), none⟩] [0, 3])
  (.seq (.seq (.region [⟨(some 9), .mov (.tmp 0), none⟩,
    ⟨(some 10), .len .slice (.tmp 9), none⟩,
    ⟨(some 11), .load (some 7) (.tmp 3), none⟩,
    ⟨(some 12), .call (.const (.fn F.msg_many [] [])) [(.tmp 10), (.tmp 11)], none⟩,
    ⟨(some 5), .mov (.tmp 12), none⟩] [0, 5])
  (.seq (.region [⟨(some 13), .mov (.tmp 5), none⟩,
    ⟨(some 14), .bin .neq (.tmp 13) (.const (.int .i64 0)), none⟩] [0, 5, 14])
  (.cond (.tmp 14) (.seq (.region [⟨(some 15), .mov (.tmp 5), none⟩,
    ⟨(some 4), .mov (.tmp 15), none⟩] [4])
  (.ret)) (.skip))))
  (.seq (.region [⟨(some 6), .mov (.const (.int .i64 (-1))), none⟩] [0, 6])
  (.seq (.seq (.region [⟨(some 16), .mov (.tmp 0), none⟩,
    ⟨(some 17), .len .slice (.tmp 16), none⟩,
    ⟨(some 18), .mov (.const (.int .i64 0)), none⟩] [6, 16, 17, 18])
  (.block 0 (.loop msg_cells.b0)))
  (.seq (.region [⟨(some 4), .mov (.const (.int .i64 0)), none⟩] [4])
  (.ret)))))
def msg_cells : AFun := ⟨35, 2, [.tmp 4], msg_cells.body⟩
def msg_text.b0 : ACode := .seq (.region [⟨(some 19), .bin .lss (.tmp 18) (.tmp 17), none⟩] [16, 17, 18, 19])
  (.seq (.cond (.tmp 19) (.skip) (.exit 0))
  (.seq (.block 1 (.seq (.region [⟨(some 20), .idx 1 none (.tmp 16) (.tmp 18), none⟩,
    ⟨(some 21), .load none (.tmp 20), none⟩,
    ⟨(some 7), .mov (.tmp 21), none⟩] [7, 16, 17, 18])
  (.seq (.region [⟨(some 22), .mov (.tmp 7), none⟩,
    ⟨(some 23), .bin .lss (.tmp 22) (.const (.int .u8 32)), none⟩,
    ⟨(some 24), .mov (.tmp 23), none⟩,
    ⟨(some 25), .mov (.tmp 7), some (24, false)⟩,
    ⟨(some 26), .bin .gtr (.tmp 25) (.const (.int .u8 126)), some (24, false)⟩,
    ⟨(some 27), .pick (.tmp 24) (.const (.bool true)) (.tmp 26), none⟩] [16, 17, 18, 27])
  (.cond (.tmp 27) (.seq (.region [⟨(some 4), .mov (.const (.int .i64 19)), none⟩] [4])
  (.ret)) (.skip)))))
  (.region [⟨(some 28), .bin .add (.tmp 18) (.const (.int .i64 1)), none⟩,
    ⟨(some 18), .mov (.tmp 28), none⟩] [16, 17, 18])))
def msg_text.body : ACode := .seq (.region [⟨(some 3), .box T.field_Field (.tmp 1), none⟩,
    ⟨(some 4), .mov (.const (.int .i64 0)), none⟩] [0, 3])
  (.seq (.seq (.region [⟨(some 8), .mov (.tmp 0), none⟩,
    ⟨(some 9), .len .str (.tmp 8), none⟩,
    ⟨(some 10), .load (some 7) (.tmp 3), none⟩,
    ⟨(some 11), .call (.const (.fn F.msg_many [] [])) [(.tmp 9), (.tmp 10)], none⟩,
    ⟨(some 5), .mov (.tmp 11), none⟩] [0, 5])
  (.seq (.region [⟨(some 12), .mov (.tmp 5), none⟩,
    ⟨(some 13), .bin .neq (.tmp 12) (.const (.int .i64 0)), none⟩] [0, 5, 13])
  (.cond (.tmp 13) (.seq (.region [⟨(some 14), .mov (.tmp 5), none⟩,
    ⟨(some 4), .mov (.tmp 14), none⟩] [4])
  (.ret)) (.skip))))
  (.seq (.seq (.region [⟨(some 15), .mov (.tmp 0), none⟩,
    ⟨(some 16), .s2b (.tmp 15), none⟩,
    ⟨(some 17), .len .slice (.tmp 16), none⟩,
    ⟨(some 18), .mov (.const (.int .i64 0)), none⟩] [16, 17, 18])
  (.block 0 (.loop msg_text.b0)))
  (.seq (.region [⟨(some 4), .mov (.const (.int .i64 0)), none⟩] [4])
  (.ret))))
def msg_text : AFun := ⟨29, 2, [.tmp 4], msg_text.body⟩
def slices_Clone_msg_Point_msg_Point.body : ACode := .seq (.region [⟨(some 2), .mov (.const .nils), none⟩] [0])
  (.seq (.seq (.region [⟨(some 3), .mov (.tmp 0), none⟩,
    ⟨(some 4), .eq false .slice (.tmp 3) (.const .nils), none⟩] [0, 4])
  (.cond (.tmp 4) (.seq (.region [⟨(some 2), .mov (.const .nils), none⟩] [2])
  (.ret)) (.skip)))
  (.seq (.region [⟨(some 5), .lit T.msg_Point 2 0 [] [], none⟩,
    ⟨(some 6), .mov (.tmp 0), none⟩,
    ⟨(some 7), .append T.msg_Point 2 16 (.tmp 5) (.tmp 6), none⟩,
    ⟨(some 2), .mov (.tmp 7), none⟩] [2])
  (.ret)))
def slices_Clone_msg_Point_msg_Point : AFun := ⟨8, 1, [.tmp 2], slices_Clone_msg_Point_msg_Point.body⟩
def slices_Clone_int_int.body : ACode := .seq (.region [⟨(some 2), .mov (.const .nils), none⟩] [0])
  (.seq (.seq (.region [⟨(some 3), .mov (.tmp 0), none⟩,
    ⟨(some 4), .eq false .slice (.tmp 3) (.const .nils), none⟩] [0, 4])
  (.cond (.tmp 4) (.seq (.region [⟨(some 2), .mov (.const .nils), none⟩] [2])
  (.ret)) (.skip)))
  (.seq (.region [⟨(some 5), .lit T.int 1 0 [] [], none⟩,
    ⟨(some 6), .mov (.tmp 0), none⟩,
    ⟨(some 7), .append T.int 1 8 (.tmp 5) (.tmp 6), none⟩,
    ⟨(some 2), .mov (.tmp 7), none⟩] [2])
  (.ret)))
def slices_Clone_int_int : AFun := ⟨8, 1, [.tmp 2], slices_Clone_int_int.body⟩
def pen_New.body : ACode := .seq (.region [⟨(some 2), .mov (.const .nilp), none⟩] [0])
  (.seq (.region [⟨(some 3), .mov (.tmp 0), none⟩,
    ⟨(some 4), .maxmin true (.tmp 3) (.const (.int .i64 0)), none⟩,
    ⟨(some 5), .build [.nils, (.int .i64 0), (.bool false)] [(1, 1, (.tmp 4))], none⟩,
    ⟨(some 6), .build [.nils, (.int .i64 0), (.bool false)] [(0, 3, (.tmp 5))], none⟩,
    ⟨(some 7), .box T.pen_Pen (.tmp 6), none⟩,
    ⟨(some 2), .mov (.tmp 7), none⟩] [2])
  (.ret))
def pen_New : AFun := ⟨8, 1, [.tmp 2], pen_New.body⟩
def pen_Pen_Number.body : ACode := .seq (.region [⟨(some 4), .mov (.const (.int .i64 0)), none⟩] [0, 1])
  (.seq (.region [⟨(some 5), .mov (.tmp 0), none⟩,
    ⟨(some 6), .mov (.tmp 1), none⟩,
    ⟨(some 7), .call (.const (.fn F.varint_Put [] [])) [(.tmp 6)], none⟩,
    ⟨(some 8), .call (.const (.fn F.pen_Pen_Raw [] [])) [(.tmp 5), (.tmp 7)], none⟩,
    ⟨(some 4), .mov (.tmp 8), none⟩] [4])
  (.ret))
def pen_Pen_Number : AFun := ⟨9, 2, [.tmp 4], pen_Pen_Number.body⟩
def pen_Pen_Signed.b0 : ACode := .seq (.region [⟨(some 11), .bin .lss (.tmp 10) (.tmp 9), none⟩] [0, 5, 8, 9, 10, 11])
  (.seq (.cond (.tmp 11) (.skip) (.exit 0))
  (.seq (.block 1 (.seq (.region [⟨(some 12), .idx 1 none (.tmp 8) (.tmp 10), none⟩,
    ⟨(some 13), .load none (.tmp 12), none⟩,
    ⟨(some 7), .mov (.tmp 13), none⟩] [0, 5, 7, 8, 9, 10])
  (.region [⟨(some 14), .mov (.tmp 5), none⟩,
    ⟨(some 15), .mov (.tmp 7), none⟩,
    ⟨(some 16), .call (.const (.fn F.varint_Zig [] [])) [(.tmp 15)], none⟩,
    ⟨(some 17), .lit T.uint64 1 1 [(.int .u64 0)] [(0, 1, (.tmp 16))], none⟩,
    ⟨(some 18), .append T.uint64 1 8 (.tmp 14) (.tmp 17), none⟩,
    ⟨(some 5), .mov (.tmp 18), none⟩] [0, 5, 8, 9, 10])))
  (.region [⟨(some 19), .bin .add (.tmp 10) (.const (.int .i64 1)), none⟩,
    ⟨(some 10), .mov (.tmp 19), none⟩] [0, 5, 8, 9, 10])))
def pen_Pen_Signed.body : ACode := .seq (.region [⟨(some 4), .mov (.const (.int .i64 0)), none⟩] [0, 1])
  (.seq (.region [⟨(some 5), .mov (.const .nils), none⟩] [0, 1, 5])
  (.seq (.seq (.region [⟨(some 8), .mov (.tmp 1), none⟩,
    ⟨(some 9), .len .slice (.tmp 8), none⟩,
    ⟨(some 10), .mov (.const (.int .i64 0)), none⟩] [0, 5, 8, 9, 10])
  (.block 0 (.loop pen_Pen_Signed.b0)))
  (.seq (.region [⟨(some 20), .mov (.tmp 0), none⟩,
    ⟨(some 21), .mov (.tmp 5), none⟩,
    ⟨(some 22), .call (.const (.fn F.pen_Pen_Number [] [])) [(.tmp 20), (.tmp 21)], none⟩,
    ⟨(some 4), .mov (.tmp 22), none⟩] [4])
  (.ret))))
def pen_Pen_Signed : AFun := ⟨23, 2, [.tmp 4], pen_Pen_Signed.body⟩
def body_points.b0 : ACode := .seq (.region [⟨(some 16), .bin .lss (.tmp 15) (.tmp 14), none⟩] [0, 4, 13, 14, 15, 16])
  (.seq (.cond (.tmp 16) (.skip) (.exit 0))
  (.seq (.block 1 (.seq (.region [⟨(some 17), .idx 2 none (.tmp 13) (.tmp 15), none⟩,
    ⟨(some 18), .load (some 2) (.tmp 17), none⟩,
    ⟨(some 6), .alloc T.msg_Point [(.int .i64 0), (.int .i64 0)], none⟩,
    ⟨none, .store 2 (.tmp 6) (.tmp 18), none⟩] [0, 4, 6, 13, 14, 15])
  (.seq (.region [⟨(some 19), .mov (.tmp 0), none⟩,
    ⟨(some 20), .field 0 (.tmp 6), none⟩,
    ⟨(some 21), .load none (.tmp 20), none⟩,
    ⟨(some 22), .field 0 (.tmp 4), none⟩,
    ⟨(some 23), .load none (.tmp 22), none⟩,
    ⟨(some 24), .bin .sub (.tmp 21) (.tmp 23), none⟩,
    ⟨(some 25), .field 1 (.tmp 6), none⟩,
    ⟨(some 26), .load none (.tmp 25), none⟩,
    ⟨(some 27), .field 1 (.tmp 4), none⟩,
    ⟨(some 28), .load none (.tmp 27), none⟩,
    ⟨(some 29), .bin .sub (.tmp 26) (.tmp 28), none⟩,
    ⟨(some 30), .lit T.int64 1 2 [(.int .i64 0), (.int .i64 0)] [(0, 1, (.tmp 24)), (1, 1, (.tmp 29))], none⟩,
    ⟨(some 31), .call (.const (.fn F.pen_Pen_Signed [] [])) [(.tmp 19), (.tmp 30)], none⟩] [0, 4, 6, 13, 14, 15])
  (.region [⟨(some 32), .load (some 2) (.tmp 6), none⟩,
    ⟨none, .store 2 (.tmp 4) (.tmp 32), none⟩] [0, 4, 13, 14, 15]))))
  (.region [⟨(some 33), .bin .add (.tmp 15) (.const (.int .i64 1)), none⟩,
    ⟨(some 15), .mov (.tmp 33), none⟩] [0, 4, 13, 14, 15])))
def body_points.body : ACode := .seq (.region [⟨(some 7), .mov (.tmp 0), none⟩,
    ⟨(some 8), .mov (.tmp 1), none⟩,
    ⟨(some 9), .len .slice (.tmp 8), none⟩,
    ⟨(some 10), .conv .u64 (.tmp 9), none⟩,
    ⟨(some 11), .lit T.uint64 1 1 [(.int .u64 0)] [(0, 1, (.tmp 10))], none⟩,
    ⟨(some 12), .call (.const (.fn F.pen_Pen_Number [] [])) [(.tmp 7), (.tmp 11)], none⟩] [0, 1])
  (.seq (.region [⟨(some 4), .alloc T.msg_Point [(.int .i64 0), (.int .i64 0)], none⟩] [0, 1, 4])
  (.seq (.region [⟨(some 13), .mov (.tmp 1), none⟩,
    ⟨(some 14), .len .slice (.tmp 13), none⟩,
    ⟨(some 15), .mov (.const (.int .i64 0)), none⟩] [0, 4, 13, 14, 15])
  (.block 0 (.loop body_points.b0))))
def body_points : AFun := ⟨34, 2, [], body_points.body⟩
def body_cells.b0 : ACode := .seq (.region [⟨(some 16), .bin .lss (.tmp 15) (.tmp 14), none⟩] [0, 4, 13, 14, 15, 16])
  (.seq (.cond (.tmp 16) (.skip) (.exit 0))
  (.seq (.block 1 (.seq (.region [⟨(some 17), .idx 1 none (.tmp 13) (.tmp 15), none⟩,
    ⟨(some 18), .load none (.tmp 17), none⟩,
    ⟨(some 6), .mov (.tmp 18), none⟩] [0, 4, 6, 13, 14, 15])
  (.seq (.region [⟨(some 19), .mov (.tmp 0), none⟩,
    ⟨(some 20), .mov (.tmp 6), none⟩,
    ⟨(some 21), .mov (.tmp 4), none⟩,
    ⟨(some 22), .bin .sub (.tmp 20) (.tmp 21), none⟩,
    ⟨(some 23), .bin .sub (.tmp 22) (.const (.int .i64 1)), none⟩,
    ⟨(some 24), .conv .u64 (.tmp 23), none⟩,
    ⟨(some 25), .lit T.uint64 1 1 [(.int .u64 0)] [(0, 1, (.tmp 24))], none⟩,
    ⟨(some 26), .call (.const (.fn F.pen_Pen_Number [] [])) [(.tmp 19), (.tmp 25)], none⟩] [0, 6, 13, 14, 15])
  (.region [⟨(some 27), .mov (.tmp 6), none⟩,
    ⟨(some 4), .mov (.tmp 27), none⟩] [0, 4, 13, 14, 15]))))
  (.region [⟨(some 28), .bin .add (.tmp 15) (.const (.int .i64 1)), none⟩,
    ⟨(some 15), .mov (.tmp 28), none⟩] [0, 4, 13, 14, 15])))
def body_cells.body : ACode := .seq (.region [⟨(some 7), .mov (.tmp 0), none⟩,
    ⟨(some 8), .mov (.tmp 1), none⟩,
    ⟨(some 9), .len .slice (.tmp 8), none⟩,
    ⟨(some 10), .conv .u64 (.tmp 9), none⟩,
    ⟨(some 11), .lit T.uint64 1 1 [(.int .u64 0)] [(0, 1, (.tmp 10))], none⟩,
    ⟨(some 12), .call (.const (.fn F.pen_Pen_Number [] [])) [(.tmp 7), (.tmp 11)], none⟩] [0, 1])
  (.seq (.region [⟨(some 4), .mov (.const (.int .i64 (-1))), none⟩] [0, 1, 4])
  (.seq (.region [⟨(some 13), .mov (.tmp 1), none⟩,
    ⟨(some 14), .len .slice (.tmp 13), none⟩,
    ⟨(some 15), .mov (.const (.int .i64 0)), none⟩] [0, 4, 13, 14, 15])
  (.block 0 (.loop body_cells.b0))))
def body_cells : AFun := ⟨29, 2, [], body_cells.body⟩
def pen_Pen_Field.body : ACode := .seq (.region [⟨(some 4), .mov (.const (.int .i64 0)), none⟩] [0, 1])
  (.seq (.region [⟨(some 5), .mov (.tmp 0), none⟩,
    ⟨(some 6), .mov (.tmp 1), none⟩,
    ⟨(some 7), .len .slice (.tmp 6), none⟩,
    ⟨(some 8), .conv .u64 (.tmp 7), none⟩,
    ⟨(some 9), .lit T.uint64 1 1 [(.int .u64 0)] [(0, 1, (.tmp 8))], none⟩,
    ⟨(some 10), .call (.const (.fn F.varint_Put [] [])) [(.tmp 9)], none⟩,
    ⟨(some 11), .mov (.tmp 1), none⟩,
    ⟨(some 12), .append T.uint8 1 1 (.tmp 10) (.tmp 11), none⟩,
    ⟨(some 13), .call (.const (.fn F.pen_Pen_Raw [] [])) [(.tmp 5), (.tmp 12)], none⟩,
    ⟨(some 4), .mov (.tmp 13), none⟩] [4])
  (.ret))
def pen_Pen_Field : AFun := ⟨14, 2, [.tmp 4], pen_Pen_Field.body⟩
def pen_Pen_Bytes.body : ACode := .seq (.region [⟨(some 2), .mov (.const .nils), none⟩] [0])
  (.seq (.seq (.region [⟨(some 3), .mov (.tmp 0), none⟩,
    ⟨(some 4), .eq false .ptr (.tmp 3) (.const .nilp), none⟩] [0, 4])
  (.cond (.tmp 4) (.seq (.region [⟨(some 2), .mov (.const .nils), none⟩] [2])
  (.ret)) (.skip)))
  (.seq (.region [⟨(some 5), .mov (.tmp 0), none⟩,
    ⟨(some 6), .nilc (.tmp 5), none⟩,
    ⟨(some 7), .field 0 (.tmp 6), none⟩,
    ⟨(some 8), .field 0 (.tmp 7), none⟩,
    ⟨(some 9), .load none (.tmp 8), none⟩,
    ⟨(some 10), .append T.uint8 1 1 (.const .nils) (.tmp 9), none⟩,
    ⟨(some 2), .mov (.tmp 10), none⟩] [2])
  (.ret)))
def pen_Pen_Bytes : AFun := ⟨11, 1, [.tmp 2], pen_Pen_Bytes.body⟩
def lens_Lens_read.body : ACode := .seq (.region [⟨(some 4), .mov (.const (.bool false)), none⟩] [0, 1])
  (.seq (.seq (.region [⟨(some 7), .mov (.tmp 0), none⟩,
    ⟨(some 8), .eq false .ptr (.tmp 7) (.const .nilp), none⟩,
    ⟨(some 9), .mov (.tmp 8), none⟩,
    ⟨(some 10), .mov (.tmp 0), some (9, false)⟩,
    ⟨(some 11), .nilc (.tmp 10), some (9, false)⟩,
    ⟨(some 12), .field 2 (.tmp 11), some (9, false)⟩,
    ⟨(some 13), .load none (.tmp 12), some (9, false)⟩,
    ⟨(some 14), .bin .neq (.tmp 13) (.const (.int .i64 0)), some (9, false)⟩,
    ⟨(some 15), .pick (.tmp 9) (.const (.bool true)) (.tmp 14), none⟩] [0, 1, 15])
  (.cond (.tmp 15) (.seq (.region [⟨(some 4), .mov (.const (.bool false)), none⟩] [4])
  (.ret)) (.skip)))
  (.seq (.region [⟨(some 17), .mov (.tmp 1), none⟩,
    ⟨(some 18), .mov (.tmp 0), none⟩,
    ⟨(some 19), .call (.const (.fn F.lens_Lens_left [] [])) [(.tmp 18)], none⟩,
    ⟨(some 20), .call (.tmp 17) [(.tmp 19)], none⟩,
    ⟨(some 16), .mov (.tmp 20), none⟩,
    ⟨(some 21), .extract (.tmp 16) 0, none⟩,
    ⟨(some 22), .extract (.tmp 16) 1, none⟩,
    ⟨(some 5), .mov (.tmp 21), none⟩,
    ⟨(some 6), .mov (.tmp 22), none⟩] [0, 5, 6])
  (.seq (.seq (.region [⟨(some 23), .mov (.tmp 6), none⟩,
    ⟨(some 24), .bin .neq (.tmp 23) (.const (.int .i64 0)), none⟩] [0, 5, 6, 24])
  (.cond (.tmp 24) (.seq (.region [⟨(some 25), .mov (.tmp 0), none⟩,
    ⟨(some 26), .mov (.tmp 6), none⟩,
    ⟨(some 27), .nilc (.tmp 25), none⟩,
    ⟨(some 28), .field 2 (.tmp 27), none⟩,
    ⟨none, .store 1 (.tmp 28) (.tmp 26), none⟩] [])
  (.seq (.region [⟨(some 4), .mov (.const (.bool false)), none⟩] [4])
  (.ret))) (.skip)))
  (.seq (.region [⟨(some 29), .mov (.tmp 0), none⟩,
    ⟨(some 30), .nilc (.tmp 29), none⟩,
    ⟨(some 31), .field 1 (.tmp 30), none⟩,
    ⟨(some 32), .load none (.tmp 31), none⟩,
    ⟨(some 33), .mov (.tmp 5), none⟩,
    ⟨(some 34), .bin .add (.tmp 32) (.tmp 33), none⟩,
    ⟨(some 35), .nilc (.tmp 29), none⟩,
    ⟨(some 36), .field 1 (.tmp 35), none⟩,
    ⟨none, .store 1 (.tmp 36) (.tmp 34), none⟩] [])
  (.seq (.region [⟨(some 4), .mov (.const (.bool true)), none⟩] [4])
  (.ret))))))
def lens_Lens_read : AFun := ⟨37, 2, [.tmp 4], lens_Lens_read.body⟩
def lens_Lens_Number_1.body : ACode := .seq (.region [⟨(some 4), .mov (.const (.int .i64 0)), none⟩,
    ⟨(some 5), .mov (.const (.int .i64 0)), none⟩] [0, 1, 2])
  (.seq (.region [⟨(some 10), .mov (.tmp 0), none⟩,
    ⟨(some 11), .call (.const (.fn F.varint_Get [] [])) [(.tmp 10)], none⟩,
    ⟨(some 9), .mov (.tmp 11), none⟩,
    ⟨(some 12), .extract (.tmp 9) 0, none⟩,
    ⟨(some 13), .extract (.tmp 9) 1, none⟩,
    ⟨(some 14), .extract (.tmp 9) 2, none⟩,
    ⟨(some 6), .mov (.tmp 12), none⟩,
    ⟨(some 7), .mov (.tmp 13), none⟩,
    ⟨(some 8), .mov (.tmp 14), none⟩] [1, 2, 6, 7, 8])
  (.seq (.seq (.region [⟨(some 15), .mov (.tmp 8), none⟩,
    ⟨(some 16), .bin .eql (.tmp 15) (.const (.int .i64 0)), none⟩,
    ⟨(some 17), .mov (.tmp 16), none⟩,
    ⟨(some 18), .mov (.tmp 6), some (17, true)⟩,
    ⟨(some 19), .load none (.tmp 1), some (17, true)⟩,
    ⟨(some 20), .bin .gtr (.tmp 18) (.tmp 19), some (17, true)⟩,
    ⟨(some 21), .pick (.tmp 17) (.tmp 20) (.const (.bool false)), none⟩] [2, 6, 7, 8, 21])
  (.cond (.tmp 21) (.region [⟨(some 8), .mov (.const (.int .i64 5)), none⟩] [2, 6, 7, 8]) (.skip)))
  (.seq (.seq (.region [⟨(some 22), .mov (.tmp 8), none⟩,
    ⟨(some 23), .bin .eql (.tmp 22) (.const (.int .i64 0)), none⟩] [2, 6, 7, 8, 23])
  (.cond (.tmp 23) (.region [⟨(some 24), .mov (.tmp 6), none⟩,
    ⟨none, .store 1 (.tmp 2) (.tmp 24), none⟩] [7, 8]) (.skip)))
  (.seq (.region [⟨(some 25), .mov (.tmp 7), none⟩,
    ⟨(some 26), .mov (.tmp 8), none⟩,
    ⟨(some 4), .mov (.tmp 25), none⟩,
    ⟨(some 5), .mov (.tmp 26), none⟩] [4, 5])
  (.ret)))))
def lens_Lens_Number_1 : AFun := ⟨27, 3, [.tmp 4, .tmp 5], lens_Lens_Number_1.body⟩
def varint_Get.b0 : ACode := .seq (.region [⟨(some 9), .bin .lss (.tmp 8) (.const (.int .i64 10)), none⟩] [0, 5, 8, 9])
  (.seq (.cond (.tmp 9) (.skip) (.exit 0))
  (.seq (.block 1 (.seq (.region [⟨(some 10), .mov (.tmp 8), none⟩,
    ⟨(some 6), .mov (.tmp 10), none⟩] [0, 5, 6, 8])
  (.seq (.seq (.region [⟨(some 11), .mov (.tmp 6), none⟩,
    ⟨(some 12), .mov (.tmp 0), none⟩,
    ⟨(some 13), .len .slice (.tmp 12), none⟩,
    ⟨(some 14), .bin .geq (.tmp 11) (.tmp 13), none⟩] [0, 5, 6, 8, 14])
  (.cond (.tmp 14) (.seq (.region [⟨(some 2), .mov (.const (.int .u64 0)), none⟩,
    ⟨(some 3), .mov (.const (.int .i64 0)), none⟩,
    ⟨(some 4), .mov (.const (.int .i64 4)), none⟩] [2, 3, 4])
  (.ret)) (.skip)))
  (.seq (.region [⟨(some 15), .mov (.tmp 0), none⟩,
    ⟨(some 16), .mov (.tmp 6), none⟩,
    ⟨(some 17), .idx 1 none (.tmp 15) (.tmp 16), none⟩,
    ⟨(some 18), .load none (.tmp 17), none⟩,
    ⟨(some 19), .bin .rem (.tmp 18) (.const (.int .u8 128)), none⟩,
    ⟨(some 20), .conv .u64 (.tmp 19), none⟩,
    ⟨(some 7), .mov (.tmp 20), none⟩] [0, 5, 6, 7, 8])
  (.seq (.region [⟨(some 21), .mov (.tmp 5), none⟩,
    ⟨(some 22), .mov (.tmp 7), none⟩,
    ⟨(some 23), .mov (.tmp 6), none⟩,
    ⟨(some 24), .bin .mul (.const (.int .i64 7)) (.tmp 23), none⟩,
    ⟨(some 25), .bin .shl (.tmp 22) (.tmp 24), none⟩,
    ⟨(some 26), .bin .or (.tmp 21) (.tmp 25), none⟩,
    ⟨(some 5), .mov (.tmp 26), none⟩] [0, 5, 6, 7, 8])
  (.seq (.seq (.region [⟨(some 27), .mov (.tmp 0), none⟩,
    ⟨(some 28), .mov (.tmp 6), none⟩,
    ⟨(some 29), .idx 1 none (.tmp 27) (.tmp 28), none⟩,
    ⟨(some 30), .load none (.tmp 29), none⟩,
    ⟨(some 31), .bin .geq (.tmp 30) (.const (.int .u8 128)), none⟩] [0, 5, 6, 7, 8, 31])
  (.cond (.tmp 31) (.exit 1) (.skip)))
  (.seq (.seq (.region [⟨(some 32), .mov (.tmp 6), none⟩,
    ⟨(some 33), .bin .gtr (.tmp 32) (.const (.int .i64 0)), none⟩,
    ⟨(some 34), .mov (.tmp 33), none⟩,
    ⟨(some 35), .mov (.tmp 7), some (34, true)⟩,
    ⟨(some 36), .bin .eql (.tmp 35) (.const (.int .u64 0)), some (34, true)⟩,
    ⟨(some 37), .pick (.tmp 34) (.tmp 36) (.const (.bool false)), none⟩,
    ⟨(some 38), .mov (.tmp 37), none⟩,
    ⟨(some 39), .mov (.tmp 7), some (38, false)⟩,
    ⟨(some 40), .mov (.tmp 6), some (38, false)⟩,
    ⟨(some 41), .bin .mul (.const (.int .i64 7)) (.tmp 40), some (38, false)⟩,
    ⟨(some 42), .bin .shl (.tmp 39) (.tmp 41), some (38, false)⟩,
    ⟨(some 43), .mov (.tmp 6), some (38, false)⟩,
    ⟨(some 44), .bin .mul (.const (.int .i64 7)) (.tmp 43), some (38, false)⟩,
    ⟨(some 45), .bin .shr (.tmp 42) (.tmp 44), some (38, false)⟩,
    ⟨(some 46), .mov (.tmp 7), some (38, false)⟩,
    ⟨(some 47), .bin .neq (.tmp 45) (.tmp 46), some (38, false)⟩,
    ⟨(some 48), .pick (.tmp 38) (.const (.bool true)) (.tmp 47), none⟩] [5, 6, 48])
  (.cond (.tmp 48) (.exit 0) (.skip)))
  (.seq (.region [⟨(some 49), .mov (.tmp 5), none⟩,
    ⟨(some 50), .mov (.tmp 6), none⟩,
    ⟨(some 51), .bin .add (.tmp 50) (.const (.int .i64 1)), none⟩,
    ⟨(some 2), .mov (.tmp 49), none⟩,
    ⟨(some 3), .mov (.tmp 51), none⟩,
    ⟨(some 4), .mov (.const (.int .i64 0)), none⟩] [2, 3, 4])
  (.ret)))))))))
  (.region [⟨(some 52), .bin .add (.tmp 8) (.const (.int .i64 1)), none⟩,
    ⟨(some 8), .mov (.tmp 52), none⟩] [0, 5, 8])))
def varint_Get.body : ACode := .seq (.region [⟨(some 2), .mov (.const (.int .u64 0)), none⟩,
    ⟨(some 3), .mov (.const (.int .i64 0)), none⟩,
    ⟨(some 4), .mov (.const (.int .i64 0)), none⟩] [0])
  (.scope (.seq (.region [⟨(some 5), .mov (.const (.int .u64 0)), none⟩] [0, 5])
  (.seq (.skip)
  (.seq (.seq (.region [⟨(some 8), .mov (.const (.int .i64 0)), none⟩] [0, 5, 8])
  (.block 0 (.loop varint_Get.b0)))
  (.seq (.region [⟨(some 2), .mov (.const (.int .u64 0)), none⟩,
    ⟨(some 3), .mov (.const (.int .i64 0)), none⟩,
    ⟨(some 4), .mov (.const (.int .i64 3)), none⟩] [2, 3, 4])
  (.ret))))))
def varint_Get : AFun := ⟨53, 1, [.tmp 2, .tmp 3, .tmp 4], varint_Get.body⟩
def lens_Lens_Signed_1.body : ACode := .seq (.region [⟨(some 5), .mov (.const (.int .i64 0)), none⟩,
    ⟨(some 6), .mov (.const (.int .i64 0)), none⟩] [0, 1, 2, 3])
  (.seq (.region [⟨(some 12), .mov (.tmp 0), none⟩,
    ⟨(some 13), .call (.const (.fn F.varint_Get [] [])) [(.tmp 12)], none⟩,
    ⟨(some 11), .mov (.tmp 13), none⟩,
    ⟨(some 14), .extract (.tmp 11) 0, none⟩,
    ⟨(some 15), .extract (.tmp 11) 1, none⟩,
    ⟨(some 16), .extract (.tmp 11) 2, none⟩,
    ⟨(some 7), .mov (.tmp 14), none⟩,
    ⟨(some 8), .mov (.tmp 15), none⟩,
    ⟨(some 9), .mov (.tmp 16), none⟩] [1, 2, 3, 7, 8, 9])
  (.seq (.seq (.region [⟨(some 17), .mov (.tmp 7), none⟩,
    ⟨(some 18), .call (.const (.fn F.varint_Zag [] [])) [(.tmp 17)], none⟩,
    ⟨(some 10), .mov (.tmp 18), none⟩] [1, 2, 3, 8, 9, 10])
  (.seq (.region [⟨(some 19), .mov (.tmp 9), none⟩,
    ⟨(some 20), .bin .eql (.tmp 19) (.const (.int .i64 0)), none⟩,
    ⟨(some 21), .mov (.tmp 20), none⟩,
    ⟨(some 22), .mov (.tmp 10), some (21, true)⟩,
    ⟨(some 23), .load none (.tmp 1), some (21, true)⟩,
    ⟨(some 24), .bin .lss (.tmp 22) (.tmp 23), some (21, true)⟩,
    ⟨(some 25), .mov (.tmp 24), some (21, true)⟩,
    ⟨(some 26), .mov (.tmp 10), some (25, false)⟩,
    ⟨(some 27), .load none (.tmp 2), some (25, false)⟩,
    ⟨(some 28), .bin .gtr (.tmp 26) (.tmp 27), some (25, false)⟩,
    ⟨(some 29), .pick (.tmp 25) (.const (.bool true)) (.tmp 28), some (21, true)⟩,
    ⟨(some 30), .pick (.tmp 21) (.tmp 29) (.const (.bool false)), none⟩] [3, 8, 9, 10, 30])
  (.cond (.tmp 30) (.region [⟨(some 9), .mov (.const (.int .i64 5)), none⟩] [8, 9]) (.seq (.region [⟨(some 31), .mov (.tmp 9), none⟩,
    ⟨(some 32), .bin .eql (.tmp 31) (.const (.int .i64 0)), none⟩] [3, 8, 9, 10, 32])
  (.cond (.tmp 32) (.region [⟨(some 33), .mov (.tmp 10), none⟩,
    ⟨none, .store 1 (.tmp 3) (.tmp 33), none⟩] [8, 9]) (.skip))))))
  (.seq (.region [⟨(some 34), .mov (.tmp 8), none⟩,
    ⟨(some 35), .mov (.tmp 9), none⟩,
    ⟨(some 5), .mov (.tmp 34), none⟩,
    ⟨(some 6), .mov (.tmp 35), none⟩] [5, 6])
  (.ret))))
def lens_Lens_Signed_1 : AFun := ⟨36, 4, [.tmp 5, .tmp 6], lens_Lens_Signed_1.body⟩
def varint_Zag.body : ACode := .seq (.region [⟨(some 2), .mov (.const (.int .i64 0)), none⟩] [0])
  (.seq (.region [⟨(some 3), .mov (.tmp 0), none⟩,
    ⟨(some 4), .bin .shr (.tmp 3) (.const (.int .u64 1)), none⟩,
    ⟨(some 5), .conv .i64 (.tmp 4), none⟩,
    ⟨(some 6), .mov (.tmp 0), none⟩,
    ⟨(some 7), .bin .and (.tmp 6) (.const (.int .u64 1)), none⟩,
    ⟨(some 8), .conv .i64 (.tmp 7), none⟩,
    ⟨(some 9), .un .neg (.tmp 8), none⟩,
    ⟨(some 10), .bin .xor (.tmp 5) (.tmp 9), none⟩,
    ⟨(some 2), .mov (.tmp 10), none⟩] [2])
  (.ret))
def varint_Zag : AFun := ⟨11, 1, [.tmp 2], varint_Zag.body⟩
def body_reader_points_1.body : ACode := .seq (.region [⟨(some 3), .mov (.const (.int .i64 0)), none⟩] [0, 1])
  (.seq (.region [⟨(some 4), .mov (.tmp 0), none⟩,
    ⟨(some 5), .load none (.tmp 1), none⟩,
    ⟨(some 6), .nilc (.tmp 5), none⟩,
    ⟨(some 7), .field 0 (.tmp 6), none⟩,
    ⟨(some 8), .load none (.tmp 7), none⟩,
    ⟨(some 9), .mov (.tmp 0), none⟩,
    ⟨(some 10), .bin .sub (.const (.int .i64 (-1000000))) (.tmp 9), none⟩,
    ⟨(some 11), .mov (.tmp 0), none⟩,
    ⟨(some 12), .bin .sub (.const (.int .i64 1000000)) (.tmp 11), none⟩,
    ⟨(some 13), .call (.const (.fn F.lens_Lens_Signed [] [])) [(.tmp 8), (.tmp 10), (.tmp 12)], none⟩,
    ⟨(some 14), .bin .add (.tmp 4) (.tmp 13), none⟩,
    ⟨(some 3), .mov (.tmp 14), none⟩] [3])
  (.ret))
def body_reader_points_1 : AFun := ⟨15, 2, [.tmp 3], body_reader_points_1.body⟩
def body_reader_count.body : ACode := .seq (.region [⟨(some 4), .mov (.const (.int .i64 0)), none⟩] [0, 1])
  (.seq (.region [⟨(some 6), .mov (.tmp 0), none⟩,
    ⟨(some 7), .nilc (.tmp 6), none⟩,
    ⟨(some 8), .field 0 (.tmp 7), none⟩,
    ⟨(some 9), .load none (.tmp 8), none⟩,
    ⟨(some 10), .call (.const (.fn F.lens_Lens_Number [] [])) [(.tmp 9), (.const (.int .u64 18446744073709551615))], none⟩,
    ⟨(some 5), .mov (.tmp 10), none⟩] [0, 1, 5])
  (.seq (.region [⟨(some 11), .mov (.tmp 0), none⟩,
    ⟨(some 12), .mov (.tmp 5), none⟩,
    ⟨(some 13), .bin .eql (.tmp 12) (.const (.int .u64 0)), none⟩,
    ⟨(some 14), .call (.const (.fn F.body_reader_note [] [])) [(.tmp 11), (.tmp 13), (.const (.int .i64 13))], none⟩] [0, 1, 5])
  (.seq (.region [⟨(some 15), .mov (.tmp 0), none⟩,
    ⟨(some 16), .mov (.tmp 5), none⟩,
    ⟨(some 17), .mov (.tmp 1), none⟩,
    ⟨(some 18), .conv .u64 (.tmp 17), none⟩,
    ⟨(some 19), .bin .gtr (.tmp 16) (.tmp 18), none⟩,
    ⟨(some 20), .call (.const (.fn F.body_reader_note [] [])) [(.tmp 15), (.tmp 19), (.const (.int .i64 6))], none⟩] [0, 5])
  (.seq (.seq (.region [⟨(some 21), .mov (.tmp 0), none⟩,
    ⟨(some 22), .call (.const (.fn F.body_reader_err [] [])) [(.tmp 21)], none⟩,
    ⟨(some 23), .bin .neq (.tmp 22) (.const (.int .i64 0)), none⟩] [5, 23])
  (.cond (.tmp 23) (.seq (.region [⟨(some 4), .mov (.const (.int .i64 0)), none⟩] [4])
  (.ret)) (.skip)))
  (.seq (.region [⟨(some 24), .mov (.tmp 5), none⟩,
    ⟨(some 25), .conv .i64 (.tmp 24), none⟩,
    ⟨(some 4), .mov (.tmp 25), none⟩] [4])
  (.ret))))))
def body_reader_count : AFun := ⟨26, 2, [.tmp 4], body_reader_count.body⟩
def lens_Lens_Field.body : ACode := .seq (.region [⟨(some 3), .box T.int (.tmp 1), none⟩,
    ⟨(some 4), .mov (.const .nils), none⟩] [0, 3])
  (.seq (.region [⟨(some 5), .alloc T.sl_uint8 [.nils], none⟩] [0, 3, 5])
  (.seq (.region [⟨(some 6), .mov (.tmp 0), none⟩,
    ⟨(some 7), .mkfn F.lens_Lens_Field_1 [] [(.tmp 3), (.tmp 5)], none⟩,
    ⟨(some 8), .call (.const (.fn F.lens_Lens_read [] [])) [(.tmp 6), (.tmp 7)], none⟩] [5])
  (.seq (.region [⟨(some 9), .load none (.tmp 5), none⟩,
    ⟨(some 4), .mov (.tmp 9), none⟩] [4])
  (.ret))))
def lens_Lens_Field : AFun := ⟨10, 2, [.tmp 4], lens_Lens_Field.body⟩
def lens_Lens_left.d0 : List AOper := [⟨(some 3), .mov (.tmp 0), none⟩,
    ⟨(some 4), .nilc (.tmp 3), none⟩,
    ⟨(some 5), .field 0 (.tmp 4), none⟩,
    ⟨(some 6), .load none (.tmp 5), none⟩,
    ⟨(some 7), .mov (.tmp 0), none⟩,
    ⟨(some 8), .nilc (.tmp 7), none⟩,
    ⟨(some 9), .field 1 (.tmp 8), none⟩,
    ⟨(some 10), .load none (.tmp 9), none⟩,
    ⟨(some 11), .mov (.tmp 0), none⟩,
    ⟨(some 12), .nilc (.tmp 11), none⟩,
    ⟨(some 13), .field 0 (.tmp 12), none⟩,
    ⟨(some 14), .load none (.tmp 13), none⟩,
    ⟨(some 15), .len .slice (.tmp 14), none⟩,
    ⟨(some 16), .mov (.tmp 0), none⟩,
    ⟨(some 17), .nilc (.tmp 16), none⟩,
    ⟨(some 18), .field 0 (.tmp 17), none⟩,
    ⟨(some 19), .load none (.tmp 18), none⟩,
    ⟨(some 20), .len .slice (.tmp 19), none⟩,
    ⟨(some 21), .slice 1 .slice (.tmp 6) (some (.tmp 10)) (some (.tmp 15)) (some (.tmp 20)), none⟩,
    ⟨(some 2), .mov (.tmp 21), none⟩]
def lens_Lens_left.d0b : List (List Nat) := [[], [0], [0, 1], [0, 1, 2], [], [4], [4, 5], [4, 5, 6], [], [8], [8, 9], [8, 9, 10], [8, 9, 10, 11], [], [13], [13, 14], [13, 14, 15], [13, 14, 15, 16], [0, 1, 2, 3, 4, 5, 6, 7, 8, 9, 10, 11, 12, 13, 14, 15, 16, 17], [0, 1, 2, 3, 4, 5, 6, 7, 8, 9, 10, 11, 12, 13, 14, 15, 16, 17, 18]]
def lens_Lens_left.body : ACode := .seq (.region [⟨(some 2), .mov (.const .nils), none⟩] [0])
  (.seq (.draw lens_Lens_left.d0 lens_Lens_left.d0b [[0, 1, 2, 3, 4, 5, 6, 7, 8, 9, 10, 11, 12, 13, 14, 15, 16, 17, 18, 19]] [] [2])
  (.ret))
def lens_Lens_left : AFun := ⟨22, 1, [.tmp 2], lens_Lens_left.body⟩
def msg_many.body : ACode := .seq (.region [⟨(some 3), .box T.field_Field (.tmp 1), none⟩,
    ⟨(some 4), .mov (.const (.int .i64 0)), none⟩] [0, 3])
  (.seq (.block 0 (.seq (.region [⟨(some 6), .mov (.tmp 0), none⟩,
    ⟨(some 7), .field 3 (.tmp 3), none⟩,
    ⟨(some 8), .load none (.tmp 7), none⟩,
    ⟨(some 9), .bin .lss (.tmp 6) (.tmp 8), none⟩,
    ⟨(some 5), .mov (.tmp 9), none⟩] [0, 3, 5])
  (.cond (.tmp 5) (.seq (.region [⟨(some 4), .mov (.const (.int .i64 13)), none⟩] [4])
  (.ret)) (.seq (.region [⟨(some 11), .mov (.tmp 0), none⟩,
    ⟨(some 12), .field 4 (.tmp 3), none⟩,
    ⟨(some 13), .load none (.tmp 12), none⟩,
    ⟨(some 14), .bin .gtr (.tmp 11) (.tmp 13), none⟩,
    ⟨(some 10), .mov (.tmp 14), none⟩] [10])
  (.cond (.tmp 10) (.seq (.region [⟨(some 4), .mov (.const (.int .i64 6)), none⟩] [4])
  (.ret)) (.skip))))))
  (.seq (.region [⟨(some 4), .mov (.const (.int .i64 0)), none⟩] [4])
  (.ret)))
def msg_many : AFun := ⟨15, 2, [.tmp 4], msg_many.body⟩
def pen_Pen_Raw.d0 : List AOper := [⟨(some 9), .mov (.tmp 0), none⟩,
    ⟨(some 10), .nilc (.tmp 9), none⟩,
    ⟨(some 11), .field 0 (.tmp 10), none⟩,
    ⟨(some 12), .field 2 (.tmp 11), none⟩,
    ⟨(some 13), .load none (.tmp 12), none⟩,
    ⟨(some 14), .mov (.tmp 13), none⟩,
    ⟨(some 15), .mov (.tmp 1), some (14, false)⟩,
    ⟨(some 16), .len .slice (.tmp 15), some (14, false)⟩,
    ⟨(some 17), .mov (.tmp 0), some (14, false)⟩,
    ⟨(some 18), .nilc (.tmp 17), some (14, false)⟩,
    ⟨(some 19), .field 0 (.tmp 18), some (14, false)⟩,
    ⟨(some 20), .field 1 (.tmp 19), some (14, false)⟩,
    ⟨(some 21), .load none (.tmp 20), some (14, false)⟩,
    ⟨(some 22), .mov (.tmp 0), some (14, false)⟩,
    ⟨(some 23), .nilc (.tmp 22), some (14, false)⟩,
    ⟨(some 24), .field 0 (.tmp 23), some (14, false)⟩,
    ⟨(some 25), .field 0 (.tmp 24), some (14, false)⟩,
    ⟨(some 26), .load none (.tmp 25), some (14, false)⟩,
    ⟨(some 27), .len .slice (.tmp 26), some (14, false)⟩,
    ⟨(some 28), .bin .sub (.tmp 21) (.tmp 27), some (14, false)⟩,
    ⟨(some 29), .bin .gtr (.tmp 16) (.tmp 28), some (14, false)⟩,
    ⟨(some 30), .pick (.tmp 14) (.const (.bool true)) (.tmp 29), none⟩,
    ⟨(some 8), .mov (.tmp 30), none⟩]
def pen_Pen_Raw.d0b : List (List Nat) := [[], [0], [0, 1], [0, 1, 2], [0, 1, 2, 3], [0, 1, 2, 3, 4], [0, 1, 2, 3, 4, 5], [0, 1, 2, 3, 4, 5, 6], [0, 1, 2, 3, 4, 5], [0, 1, 2, 3, 4, 5, 8], [0, 1, 2, 3, 4, 5, 8, 9], [0, 1, 2, 3, 4, 5, 8, 9, 10], [0, 1, 2, 3, 4, 5, 8, 9, 10, 11], [0, 1, 2, 3, 4, 5], [0, 1, 2, 3, 4, 5, 13], [0, 1, 2, 3, 4, 5, 13, 14], [0, 1, 2, 3, 4, 5, 13, 14, 15], [0, 1, 2, 3, 4, 5, 13, 14, 15, 16], [0, 1, 2, 3, 4, 5, 13, 14, 15, 16, 17], [0, 1, 2, 3, 4, 5, 8, 9, 10, 11, 12, 13, 14, 15, 16, 17, 18], [0, 1, 2, 3, 4, 5, 6, 7, 8, 9, 10, 11, 12, 13, 14, 15, 16, 17, 18, 19], [0, 1, 2, 3, 4, 5, 6, 7, 8, 9, 10, 11, 12, 13, 14, 15, 16, 17, 18, 19, 20], [0, 1, 2, 3, 4, 5, 6, 7, 8, 9, 10, 11, 12, 13, 14, 15, 16, 17, 18, 19, 20, 21]]
def pen_Pen_Raw.body : ACode := .seq (.region [⟨(some 4), .mov (.const (.int .i64 0)), none⟩] [0, 1])
  (.seq (.block 0 (.seq (.region [⟨(some 6), .mov (.tmp 0), none⟩,
    ⟨(some 7), .eq false .ptr (.tmp 6) (.const .nilp), none⟩,
    ⟨(some 5), .mov (.tmp 7), none⟩] [0, 1, 5])
  (.cond (.tmp 5) (.seq (.region [⟨(some 4), .mov (.const (.int .i64 1)), none⟩] [4])
  (.ret)) (.seq (.draw pen_Pen_Raw.d0 pen_Pen_Raw.d0b [[0, 1, 2, 3, 4, 5, 6, 7, 8, 9, 10, 11, 12, 13, 14, 15, 16, 17, 18, 19, 20, 21, 22]] [] [0, 1, 8])
  (.cond (.tmp 8) (.seq (.region [⟨(some 31), .mov (.tmp 0), none⟩,
    ⟨(some 32), .nilc (.tmp 31), none⟩,
    ⟨(some 33), .field 0 (.tmp 32), none⟩,
    ⟨(some 34), .field 2 (.tmp 33), none⟩,
    ⟨none, .store 1 (.tmp 34) (.const (.bool true)), none⟩] [])
  (.seq (.region [⟨(some 4), .mov (.const (.int .i64 2)), none⟩] [4])
  (.ret))) (.skip))))))
  (.seq (.region [⟨(some 35), .mov (.tmp 0), none⟩,
    ⟨(some 36), .mov (.tmp 0), none⟩,
    ⟨(some 37), .nilc (.tmp 36), none⟩,
    ⟨(some 38), .field 0 (.tmp 37), none⟩,
    ⟨(some 39), .field 0 (.tmp 38), none⟩,
    ⟨(some 40), .load none (.tmp 39), none⟩,
    ⟨(some 41), .mov (.tmp 1), none⟩,
    ⟨(some 42), .append T.uint8 1 1 (.tmp 40) (.tmp 41), none⟩,
    ⟨(some 43), .nilc (.tmp 35), none⟩,
    ⟨(some 44), .field 0 (.tmp 43), none⟩,
    ⟨(some 45), .field 0 (.tmp 44), none⟩,
    ⟨none, .store 1 (.tmp 45) (.tmp 42), none⟩] [])
  (.seq (.region [⟨(some 4), .mov (.const (.int .i64 0)), none⟩] [4])
  (.ret))))
def pen_Pen_Raw : AFun := ⟨46, 2, [.tmp 4], pen_Pen_Raw.body⟩
def varint_Put.b0 : ACode := .seq (.seq (.region [⟨(some 12), .mov (.tmp 5), none⟩,
    ⟨(some 13), .bin .geq (.tmp 12) (.const (.int .u64 128)), none⟩] [3, 5, 6, 7, 8, 13])
  (.cond (.tmp 13) (.skip) (.exit 2)))
  (.seq (.block 3 (.region [⟨(some 16), .mov (.tmp 3), none⟩,
    ⟨(some 17), .mov (.tmp 5), none⟩,
    ⟨(some 18), .conv .u8 (.tmp 17), none⟩,
    ⟨(some 19), .bin .or (.tmp 18) (.const (.int .u8 128)), none⟩,
    ⟨(some 20), .lit T.uint8 1 1 [(.int .u8 0)] [(0, 1, (.tmp 19))], none⟩,
    ⟨(some 21), .append T.uint8 1 1 (.tmp 16) (.tmp 20), none⟩,
    ⟨(some 3), .mov (.tmp 21), none⟩] [3, 5, 6, 7, 8]))
  (.region [⟨(some 14), .mov (.tmp 5), none⟩,
    ⟨(some 15), .bin .shr (.tmp 14) (.const (.int .u64 7)), none⟩,
    ⟨(some 5), .mov (.tmp 15), none⟩] [3, 5, 6, 7, 8]))
def varint_Put.b1 : ACode := .seq (.region [⟨(some 9), .bin .lss (.tmp 8) (.tmp 7), none⟩] [3, 6, 7, 8, 9])
  (.seq (.cond (.tmp 9) (.skip) (.exit 0))
  (.seq (.block 1 (.seq (.region [⟨(some 10), .idx 1 none (.tmp 6) (.tmp 8), none⟩,
    ⟨(some 11), .load none (.tmp 10), none⟩,
    ⟨(some 5), .mov (.tmp 11), none⟩] [3, 5, 6, 7, 8])
  (.seq (.block 2 (.loop varint_Put.b0))
  (.region [⟨(some 22), .mov (.tmp 3), none⟩,
    ⟨(some 23), .mov (.tmp 5), none⟩,
    ⟨(some 24), .conv .u8 (.tmp 23), none⟩,
    ⟨(some 25), .lit T.uint8 1 1 [(.int .u8 0)] [(0, 1, (.tmp 24))], none⟩,
    ⟨(some 26), .append T.uint8 1 1 (.tmp 22) (.tmp 25), none⟩,
    ⟨(some 3), .mov (.tmp 26), none⟩] [3, 6, 7, 8]))))
  (.region [⟨(some 27), .bin .add (.tmp 8) (.const (.int .i64 1)), none⟩,
    ⟨(some 8), .mov (.tmp 27), none⟩] [3, 6, 7, 8])))
def varint_Put.body : ACode := .seq (.region [⟨(some 2), .mov (.const .nils), none⟩] [0])
  (.seq (.region [⟨(some 3), .mov (.const .nils), none⟩] [0, 3])
  (.seq (.seq (.region [⟨(some 6), .mov (.tmp 0), none⟩,
    ⟨(some 7), .len .slice (.tmp 6), none⟩,
    ⟨(some 8), .mov (.const (.int .i64 0)), none⟩] [3, 6, 7, 8])
  (.block 0 (.loop varint_Put.b1)))
  (.seq (.region [⟨(some 28), .mov (.tmp 3), none⟩,
    ⟨(some 2), .mov (.tmp 28), none⟩] [2])
  (.ret))))
def varint_Put : AFun := ⟨29, 1, [.tmp 2], varint_Put.body⟩
def varint_Zig.body : ACode := .seq (.region [⟨(some 2), .mov (.const (.int .u64 0)), none⟩] [0])
  (.seq (.region [⟨(some 3), .mov (.tmp 0), none⟩,
    ⟨(some 4), .conv .u64 (.tmp 3), none⟩,
    ⟨(some 5), .bin .shl (.tmp 4) (.const (.int .u64 1)), none⟩,
    ⟨(some 6), .mov (.tmp 0), none⟩,
    ⟨(some 7), .bin .shr (.tmp 6) (.const (.int .u64 63)), none⟩,
    ⟨(some 8), .conv .u64 (.tmp 7), none⟩,
    ⟨(some 9), .bin .xor (.tmp 5) (.tmp 8), none⟩,
    ⟨(some 2), .mov (.tmp 9), none⟩] [2])
  (.ret))
def varint_Zig : AFun := ⟨10, 1, [.tmp 2], varint_Zig.body⟩
def lens_Lens_Field_1.d0 : List AOper := [⟨(some 38), .load none (.tmp 2), none⟩,
    ⟨(some 39), .mov (.tmp 0), none⟩,
    ⟨(some 40), .mov (.tmp 7), none⟩,
    ⟨(some 41), .mov (.tmp 9), none⟩,
    ⟨(some 42), .mov (.tmp 9), none⟩,
    ⟨(some 43), .slice 1 .slice (.tmp 39) (some (.tmp 40)) (some (.tmp 41)) (some (.tmp 42)), none⟩,
    ⟨(some 44), .append T.uint8 1 1 (.tmp 38) (.tmp 43), none⟩,
    ⟨none, .store 1 (.tmp 2) (.tmp 44), none⟩]
def lens_Lens_Field_1.d0b : List (List Nat) := [[], [], [], [], [], [1, 2, 3, 4], [0, 1, 2, 3, 4, 5], [0, 1, 2, 3, 4, 5, 6]]
def lens_Lens_Field_1.body : ACode := .seq (.region [⟨(some 4), .mov (.const (.int .i64 0)), none⟩,
    ⟨(some 5), .mov (.const (.int .i64 0)), none⟩] [0, 1, 2])
  (.seq (.region [⟨(some 11), .mov (.tmp 0), none⟩,
    ⟨(some 12), .call (.const (.fn F.varint_Get [] [])) [(.tmp 11)], none⟩,
    ⟨(some 10), .mov (.tmp 12), none⟩,
    ⟨(some 13), .extract (.tmp 10) 0, none⟩,
    ⟨(some 14), .extract (.tmp 10) 1, none⟩,
    ⟨(some 15), .extract (.tmp 10) 2, none⟩,
    ⟨(some 6), .mov (.tmp 13), none⟩,
    ⟨(some 7), .mov (.tmp 14), none⟩,
    ⟨(some 8), .mov (.tmp 15), none⟩] [0, 1, 2, 6, 7, 8])
  (.seq (.block 0 (.seq (.region [⟨(some 17), .mov (.tmp 8), none⟩,
    ⟨(some 18), .bin .neq (.tmp 17) (.const (.int .i64 0)), none⟩,
    ⟨(some 16), .mov (.tmp 18), none⟩] [0, 1, 2, 6, 7, 8, 16])
  (.cond (.tmp 16) (.seq (.region [⟨(some 19), .mov (.tmp 8), none⟩,
    ⟨(some 4), .mov (.const (.int .i64 0)), none⟩,
    ⟨(some 5), .mov (.tmp 19), none⟩] [4, 5])
  (.ret)) (.seq (.region [⟨(some 21), .mov (.tmp 6), none⟩,
    ⟨(some 22), .load none (.tmp 1), none⟩,
    ⟨(some 23), .maxmin true (.tmp 22) (.const (.int .i64 0)), none⟩,
    ⟨(some 24), .conv .u64 (.tmp 23), none⟩,
    ⟨(some 25), .bin .gtr (.tmp 21) (.tmp 24), none⟩,
    ⟨(some 20), .mov (.tmp 25), none⟩] [0, 2, 6, 7, 20])
  (.cond (.tmp 20) (.seq (.region [⟨(some 4), .mov (.const (.int .i64 0)), none⟩,
    ⟨(some 5), .mov (.const (.int .i64 6)), none⟩] [4, 5])
  (.ret)) (.seq (.region [⟨(some 27), .mov (.tmp 6), none⟩,
    ⟨(some 28), .mov (.tmp 0), none⟩,
    ⟨(some 29), .len .slice (.tmp 28), none⟩,
    ⟨(some 30), .mov (.tmp 7), none⟩,
    ⟨(some 31), .bin .sub (.tmp 29) (.tmp 30), none⟩,
    ⟨(some 32), .conv .u64 (.tmp 31), none⟩,
    ⟨(some 33), .bin .gtr (.tmp 27) (.tmp 32), none⟩,
    ⟨(some 26), .mov (.tmp 33), none⟩] [0, 2, 6, 7, 26])
  (.cond (.tmp 26) (.seq (.region [⟨(some 4), .mov (.const (.int .i64 0)), none⟩,
    ⟨(some 5), .mov (.const (.int .i64 4)), none⟩] [4, 5])
  (.ret)) (.skip))))))))
  (.seq (.region [⟨(some 34), .mov (.tmp 7), none⟩,
    ⟨(some 35), .mov (.tmp 6), none⟩,
    ⟨(some 36), .conv .i64 (.tmp 35), none⟩,
    ⟨(some 37), .bin .add (.tmp 34) (.tmp 36), none⟩,
    ⟨(some 9), .mov (.tmp 37), none⟩] [0, 2, 7, 9])
  (.seq (.draw lens_Lens_Field_1.d0 lens_Lens_Field_1.d0b [[0, 1, 2, 3, 4, 5, 6, 7]] [] [9])
  (.seq (.region [⟨(some 45), .mov (.tmp 9), none⟩,
    ⟨(some 4), .mov (.tmp 45), none⟩,
    ⟨(some 5), .mov (.const (.int .i64 0)), none⟩] [4, 5])
  (.ret))))))
def lens_Lens_Field_1 : AFun := ⟨46, 3, [.tmp 4, .tmp 5], lens_Lens_Field_1.body⟩
theorem cuneiformlaw18_BodyDecodes_code : okFun Try.prog F.cuneiformlaw18_BodyDecodes cuneiformlaw18_BodyDecodes = true := by kernel_rfl
theorem body_Decode_code : okFun Try.prog F.body_Decode body_Decode = true := by kernel_rfl
theorem cuneiformref18_Decode_code : okFun Try.prog F.cuneiformref18_Decode cuneiformref18_Decode = true := by kernel_rfl
theorem cuneiformref17_Same_code : okFun Try.prog F.cuneiformref17_Same cuneiformref17_Same = true := by kernel_rfl
theorem cuneiformlaw17_Of_code : okFun Try.prog F.cuneiformlaw17_Of cuneiformlaw17_Of = true := by kernel_rfl
theorem cuneiformlaw18_known_code : okFun Try.prog F.cuneiformlaw18_known cuneiformlaw18_known = true := by kernel_rfl
theorem body_Encode_code : okFun Try.prog F.body_Encode body_Encode = true := by kernel_rfl
theorem cuneiformref01_Same_code : okFun Try.prog F.cuneiformref01_Same cuneiformref01_Same = true := by kernel_rfl
theorem msg_Check_code : okFun Try.prog F.msg_Check msg_Check = true := by kernel_rfl
theorem msg_Same_code : okFun Try.prog F.msg_Same msg_Same = true := by kernel_rfl
theorem msg_Project_code : okFun Try.prog F.msg_Project msg_Project = true := by kernel_rfl
theorem cuneiformref16_All_code : okFun Try.prog F.cuneiformref16_All cuneiformref16_All = true := by kernel_rfl
theorem body_Parts_code : okFun Try.prog F.body_Parts body_Parts = true := by kernel_rfl
theorem cuneiformref17_Project_code : okFun Try.prog F.cuneiformref17_Project cuneiformref17_Project = true := by kernel_rfl
theorem field_Word_code : okFun Try.prog F.field_Word field_Word = true := by kernel_rfl
theorem lens_New_code : okFun Try.prog F.lens_New lens_New = true := by kernel_rfl
theorem field_All_code : okFun Try.prog F.field_All field_All = true := by kernel_rfl
theorem body_reader_field_code : okFun Try.prog F.body_reader_field body_reader_field = true := by kernel_rfl
theorem body_reader_err_code : okFun Try.prog F.body_reader_err body_reader_err = true := by kernel_rfl
theorem lens_Lens_End_code : okFun Try.prog F.lens_Lens_End lens_Lens_End = true := by kernel_rfl
theorem cuneiformref18_field_code : okFun Try.prog F.cuneiformref18_field cuneiformref18_field = true := by kernel_rfl
theorem cuneiformref01_Ints_code : okFun Try.prog F.cuneiformref01_Ints cuneiformref01_Ints = true := by kernel_rfl
theorem body_check_code : okFun Try.prog F.body_check body_check = true := by kernel_rfl
theorem field_Of_code : okFun Try.prog F.field_Of field_Of = true := by kernel_rfl
theorem msg_wrong_code : okFun Try.prog F.msg_wrong msg_wrong = true := by kernel_rfl
theorem msg_without_code : okFun Try.prog F.msg_without msg_without = true := by kernel_rfl
theorem slices_Equal_msg_Point_msg_Point_code : okFun Try.prog F.slices_Equal_msg_Point_msg_Point slices_Equal_msg_Point_msg_Point = true := by kernel_rfl
theorem slices_Equal_int_int_code : okFun Try.prog F.slices_Equal_int_int slices_Equal_int_int = true := by kernel_rfl
theorem msg_Copy_code : okFun Try.prog F.msg_Copy msg_Copy = true := by kernel_rfl
theorem body_Parts_1_code : okFun Try.prog F.body_Parts_1 body_Parts_1 = true := by kernel_rfl
theorem body_part_code : okFun Try.prog F.body_part body_part = true := by kernel_rfl
theorem field_All_1_code : okFun Try.prog F.field_All_1 field_All_1 = true := by kernel_rfl
theorem lens_Lens_Number_code : okFun Try.prog F.lens_Lens_Number lens_Lens_Number = true := by kernel_rfl
theorem body_reader_note_code : okFun Try.prog F.body_reader_note body_reader_note = true := by kernel_rfl
theorem lens_Lens_Signed_code : okFun Try.prog F.lens_Lens_Signed lens_Lens_Signed = true := by kernel_rfl
theorem body_reader_points_code : okFun Try.prog F.body_reader_points body_reader_points = true := by kernel_rfl
theorem body_reader_cells_code : okFun Try.prog F.body_reader_cells body_reader_cells = true := by kernel_rfl
theorem body_reader_text_code : okFun Try.prog F.body_reader_text body_reader_text = true := by kernel_rfl
theorem lens_Lens_Err_code : okFun Try.prog F.lens_Lens_Err lens_Lens_Err = true := by kernel_rfl
theorem lens_Lens_Left_code : okFun Try.prog F.lens_Lens_Left lens_Lens_Left = true := by kernel_rfl
theorem cuneiformref01_Get_code : okFun Try.prog F.cuneiformref01_Get cuneiformref01_Get = true := by kernel_rfl
theorem cuneiformref18_far_code : okFun Try.prog F.cuneiformref18_far cuneiformref18_far = true := by kernel_rfl
theorem cuneiformref01_Zag_code : okFun Try.prog F.cuneiformref01_Zag cuneiformref01_Zag = true := by kernel_rfl
theorem cuneiformref18_path_code : okFun Try.prog F.cuneiformref18_path cuneiformref18_path = true := by kernel_rfl
theorem cuneiformref18_cells_code : okFun Try.prog F.cuneiformref18_cells cuneiformref18_cells = true := by kernel_rfl
theorem field_robot_code : okFun Try.prog F.field_robot field_robot = true := by kernel_rfl
theorem msg_path_code : okFun Try.prog F.msg_path msg_path = true := by kernel_rfl
theorem msg_cells_code : okFun Try.prog F.msg_cells msg_cells = true := by kernel_rfl
theorem msg_text_code : okFun Try.prog F.msg_text msg_text = true := by kernel_rfl
theorem slices_Clone_msg_Point_msg_Point_code : okFun Try.prog F.slices_Clone_msg_Point_msg_Point slices_Clone_msg_Point_msg_Point = true := by kernel_rfl
theorem slices_Clone_int_int_code : okFun Try.prog F.slices_Clone_int_int slices_Clone_int_int = true := by kernel_rfl
theorem pen_New_code : okFun Try.prog F.pen_New pen_New = true := by kernel_rfl
theorem pen_Pen_Number_code : okFun Try.prog F.pen_Pen_Number pen_Pen_Number = true := by kernel_rfl
theorem pen_Pen_Signed_code : okFun Try.prog F.pen_Pen_Signed pen_Pen_Signed = true := by kernel_rfl
theorem body_points_code : okFun Try.prog F.body_points body_points = true := by kernel_rfl
theorem body_cells_code : okFun Try.prog F.body_cells body_cells = true := by kernel_rfl
theorem pen_Pen_Field_code : okFun Try.prog F.pen_Pen_Field pen_Pen_Field = true := by kernel_rfl
theorem pen_Pen_Bytes_code : okFun Try.prog F.pen_Pen_Bytes pen_Pen_Bytes = true := by kernel_rfl
theorem lens_Lens_read_code : okFun Try.prog F.lens_Lens_read lens_Lens_read = true := by kernel_rfl
theorem lens_Lens_Number_1_code : okFun Try.prog F.lens_Lens_Number_1 lens_Lens_Number_1 = true := by kernel_rfl
theorem varint_Get_code : okFun Try.prog F.varint_Get varint_Get = true := by kernel_rfl
theorem lens_Lens_Signed_1_code : okFun Try.prog F.lens_Lens_Signed_1 lens_Lens_Signed_1 = true := by kernel_rfl
theorem varint_Zag_code : okFun Try.prog F.varint_Zag varint_Zag = true := by kernel_rfl
theorem body_reader_points_1_code : okFun Try.prog F.body_reader_points_1 body_reader_points_1 = true := by kernel_rfl
theorem body_reader_count_code : okFun Try.prog F.body_reader_count body_reader_count = true := by kernel_rfl
theorem lens_Lens_Field_code : okFun Try.prog F.lens_Lens_Field lens_Lens_Field = true := by kernel_rfl
theorem lens_Lens_left_code : okFun Try.prog F.lens_Lens_left lens_Lens_left = true := by kernel_rfl
theorem msg_many_code : okFun Try.prog F.msg_many msg_many = true := by kernel_rfl
theorem pen_Pen_Raw_code : okFun Try.prog F.pen_Pen_Raw pen_Pen_Raw = true := by kernel_rfl
theorem varint_Put_code : okFun Try.prog F.varint_Put varint_Put = true := by kernel_rfl
theorem varint_Zig_code : okFun Try.prog F.varint_Zig varint_Zig = true := by kernel_rfl
theorem lens_Lens_Field_1_code : okFun Try.prog F.lens_Lens_Field_1 lens_Lens_Field_1 = true := by kernel_rfl
def codes : CT := [(F.cuneiformlaw18_BodyDecodes, cuneiformlaw18_BodyDecodes), (F.body_Decode, body_Decode), (F.cuneiformref18_Decode, cuneiformref18_Decode), (F.cuneiformref17_Same, cuneiformref17_Same), (F.cuneiformlaw17_Of, cuneiformlaw17_Of), (F.cuneiformlaw18_known, cuneiformlaw18_known), (F.body_Encode, body_Encode), (F.cuneiformref01_Same, cuneiformref01_Same), (F.msg_Check, msg_Check), (F.msg_Same, msg_Same), (F.msg_Project, msg_Project), (F.cuneiformref16_All, cuneiformref16_All), (F.body_Parts, body_Parts), (F.cuneiformref17_Project, cuneiformref17_Project), (F.field_Word, field_Word), (F.lens_New, lens_New), (F.field_All, field_All), (F.body_reader_field, body_reader_field), (F.body_reader_err, body_reader_err), (F.lens_Lens_End, lens_Lens_End), (F.cuneiformref18_field, cuneiformref18_field), (F.cuneiformref01_Ints, cuneiformref01_Ints), (F.body_check, body_check), (F.field_Of, field_Of), (F.msg_wrong, msg_wrong), (F.msg_without, msg_without), (F.slices_Equal_msg_Point_msg_Point, slices_Equal_msg_Point_msg_Point), (F.slices_Equal_int_int, slices_Equal_int_int), (F.msg_Copy, msg_Copy), (F.body_Parts_1, body_Parts_1), (F.body_part, body_part), (F.field_All_1, field_All_1), (F.lens_Lens_Number, lens_Lens_Number), (F.body_reader_note, body_reader_note), (F.lens_Lens_Signed, lens_Lens_Signed), (F.body_reader_points, body_reader_points), (F.body_reader_cells, body_reader_cells), (F.body_reader_text, body_reader_text), (F.lens_Lens_Err, lens_Lens_Err), (F.lens_Lens_Left, lens_Lens_Left), (F.cuneiformref01_Get, cuneiformref01_Get), (F.cuneiformref18_far, cuneiformref18_far), (F.cuneiformref01_Zag, cuneiformref01_Zag), (F.cuneiformref18_path, cuneiformref18_path), (F.cuneiformref18_cells, cuneiformref18_cells), (F.field_robot, field_robot), (F.msg_path, msg_path), (F.msg_cells, msg_cells), (F.msg_text, msg_text), (F.slices_Clone_msg_Point_msg_Point, slices_Clone_msg_Point_msg_Point), (F.slices_Clone_int_int, slices_Clone_int_int), (F.pen_New, pen_New), (F.pen_Pen_Number, pen_Pen_Number), (F.pen_Pen_Signed, pen_Pen_Signed), (F.body_points, body_points), (F.body_cells, body_cells), (F.pen_Pen_Field, pen_Pen_Field), (F.pen_Pen_Bytes, pen_Pen_Bytes), (F.lens_Lens_read, lens_Lens_read), (F.lens_Lens_Number_1, lens_Lens_Number_1), (F.varint_Get, varint_Get), (F.lens_Lens_Signed_1, lens_Lens_Signed_1), (F.varint_Zag, varint_Zag), (F.body_reader_points_1, body_reader_points_1), (F.body_reader_count, body_reader_count), (F.lens_Lens_Field, lens_Lens_Field), (F.lens_Lens_left, lens_Lens_left), (F.msg_many, msg_many), (F.pen_Pen_Raw, pen_Pen_Raw), (F.varint_Put, varint_Put), (F.varint_Zig, varint_Zig), (F.lens_Lens_Field_1, lens_Lens_Field_1)]
theorem codes_ok : AllOk Try.prog codes := ⟨cuneiformlaw18_BodyDecodes_code, body_Decode_code, cuneiformref18_Decode_code, cuneiformref17_Same_code, cuneiformlaw17_Of_code, cuneiformlaw18_known_code, body_Encode_code, cuneiformref01_Same_code, msg_Check_code, msg_Same_code, msg_Project_code, cuneiformref16_All_code, body_Parts_code, cuneiformref17_Project_code, field_Word_code, lens_New_code, field_All_code, body_reader_field_code, body_reader_err_code, lens_Lens_End_code, cuneiformref18_field_code, cuneiformref01_Ints_code, body_check_code, field_Of_code, msg_wrong_code, msg_without_code, slices_Equal_msg_Point_msg_Point_code, slices_Equal_int_int_code, msg_Copy_code, body_Parts_1_code, body_part_code, field_All_1_code, lens_Lens_Number_code, body_reader_note_code, lens_Lens_Signed_code, body_reader_points_code, body_reader_cells_code, body_reader_text_code, lens_Lens_Err_code, lens_Lens_Left_code, cuneiformref01_Get_code, cuneiformref18_far_code, cuneiformref01_Zag_code, cuneiformref18_path_code, cuneiformref18_cells_code, field_robot_code, msg_path_code, msg_cells_code, msg_text_code, slices_Clone_msg_Point_msg_Point_code, slices_Clone_int_int_code, pen_New_code, pen_Pen_Number_code, pen_Pen_Signed_code, body_points_code, body_cells_code, pen_Pen_Field_code, pen_Pen_Bytes_code, lens_Lens_read_code, lens_Lens_Number_1_code, varint_Get_code, lens_Lens_Signed_1_code, varint_Zag_code, body_reader_points_1_code, body_reader_count_code, lens_Lens_Field_code, lens_Lens_left_code, msg_many_code, pen_Pen_Raw_code, varint_Put_code, varint_Zig_code, lens_Lens_Field_1_code, trivial⟩
end Go.Proofs.Ytdamfbjoiddfhaa
