/-
  The code that the statements of this seat reach, in the form of that machine, and that it is the program's. By an AI agent. No person has read it.
-/
import Derived.Test.YtgjldipoagkncaaProg
import Derived.Test.YtgjldipoagkncaaAm6
import Derived.KernelRfl

/-
  The code of this seat in the form of the abstract machine, and that it is the program's. Printed by a program (wip/am/gen.py, code.py). By an AI agent.
-/
namespace Go.Proofs.Ytgjldipoagkncaa
open Go Go.Am
namespace F
def cuneiformlaw19_SchemaBack : FuncId := 4
def schema_Turn : FuncId := 7
def cuneiformlaw19_known : FuncId := 9
def cuneiformref01_Same : FuncId := 10
def schema_Versions : FuncId := 13
def msg_Same : FuncId := 14
def schema_Best : FuncId := 19
def schema_Lost : FuncId := 23
def schema_is : FuncId := 28
def body_Decode : FuncId := 29
def body_Encode : FuncId := 30
def msg_Project : FuncId := 31
def schema_Versions_1 : FuncId := 33
def slices_Equal_msg_Point_msg_Point : FuncId := 34
def slices_Equal_int_int : FuncId := 35
def msg_Check : FuncId := 36
def schema_Lost_1 : FuncId := 39
def field_Of : FuncId := 40
def field_Word : FuncId := 43
def lens_New : FuncId := 44
def field_All : FuncId := 45
def body_reader_field : FuncId := 46
def body_reader_err : FuncId := 47
def lens_Lens_End : FuncId := 48
def body_check : FuncId := 49
def body_Parts : FuncId := 50
def msg_Copy : FuncId := 51
def msg_without : FuncId := 52
def msg_wrong : FuncId := 54
def field_robot : FuncId := 58
def field_All_1 : FuncId := 61
def lens_Lens_Number : FuncId := 62
def body_reader_note : FuncId := 63
def lens_Lens_Signed : FuncId := 64
def body_reader_points : FuncId := 65
def body_reader_cells : FuncId := 66
def body_reader_text : FuncId := 67
def lens_Lens_Err : FuncId := 68
def lens_Lens_Left : FuncId := 69
def body_Parts_1 : FuncId := 70
def body_part : FuncId := 71
def slices_Clone_msg_Point_msg_Point : FuncId := 72
def slices_Clone_int_int : FuncId := 73
def msg_path : FuncId := 79
def msg_cells : FuncId := 80
def msg_text : FuncId := 81
def lens_Lens_read : FuncId := 84
def lens_Lens_Number_1 : FuncId := 85
def varint_Get : FuncId := 86
def lens_Lens_Signed_1 : FuncId := 87
def varint_Zag : FuncId := 88
def body_reader_points_1 : FuncId := 89
def body_reader_count : FuncId := 90
def lens_Lens_Field : FuncId := 91
def lens_Lens_left : FuncId := 92
def pen_New : FuncId := 93
def pen_Pen_Number : FuncId := 94
def pen_Pen_Signed : FuncId := 95
def body_points : FuncId := 96
def body_cells : FuncId := 97
def pen_Pen_Field : FuncId := 98
def pen_Pen_Bytes : FuncId := 99
def msg_many : FuncId := 100
def lens_Lens_Field_1 : FuncId := 101
def pen_Pen_Raw : FuncId := 102
def varint_Put : FuncId := 103
def varint_Zig : FuncId := 104
end F
namespace T
def int64 : TypeId := 2
def int : TypeId := 3
def bool : TypeId := 4
def uint8 : TypeId := 5
def string : TypeId := 9
def sl_uint8 : TypeId := 22
def msg_Msg : TypeId := 36
def msg_Point : TypeId := 84
def field_Field : TypeId := 96
def p_body_reader : TypeId := 99
def body_reader : TypeId := 103
def lens_Lens : TypeId := 126
def uint64 : TypeId := 128
def func_string_sl_uint8_bool : TypeId := 134
def pen_Pen : TypeId := 167
end T
def cuneiformlaw19_SchemaBack.body : ACode := .seq (.region [⟨(some 4), .mov (.const (.bool false)), none⟩] [0, 1])
  (.seq (.region [⟨(some 11), .mov (.tmp 1), none⟩,
    ⟨(some 12), .mov (.tmp 1), none⟩,
    ⟨(some 13), .len .slice (.tmp 12), none⟩,
    ⟨(some 14), .maxmin false (.tmp 13) (.const (.int .i64 250)), none⟩,
    ⟨(some 15), .slice 1 .slice (.tmp 11) none (some (.tmp 14)) none, none⟩,
    ⟨(some 1), .mov (.tmp 15), none⟩] [0, 1])
  (.seq (.region [⟨(some 17), .mov (.tmp 0), none⟩,
    ⟨(some 18), .mov (.tmp 1), none⟩,
    ⟨(some 19), .call (.const (.fn F.schema_Turn [] [])) [(.tmp 17), (.const (.int .i64 1)), (.const (.int .i64 2)), (.tmp 18)], none⟩,
    ⟨(some 16), .mov (.tmp 19), none⟩,
    ⟨(some 20), .extract (.tmp 16) 0, none⟩,
    ⟨(some 21), .extract (.tmp 16) 1, none⟩,
    ⟨(some 22), .extract (.tmp 16) 2, none⟩,
    ⟨(some 5), .mov (.tmp 20), none⟩,
    ⟨(some 6), .mov (.tmp 21), none⟩,
    ⟨(some 7), .mov (.tmp 22), none⟩] [0, 1, 5, 6, 7])
  (.seq (.seq (.region [⟨(some 23), .mov (.tmp 7), none⟩,
    ⟨(some 24), .bin .neq (.tmp 23) (.const (.int .i64 0)), none⟩] [0, 1, 5, 6, 24])
  (.cond (.tmp 24) (.seq (.region [⟨(some 25), .call (.const (.fn F.cuneiformlaw19_known [] [])) [], none⟩,
    ⟨(some 26), .mov (.tmp 25), none⟩,
    ⟨(some 27), .mov (.tmp 6), some (26, true)⟩,
    ⟨(some 28), .un .not (.tmp 27), some (26, true)⟩,
    ⟨(some 29), .pick (.tmp 26) (.tmp 28) (.const (.bool false)), none⟩,
    ⟨(some 30), .mov (.tmp 29), none⟩,
    ⟨(some 31), .mov (.tmp 5), some (30, true)⟩,
    ⟨(some 32), .len .slice (.tmp 31), some (30, true)⟩,
    ⟨(some 33), .bin .eql (.tmp 32) (.const (.int .i64 0)), some (30, true)⟩,
    ⟨(some 34), .pick (.tmp 30) (.tmp 33) (.const (.bool false)), none⟩,
    ⟨(some 4), .mov (.tmp 34), none⟩] [4])
  (.ret)) (.skip)))
  (.seq (.region [⟨(some 36), .mov (.tmp 0), none⟩,
    ⟨(some 37), .mov (.tmp 5), none⟩,
    ⟨(some 38), .call (.const (.fn F.schema_Turn [] [])) [(.tmp 36), (.const (.int .i64 2)), (.const (.int .i64 1)), (.tmp 37)], none⟩,
    ⟨(some 35), .mov (.tmp 38), none⟩,
    ⟨(some 39), .extract (.tmp 35) 0, none⟩,
    ⟨(some 40), .extract (.tmp 35) 1, none⟩,
    ⟨(some 41), .extract (.tmp 35) 2, none⟩,
    ⟨(some 8), .mov (.tmp 39), none⟩,
    ⟨(some 9), .mov (.tmp 40), none⟩,
    ⟨(some 10), .mov (.tmp 41), none⟩] [1, 6, 8, 9, 10])
  (.seq (.region [⟨(some 42), .call (.const (.fn F.cuneiformlaw19_known [] [])) [], none⟩,
    ⟨(some 43), .mov (.tmp 42), none⟩,
    ⟨(some 44), .mov (.tmp 6), some (43, true)⟩,
    ⟨(some 45), .pick (.tmp 43) (.tmp 44) (.const (.bool false)), none⟩,
    ⟨(some 46), .mov (.tmp 45), none⟩,
    ⟨(some 47), .mov (.tmp 9), some (46, true)⟩,
    ⟨(some 48), .pick (.tmp 46) (.tmp 47) (.const (.bool false)), none⟩,
    ⟨(some 49), .mov (.tmp 48), none⟩,
    ⟨(some 50), .mov (.tmp 10), some (49, true)⟩,
    ⟨(some 51), .bin .eql (.tmp 50) (.const (.int .i64 0)), some (49, true)⟩,
    ⟨(some 52), .pick (.tmp 49) (.tmp 51) (.const (.bool false)), none⟩,
    ⟨(some 53), .mov (.tmp 52), none⟩,
    ⟨(some 54), .mov (.tmp 8), some (53, true)⟩,
    ⟨(some 55), .mov (.tmp 1), some (53, true)⟩,
    ⟨(some 56), .call (.const (.fn F.cuneiformref01_Same [] [])) [(.tmp 54), (.tmp 55)], some (53, true)⟩,
    ⟨(some 57), .pick (.tmp 53) (.tmp 56) (.const (.bool false)), none⟩,
    ⟨(some 4), .mov (.tmp 57), none⟩] [4])
  (.ret))))))
def cuneiformlaw19_SchemaBack : AFun := ⟨58, 2, [.tmp 4], cuneiformlaw19_SchemaBack.body⟩
def schema_Turn.d0 : List AOper := [⟨(some 38), .mov (.tmp 13), none⟩,
    ⟨(some 39), .load (some 11) (.tmp 11), none⟩,
    ⟨(some 40), .mov (.tmp 2), none⟩,
    ⟨(some 41), .call (.const (.fn F.msg_Project [] [])) [(.tmp 39), (.tmp 40)], none⟩,
    ⟨(some 42), .load (some 11) (.tmp 11), none⟩,
    ⟨(some 43), .call (.const (.fn F.msg_Same [] [])) [(.tmp 41), (.tmp 42)], none⟩,
    ⟨(some 44), .mov (.tmp 12), none⟩,
    ⟨(some 8), .mov (.tmp 38), none⟩,
    ⟨(some 9), .mov (.tmp 43), none⟩,
    ⟨(some 10), .mov (.tmp 44), none⟩]
def schema_Turn.d0b : List (List Nat) := [[], [], [], [1, 2], [], [1, 2, 3, 4], [], [0, 1, 2, 3, 4, 5], [0, 1, 2, 3, 4, 5, 7], [0, 1, 2, 3, 4, 5, 6, 7, 8]]
def schema_Turn.body : ACode := .seq (.region [⟨(some 8), .mov (.const .nils), none⟩,
    ⟨(some 9), .mov (.const (.bool false)), none⟩,
    ⟨(some 10), .mov (.const (.int .i64 0)), none⟩] [0, 1, 2, 3])
  (.seq (.seq (.region [⟨(some 14), .mov (.tmp 1), none⟩,
    ⟨(some 15), .call (.const (.fn F.schema_is [] [])) [(.tmp 14)], none⟩,
    ⟨(some 16), .un .not (.tmp 15), none⟩,
    ⟨(some 17), .mov (.tmp 16), none⟩,
    ⟨(some 18), .mov (.tmp 2), some (17, false)⟩,
    ⟨(some 19), .call (.const (.fn F.schema_is [] [])) [(.tmp 18)], some (17, false)⟩,
    ⟨(some 20), .un .not (.tmp 19), some (17, false)⟩,
    ⟨(some 21), .pick (.tmp 17) (.const (.bool true)) (.tmp 20), none⟩] [0, 1, 2, 3, 21])
  (.cond (.tmp 21) (.seq (.region [⟨(some 8), .mov (.const .nils), none⟩,
    ⟨(some 9), .mov (.const (.bool false)), none⟩,
    ⟨(some 10), .mov (.const (.int .i64 10)), none⟩] [8, 9, 10])
  (.ret)) (.skip)))
  (.seq (.region [⟨(some 23), .mov (.tmp 0), none⟩,
    ⟨(some 24), .mov (.tmp 1), none⟩,
    ⟨(some 25), .mov (.tmp 3), none⟩,
    ⟨(some 26), .call (.const (.fn F.body_Decode [] [])) [(.tmp 23), (.tmp 24), (.tmp 25)], none⟩,
    ⟨(some 22), .mov (.tmp 26), none⟩,
    ⟨(some 27), .extract (.tmp 22) 0, none⟩,
    ⟨(some 28), .extract (.tmp 22) 1, none⟩,
    ⟨(some 11), .alloc T.msg_Msg [(.int .i64 0), (.int .i64 0), (.int .i64 0), (.int .i64 0), (.int .i64 0), (.int .i64 0), (.int .i64 0), .nils, .nils, (.str ⟨#[]⟩), (.str ⟨#[]⟩)], none⟩,
    ⟨none, .store 11 (.tmp 11) (.tmp 27), none⟩,
    ⟨(some 12), .mov (.tmp 28), none⟩] [2, 11, 12])
  (.seq (.seq (.region [⟨(some 29), .mov (.tmp 12), none⟩,
    ⟨(some 30), .bin .neq (.tmp 29) (.const (.int .i64 0)), none⟩] [2, 11, 12, 30])
  (.cond (.tmp 30) (.seq (.region [⟨(some 31), .mov (.tmp 12), none⟩,
    ⟨(some 8), .mov (.const .nils), none⟩,
    ⟨(some 9), .mov (.const (.bool false)), none⟩,
    ⟨(some 10), .mov (.tmp 31), none⟩] [8, 9, 10])
  (.ret)) (.skip)))
  (.seq (.region [⟨(some 33), .load (some 11) (.tmp 11), none⟩,
    ⟨(some 34), .mov (.tmp 2), none⟩,
    ⟨(some 35), .call (.const (.fn F.body_Encode [] [])) [(.tmp 33), (.tmp 34)], none⟩,
    ⟨(some 32), .mov (.tmp 35), none⟩,
    ⟨(some 36), .extract (.tmp 32) 0, none⟩,
    ⟨(some 37), .extract (.tmp 32) 1, none⟩,
    ⟨(some 13), .mov (.tmp 36), none⟩,
    ⟨(some 12), .mov (.tmp 37), none⟩] [2, 11, 12, 13])
  (.seq (.draw schema_Turn.d0 schema_Turn.d0b [[0, 1, 2, 4, 6, 3, 5, 7, 8, 9]] [(3, 4)] [8, 9, 10])
  (.ret))))))
def schema_Turn : AFun := ⟨45, 4, [.tmp 8, .tmp 9, .tmp 10], schema_Turn.body⟩
def cuneiformlaw19_known.a0 : ACode := .region [⟨(some 8), .mov (.tmp 26), none⟩] [6, 8]
def cuneiformlaw19_known.b0 : ACode := .block 1 (.region [⟨(some 27), .load none (.tmp 6), none⟩,
    ⟨(some 28), .mov (.tmp 8), none⟩,
    ⟨(some 29), .bin .add (.tmp 27) (.tmp 28), none⟩,
    ⟨none, .store 1 (.tmp 6) (.tmp 29), none⟩] [])
def cuneiformlaw19_known.body : ACode := .seq (.region [⟨(some 0), .mov (.const (.bool false)), none⟩] [0])
  (.seq (.region [⟨(some 10), .build [(.int .i64 0), (.int .i64 0), (.int .i64 0), (.int .i64 0), (.int .i64 0), (.int .i64 0), (.int .i64 0), .nils, .nils, (.str ⟨#[]⟩), (.str ⟨#[]⟩)] [(0, 1, (.const (.int .i64 2)))], none⟩,
    ⟨(some 11), .call (.const (.fn F.schema_Best [] [])) [(.tmp 10)], none⟩,
    ⟨(some 9), .mov (.tmp 11), none⟩,
    ⟨(some 12), .extract (.tmp 9) 0, none⟩,
    ⟨(some 13), .extract (.tmp 9) 1, none⟩,
    ⟨(some 1), .mov (.tmp 12), none⟩,
    ⟨(some 2), .mov (.tmp 13), none⟩] [0, 1, 2])
  (.seq (.region [⟨(some 14), .build [(.int .i64 0), (.int .i64 0), (.int .i64 0), (.int .i64 0), (.int .i64 0), (.int .i64 0)] [(0, 1, (.const (.int .i64 0))), (1, 1, (.const (.int .i64 0))), (2, 1, (.const (.int .i64 9)))], none⟩,
    ⟨(some 15), .build [(.int .i64 0), (.int .i64 0), (.int .i64 0), (.int .i64 0), (.int .i64 0), (.int .i64 0), (.int .i64 0), .nils, .nils, (.str ⟨#[]⟩), (.str ⟨#[]⟩)] [(0, 1, (.const (.int .i64 2))), (1, 6, (.tmp 14))], none⟩,
    ⟨(some 3), .alloc T.msg_Msg [(.int .i64 0), (.int .i64 0), (.int .i64 0), (.int .i64 0), (.int .i64 0), (.int .i64 0), (.int .i64 0), .nils, .nils, (.str ⟨#[]⟩), (.str ⟨#[]⟩)], none⟩,
    ⟨none, .store 11 (.tmp 3) (.tmp 15), none⟩] [0, 1, 2, 3])
  (.seq (.region [⟨(some 17), .load (some 11) (.tmp 3), none⟩,
    ⟨(some 18), .call (.const (.fn F.schema_Best [] [])) [(.tmp 17)], none⟩,
    ⟨(some 16), .mov (.tmp 18), none⟩,
    ⟨(some 19), .extract (.tmp 16) 0, none⟩,
    ⟨(some 20), .extract (.tmp 16) 1, none⟩,
    ⟨(some 4), .mov (.tmp 19), none⟩,
    ⟨(some 5), .mov (.tmp 20), none⟩] [0, 1, 2, 3, 4, 5])
  (.seq (.region [⟨(some 6), .alloc T.string [(.str ⟨#[]⟩)], none⟩,
    ⟨none, .store 1 (.tmp 6) (.const (.str ⟨#[]⟩)), none⟩] [0, 1, 2, 3, 4, 5, 6])
  (.seq (.region [⟨(some 21), .load (some 11) (.tmp 3), none⟩,
    ⟨(some 22), .call (.const (.fn F.schema_Lost [] [])) [(.tmp 21), (.const (.int .i64 1))], none⟩,
    ⟨(some 7), .mov (.tmp 22), none⟩] [0, 1, 2, 4, 5, 6, 7])
  (.seq (.seq (.region [⟨(some 23), .mov (.tmp 7), none⟩,
    ⟨(some 24), .eq false .func (.tmp 23) (.const .nilf), none⟩] [0, 1, 2, 4, 5, 6, 7, 24])
  (.cond (.tmp 24) (.seq (.region [⟨(some 0), .mov (.const (.bool false)), none⟩] [0])
  (.ret)) (.skip)))
  (.seq (.seq (.region [⟨(some 25), .mov (.tmp 7), none⟩] [0, 1, 2, 4, 5, 6, 25])
  (.block 0 (.range (.tmp 25) [26] cuneiformlaw19_known.a0 cuneiformlaw19_known.b0)))
  (.seq (.region [⟨(some 30), .mov (.tmp 1), none⟩,
    ⟨(some 31), .bin .eql (.tmp 30) (.const (.int .i64 1)), none⟩,
    ⟨(some 32), .mov (.tmp 31), none⟩,
    ⟨(some 33), .mov (.tmp 2), some (32, true)⟩,
    ⟨(some 34), .bin .eql (.tmp 33) (.const (.int .i64 0)), some (32, true)⟩,
    ⟨(some 35), .pick (.tmp 32) (.tmp 34) (.const (.bool false)), none⟩,
    ⟨(some 36), .mov (.tmp 35), none⟩,
    ⟨(some 37), .mov (.tmp 4), some (36, true)⟩,
    ⟨(some 38), .bin .eql (.tmp 37) (.const (.int .i64 2)), some (36, true)⟩,
    ⟨(some 39), .pick (.tmp 36) (.tmp 38) (.const (.bool false)), none⟩,
    ⟨(some 40), .mov (.tmp 39), none⟩,
    ⟨(some 41), .mov (.tmp 5), some (40, true)⟩,
    ⟨(some 42), .bin .eql (.tmp 41) (.const (.int .i64 0)), some (40, true)⟩,
    ⟨(some 43), .pick (.tmp 40) (.tmp 42) (.const (.bool false)), none⟩,
    ⟨(some 44), .mov (.tmp 43), none⟩,
    ⟨(some 45), .load none (.tmp 6), some (44, true)⟩,
    ⟨(some 46), .bin .eql (.tmp 45) (.const (.str ⟨#[122, 111, 110, 101]⟩)), some (44, true)⟩,
    ⟨(some 47), .pick (.tmp 44) (.tmp 46) (.const (.bool false)), none⟩,
    ⟨(some 0), .mov (.tmp 47), none⟩] [0])
  (.ret)))))))))
def cuneiformlaw19_known : AFun := ⟨48, 0, [.tmp 0], cuneiformlaw19_known.body⟩
def cuneiformref01_Same.d0 : List AOper := [⟨(some 17), .mov (.tmp 0), none⟩,
    ⟨(some 18), .mov (.tmp 5), none⟩,
    ⟨(some 19), .idx 1 none (.tmp 17) (.tmp 18), none⟩,
    ⟨(some 20), .load none (.tmp 19), none⟩,
    ⟨(some 21), .mov (.tmp 1), none⟩,
    ⟨(some 22), .mov (.tmp 5), none⟩,
    ⟨(some 23), .idx 1 none (.tmp 21) (.tmp 22), none⟩,
    ⟨(some 24), .load none (.tmp 23), none⟩,
    ⟨(some 25), .bin .neq (.tmp 20) (.tmp 24), none⟩]
def cuneiformref01_Same.d0b : List (List Nat) := [[], [], [0, 1], [0, 1, 2], [], [], [4, 5], [4, 5, 6], [0, 1, 2, 3, 4, 5, 6, 7]]
def cuneiformref01_Same.b1 : ACode := .seq (.seq (.region [⟨(some 11), .mov (.tmp 5), none⟩,
    ⟨(some 12), .mov (.tmp 0), none⟩,
    ⟨(some 13), .len .slice (.tmp 12), none⟩,
    ⟨(some 14), .bin .lss (.tmp 11) (.tmp 13), none⟩] [0, 1, 5, 14])
  (.cond (.tmp 14) (.skip) (.exit 0)))
  (.seq (.block 1 (.seq (.draw cuneiformref01_Same.d0 cuneiformref01_Same.d0b [[0, 1, 2, 3, 4, 5, 6, 7, 8]] [] [0, 1, 5, 25])
  (.cond (.tmp 25) (.seq (.region [⟨(some 4), .mov (.const (.bool false)), none⟩] [4])
  (.ret)) (.skip))))
  (.region [⟨(some 15), .mov (.tmp 5), none⟩,
    ⟨(some 16), .bin .add (.tmp 15) (.const (.int .i64 1)), none⟩,
    ⟨(some 5), .mov (.tmp 16), none⟩] [0, 1, 5]))
def cuneiformref01_Same.body : ACode := .seq (.region [⟨(some 4), .mov (.const (.bool false)), none⟩] [0, 1])
  (.seq (.seq (.region [⟨(some 6), .mov (.tmp 0), none⟩,
    ⟨(some 7), .len .slice (.tmp 6), none⟩,
    ⟨(some 8), .mov (.tmp 1), none⟩,
    ⟨(some 9), .len .slice (.tmp 8), none⟩,
    ⟨(some 10), .bin .neq (.tmp 7) (.tmp 9), none⟩] [0, 1, 10])
  (.cond (.tmp 10) (.seq (.region [⟨(some 4), .mov (.const (.bool false)), none⟩] [4])
  (.ret)) (.skip)))
  (.seq (.seq (.region [⟨(some 5), .mov (.const (.int .i64 0)), none⟩] [0, 1, 5])
  (.block 0 (.loop cuneiformref01_Same.b1)))
  (.seq (.region [⟨(some 4), .mov (.const (.bool true)), none⟩] [4])
  (.ret))))
def cuneiformref01_Same : AFun := ⟨26, 2, [.tmp 4], cuneiformref01_Same.body⟩
def schema_Versions.body : ACode := .seq (.region [⟨(some 0), .mov (.const .nilf), none⟩] [])
  (.seq (.region [⟨(some 0), .mov (.const (.fn F.schema_Versions_1 [] [])), none⟩] [0])
  (.ret))
def schema_Versions : AFun := ⟨1, 0, [.tmp 0], schema_Versions.body⟩
def msg_Same.body : ACode := .seq (.region [⟨(some 2), .box T.msg_Msg (.tmp 0), none⟩,
    ⟨(some 3), .box T.msg_Msg (.tmp 1), none⟩,
    ⟨(some 4), .mov (.const (.bool false)), none⟩] [2, 3])
  (.seq (.region [⟨(some 5), .field 0 (.tmp 2), none⟩,
    ⟨(some 6), .load none (.tmp 5), none⟩,
    ⟨(some 7), .field 0 (.tmp 3), none⟩,
    ⟨(some 8), .load none (.tmp 7), none⟩,
    ⟨(some 9), .bin .eql (.tmp 6) (.tmp 8), none⟩,
    ⟨(some 10), .mov (.tmp 9), none⟩,
    ⟨(some 11), .field 1 (.tmp 2), some (10, true)⟩,
    ⟨(some 12), .load (some 6) (.tmp 11), some (10, true)⟩,
    ⟨(some 13), .field 1 (.tmp 3), some (10, true)⟩,
    ⟨(some 14), .load (some 6) (.tmp 13), some (10, true)⟩,
    ⟨(some 15), .eq false (.cells [.int, .int, .int, .int, .int, .int]) (.tmp 12) (.tmp 14), some (10, true)⟩,
    ⟨(some 16), .pick (.tmp 10) (.tmp 15) (.const (.bool false)), none⟩,
    ⟨(some 17), .mov (.tmp 16), none⟩,
    ⟨(some 18), .field 7 (.tmp 2), some (17, true)⟩,
    ⟨(some 19), .load none (.tmp 18), some (17, true)⟩,
    ⟨(some 20), .field 7 (.tmp 3), some (17, true)⟩,
    ⟨(some 21), .load none (.tmp 20), some (17, true)⟩,
    ⟨(some 22), .call (.const (.fn F.slices_Equal_msg_Point_msg_Point [] [])) [(.tmp 19), (.tmp 21)], some (17, true)⟩,
    ⟨(some 23), .pick (.tmp 17) (.tmp 22) (.const (.bool false)), none⟩,
    ⟨(some 24), .mov (.tmp 23), none⟩,
    ⟨(some 25), .field 8 (.tmp 2), some (24, true)⟩,
    ⟨(some 26), .load none (.tmp 25), some (24, true)⟩,
    ⟨(some 27), .field 8 (.tmp 3), some (24, true)⟩,
    ⟨(some 28), .load none (.tmp 27), some (24, true)⟩,
    ⟨(some 29), .call (.const (.fn F.slices_Equal_int_int [] [])) [(.tmp 26), (.tmp 28)], some (24, true)⟩,
    ⟨(some 30), .pick (.tmp 24) (.tmp 29) (.const (.bool false)), none⟩,
    ⟨(some 31), .mov (.tmp 30), none⟩,
    ⟨(some 32), .field 9 (.tmp 2), some (31, true)⟩,
    ⟨(some 33), .load none (.tmp 32), some (31, true)⟩,
    ⟨(some 34), .field 9 (.tmp 3), some (31, true)⟩,
    ⟨(some 35), .load none (.tmp 34), some (31, true)⟩,
    ⟨(some 36), .bin .eql (.tmp 33) (.tmp 35), some (31, true)⟩,
    ⟨(some 37), .pick (.tmp 31) (.tmp 36) (.const (.bool false)), none⟩,
    ⟨(some 38), .mov (.tmp 37), none⟩,
    ⟨(some 39), .field 10 (.tmp 2), some (38, true)⟩,
    ⟨(some 40), .load none (.tmp 39), some (38, true)⟩,
    ⟨(some 41), .field 10 (.tmp 3), some (38, true)⟩,
    ⟨(some 42), .load none (.tmp 41), some (38, true)⟩,
    ⟨(some 43), .bin .eql (.tmp 40) (.tmp 42), some (38, true)⟩,
    ⟨(some 44), .pick (.tmp 38) (.tmp 43) (.const (.bool false)), none⟩,
    ⟨(some 4), .mov (.tmp 44), none⟩] [4])
  (.ret))
def msg_Same : AFun := ⟨45, 2, [.tmp 4], msg_Same.body⟩
def schema_Best.d0 : List AOper := [⟨(some 15), .load (some 11) (.tmp 1), none⟩,
    ⟨(some 16), .mov (.tmp 6), none⟩,
    ⟨(some 17), .call (.const (.fn F.msg_Project [] [])) [(.tmp 15), (.tmp 16)], none⟩,
    ⟨(some 18), .load (some 11) (.tmp 1), none⟩,
    ⟨(some 19), .call (.const (.fn F.msg_Same [] [])) [(.tmp 17), (.tmp 18)], none⟩]
def schema_Best.d0b : List (List Nat) := [[], [], [0, 1], [], [0, 1, 2, 3]]
def schema_Best.a1 : ACode := .region [⟨(some 6), .mov (.tmp 13), none⟩] [1, 5, 6]
def schema_Best.b1 : ACode := .block 1 (.seq (.region [⟨(some 14), .mov (.tmp 6), none⟩,
    ⟨none, .store 1 (.tmp 5) (.tmp 14), none⟩] [1, 6])
  (.seq (.draw schema_Best.d0 schema_Best.d0b [[0, 1, 3, 2, 4]] [(2, 3)] [19])
  (.cond (.tmp 19) (.exit 0) (.skip))))
def schema_Best.body : ACode := .seq (.region [⟨(some 1), .box T.msg_Msg (.tmp 0), none⟩,
    ⟨(some 2), .mov (.const (.int .i64 0)), none⟩,
    ⟨(some 3), .mov (.const (.int .i64 0)), none⟩] [1, 2, 3])
  (.scope (.seq (.seq (.region [⟨(some 7), .load (some 11) (.tmp 1), none⟩,
    ⟨(some 8), .call (.const (.fn F.msg_Check [] [])) [(.tmp 7)], none⟩,
    ⟨(some 4), .mov (.tmp 8), none⟩] [1, 2, 3, 4])
  (.seq (.region [⟨(some 9), .mov (.tmp 4), none⟩,
    ⟨(some 10), .bin .neq (.tmp 9) (.const (.int .i64 0)), none⟩] [1, 2, 3, 4, 10])
  (.cond (.tmp 10) (.seq (.region [⟨(some 11), .mov (.tmp 4), none⟩,
    ⟨(some 2), .mov (.const (.int .i64 0)), none⟩,
    ⟨(some 3), .mov (.tmp 11), none⟩] [2, 3])
  (.ret)) (.skip))))
  (.seq (.region [⟨(some 5), .alloc T.int [(.int .i64 0)], none⟩,
    ⟨none, .store 1 (.tmp 5) (.const (.int .i64 0)), none⟩] [1, 2, 3, 5])
  (.seq (.skip)
  (.seq (.seq (.region [⟨(some 12), .call (.const (.fn F.schema_Versions [] [])) [], none⟩] [1, 2, 3, 5, 12])
  (.block 0 (.range (.tmp 12) [13] schema_Best.a1 schema_Best.b1)))
  (.seq (.region [⟨(some 20), .load none (.tmp 5), none⟩,
    ⟨(some 2), .mov (.tmp 20), none⟩,
    ⟨(some 3), .mov (.const (.int .i64 0)), none⟩] [2, 3])
  (.ret)))))))
def schema_Best : AFun := ⟨21, 1, [.tmp 2, .tmp 3], schema_Best.body⟩
def schema_Lost.body : ACode := .seq (.region [⟨(some 2), .box T.msg_Msg (.tmp 0), none⟩,
    ⟨(some 3), .box T.int (.tmp 1), none⟩,
    ⟨(some 4), .mov (.const .nilf), none⟩] [2, 3])
  (.seq (.region [⟨(some 5), .mkfn F.schema_Lost_1 [] [(.tmp 2), (.tmp 3)], none⟩,
    ⟨(some 4), .mov (.tmp 5), none⟩] [4])
  (.ret))
def schema_Lost : AFun := ⟨6, 2, [.tmp 4], schema_Lost.body⟩
def schema_is.a0 : ACode := .region [⟨(some 3), .mov (.tmp 5), none⟩] [1, 2, 3]
def schema_is.b0 : ACode := .block 1 (.seq (.region [⟨(some 6), .mov (.tmp 3), none⟩,
    ⟨(some 7), .load none (.tmp 1), none⟩,
    ⟨(some 8), .bin .eql (.tmp 6) (.tmp 7), none⟩] [2, 8])
  (.cond (.tmp 8) (.seq (.region [⟨none, .store 1 (.tmp 2) (.const (.bool true)), none⟩] [])
  (.ret)) (.skip)))
def schema_is.body : ACode := .seq (.region [⟨(some 1), .box T.int (.tmp 0), none⟩,
    ⟨(some 2), .alloc T.bool [(.bool false)], none⟩] [1, 2])
  (.seq (.seq (.region [⟨(some 4), .call (.const (.fn F.schema_Versions [] [])) [], none⟩] [1, 2, 4])
  (.block 0 (.range (.tmp 4) [5] schema_is.a0 schema_is.b0)))
  (.seq (.region [⟨none, .store 1 (.tmp 2) (.const (.bool false)), none⟩] [2])
  (.ret)))
def schema_is : AFun := ⟨9, 1, [.cell 2 none], schema_is.body⟩
def body_Decode.a0 : ACode := .region [⟨(some 10), .alloc T.field_Field [(.str ⟨#[]⟩), (.int .i64 0), (.int .i64 0), (.int .i64 0), (.int .i64 0), (.int .i64 0), (.int .i64 0)], none⟩,
    ⟨none, .store 7 (.tmp 10) (.tmp 34), none⟩] [8, 9, 10]
def body_Decode.b0 : ACode := .block 2 (.seq (.region [⟨(some 35), .load none (.tmp 8), none⟩,
    ⟨(some 36), .load (some 7) (.tmp 10), none⟩,
    ⟨(some 37), .call (.const (.fn F.body_reader_field [] [])) [(.tmp 35), (.tmp 9), (.tmp 36)], none⟩] [8])
  (.seq (.region [⟨(some 38), .load none (.tmp 8), none⟩,
    ⟨(some 39), .call (.const (.fn F.body_reader_err [] [])) [(.tmp 38)], none⟩,
    ⟨(some 40), .bin .neq (.tmp 39) (.const (.int .i64 0)), none⟩] [40])
  (.cond (.tmp 40) (.exit 1) (.skip))))
def body_Decode.body : ACode := .seq (.region [⟨(some 6), .alloc T.msg_Msg [(.int .i64 0), (.int .i64 0), (.int .i64 0), (.int .i64 0), (.int .i64 0), (.int .i64 0), (.int .i64 0), .nils, .nils, (.str ⟨#[]⟩), (.str ⟨#[]⟩)], none⟩,
    ⟨(some 7), .mov (.const (.int .i64 0)), none⟩] [0, 1, 2, 6, 7])
  (.scope (.seq (.block 0 (.seq (.region [⟨(some 13), .mov (.tmp 1), none⟩,
    ⟨(some 14), .bin .neq (.tmp 13) (.const (.int .i64 1)), none⟩,
    ⟨(some 15), .mov (.tmp 14), none⟩,
    ⟨(some 16), .mov (.tmp 1), some (15, true)⟩,
    ⟨(some 17), .bin .neq (.tmp 16) (.const (.int .i64 2)), some (15, true)⟩,
    ⟨(some 18), .pick (.tmp 15) (.tmp 17) (.const (.bool false)), none⟩,
    ⟨(some 12), .mov (.tmp 18), none⟩] [0, 1, 2, 6, 7, 12])
  (.cond (.tmp 12) (.seq (.region [⟨(some 19), .build [(.int .i64 0), (.int .i64 0), (.int .i64 0), (.int .i64 0), (.int .i64 0), (.int .i64 0), (.int .i64 0), .nils, .nils, (.str ⟨#[]⟩), (.str ⟨#[]⟩)] [], none⟩,
    ⟨none, .store 11 (.tmp 6) (.tmp 19), none⟩,
    ⟨(some 7), .mov (.const (.int .i64 10)), none⟩] [6, 7])
  (.ret)) (.seq (.region [⟨(some 21), .mov (.tmp 0), none⟩,
    ⟨(some 22), .call (.const (.fn F.field_Word [] [])) [(.tmp 21)], none⟩,
    ⟨(some 23), .bin .eql (.tmp 22) (.const (.str ⟨#[]⟩)), none⟩,
    ⟨(some 20), .mov (.tmp 23), none⟩] [0, 1, 2, 6, 7, 20])
  (.cond (.tmp 20) (.seq (.region [⟨(some 24), .build [(.int .i64 0), (.int .i64 0), (.int .i64 0), (.int .i64 0), (.int .i64 0), (.int .i64 0), (.int .i64 0), .nils, .nils, (.str ⟨#[]⟩), (.str ⟨#[]⟩)] [], none⟩,
    ⟨none, .store 11 (.tmp 6) (.tmp 24), none⟩,
    ⟨(some 7), .mov (.const (.int .i64 9)), none⟩] [6, 7])
  (.ret)) (.skip))))))
  (.seq (.region [⟨(some 25), .mov (.tmp 2), none⟩,
    ⟨(some 26), .call (.const (.fn F.lens_New [] [])) [(.tmp 25)], none⟩,
    ⟨(some 27), .build [.nilp, (.int .i64 0)] [(0, 1, (.tmp 26))], none⟩,
    ⟨(some 28), .box T.body_reader (.tmp 27), none⟩,
    ⟨(some 8), .alloc T.p_body_reader [.nilp], none⟩,
    ⟨none, .store 1 (.tmp 8) (.tmp 28), none⟩] [0, 1, 6, 7, 8])
  (.seq (.region [⟨(some 29), .mov (.tmp 0), none⟩,
    ⟨(some 30), .build [(.int .i64 0), (.int .i64 0), (.int .i64 0), (.int .i64 0), (.int .i64 0), (.int .i64 0), (.int .i64 0), .nils, .nils, (.str ⟨#[]⟩), (.str ⟨#[]⟩)] [(0, 1, (.tmp 29))], none⟩,
    ⟨(some 9), .alloc T.msg_Msg [(.int .i64 0), (.int .i64 0), (.int .i64 0), (.int .i64 0), (.int .i64 0), (.int .i64 0), (.int .i64 0), .nils, .nils, (.str ⟨#[]⟩), (.str ⟨#[]⟩)], none⟩,
    ⟨none, .store 11 (.tmp 9) (.tmp 30), none⟩] [0, 1, 6, 7, 8, 9])
  (.seq (.skip)
  (.seq (.seq (.region [⟨(some 31), .mov (.tmp 0), none⟩,
    ⟨(some 32), .mov (.tmp 1), none⟩,
    ⟨(some 33), .call (.const (.fn F.field_All [] [])) [(.tmp 31), (.tmp 32)], none⟩] [1, 6, 7, 8, 9, 33])
  (.block 1 (.range (.tmp 33) [34] body_Decode.a0 body_Decode.b0)))
  (.seq (.region [⟨(some 41), .load none (.tmp 8), none⟩,
    ⟨(some 42), .call (.const (.fn F.body_reader_err [] [])) [(.tmp 41)], none⟩,
    ⟨(some 11), .mov (.tmp 42), none⟩] [1, 6, 8, 9, 11])
  (.seq (.seq (.region [⟨(some 43), .mov (.tmp 11), none⟩,
    ⟨(some 44), .bin .eql (.tmp 43) (.const (.int .i64 0)), none⟩] [1, 6, 8, 9, 11, 44])
  (.cond (.tmp 44) (.region [⟨(some 45), .load none (.tmp 8), none⟩,
    ⟨(some 46), .nilc (.tmp 45), none⟩,
    ⟨(some 47), .field 0 (.tmp 46), none⟩,
    ⟨(some 48), .load none (.tmp 47), none⟩,
    ⟨(some 49), .call (.const (.fn F.lens_Lens_End [] [])) [(.tmp 48)], none⟩,
    ⟨(some 11), .mov (.tmp 49), none⟩] [1, 6, 9, 11]) (.skip)))
  (.seq (.seq (.region [⟨(some 50), .mov (.tmp 11), none⟩,
    ⟨(some 51), .bin .neq (.tmp 50) (.const (.int .i64 0)), none⟩] [1, 6, 9, 11, 51])
  (.cond (.tmp 51) (.seq (.region [⟨(some 52), .build [(.int .i64 0), (.int .i64 0), (.int .i64 0), (.int .i64 0), (.int .i64 0), (.int .i64 0), (.int .i64 0), .nils, .nils, (.str ⟨#[]⟩), (.str ⟨#[]⟩)] [], none⟩,
    ⟨(some 53), .mov (.tmp 11), none⟩,
    ⟨none, .store 11 (.tmp 6) (.tmp 52), none⟩,
    ⟨(some 7), .mov (.tmp 53), none⟩] [6, 7])
  (.ret)) (.skip)))
  (.seq (.region [⟨(some 54), .load (some 11) (.tmp 9), none⟩,
    ⟨(some 55), .mov (.tmp 1), none⟩,
    ⟨(some 56), .call (.const (.fn F.msg_Project [] [])) [(.tmp 54), (.tmp 55)], none⟩,
    ⟨none, .store 11 (.tmp 6) (.tmp 56), none⟩,
    ⟨(some 7), .mov (.const (.int .i64 0)), none⟩] [6, 7])
  (.ret)))))))))))
def body_Decode : AFun := ⟨57, 3, [.cell 6 (some 11), .tmp 7], body_Decode.body⟩
def body_Encode.a0 : ACode := .region [⟨(some 9), .mov (.tmp 20), none⟩] [7, 9]
def body_Encode.b0 : ACode := .block 1 (.region [⟨(some 21), .load none (.tmp 7), none⟩,
    ⟨(some 22), .mov (.tmp 9), none⟩,
    ⟨(some 23), .append T.uint8 1 1 (.tmp 21) (.tmp 22), none⟩,
    ⟨none, .store 1 (.tmp 7) (.tmp 23), none⟩] [])
def body_Encode.body : ACode := .seq (.region [⟨(some 2), .box T.msg_Msg (.tmp 0), none⟩,
    ⟨(some 4), .mov (.const .nils), none⟩,
    ⟨(some 5), .mov (.const (.int .i64 0)), none⟩] [1, 2, 4, 5])
  (.seq (.seq (.region [⟨(some 10), .load (some 11) (.tmp 2), none⟩,
    ⟨(some 11), .mov (.tmp 1), none⟩,
    ⟨(some 12), .call (.const (.fn F.body_check [] [])) [(.tmp 10), (.tmp 11)], none⟩,
    ⟨(some 6), .mov (.tmp 12), none⟩] [1, 2, 4, 5, 6])
  (.seq (.region [⟨(some 13), .mov (.tmp 6), none⟩,
    ⟨(some 14), .bin .neq (.tmp 13) (.const (.int .i64 0)), none⟩] [1, 2, 4, 5, 6, 14])
  (.cond (.tmp 14) (.seq (.region [⟨(some 15), .mov (.tmp 6), none⟩,
    ⟨(some 4), .mov (.const .nils), none⟩,
    ⟨(some 5), .mov (.tmp 15), none⟩] [4, 5])
  (.ret)) (.skip))))
  (.seq (.region [⟨(some 7), .alloc T.sl_uint8 [.nils], none⟩] [1, 2, 4, 5, 7])
  (.seq (.seq (.region [⟨(some 16), .load (some 11) (.tmp 2), none⟩,
    ⟨(some 17), .mov (.tmp 1), none⟩,
    ⟨(some 18), .call (.const (.fn F.body_Parts [] [])) [(.tmp 16), (.tmp 17)], none⟩] [4, 5, 7, 18])
  (.block 0 (.range (.tmp 18) [19, 20] body_Encode.a0 body_Encode.b0)))
  (.seq (.region [⟨(some 24), .load none (.tmp 7), none⟩,
    ⟨(some 4), .mov (.tmp 24), none⟩,
    ⟨(some 5), .mov (.const (.int .i64 0)), none⟩] [4, 5])
  (.ret)))))
def body_Encode : AFun := ⟨25, 2, [.tmp 4, .tmp 5], body_Encode.body⟩
def msg_Project.b0 : ACode := .seq (.region [⟨(some 14), .bin .lss (.tmp 13) (.tmp 12), none⟩] [1, 2, 4, 11, 12, 13, 14])
  (.seq (.cond (.tmp 14) (.skip) (.exit 0))
  (.seq (.block 1 (.seq (.region [⟨(some 15), .idx 7 none (.tmp 11) (.tmp 13), none⟩,
    ⟨(some 16), .load (some 7) (.tmp 15), none⟩,
    ⟨(some 6), .alloc T.field_Field [(.str ⟨#[]⟩), (.int .i64 0), (.int .i64 0), (.int .i64 0), (.int .i64 0), (.int .i64 0), (.int .i64 0)], none⟩,
    ⟨none, .store 7 (.tmp 6) (.tmp 16), none⟩] [1, 2, 4, 6, 11, 12, 13])
  (.seq (.seq (.region [⟨(some 17), .mov (.tmp 1), none⟩,
    ⟨(some 18), .bin .neq (.tmp 17) (.const (.int .i64 1)), none⟩,
    ⟨(some 19), .mov (.tmp 18), none⟩,
    ⟨(some 20), .field 5 (.tmp 6), some (19, false)⟩,
    ⟨(some 21), .load none (.tmp 20), some (19, false)⟩,
    ⟨(some 22), .bin .eql (.tmp 21) (.const (.int .i64 1)), some (19, false)⟩,
    ⟨(some 23), .pick (.tmp 19) (.const (.bool true)) (.tmp 22), none⟩] [1, 2, 4, 6, 11, 12, 13, 23])
  (.cond (.tmp 23) (.exit 1) (.skip)))
  (.seq (.region [⟨(some 24), .load (some 11) (.tmp 2), none⟩,
    ⟨(some 25), .load (some 7) (.tmp 6), none⟩,
    ⟨(some 26), .call (.const (.fn F.msg_without [] [])) [(.tmp 24), (.tmp 25)], none⟩,
    ⟨none, .store 11 (.tmp 2) (.tmp 26), none⟩] [1, 2, 4, 6, 11, 12, 13])
  (.seq (.region [⟨(some 27), .field 2 (.tmp 6), none⟩,
    ⟨(some 28), .load none (.tmp 27), none⟩,
    ⟨(some 29), .bin .geq (.tmp 28) (.const (.int .i64 0)), none⟩] [1, 2, 4, 6, 11, 12, 13, 29])
  (.cond (.tmp 29) (.region [⟨(some 30), .field 2 (.tmp 6), none⟩,
    ⟨(some 31), .load none (.tmp 30), none⟩,
    ⟨(some 32), .field 6 (.tmp 6), none⟩,
    ⟨(some 33), .load none (.tmp 32), none⟩,
    ⟨(some 34), .field 1 (.tmp 2), none⟩,
    ⟨(some 35), .idx 1 (some 6) (.tmp 34) (.tmp 31), none⟩,
    ⟨none, .store 1 (.tmp 35) (.tmp 33), none⟩] [1, 2, 4, 11, 12, 13]) (.skip)))))))
  (.region [⟨(some 36), .bin .add (.tmp 13) (.const (.int .i64 1)), none⟩,
    ⟨(some 13), .mov (.tmp 36), none⟩] [1, 2, 4, 11, 12, 13])))
def msg_Project.body : ACode := .seq (.region [⟨(some 2), .box T.msg_Msg (.tmp 0), none⟩,
    ⟨(some 4), .alloc T.msg_Msg [(.int .i64 0), (.int .i64 0), (.int .i64 0), (.int .i64 0), (.int .i64 0), (.int .i64 0), (.int .i64 0), .nils, .nils, (.str ⟨#[]⟩), (.str ⟨#[]⟩)], none⟩] [1, 2, 4])
  (.scope (.seq (.region [⟨(some 7), .load (some 11) (.tmp 2), none⟩,
    ⟨(some 8), .call (.const (.fn F.msg_Copy [] [])) [(.tmp 7)], none⟩,
    ⟨none, .store 11 (.tmp 2) (.tmp 8), none⟩] [1, 2, 4])
  (.seq (.skip)
  (.seq (.seq (.region [⟨(some 9), .field 0 (.tmp 2), none⟩,
    ⟨(some 10), .load none (.tmp 9), none⟩,
    ⟨(some 11), .call (.const (.fn F.field_Of [] [])) [(.tmp 10)], none⟩,
    ⟨(some 12), .len .slice (.tmp 11), none⟩,
    ⟨(some 13), .mov (.const (.int .i64 0)), none⟩] [1, 2, 4, 11, 12, 13])
  (.block 0 (.loop msg_Project.b0)))
  (.seq (.region [⟨(some 37), .load (some 11) (.tmp 2), none⟩,
    ⟨none, .store 11 (.tmp 4) (.tmp 37), none⟩] [4])
  (.ret))))))
def msg_Project : AFun := ⟨38, 2, [.cell 4 (some 11)], msg_Project.body⟩
def schema_Versions_1.body : ACode := .region [⟨(some 2), .mov (.tmp 0), none⟩,
    ⟨(some 3), .call (.tmp 2) [(.const (.int .i64 1))], none⟩,
    ⟨(some 4), .mov (.tmp 3), none⟩,
    ⟨(some 5), .mov (.tmp 0), some (4, true)⟩,
    ⟨(some 6), .call (.tmp 5) [(.const (.int .i64 2))], some (4, true)⟩,
    ⟨(some 7), .pick (.tmp 4) (.tmp 6) (.const (.bool false)), none⟩] []
def schema_Versions_1 : AFun := ⟨8, 1, [], schema_Versions_1.body⟩
def slices_Equal_msg_Point_msg_Point.d0 : List AOper := [⟨(some 16), .mov (.tmp 0), none⟩,
    ⟨(some 17), .mov (.tmp 5), none⟩,
    ⟨(some 18), .idx 2 none (.tmp 16) (.tmp 17), none⟩,
    ⟨(some 19), .load (some 2) (.tmp 18), none⟩,
    ⟨(some 20), .mov (.tmp 1), none⟩,
    ⟨(some 21), .mov (.tmp 5), none⟩,
    ⟨(some 22), .idx 2 none (.tmp 20) (.tmp 21), none⟩,
    ⟨(some 23), .load (some 2) (.tmp 22), none⟩,
    ⟨(some 24), .eq true (.cells [.int, .int]) (.tmp 19) (.tmp 23), none⟩]
def slices_Equal_msg_Point_msg_Point.d0b : List (List Nat) := [[], [], [0, 1], [0, 1, 2], [], [], [4, 5], [4, 5, 6], [0, 1, 2, 3, 4, 5, 6, 7]]
def slices_Equal_msg_Point_msg_Point.b1 : ACode := .seq (.region [⟨(some 14), .bin .lss (.tmp 13) (.tmp 12), none⟩] [0, 1, 12, 13, 14])
  (.seq (.cond (.tmp 14) (.skip) (.exit 0))
  (.seq (.block 1 (.seq (.region [⟨(some 15), .mov (.tmp 13), none⟩,
    ⟨(some 5), .mov (.tmp 15), none⟩] [0, 1, 5, 12, 13])
  (.seq (.draw slices_Equal_msg_Point_msg_Point.d0 slices_Equal_msg_Point_msg_Point.d0b [[0, 1, 2, 3, 4, 5, 6, 7, 8]] [] [0, 1, 12, 13, 24])
  (.cond (.tmp 24) (.seq (.region [⟨(some 4), .mov (.const (.bool false)), none⟩] [4])
  (.ret)) (.skip)))))
  (.region [⟨(some 25), .bin .add (.tmp 13) (.const (.int .i64 1)), none⟩,
    ⟨(some 13), .mov (.tmp 25), none⟩] [0, 1, 12, 13])))
def slices_Equal_msg_Point_msg_Point.body : ACode := .seq (.region [⟨(some 4), .mov (.const (.bool false)), none⟩] [0, 1])
  (.seq (.seq (.region [⟨(some 6), .mov (.tmp 0), none⟩,
    ⟨(some 7), .len .slice (.tmp 6), none⟩,
    ⟨(some 8), .mov (.tmp 1), none⟩,
    ⟨(some 9), .len .slice (.tmp 8), none⟩,
    ⟨(some 10), .bin .neq (.tmp 7) (.tmp 9), none⟩] [0, 1, 10])
  (.cond (.tmp 10) (.seq (.region [⟨(some 4), .mov (.const (.bool false)), none⟩] [4])
  (.ret)) (.skip)))
  (.seq (.seq (.region [⟨(some 11), .mov (.tmp 0), none⟩,
    ⟨(some 12), .len .slice (.tmp 11), none⟩,
    ⟨(some 13), .mov (.const (.int .i64 0)), none⟩] [0, 1, 12, 13])
  (.block 0 (.loop slices_Equal_msg_Point_msg_Point.b1)))
  (.seq (.region [⟨(some 4), .mov (.const (.bool true)), none⟩] [4])
  (.ret))))
def slices_Equal_msg_Point_msg_Point : AFun := ⟨26, 2, [.tmp 4], slices_Equal_msg_Point_msg_Point.body⟩
def slices_Equal_int_int.d0 : List AOper := [⟨(some 16), .mov (.tmp 0), none⟩,
    ⟨(some 17), .mov (.tmp 5), none⟩,
    ⟨(some 18), .idx 1 none (.tmp 16) (.tmp 17), none⟩,
    ⟨(some 19), .load none (.tmp 18), none⟩,
    ⟨(some 20), .mov (.tmp 1), none⟩,
    ⟨(some 21), .mov (.tmp 5), none⟩,
    ⟨(some 22), .idx 1 none (.tmp 20) (.tmp 21), none⟩,
    ⟨(some 23), .load none (.tmp 22), none⟩,
    ⟨(some 24), .bin .neq (.tmp 19) (.tmp 23), none⟩]
def slices_Equal_int_int.d0b : List (List Nat) := [[], [], [0, 1], [0, 1, 2], [], [], [4, 5], [4, 5, 6], [0, 1, 2, 3, 4, 5, 6, 7]]
def slices_Equal_int_int.b1 : ACode := .seq (.region [⟨(some 14), .bin .lss (.tmp 13) (.tmp 12), none⟩] [0, 1, 12, 13, 14])
  (.seq (.cond (.tmp 14) (.skip) (.exit 0))
  (.seq (.block 1 (.seq (.region [⟨(some 15), .mov (.tmp 13), none⟩,
    ⟨(some 5), .mov (.tmp 15), none⟩] [0, 1, 5, 12, 13])
  (.seq (.draw slices_Equal_int_int.d0 slices_Equal_int_int.d0b [[0, 1, 2, 3, 4, 5, 6, 7, 8]] [] [0, 1, 12, 13, 24])
  (.cond (.tmp 24) (.seq (.region [⟨(some 4), .mov (.const (.bool false)), none⟩] [4])
  (.ret)) (.skip)))))
  (.region [⟨(some 25), .bin .add (.tmp 13) (.const (.int .i64 1)), none⟩,
    ⟨(some 13), .mov (.tmp 25), none⟩] [0, 1, 12, 13])))
def slices_Equal_int_int.body : ACode := .seq (.region [⟨(some 4), .mov (.const (.bool false)), none⟩] [0, 1])
  (.seq (.seq (.region [⟨(some 6), .mov (.tmp 0), none⟩,
    ⟨(some 7), .len .slice (.tmp 6), none⟩,
    ⟨(some 8), .mov (.tmp 1), none⟩,
    ⟨(some 9), .len .slice (.tmp 8), none⟩,
    ⟨(some 10), .bin .neq (.tmp 7) (.tmp 9), none⟩] [0, 1, 10])
  (.cond (.tmp 10) (.seq (.region [⟨(some 4), .mov (.const (.bool false)), none⟩] [4])
  (.ret)) (.skip)))
  (.seq (.seq (.region [⟨(some 11), .mov (.tmp 0), none⟩,
    ⟨(some 12), .len .slice (.tmp 11), none⟩,
    ⟨(some 13), .mov (.const (.int .i64 0)), none⟩] [0, 1, 12, 13])
  (.block 0 (.loop slices_Equal_int_int.b1)))
  (.seq (.region [⟨(some 4), .mov (.const (.bool true)), none⟩] [4])
  (.ret))))
def slices_Equal_int_int : AFun := ⟨26, 2, [.tmp 4], slices_Equal_int_int.body⟩
def msg_Check.d0 : List AOper := [⟨(some 7), .load (some 11) (.tmp 1), none⟩,
    ⟨(some 4), .alloc T.msg_Msg [(.int .i64 0), (.int .i64 0), (.int .i64 0), (.int .i64 0), (.int .i64 0), (.int .i64 0), (.int .i64 0), .nils, .nils, (.str ⟨#[]⟩), (.str ⟨#[]⟩)], none⟩,
    ⟨(some 3), .mov (.const (.int .i64 9)), none⟩,
    ⟨none, .store 11 (.tmp 4) (.tmp 7), none⟩]
def msg_Check.d0b : List (List Nat) := [[], [], [1], [0, 1, 2]]
def msg_Check.b1 : ACode := .seq (.region [⟨(some 13), .bin .lss (.tmp 12) (.tmp 11), none⟩] [1, 3, 4, 10, 11, 12, 13])
  (.seq (.cond (.tmp 13) (.skip) (.exit 0))
  (.seq (.block 1 (.seq (.region [⟨(some 14), .idx 7 none (.tmp 10) (.tmp 12), none⟩,
    ⟨(some 15), .load (some 7) (.tmp 14), none⟩,
    ⟨(some 6), .alloc T.field_Field [(.str ⟨#[]⟩), (.int .i64 0), (.int .i64 0), (.int .i64 0), (.int .i64 0), (.int .i64 0), (.int .i64 0)], none⟩,
    ⟨none, .store 7 (.tmp 6) (.tmp 15), none⟩] [1, 4, 6, 10, 11, 12])
  (.seq (.seq (.region [⟨(some 16), .load (some 11) (.tmp 1), none⟩,
    ⟨(some 17), .load (some 7) (.tmp 6), none⟩,
    ⟨(some 18), .call (.const (.fn F.msg_wrong [] [])) [(.tmp 16), (.tmp 17)], none⟩,
    ⟨(some 3), .mov (.tmp 18), none⟩] [1, 3, 4, 6, 10, 11, 12])
  (.seq (.region [⟨(some 19), .mov (.tmp 3), none⟩,
    ⟨(some 20), .bin .neq (.tmp 19) (.const (.int .i64 0)), none⟩] [1, 3, 4, 6, 10, 11, 12, 20])
  (.cond (.tmp 20) (.exit 0) (.skip))))
  (.region [⟨(some 21), .load (some 11) (.tmp 4), none⟩,
    ⟨(some 22), .load (some 7) (.tmp 6), none⟩,
    ⟨(some 23), .call (.const (.fn F.msg_without [] [])) [(.tmp 21), (.tmp 22)], none⟩,
    ⟨none, .store 11 (.tmp 4) (.tmp 23), none⟩] [1, 3, 4, 10, 11, 12]))))
  (.region [⟨(some 24), .bin .add (.tmp 12) (.const (.int .i64 1)), none⟩,
    ⟨(some 12), .mov (.tmp 24), none⟩] [1, 3, 4, 10, 11, 12])))
def msg_Check.body : ACode := .seq (.region [⟨(some 1), .box T.msg_Msg (.tmp 0), none⟩,
    ⟨(some 2), .mov (.const (.int .i64 0)), none⟩] [1])
  (.scope (.seq (.draw msg_Check.d0 msg_Check.d0b [[0, 1, 2, 3]] [(1, 0)] [1, 3, 4])
  (.seq (.skip)
  (.seq (.seq (.region [⟨(some 8), .field 0 (.tmp 1), none⟩,
    ⟨(some 9), .load none (.tmp 8), none⟩,
    ⟨(some 10), .call (.const (.fn F.field_Of [] [])) [(.tmp 9)], none⟩,
    ⟨(some 11), .len .slice (.tmp 10), none⟩,
    ⟨(some 12), .mov (.const (.int .i64 0)), none⟩] [1, 3, 4, 10, 11, 12])
  (.block 0 (.loop msg_Check.b1)))
  (.seq (.seq (.region [⟨(some 25), .mov (.tmp 3), none⟩,
    ⟨(some 26), .bin .eql (.tmp 25) (.const (.int .i64 0)), none⟩,
    ⟨(some 27), .mov (.tmp 26), none⟩,
    ⟨(some 28), .load (some 11) (.tmp 4), some (27, true)⟩,
    ⟨(some 29), .field 0 (.tmp 1), some (27, true)⟩,
    ⟨(some 30), .load none (.tmp 29), some (27, true)⟩,
    ⟨(some 31), .build [(.int .i64 0), (.int .i64 0), (.int .i64 0), (.int .i64 0), (.int .i64 0), (.int .i64 0), (.int .i64 0), .nils, .nils, (.str ⟨#[]⟩), (.str ⟨#[]⟩)] [(0, 1, (.tmp 30))], some (27, true)⟩,
    ⟨(some 32), .call (.const (.fn F.msg_Same [] [])) [(.tmp 28), (.tmp 31)], some (27, true)⟩,
    ⟨(some 33), .un .not (.tmp 32), some (27, true)⟩,
    ⟨(some 34), .pick (.tmp 27) (.tmp 33) (.const (.bool false)), none⟩] [3, 34])
  (.cond (.tmp 34) (.seq (.region [⟨(some 2), .mov (.const (.int .i64 3)), none⟩] [2])
  (.ret)) (.skip)))
  (.seq (.region [⟨(some 35), .mov (.tmp 3), none⟩,
    ⟨(some 2), .mov (.tmp 35), none⟩] [2])
  (.ret)))))))
def msg_Check : AFun := ⟨36, 1, [.tmp 2], msg_Check.body⟩
def schema_Lost_1.d0 : List AOper := [⟨(some 22), .field 2 (.tmp 6), none⟩,
    ⟨(some 23), .load none (.tmp 22), none⟩,
    ⟨(some 24), .bin .lss (.tmp 23) (.const (.int .i64 0)), none⟩,
    ⟨(some 25), .mov (.tmp 24), none⟩,
    ⟨(some 26), .field 1 (.tmp 6), some (25, true)⟩,
    ⟨(some 27), .load none (.tmp 26), some (25, true)⟩,
    ⟨(some 28), .bin .neq (.tmp 27) (.const (.int .i64 6)), some (25, true)⟩,
    ⟨(some 29), .mov (.tmp 28), some (25, true)⟩,
    ⟨(some 30), .field 10 (.tmp 1), some (29, false)⟩,
    ⟨(some 31), .load none (.tmp 30), some (29, false)⟩,
    ⟨(some 32), .field 10 (.tmp 4), some (29, false)⟩,
    ⟨(some 33), .load none (.tmp 32), some (29, false)⟩,
    ⟨(some 34), .bin .eql (.tmp 31) (.tmp 33), some (29, false)⟩,
    ⟨(some 35), .pick (.tmp 29) (.const (.bool true)) (.tmp 34), some (25, true)⟩,
    ⟨(some 36), .pick (.tmp 25) (.tmp 35) (.const (.bool false)), none⟩,
    ⟨(some 37), .mov (.tmp 36), none⟩,
    ⟨(some 38), .field 2 (.tmp 6), some (37, false)⟩,
    ⟨(some 39), .load none (.tmp 38), some (37, false)⟩,
    ⟨(some 40), .bin .geq (.tmp 39) (.const (.int .i64 0)), some (37, false)⟩,
    ⟨(some 41), .mov (.tmp 40), some (37, false)⟩,
    ⟨(some 42), .field 2 (.tmp 6), some (41, true)⟩,
    ⟨(some 43), .load none (.tmp 42), some (41, true)⟩,
    ⟨(some 44), .field 1 (.tmp 1), some (41, true)⟩,
    ⟨(some 45), .idx 1 (some 6) (.tmp 44) (.tmp 43), some (41, true)⟩,
    ⟨(some 46), .load none (.tmp 45), some (41, true)⟩,
    ⟨(some 47), .field 2 (.tmp 6), some (41, true)⟩,
    ⟨(some 48), .load none (.tmp 47), some (41, true)⟩,
    ⟨(some 49), .field 1 (.tmp 4), some (41, true)⟩,
    ⟨(some 50), .idx 1 (some 6) (.tmp 49) (.tmp 48), some (41, true)⟩,
    ⟨(some 51), .load none (.tmp 50), some (41, true)⟩,
    ⟨(some 52), .bin .eql (.tmp 46) (.tmp 51), some (41, true)⟩,
    ⟨(some 53), .pick (.tmp 41) (.tmp 52) (.const (.bool false)), some (37, false)⟩,
    ⟨(some 54), .pick (.tmp 37) (.const (.bool true)) (.tmp 53), none⟩,
    ⟨(some 7), .mov (.tmp 54), none⟩]
def schema_Lost_1.d0b : List (List Nat) := [[], [0], [0, 1], [0, 1, 2], [0, 1, 2, 3], [0, 1, 2, 3, 4], [0, 1, 2, 3, 4, 5], [0, 1, 2, 3, 4, 5, 6], [0, 1, 2, 3, 4, 5, 6, 7], [0, 1, 2, 3, 4, 5, 6, 7, 8], [0, 1, 2, 3, 4, 5, 6, 7], [0, 1, 2, 3, 4, 5, 6, 7, 10], [0, 1, 2, 3, 4, 5, 6, 7, 8, 9, 10, 11], [0, 1, 2, 3, 4, 5, 6, 7, 8, 9, 10, 11, 12], [0, 1, 2, 3, 4, 5, 6, 7, 8, 9, 10, 11, 12, 13], [0, 1, 2, 3, 4, 5, 6, 7, 8, 9, 10, 11, 12, 13, 14], [0, 1, 2, 3, 4, 5, 6, 7, 8, 9, 10, 11, 12, 13, 14, 15], [0, 1, 2, 3, 4, 5, 6, 7, 8, 9, 10, 11, 12, 13, 14, 15, 16], [0, 1, 2, 3, 4, 5, 6, 7, 8, 9, 10, 11, 12, 13, 14, 15, 16, 17], [0, 1, 2, 3, 4, 5, 6, 7, 8, 9, 10, 11, 12, 13, 14, 15, 16, 17, 18], [0, 1, 2, 3, 4, 5, 6, 7, 8, 9, 10, 11, 12, 13, 14, 15, 16, 17, 18, 19], [0, 1, 2, 3, 4, 5, 6, 7, 8, 9, 10, 11, 12, 13, 14, 15, 16, 17, 18, 19, 20], [0, 1, 2, 3, 4, 5, 6, 7, 8, 9, 10, 11, 12, 13, 14, 15, 16, 17, 18, 19], [0, 1, 2, 3, 4, 5, 6, 7, 8, 9, 10, 11, 12, 13, 14, 15, 16, 17, 18, 19, 20, 21, 22], [0, 1, 2, 3, 4, 5, 6, 7, 8, 9, 10, 11, 12, 13, 14, 15, 16, 17, 18, 19, 20, 21, 22, 23], [0, 1, 2, 3, 4, 5, 6, 7, 8, 9, 10, 11, 12, 13, 14, 15, 16, 17, 18, 19], [0, 1, 2, 3, 4, 5, 6, 7, 8, 9, 10, 11, 12, 13, 14, 15, 16, 17, 18, 19, 25], [0, 1, 2, 3, 4, 5, 6, 7, 8, 9, 10, 11, 12, 13, 14, 15, 16, 17, 18, 19], [0, 1, 2, 3, 4, 5, 6, 7, 8, 9, 10, 11, 12, 13, 14, 15, 16, 17, 18, 19, 25, 26, 27], [0, 1, 2, 3, 4, 5, 6, 7, 8, 9, 10, 11, 12, 13, 14, 15, 16, 17, 18, 19, 25, 26, 27, 28], [0, 1, 2, 3, 4, 5, 6, 7, 8, 9, 10, 11, 12, 13, 14, 15, 16, 17, 18, 19, 20, 21, 22, 23, 24, 25, 26, 27, 28, 29], [0, 1, 2, 3, 4, 5, 6, 7, 8, 9, 10, 11, 12, 13, 14, 15, 16, 17, 18, 19, 20, 21, 22, 23, 24, 25, 26, 27, 28, 29, 30], [0, 1, 2, 3, 4, 5, 6, 7, 8, 9, 10, 11, 12, 13, 14, 15, 16, 17, 18, 19, 20, 21, 22, 23, 24, 25, 26, 27, 28, 29, 30, 31], [0, 1, 2, 3, 4, 5, 6, 7, 8, 9, 10, 11, 12, 13, 14, 15, 16, 17, 18, 19, 20, 21, 22, 23, 24, 25, 26, 27, 28, 29, 30, 31, 32]]
def schema_Lost_1.b1 : ACode := .seq (.region [⟨(some 19), .bin .lss (.tmp 18) (.tmp 17), none⟩] [0, 1, 4, 16, 17, 18, 19])
  (.seq (.cond (.tmp 19) (.skip) (.exit 0))
  (.seq (.block 1 (.seq (.region [⟨(some 20), .idx 7 none (.tmp 16) (.tmp 18), none⟩,
    ⟨(some 21), .load (some 7) (.tmp 20), none⟩,
    ⟨(some 6), .alloc T.field_Field [(.str ⟨#[]⟩), (.int .i64 0), (.int .i64 0), (.int .i64 0), (.int .i64 0), (.int .i64 0), (.int .i64 0)], none⟩,
    ⟨none, .store 7 (.tmp 6) (.tmp 21), none⟩] [0, 1, 4, 6, 16, 17, 18])
  (.seq (.draw schema_Lost_1.d0 schema_Lost_1.d0b [[0, 1, 2, 3, 4, 5, 6, 7, 8, 9, 10, 11, 12, 13, 14, 15, 16, 17, 18, 19, 20, 21, 22, 23, 24, 25, 26, 27, 28, 29, 30, 31, 32, 33]] [] [0, 1, 4, 6, 7, 16, 17, 18])
  (.seq (.region [⟨(some 55), .mov (.tmp 7), none⟩,
    ⟨(some 56), .un .not (.tmp 55), none⟩,
    ⟨(some 57), .mov (.tmp 56), none⟩,
    ⟨(some 58), .mov (.tmp 0), some (57, true)⟩,
    ⟨(some 59), .field 0 (.tmp 6), some (57, true)⟩,
    ⟨(some 60), .load none (.tmp 59), some (57, true)⟩,
    ⟨(some 61), .call (.tmp 58) [(.tmp 60)], some (57, true)⟩,
    ⟨(some 62), .un .not (.tmp 61), some (57, true)⟩,
    ⟨(some 63), .pick (.tmp 57) (.tmp 62) (.const (.bool false)), none⟩] [0, 1, 4, 16, 17, 18, 63])
  (.cond (.tmp 63) (.exit 0) (.skip))))))
  (.region [⟨(some 64), .bin .add (.tmp 18) (.const (.int .i64 1)), none⟩,
    ⟨(some 18), .mov (.tmp 64), none⟩] [0, 1, 4, 16, 17, 18])))
def schema_Lost_1.body : ACode := .scope (.seq (.seq (.region [⟨(some 8), .load (some 11) (.tmp 1), none⟩,
    ⟨(some 9), .call (.const (.fn F.msg_Check [] [])) [(.tmp 8)], none⟩,
    ⟨(some 10), .bin .neq (.tmp 9) (.const (.int .i64 0)), none⟩] [0, 1, 2, 10])
  (.cond (.tmp 10) (.ret) (.skip)))
  (.seq (.region [⟨(some 11), .load (some 11) (.tmp 1), none⟩,
    ⟨(some 12), .load none (.tmp 2), none⟩,
    ⟨(some 13), .call (.const (.fn F.msg_Project [] [])) [(.tmp 11), (.tmp 12)], none⟩,
    ⟨(some 4), .alloc T.msg_Msg [(.int .i64 0), (.int .i64 0), (.int .i64 0), (.int .i64 0), (.int .i64 0), (.int .i64 0), (.int .i64 0), .nils, .nils, (.str ⟨#[]⟩), (.str ⟨#[]⟩)], none⟩,
    ⟨none, .store 11 (.tmp 4) (.tmp 13), none⟩] [0, 1, 4])
  (.seq (.skip)
  (.seq (.region [⟨(some 14), .field 0 (.tmp 1), none⟩,
    ⟨(some 15), .load none (.tmp 14), none⟩,
    ⟨(some 16), .call (.const (.fn F.field_Of [] [])) [(.tmp 15)], none⟩,
    ⟨(some 17), .len .slice (.tmp 16), none⟩,
    ⟨(some 18), .mov (.const (.int .i64 0)), none⟩] [0, 1, 4, 16, 17, 18])
  (.block 0 (.loop schema_Lost_1.b1))))))
def schema_Lost_1 : AFun := ⟨65, 3, [], schema_Lost_1.body⟩
def field_Of.body : ACode := .seq (.region [⟨(some 2), .mov (.const .nils), none⟩] [0])
  (.seq (.seq (.region [⟨(some 3), .mov (.tmp 0), none⟩] [3])
  (.block 0 (.seq (.region [⟨(some 5), .bin .eql (.tmp 3) (.const (.int .i64 1)), none⟩,
    ⟨(some 4), .mov (.tmp 5), none⟩] [3, 4])
  (.cond (.tmp 4) (.seq (.region [⟨(some 6), .call (.const (.fn F.field_robot [] [])) [], none⟩,
    ⟨(some 7), .build [(.str ⟨#[]⟩), (.int .i64 0), (.int .i64 0), (.int .i64 0), (.int .i64 0), (.int .i64 0), (.int .i64 0)] [(0, 1, (.const (.str ⟨#[115, 112, 101, 101, 100]⟩))), (1, 1, (.const (.int .i64 1))), (2, 1, (.const (.int .i64 1))), (3, 1, (.const (.int .i64 1))), (4, 1, (.const (.int .i64 5000))), (5, 1, (.const (.int .i64 1))), (6, 1, (.const (.int .i64 0)))], none⟩,
    ⟨(some 8), .build [(.str ⟨#[]⟩), (.int .i64 0), (.int .i64 0), (.int .i64 0), (.int .i64 0), (.int .i64 0), (.int .i64 0)] [(0, 1, (.const (.str ⟨#[97, 99, 99, 101, 108]⟩))), (1, 1, (.const (.int .i64 1))), (2, 1, (.const (.int .i64 2))), (3, 1, (.const (.int .i64 1))), (4, 1, (.const (.int .i64 10000))), (5, 1, (.const (.int .i64 2))), (6, 1, (.const (.int .i64 500)))], none⟩,
    ⟨(some 9), .build [(.str ⟨#[]⟩), (.int .i64 0), (.int .i64 0), (.int .i64 0), (.int .i64 0), (.int .i64 0), (.int .i64 0)] [(0, 1, (.const (.str ⟨#[112, 97, 116, 104]⟩))), (1, 1, (.const (.int .i64 3))), (2, 1, (.const (.int .i64 (-1)))), (3, 1, (.const (.int .i64 1))), (4, 1, (.const (.int .i64 16))), (5, 1, (.const (.int .i64 1))), (6, 1, (.const (.int .i64 0)))], none⟩,
    ⟨(some 10), .build [(.str ⟨#[]⟩), (.int .i64 0), (.int .i64 0), (.int .i64 0), (.int .i64 0), (.int .i64 0), (.int .i64 0)] [(0, 1, (.const (.str ⟨#[116, 97, 103]⟩))), (1, 1, (.const (.int .i64 6))), (2, 1, (.const (.int .i64 (-1)))), (3, 1, (.const (.int .i64 0))), (4, 1, (.const (.int .i64 16))), (5, 1, (.const (.int .i64 2))), (6, 1, (.const (.int .i64 0)))], none⟩,
    ⟨(some 11), .lit T.field_Field 7 5 [(.str ⟨#[]⟩), (.int .i64 0), (.int .i64 0), (.int .i64 0), (.int .i64 0), (.int .i64 0), (.int .i64 0), (.str ⟨#[]⟩), (.int .i64 0), (.int .i64 0), (.int .i64 0), (.int .i64 0), (.int .i64 0), (.int .i64 0), (.str ⟨#[]⟩), (.int .i64 0), (.int .i64 0), (.int .i64 0), (.int .i64 0), (.int .i64 0), (.int .i64 0), (.str ⟨#[]⟩), (.int .i64 0), (.int .i64 0), (.int .i64 0), (.int .i64 0), (.int .i64 0), (.int .i64 0), (.str ⟨#[]⟩), (.int .i64 0), (.int .i64 0), (.int .i64 0), (.int .i64 0), (.int .i64 0), (.int .i64 0)] [(0, 7, (.tmp 6)), (7, 7, (.tmp 7)), (14, 7, (.tmp 8)), (21, 7, (.tmp 9)), (28, 7, (.tmp 10))], none⟩,
    ⟨(some 2), .mov (.tmp 11), none⟩] [2])
  (.ret)) (.seq (.region [⟨(some 13), .bin .eql (.tmp 3) (.const (.int .i64 2)), none⟩,
    ⟨(some 12), .mov (.tmp 13), none⟩] [3, 12])
  (.cond (.tmp 12) (.seq (.region [⟨(some 14), .call (.const (.fn F.field_robot [] [])) [], none⟩,
    ⟨(some 15), .build [(.str ⟨#[]⟩), (.int .i64 0), (.int .i64 0), (.int .i64 0), (.int .i64 0), (.int .i64 0), (.int .i64 0)] [(0, 1, (.const (.str ⟨#[114, 101, 97, 115, 111, 110]⟩))), (1, 1, (.const (.int .i64 1))), (2, 1, (.const (.int .i64 1))), (3, 1, (.const (.int .i64 0))), (4, 1, (.const (.int .i64 15))), (5, 1, (.const (.int .i64 1))), (6, 1, (.const (.int .i64 0)))], none⟩,
    ⟨(some 16), .build [(.str ⟨#[]⟩), (.int .i64 0), (.int .i64 0), (.int .i64 0), (.int .i64 0), (.int .i64 0), (.int .i64 0)] [(0, 1, (.const (.str ⟨#[122, 111, 110, 101]⟩))), (1, 1, (.const (.int .i64 1))), (2, 1, (.const (.int .i64 2))), (3, 1, (.const (.int .i64 0))), (4, 1, (.const (.int .i64 4095))), (5, 1, (.const (.int .i64 2))), (6, 1, (.const (.int .i64 0)))], none⟩,
    ⟨(some 17), .lit T.field_Field 7 3 [(.str ⟨#[]⟩), (.int .i64 0), (.int .i64 0), (.int .i64 0), (.int .i64 0), (.int .i64 0), (.int .i64 0), (.str ⟨#[]⟩), (.int .i64 0), (.int .i64 0), (.int .i64 0), (.int .i64 0), (.int .i64 0), (.int .i64 0), (.str ⟨#[]⟩), (.int .i64 0), (.int .i64 0), (.int .i64 0), (.int .i64 0), (.int .i64 0), (.int .i64 0)] [(0, 7, (.tmp 14)), (7, 7, (.tmp 15)), (14, 7, (.tmp 16))], none⟩,
    ⟨(some 2), .mov (.tmp 17), none⟩] [2])
  (.ret)) (.seq (.region [⟨(some 19), .bin .eql (.tmp 3) (.const (.int .i64 3)), none⟩,
    ⟨(some 18), .mov (.tmp 19), none⟩] [3, 18])
  (.cond (.tmp 18) (.seq (.region [⟨(some 20), .call (.const (.fn F.field_robot [] [])) [], none⟩,
    ⟨(some 21), .build [(.str ⟨#[]⟩), (.int .i64 0), (.int .i64 0), (.int .i64 0), (.int .i64 0), (.int .i64 0), (.int .i64 0)] [(0, 1, (.const (.str ⟨#[122, 111, 110, 101]⟩))), (1, 1, (.const (.int .i64 1))), (2, 1, (.const (.int .i64 1))), (3, 1, (.const (.int .i64 0))), (4, 1, (.const (.int .i64 4095))), (5, 1, (.const (.int .i64 1))), (6, 1, (.const (.int .i64 0)))], none⟩,
    ⟨(some 22), .build [(.str ⟨#[]⟩), (.int .i64 0), (.int .i64 0), (.int .i64 0), (.int .i64 0), (.int .i64 0), (.int .i64 0)] [(0, 1, (.const (.str ⟨#[108, 101, 97, 115, 101]⟩))), (1, 1, (.const (.int .i64 1))), (2, 1, (.const (.int .i64 2))), (3, 1, (.const (.int .i64 1))), (4, 1, (.const (.int .i64 255))), (5, 1, (.const (.int .i64 2))), (6, 1, (.const (.int .i64 1)))], none⟩,
    ⟨(some 23), .build [(.str ⟨#[]⟩), (.int .i64 0), (.int .i64 0), (.int .i64 0), (.int .i64 0), (.int .i64 0), (.int .i64 0)] [(0, 1, (.const (.str ⟨#[99, 101, 108, 108, 115]⟩))), (1, 1, (.const (.int .i64 4))), (2, 1, (.const (.int .i64 (-1)))), (3, 1, (.const (.int .i64 1))), (4, 1, (.const (.int .i64 32))), (5, 1, (.const (.int .i64 1))), (6, 1, (.const (.int .i64 0)))], none⟩,
    ⟨(some 24), .lit T.field_Field 7 4 [(.str ⟨#[]⟩), (.int .i64 0), (.int .i64 0), (.int .i64 0), (.int .i64 0), (.int .i64 0), (.int .i64 0), (.str ⟨#[]⟩), (.int .i64 0), (.int .i64 0), (.int .i64 0), (.int .i64 0), (.int .i64 0), (.int .i64 0), (.str ⟨#[]⟩), (.int .i64 0), (.int .i64 0), (.int .i64 0), (.int .i64 0), (.int .i64 0), (.int .i64 0), (.str ⟨#[]⟩), (.int .i64 0), (.int .i64 0), (.int .i64 0), (.int .i64 0), (.int .i64 0), (.int .i64 0)] [(0, 7, (.tmp 20)), (7, 7, (.tmp 21)), (14, 7, (.tmp 22)), (21, 7, (.tmp 23))], none⟩,
    ⟨(some 2), .mov (.tmp 24), none⟩] [2])
  (.ret)) (.seq (.region [⟨(some 26), .bin .eql (.tmp 3) (.const (.int .i64 4)), none⟩,
    ⟨(some 25), .mov (.tmp 26), none⟩] [3, 25])
  (.cond (.tmp 25) (.seq (.region [⟨(some 27), .call (.const (.fn F.field_robot [] [])) [], none⟩,
    ⟨(some 28), .build [(.str ⟨#[]⟩), (.int .i64 0), (.int .i64 0), (.int .i64 0), (.int .i64 0), (.int .i64 0), (.int .i64 0)] [(0, 1, (.const (.str ⟨#[120]⟩))), (1, 1, (.const (.int .i64 2))), (2, 1, (.const (.int .i64 1))), (3, 1, (.const (.int .i64 (-1000000)))), (4, 1, (.const (.int .i64 1000000))), (5, 1, (.const (.int .i64 1))), (6, 1, (.const (.int .i64 0)))], none⟩,
    ⟨(some 29), .build [(.str ⟨#[]⟩), (.int .i64 0), (.int .i64 0), (.int .i64 0), (.int .i64 0), (.int .i64 0), (.int .i64 0)] [(0, 1, (.const (.str ⟨#[121]⟩))), (1, 1, (.const (.int .i64 2))), (2, 1, (.const (.int .i64 2))), (3, 1, (.const (.int .i64 (-1000000)))), (4, 1, (.const (.int .i64 1000000))), (5, 1, (.const (.int .i64 1))), (6, 1, (.const (.int .i64 0)))], none⟩,
    ⟨(some 30), .build [(.str ⟨#[]⟩), (.int .i64 0), (.int .i64 0), (.int .i64 0), (.int .i64 0), (.int .i64 0), (.int .i64 0)] [(0, 1, (.const (.str ⟨#[104, 101, 97, 100, 105, 110, 103]⟩))), (1, 1, (.const (.int .i64 1))), (2, 1, (.const (.int .i64 3))), (3, 1, (.const (.int .i64 0))), (4, 1, (.const (.int .i64 35999))), (5, 1, (.const (.int .i64 1))), (6, 1, (.const (.int .i64 0)))], none⟩,
    ⟨(some 31), .build [(.str ⟨#[]⟩), (.int .i64 0), (.int .i64 0), (.int .i64 0), (.int .i64 0), (.int .i64 0), (.int .i64 0)] [(0, 1, (.const (.str ⟨#[98, 97, 116, 116, 101, 114, 121]⟩))), (1, 1, (.const (.int .i64 1))), (2, 1, (.const (.int .i64 4))), (3, 1, (.const (.int .i64 0))), (4, 1, (.const (.int .i64 1000))), (5, 1, (.const (.int .i64 1))), (6, 1, (.const (.int .i64 0)))], none⟩,
    ⟨(some 32), .build [(.str ⟨#[]⟩), (.int .i64 0), (.int .i64 0), (.int .i64 0), (.int .i64 0), (.int .i64 0), (.int .i64 0)] [(0, 1, (.const (.str ⟨#[115, 117, 114, 101]⟩))), (1, 1, (.const (.int .i64 1))), (2, 1, (.const (.int .i64 5))), (3, 1, (.const (.int .i64 0))), (4, 1, (.const (.int .i64 100))), (5, 1, (.const (.int .i64 2))), (6, 1, (.const (.int .i64 100)))], none⟩,
    ⟨(some 33), .lit T.field_Field 7 6 [(.str ⟨#[]⟩), (.int .i64 0), (.int .i64 0), (.int .i64 0), (.int .i64 0), (.int .i64 0), (.int .i64 0), (.str ⟨#[]⟩), (.int .i64 0), (.int .i64 0), (.int .i64 0), (.int .i64 0), (.int .i64 0), (.int .i64 0), (.str ⟨#[]⟩), (.int .i64 0), (.int .i64 0), (.int .i64 0), (.int .i64 0), (.int .i64 0), (.int .i64 0), (.str ⟨#[]⟩), (.int .i64 0), (.int .i64 0), (.int .i64 0), (.int .i64 0), (.int .i64 0), (.int .i64 0), (.str ⟨#[]⟩), (.int .i64 0), (.int .i64 0), (.int .i64 0), (.int .i64 0), (.int .i64 0), (.int .i64 0), (.str ⟨#[]⟩), (.int .i64 0), (.int .i64 0), (.int .i64 0), (.int .i64 0), (.int .i64 0), (.int .i64 0)] [(0, 7, (.tmp 27)), (7, 7, (.tmp 28)), (14, 7, (.tmp 29)), (21, 7, (.tmp 30)), (28, 7, (.tmp 31)), (35, 7, (.tmp 32))], none⟩,
    ⟨(some 2), .mov (.tmp 33), none⟩] [2])
  (.ret)) (.seq (.region [⟨(some 35), .bin .eql (.tmp 3) (.const (.int .i64 5)), none⟩,
    ⟨(some 34), .mov (.tmp 35), none⟩] [34])
  (.cond (.tmp 34) (.seq (.region [⟨(some 36), .call (.const (.fn F.field_robot [] [])) [], none⟩,
    ⟨(some 37), .build [(.str ⟨#[]⟩), (.int .i64 0), (.int .i64 0), (.int .i64 0), (.int .i64 0), (.int .i64 0), (.int .i64 0)] [(0, 1, (.const (.str ⟨#[99, 111, 100, 101]⟩))), (1, 1, (.const (.int .i64 1))), (2, 1, (.const (.int .i64 1))), (3, 1, (.const (.int .i64 1))), (4, 1, (.const (.int .i64 9999))), (5, 1, (.const (.int .i64 1))), (6, 1, (.const (.int .i64 0)))], none⟩,
    ⟨(some 38), .build [(.str ⟨#[]⟩), (.int .i64 0), (.int .i64 0), (.int .i64 0), (.int .i64 0), (.int .i64 0), (.int .i64 0)] [(0, 1, (.const (.str ⟨#[115, 101, 118, 101, 114, 105, 116, 121]⟩))), (1, 1, (.const (.int .i64 1))), (2, 1, (.const (.int .i64 2))), (3, 1, (.const (.int .i64 0))), (4, 1, (.const (.int .i64 4))), (5, 1, (.const (.int .i64 1))), (6, 1, (.const (.int .i64 0)))], none⟩,
    ⟨(some 39), .build [(.str ⟨#[]⟩), (.int .i64 0), (.int .i64 0), (.int .i64 0), (.int .i64 0), (.int .i64 0), (.int .i64 0)] [(0, 1, (.const (.str ⟨#[112, 97, 114, 116]⟩))), (1, 1, (.const (.int .i64 1))), (2, 1, (.const (.int .i64 3))), (3, 1, (.const (.int .i64 0))), (4, 1, (.const (.int .i64 255))), (5, 1, (.const (.int .i64 2))), (6, 1, (.const (.int .i64 0)))], none⟩,
    ⟨(some 40), .build [(.str ⟨#[]⟩), (.int .i64 0), (.int .i64 0), (.int .i64 0), (.int .i64 0), (.int .i64 0), (.int .i64 0)] [(0, 1, (.const (.str ⟨#[116, 105, 109, 101, 115]⟩))), (1, 1, (.const (.int .i64 1))), (2, 1, (.const (.int .i64 4))), (3, 1, (.const (.int .i64 1))), (4, 1, (.const (.int .i64 1000000))), (5, 1, (.const (.int .i64 2))), (6, 1, (.const (.int .i64 1)))], none⟩,
    ⟨(some 41), .build [(.str ⟨#[]⟩), (.int .i64 0), (.int .i64 0), (.int .i64 0), (.int .i64 0), (.int .i64 0), (.int .i64 0)] [(0, 1, (.const (.str ⟨#[116, 101, 120, 116]⟩))), (1, 1, (.const (.int .i64 5))), (2, 1, (.const (.int .i64 (-1)))), (3, 1, (.const (.int .i64 0))), (4, 1, (.const (.int .i64 64))), (5, 1, (.const (.int .i64 1))), (6, 1, (.const (.int .i64 0)))], none⟩,
    ⟨(some 42), .lit T.field_Field 7 6 [(.str ⟨#[]⟩), (.int .i64 0), (.int .i64 0), (.int .i64 0), (.int .i64 0), (.int .i64 0), (.int .i64 0), (.str ⟨#[]⟩), (.int .i64 0), (.int .i64 0), (.int .i64 0), (.int .i64 0), (.int .i64 0), (.int .i64 0), (.str ⟨#[]⟩), (.int .i64 0), (.int .i64 0), (.int .i64 0), (.int .i64 0), (.int .i64 0), (.int .i64 0), (.str ⟨#[]⟩), (.int .i64 0), (.int .i64 0), (.int .i64 0), (.int .i64 0), (.int .i64 0), (.int .i64 0), (.str ⟨#[]⟩), (.int .i64 0), (.int .i64 0), (.int .i64 0), (.int .i64 0), (.int .i64 0), (.int .i64 0), (.str ⟨#[]⟩), (.int .i64 0), (.int .i64 0), (.int .i64 0), (.int .i64 0), (.int .i64 0), (.int .i64 0)] [(0, 7, (.tmp 36)), (7, 7, (.tmp 37)), (14, 7, (.tmp 38)), (21, 7, (.tmp 39)), (28, 7, (.tmp 40)), (35, 7, (.tmp 41))], none⟩,
    ⟨(some 2), .mov (.tmp 42), none⟩] [2])
  (.ret)) (.skip)))))))))))))
  (.seq (.region [⟨(some 2), .mov (.const .nils), none⟩] [2])
  (.ret)))
def field_Of : AFun := ⟨43, 1, [.tmp 2], field_Of.body⟩
def field_Word.body : ACode := .seq (.region [⟨(some 2), .mov (.const (.str ⟨#[]⟩)), none⟩] [0])
  (.seq (.seq (.region [⟨(some 3), .mov (.tmp 0), none⟩] [3])
  (.block 0 (.seq (.region [⟨(some 5), .bin .eql (.tmp 3) (.const (.int .i64 1)), none⟩,
    ⟨(some 4), .mov (.tmp 5), none⟩] [3, 4])
  (.cond (.tmp 4) (.seq (.region [⟨(some 2), .mov (.const (.str ⟨#[109, 111, 118, 101]⟩)), none⟩] [2])
  (.ret)) (.seq (.region [⟨(some 7), .bin .eql (.tmp 3) (.const (.int .i64 2)), none⟩,
    ⟨(some 6), .mov (.tmp 7), none⟩] [3, 6])
  (.cond (.tmp 6) (.seq (.region [⟨(some 2), .mov (.const (.str ⟨#[104, 111, 108, 100]⟩)), none⟩] [2])
  (.ret)) (.seq (.region [⟨(some 9), .bin .eql (.tmp 3) (.const (.int .i64 3)), none⟩,
    ⟨(some 8), .mov (.tmp 9), none⟩] [3, 8])
  (.cond (.tmp 8) (.seq (.region [⟨(some 2), .mov (.const (.str ⟨#[103, 114, 97, 110, 116]⟩)), none⟩] [2])
  (.ret)) (.seq (.region [⟨(some 11), .bin .eql (.tmp 3) (.const (.int .i64 4)), none⟩,
    ⟨(some 10), .mov (.tmp 11), none⟩] [3, 10])
  (.cond (.tmp 10) (.seq (.region [⟨(some 2), .mov (.const (.str ⟨#[112, 111, 115, 101]⟩)), none⟩] [2])
  (.ret)) (.seq (.region [⟨(some 13), .bin .eql (.tmp 3) (.const (.int .i64 5)), none⟩,
    ⟨(some 12), .mov (.tmp 13), none⟩] [12])
  (.cond (.tmp 12) (.seq (.region [⟨(some 2), .mov (.const (.str ⟨#[102, 97, 117, 108, 116]⟩)), none⟩] [2])
  (.ret)) (.skip)))))))))))))
  (.seq (.region [⟨(some 2), .mov (.const (.str ⟨#[]⟩)), none⟩] [2])
  (.ret)))
def field_Word : AFun := ⟨14, 1, [.tmp 2], field_Word.body⟩
def lens_New.body : ACode := .seq (.region [⟨(some 2), .mov (.const .nilp), none⟩] [0])
  (.seq (.region [⟨(some 3), .mov (.tmp 0), none⟩,
    ⟨(some 4), .append T.uint8 1 1 (.const .nils) (.tmp 3), none⟩,
    ⟨(some 5), .build [.nils, (.int .i64 0), (.int .i64 0)] [(0, 1, (.tmp 4))], none⟩,
    ⟨(some 6), .box T.lens_Lens (.tmp 5), none⟩,
    ⟨(some 2), .mov (.tmp 6), none⟩] [2])
  (.ret))
def lens_New : AFun := ⟨7, 1, [.tmp 2], lens_New.body⟩
def field_All.body : ACode := .seq (.region [⟨(some 2), .box T.int (.tmp 0), none⟩,
    ⟨(some 3), .box T.int (.tmp 1), none⟩,
    ⟨(some 4), .mov (.const .nilf), none⟩] [2, 3])
  (.seq (.region [⟨(some 5), .mkfn F.field_All_1 [] [(.tmp 2), (.tmp 3)], none⟩,
    ⟨(some 4), .mov (.tmp 5), none⟩] [4])
  (.ret))
def field_All : AFun := ⟨6, 2, [.tmp 4], field_All.body⟩
def body_reader_field.d0 : List AOper := [⟨(some 10), .mov (.tmp 1), none⟩,
    ⟨(some 11), .field 2 (.tmp 5), none⟩,
    ⟨(some 12), .load none (.tmp 11), none⟩,
    ⟨(some 13), .mov (.tmp 0), none⟩,
    ⟨(some 14), .nilc (.tmp 13), none⟩,
    ⟨(some 15), .field 0 (.tmp 14), none⟩,
    ⟨(some 16), .load none (.tmp 15), none⟩,
    ⟨(some 17), .field 4 (.tmp 5), none⟩,
    ⟨(some 18), .load none (.tmp 17), none⟩,
    ⟨(some 19), .conv .u64 (.tmp 18), none⟩,
    ⟨(some 20), .call (.const (.fn F.lens_Lens_Number [] [])) [(.tmp 16), (.tmp 19)], none⟩,
    ⟨(some 21), .conv .i64 (.tmp 20), none⟩,
    ⟨(some 22), .nilc (.tmp 10), none⟩,
    ⟨(some 23), .field 1 (.tmp 22), none⟩,
    ⟨(some 24), .idx 1 (some 6) (.tmp 23) (.tmp 12), none⟩,
    ⟨none, .store 1 (.tmp 24) (.tmp 21), none⟩]
def body_reader_field.d0b : List (List Nat) := [[], [], [1], [], [3], [3, 4], [3, 4, 5], [], [7], [7, 8], [3, 4, 5, 6, 7, 8, 9], [3, 4, 5, 6, 7, 8, 9, 10], [0], [0, 12], [0, 1, 2, 3, 4, 5, 6, 7, 8, 9, 10, 11, 12, 13], [0, 1, 2, 3, 4, 5, 6, 7, 8, 9, 10, 11, 12, 13, 14]]
def body_reader_field.d1 : List AOper := [⟨(some 25), .mov (.tmp 0), none⟩,
    ⟨(some 26), .mov (.tmp 1), none⟩,
    ⟨(some 27), .field 2 (.tmp 5), none⟩,
    ⟨(some 28), .load none (.tmp 27), none⟩,
    ⟨(some 29), .nilc (.tmp 26), none⟩,
    ⟨(some 30), .field 1 (.tmp 29), none⟩,
    ⟨(some 31), .idx 1 (some 6) (.tmp 30) (.tmp 28), none⟩,
    ⟨(some 32), .load none (.tmp 31), none⟩,
    ⟨(some 33), .field 3 (.tmp 5), none⟩,
    ⟨(some 34), .load none (.tmp 33), none⟩,
    ⟨(some 35), .bin .lss (.tmp 32) (.tmp 34), none⟩,
    ⟨(some 36), .call (.const (.fn F.body_reader_note [] [])) [(.tmp 25), (.tmp 35), (.const (.int .i64 5))], none⟩]
def body_reader_field.d1b : List (List Nat) := [[], [], [], [2], [1], [1, 4], [1, 2, 3, 4, 5], [1, 2, 3, 4, 5, 6], [], [8], [1, 2, 3, 4, 5, 6, 7, 8, 9], [0, 1, 2, 3, 4, 5, 6, 7, 8, 9, 10]]
def body_reader_field.d2 : List AOper := [⟨(some 39), .mov (.tmp 1), none⟩,
    ⟨(some 40), .field 2 (.tmp 5), none⟩,
    ⟨(some 41), .load none (.tmp 40), none⟩,
    ⟨(some 42), .mov (.tmp 0), none⟩,
    ⟨(some 43), .nilc (.tmp 42), none⟩,
    ⟨(some 44), .field 0 (.tmp 43), none⟩,
    ⟨(some 45), .load none (.tmp 44), none⟩,
    ⟨(some 46), .field 3 (.tmp 5), none⟩,
    ⟨(some 47), .load none (.tmp 46), none⟩,
    ⟨(some 48), .field 4 (.tmp 5), none⟩,
    ⟨(some 49), .load none (.tmp 48), none⟩,
    ⟨(some 50), .call (.const (.fn F.lens_Lens_Signed [] [])) [(.tmp 45), (.tmp 47), (.tmp 49)], none⟩,
    ⟨(some 51), .nilc (.tmp 39), none⟩,
    ⟨(some 52), .field 1 (.tmp 51), none⟩,
    ⟨(some 53), .idx 1 (some 6) (.tmp 52) (.tmp 41), none⟩,
    ⟨none, .store 1 (.tmp 53) (.tmp 50), none⟩]
def body_reader_field.d2b : List (List Nat) := [[], [], [1], [], [3], [3, 4], [3, 4, 5], [], [7], [], [9], [3, 4, 5, 6, 7, 8, 9, 10], [0], [0, 12], [0, 1, 2, 3, 4, 5, 6, 7, 8, 9, 10, 11, 12, 13], [0, 1, 2, 3, 4, 5, 6, 7, 8, 9, 10, 11, 12, 13, 14]]
def body_reader_field.body : ACode := .seq (.region [⟨(some 5), .box T.field_Field (.tmp 2), none⟩] [0, 1, 5])
  (.seq (.region [⟨(some 6), .field 1 (.tmp 5), none⟩,
    ⟨(some 7), .load none (.tmp 6), none⟩] [0, 1, 5, 7])
  (.block 0 (.seq (.region [⟨(some 9), .bin .eql (.tmp 7) (.const (.int .i64 1)), none⟩,
    ⟨(some 8), .mov (.tmp 9), none⟩] [0, 1, 5, 7, 8])
  (.cond (.tmp 8) (.seq (.draw body_reader_field.d0 body_reader_field.d0b [[0, 1, 2, 3, 4, 5, 6, 7, 8, 9, 12, 13, 10, 11, 14, 15]] [(10, 2)] [0, 1, 5])
  (.draw body_reader_field.d1 body_reader_field.d1b [[0, 1, 2, 3, 4, 5, 6, 7, 8, 9, 10, 11]] [] [])) (.seq (.region [⟨(some 38), .bin .eql (.tmp 7) (.const (.int .i64 2)), none⟩,
    ⟨(some 37), .mov (.tmp 38), none⟩] [0, 1, 5, 7, 37])
  (.cond (.tmp 37) (.draw body_reader_field.d2 body_reader_field.d2b [[0, 1, 2, 3, 4, 5, 6, 7, 8, 9, 10, 12, 13, 11, 14, 15]] [(11, 2)] []) (.seq (.region [⟨(some 55), .bin .eql (.tmp 7) (.const (.int .i64 3)), none⟩,
    ⟨(some 54), .mov (.tmp 55), none⟩] [0, 1, 5, 7, 54])
  (.cond (.tmp 54) (.region [⟨(some 56), .mov (.tmp 1), none⟩,
    ⟨(some 57), .mov (.tmp 0), none⟩,
    ⟨(some 58), .call (.const (.fn F.body_reader_points [] [])) [(.tmp 57)], none⟩,
    ⟨(some 59), .nilc (.tmp 56), none⟩,
    ⟨(some 60), .field 7 (.tmp 59), none⟩,
    ⟨none, .store 1 (.tmp 60) (.tmp 58), none⟩] []) (.seq (.region [⟨(some 62), .bin .eql (.tmp 7) (.const (.int .i64 4)), none⟩,
    ⟨(some 61), .mov (.tmp 62), none⟩] [0, 1, 5, 7, 61])
  (.cond (.tmp 61) (.region [⟨(some 63), .mov (.tmp 1), none⟩,
    ⟨(some 64), .mov (.tmp 0), none⟩,
    ⟨(some 65), .call (.const (.fn F.body_reader_cells [] [])) [(.tmp 64)], none⟩,
    ⟨(some 66), .nilc (.tmp 63), none⟩,
    ⟨(some 67), .field 8 (.tmp 66), none⟩,
    ⟨none, .store 1 (.tmp 67) (.tmp 65), none⟩] []) (.seq (.region [⟨(some 69), .bin .eql (.tmp 7) (.const (.int .i64 5)), none⟩,
    ⟨(some 68), .mov (.tmp 69), none⟩] [0, 1, 5, 7, 68])
  (.cond (.tmp 68) (.region [⟨(some 70), .mov (.tmp 1), none⟩,
    ⟨(some 71), .mov (.tmp 0), none⟩,
    ⟨(some 72), .field 4 (.tmp 5), none⟩,
    ⟨(some 73), .load none (.tmp 72), none⟩,
    ⟨(some 74), .call (.const (.fn F.body_reader_text [] [])) [(.tmp 71), (.tmp 73)], none⟩,
    ⟨(some 75), .nilc (.tmp 70), none⟩,
    ⟨(some 76), .field 9 (.tmp 75), none⟩,
    ⟨none, .store 1 (.tmp 76) (.tmp 74), none⟩] []) (.seq (.region [⟨(some 78), .bin .eql (.tmp 7) (.const (.int .i64 6)), none⟩,
    ⟨(some 77), .mov (.tmp 78), none⟩] [0, 1, 5, 77])
  (.cond (.tmp 77) (.region [⟨(some 79), .mov (.tmp 1), none⟩,
    ⟨(some 80), .mov (.tmp 0), none⟩,
    ⟨(some 81), .field 4 (.tmp 5), none⟩,
    ⟨(some 82), .load none (.tmp 81), none⟩,
    ⟨(some 83), .call (.const (.fn F.body_reader_text [] [])) [(.tmp 80), (.tmp 82)], none⟩,
    ⟨(some 84), .nilc (.tmp 79), none⟩,
    ⟨(some 85), .field 10 (.tmp 84), none⟩,
    ⟨none, .store 1 (.tmp 85) (.tmp 83), none⟩] []) (.skip)))))))))))))))
def body_reader_field : AFun := ⟨86, 3, [], body_reader_field.body⟩
def body_reader_err.body : ACode := .seq (.region [⟨(some 2), .mov (.const (.int .i64 0)), none⟩] [0])
  (.seq (.seq (.region [⟨(some 3), .mov (.tmp 0), none⟩,
    ⟨(some 4), .nilc (.tmp 3), none⟩,
    ⟨(some 5), .field 1 (.tmp 4), none⟩,
    ⟨(some 6), .load none (.tmp 5), none⟩,
    ⟨(some 7), .bin .neq (.tmp 6) (.const (.int .i64 0)), none⟩] [0, 7])
  (.cond (.tmp 7) (.seq (.region [⟨(some 8), .mov (.tmp 0), none⟩,
    ⟨(some 9), .nilc (.tmp 8), none⟩,
    ⟨(some 10), .field 1 (.tmp 9), none⟩,
    ⟨(some 11), .load none (.tmp 10), none⟩,
    ⟨(some 2), .mov (.tmp 11), none⟩] [2])
  (.ret)) (.skip)))
  (.seq (.region [⟨(some 12), .mov (.tmp 0), none⟩,
    ⟨(some 13), .nilc (.tmp 12), none⟩,
    ⟨(some 14), .field 0 (.tmp 13), none⟩,
    ⟨(some 15), .load none (.tmp 14), none⟩,
    ⟨(some 16), .call (.const (.fn F.lens_Lens_Err [] [])) [(.tmp 15)], none⟩,
    ⟨(some 2), .mov (.tmp 16), none⟩] [2])
  (.ret)))
def body_reader_err : AFun := ⟨17, 1, [.tmp 2], body_reader_err.body⟩
def lens_Lens_End.body : ACode := .seq (.region [⟨(some 2), .mov (.const (.int .i64 0)), none⟩] [0])
  (.seq (.seq (.region [⟨(some 4), .mov (.tmp 0), none⟩,
    ⟨(some 5), .call (.const (.fn F.lens_Lens_Err [] [])) [(.tmp 4)], none⟩,
    ⟨(some 3), .mov (.tmp 5), none⟩] [0, 3])
  (.seq (.region [⟨(some 6), .mov (.tmp 3), none⟩,
    ⟨(some 7), .bin .neq (.tmp 6) (.const (.int .i64 0)), none⟩,
    ⟨(some 8), .mov (.tmp 7), none⟩,
    ⟨(some 9), .mov (.tmp 0), some (8, false)⟩,
    ⟨(some 10), .call (.const (.fn F.lens_Lens_Left [] [])) [(.tmp 9)], some (8, false)⟩,
    ⟨(some 11), .bin .eql (.tmp 10) (.const (.int .i64 0)), some (8, false)⟩,
    ⟨(some 12), .pick (.tmp 8) (.const (.bool true)) (.tmp 11), none⟩] [3, 12])
  (.cond (.tmp 12) (.seq (.region [⟨(some 13), .mov (.tmp 3), none⟩,
    ⟨(some 2), .mov (.tmp 13), none⟩] [2])
  (.ret)) (.skip))))
  (.seq (.region [⟨(some 2), .mov (.const (.int .i64 3)), none⟩] [2])
  (.ret)))
def lens_Lens_End : AFun := ⟨14, 1, [.tmp 2], lens_Lens_End.body⟩
def body_check.body : ACode := .seq (.region [⟨(some 2), .box T.msg_Msg (.tmp 0), none⟩,
    ⟨(some 4), .mov (.const (.int .i64 0)), none⟩] [1, 2])
  (.seq (.seq (.region [⟨(some 5), .mov (.tmp 1), none⟩,
    ⟨(some 6), .bin .neq (.tmp 5) (.const (.int .i64 1)), none⟩,
    ⟨(some 7), .mov (.tmp 6), none⟩,
    ⟨(some 8), .mov (.tmp 1), some (7, true)⟩,
    ⟨(some 9), .bin .neq (.tmp 8) (.const (.int .i64 2)), some (7, true)⟩,
    ⟨(some 10), .pick (.tmp 7) (.tmp 9) (.const (.bool false)), none⟩] [2, 10])
  (.cond (.tmp 10) (.seq (.region [⟨(some 4), .mov (.const (.int .i64 10)), none⟩] [4])
  (.ret)) (.skip)))
  (.seq (.region [⟨(some 11), .load (some 11) (.tmp 2), none⟩,
    ⟨(some 12), .call (.const (.fn F.msg_Check [] [])) [(.tmp 11)], none⟩,
    ⟨(some 4), .mov (.tmp 12), none⟩] [4])
  (.ret)))
def body_check : AFun := ⟨13, 2, [.tmp 4], body_check.body⟩
def body_Parts.body : ACode := .seq (.region [⟨(some 2), .box T.msg_Msg (.tmp 0), none⟩,
    ⟨(some 3), .box T.int (.tmp 1), none⟩,
    ⟨(some 4), .mov (.const .nilf), none⟩] [2, 3])
  (.seq (.region [⟨(some 5), .mkfn F.body_Parts_1 [] [(.tmp 2), (.tmp 3)], none⟩,
    ⟨(some 4), .mov (.tmp 5), none⟩] [4])
  (.ret))
def body_Parts : AFun := ⟨6, 2, [.tmp 4], body_Parts.body⟩
def msg_Copy.d0 : List AOper := [⟨(some 3), .field 7 (.tmp 1), none⟩,
    ⟨(some 4), .load none (.tmp 3), none⟩,
    ⟨(some 5), .call (.const (.fn F.slices_Clone_msg_Point_msg_Point [] [])) [(.tmp 4)], none⟩,
    ⟨(some 6), .field 8 (.tmp 1), none⟩,
    ⟨(some 7), .load none (.tmp 6), none⟩,
    ⟨(some 8), .call (.const (.fn F.slices_Clone_int_int [] [])) [(.tmp 7)], none⟩,
    ⟨(some 9), .field 7 (.tmp 1), none⟩,
    ⟨none, .store 1 (.tmp 9) (.tmp 5), none⟩,
    ⟨(some 10), .field 8 (.tmp 1), none⟩,
    ⟨none, .store 1 (.tmp 10) (.tmp 8), none⟩]
def msg_Copy.d0b : List (List Nat) := [[], [0], [0, 1], [], [3], [0, 1, 2, 3, 4], [0, 1, 2, 3, 4], [0, 1, 2, 3, 4, 5, 6], [0, 1, 2, 3, 4, 5, 6, 7], [0, 1, 2, 3, 4, 5, 6, 7, 8]]
def msg_Copy.body : ACode := .seq (.region [⟨(some 1), .box T.msg_Msg (.tmp 0), none⟩,
    ⟨(some 2), .alloc T.msg_Msg [(.int .i64 0), (.int .i64 0), (.int .i64 0), (.int .i64 0), (.int .i64 0), (.int .i64 0), (.int .i64 0), .nils, .nils, (.str ⟨#[]⟩), (.str ⟨#[]⟩)], none⟩] [1, 2])
  (.seq (.draw msg_Copy.d0 msg_Copy.d0b [[0, 1, 3, 4, 2, 6, 5, 7, 8, 9]] [(2, 4)] [1, 2])
  (.seq (.region [⟨(some 11), .load (some 11) (.tmp 1), none⟩,
    ⟨none, .store 11 (.tmp 2) (.tmp 11), none⟩] [2])
  (.ret)))
def msg_Copy : AFun := ⟨12, 1, [.cell 2 (some 11)], msg_Copy.body⟩
def msg_without.body : ACode := .seq (.region [⟨(some 2), .box T.msg_Msg (.tmp 0), none⟩,
    ⟨(some 3), .box T.field_Field (.tmp 1), none⟩,
    ⟨(some 4), .alloc T.msg_Msg [(.int .i64 0), (.int .i64 0), (.int .i64 0), (.int .i64 0), (.int .i64 0), (.int .i64 0), (.int .i64 0), .nils, .nils, (.str ⟨#[]⟩), (.str ⟨#[]⟩)], none⟩] [2, 3, 4])
  (.seq (.seq (.region [⟨(some 5), .field 1 (.tmp 3), none⟩,
    ⟨(some 6), .load none (.tmp 5), none⟩] [2, 3, 4, 6])
  (.block 0 (.seq (.region [⟨(some 12), .bin .eql (.tmp 6) (.const (.int .i64 3)), none⟩,
    ⟨(some 11), .mov (.tmp 12), none⟩] [2, 3, 4, 6, 11])
  (.cond (.tmp 11) (.region [⟨(some 13), .field 7 (.tmp 2), none⟩,
    ⟨none, .store 1 (.tmp 13) (.const .nils), none⟩] [2, 4]) (.seq (.region [⟨(some 15), .bin .eql (.tmp 6) (.const (.int .i64 4)), none⟩,
    ⟨(some 14), .mov (.tmp 15), none⟩] [2, 3, 4, 6, 14])
  (.cond (.tmp 14) (.region [⟨(some 16), .field 8 (.tmp 2), none⟩,
    ⟨none, .store 1 (.tmp 16) (.const .nils), none⟩] [2, 4]) (.seq (.region [⟨(some 18), .bin .eql (.tmp 6) (.const (.int .i64 5)), none⟩,
    ⟨(some 17), .mov (.tmp 18), none⟩] [2, 3, 4, 6, 17])
  (.cond (.tmp 17) (.region [⟨(some 19), .field 9 (.tmp 2), none⟩,
    ⟨none, .store 1 (.tmp 19) (.const (.str ⟨#[]⟩)), none⟩] [2, 4]) (.seq (.region [⟨(some 21), .bin .eql (.tmp 6) (.const (.int .i64 6)), none⟩,
    ⟨(some 20), .mov (.tmp 21), none⟩] [2, 3, 4, 20])
  (.cond (.tmp 20) (.region [⟨(some 22), .field 10 (.tmp 2), none⟩,
    ⟨none, .store 1 (.tmp 22) (.const (.str ⟨#[]⟩)), none⟩] [2, 4]) (.region [⟨(some 7), .field 2 (.tmp 3), none⟩,
    ⟨(some 8), .load none (.tmp 7), none⟩,
    ⟨(some 9), .field 1 (.tmp 2), none⟩,
    ⟨(some 10), .idx 1 (some 6) (.tmp 9) (.tmp 8), none⟩,
    ⟨none, .store 1 (.tmp 10) (.const (.int .i64 0)), none⟩] [2, 4])))))))))))
  (.seq (.region [⟨(some 23), .load (some 11) (.tmp 2), none⟩,
    ⟨none, .store 11 (.tmp 4) (.tmp 23), none⟩] [4])
  (.ret)))
def msg_without : AFun := ⟨24, 2, [.cell 4 (some 11)], msg_without.body⟩
def msg_wrong.body : ACode := .seq (.region [⟨(some 2), .box T.msg_Msg (.tmp 0), none⟩,
    ⟨(some 3), .box T.field_Field (.tmp 1), none⟩,
    ⟨(some 4), .mov (.const (.int .i64 0)), none⟩] [2, 3])
  (.seq (.seq (.region [⟨(some 6), .field 1 (.tmp 3), none⟩,
    ⟨(some 7), .load none (.tmp 6), none⟩] [2, 3, 7])
  (.block 0 (.seq (.region [⟨(some 9), .bin .eql (.tmp 7) (.const (.int .i64 3)), none⟩,
    ⟨(some 8), .mov (.tmp 9), none⟩] [2, 3, 7, 8])
  (.cond (.tmp 8) (.seq (.region [⟨(some 10), .field 7 (.tmp 2), none⟩,
    ⟨(some 11), .load none (.tmp 10), none⟩,
    ⟨(some 12), .load (some 7) (.tmp 3), none⟩,
    ⟨(some 13), .call (.const (.fn F.msg_path [] [])) [(.tmp 11), (.tmp 12)], none⟩,
    ⟨(some 4), .mov (.tmp 13), none⟩] [4])
  (.ret)) (.seq (.region [⟨(some 15), .bin .eql (.tmp 7) (.const (.int .i64 4)), none⟩,
    ⟨(some 14), .mov (.tmp 15), none⟩] [2, 3, 7, 14])
  (.cond (.tmp 14) (.seq (.region [⟨(some 16), .field 8 (.tmp 2), none⟩,
    ⟨(some 17), .load none (.tmp 16), none⟩,
    ⟨(some 18), .load (some 7) (.tmp 3), none⟩,
    ⟨(some 19), .call (.const (.fn F.msg_cells [] [])) [(.tmp 17), (.tmp 18)], none⟩,
    ⟨(some 4), .mov (.tmp 19), none⟩] [4])
  (.ret)) (.seq (.region [⟨(some 21), .bin .eql (.tmp 7) (.const (.int .i64 5)), none⟩,
    ⟨(some 20), .mov (.tmp 21), none⟩] [2, 3, 7, 20])
  (.cond (.tmp 20) (.seq (.region [⟨(some 22), .field 9 (.tmp 2), none⟩,
    ⟨(some 23), .load none (.tmp 22), none⟩,
    ⟨(some 24), .load (some 7) (.tmp 3), none⟩,
    ⟨(some 25), .call (.const (.fn F.msg_text [] [])) [(.tmp 23), (.tmp 24)], none⟩,
    ⟨(some 4), .mov (.tmp 25), none⟩] [4])
  (.ret)) (.seq (.region [⟨(some 27), .bin .eql (.tmp 7) (.const (.int .i64 6)), none⟩,
    ⟨(some 26), .mov (.tmp 27), none⟩] [2, 3, 26])
  (.cond (.tmp 26) (.seq (.region [⟨(some 28), .field 10 (.tmp 2), none⟩,
    ⟨(some 29), .load none (.tmp 28), none⟩,
    ⟨(some 30), .load (some 7) (.tmp 3), none⟩,
    ⟨(some 31), .call (.const (.fn F.msg_text [] [])) [(.tmp 29), (.tmp 30)], none⟩,
    ⟨(some 4), .mov (.tmp 31), none⟩] [4])
  (.ret)) (.skip)))))))))))
  (.seq (.seq (.region [⟨(some 32), .field 2 (.tmp 3), none⟩,
    ⟨(some 33), .load none (.tmp 32), none⟩,
    ⟨(some 34), .field 1 (.tmp 2), none⟩,
    ⟨(some 35), .idx 1 (some 6) (.tmp 34) (.tmp 33), none⟩,
    ⟨(some 36), .load none (.tmp 35), none⟩,
    ⟨(some 5), .mov (.tmp 36), none⟩] [3, 5])
  (.seq (.region [⟨(some 37), .mov (.tmp 5), none⟩,
    ⟨(some 38), .field 3 (.tmp 3), none⟩,
    ⟨(some 39), .load none (.tmp 38), none⟩,
    ⟨(some 40), .bin .lss (.tmp 37) (.tmp 39), none⟩,
    ⟨(some 41), .mov (.tmp 40), none⟩,
    ⟨(some 42), .mov (.tmp 5), some (41, false)⟩,
    ⟨(some 43), .field 4 (.tmp 3), some (41, false)⟩,
    ⟨(some 44), .load none (.tmp 43), some (41, false)⟩,
    ⟨(some 45), .bin .gtr (.tmp 42) (.tmp 44), some (41, false)⟩,
    ⟨(some 46), .pick (.tmp 41) (.const (.bool true)) (.tmp 45), none⟩] [46])
  (.cond (.tmp 46) (.seq (.region [⟨(some 4), .mov (.const (.int .i64 5)), none⟩] [4])
  (.ret)) (.skip))))
  (.seq (.region [⟨(some 4), .mov (.const (.int .i64 0)), none⟩] [4])
  (.ret))))
def msg_wrong : AFun := ⟨47, 2, [.tmp 4], msg_wrong.body⟩
def field_robot.body : ACode := .seq (.region [⟨(some 0), .alloc T.field_Field [(.str ⟨#[]⟩), (.int .i64 0), (.int .i64 0), (.int .i64 0), (.int .i64 0), (.int .i64 0), (.int .i64 0)], none⟩] [0])
  (.seq (.region [⟨(some 1), .build [(.str ⟨#[]⟩), (.int .i64 0), (.int .i64 0), (.int .i64 0), (.int .i64 0), (.int .i64 0), (.int .i64 0)] [(0, 1, (.const (.str ⟨#[114, 111, 98, 111, 116]⟩))), (1, 1, (.const (.int .i64 1))), (2, 1, (.const (.int .i64 0))), (3, 1, (.const (.int .i64 0))), (4, 1, (.const (.int .i64 65535))), (5, 1, (.const (.int .i64 1))), (6, 1, (.const (.int .i64 0)))], none⟩,
    ⟨none, .store 7 (.tmp 0) (.tmp 1), none⟩] [0])
  (.ret))
def field_robot : AFun := ⟨2, 0, [.cell 0 (some 7)], field_robot.body⟩
def field_All_1.b0 : ACode := .seq (.region [⟨(some 10), .bin .lss (.tmp 9) (.tmp 8), none⟩] [0, 2, 7, 8, 9, 10])
  (.seq (.cond (.tmp 10) (.skip) (.exit 0))
  (.seq (.block 1 (.seq (.region [⟨(some 11), .idx 7 none (.tmp 7) (.tmp 9), none⟩,
    ⟨(some 12), .load (some 7) (.tmp 11), none⟩,
    ⟨(some 5), .alloc T.field_Field [(.str ⟨#[]⟩), (.int .i64 0), (.int .i64 0), (.int .i64 0), (.int .i64 0), (.int .i64 0), (.int .i64 0)], none⟩,
    ⟨none, .store 7 (.tmp 5) (.tmp 12), none⟩] [0, 2, 5, 7, 8, 9])
  (.seq (.seq (.region [⟨(some 13), .field 5 (.tmp 5), none⟩,
    ⟨(some 14), .load none (.tmp 13), none⟩,
    ⟨(some 15), .load none (.tmp 2), none⟩,
    ⟨(some 16), .bin .gtr (.tmp 14) (.tmp 15), none⟩] [0, 2, 5, 7, 8, 9, 16])
  (.cond (.tmp 16) (.exit 1) (.skip)))
  (.seq (.region [⟨(some 17), .mov (.tmp 0), none⟩,
    ⟨(some 18), .load (some 7) (.tmp 5), none⟩,
    ⟨(some 19), .call (.tmp 17) [(.tmp 18)], none⟩,
    ⟨(some 20), .un .not (.tmp 19), none⟩] [0, 2, 7, 8, 9, 20])
  (.cond (.tmp 20) (.exit 0) (.skip))))))
  (.region [⟨(some 21), .bin .add (.tmp 9) (.const (.int .i64 1)), none⟩,
    ⟨(some 9), .mov (.tmp 21), none⟩] [0, 2, 7, 8, 9])))
def field_All_1.body : ACode := .scope (.seq (.skip)
  (.seq (.region [⟨(some 6), .load none (.tmp 1), none⟩,
    ⟨(some 7), .call (.const (.fn F.field_Of [] [])) [(.tmp 6)], none⟩,
    ⟨(some 8), .len .slice (.tmp 7), none⟩,
    ⟨(some 9), .mov (.const (.int .i64 0)), none⟩] [0, 2, 7, 8, 9])
  (.block 0 (.loop field_All_1.b0))))
def field_All_1 : AFun := ⟨22, 3, [], field_All_1.body⟩
def lens_Lens_Number.body : ACode := .seq (.region [⟨(some 3), .box T.uint64 (.tmp 1), none⟩,
    ⟨(some 4), .mov (.const (.int .u64 0)), none⟩] [0, 3])
  (.seq (.region [⟨(some 5), .alloc T.uint64 [(.int .u64 0)], none⟩,
    ⟨none, .store 1 (.tmp 5) (.const (.int .u64 0)), none⟩] [0, 3, 5])
  (.seq (.region [⟨(some 6), .mov (.tmp 0), none⟩,
    ⟨(some 7), .mkfn F.lens_Lens_Number_1 [] [(.tmp 3), (.tmp 5)], none⟩,
    ⟨(some 8), .call (.const (.fn F.lens_Lens_read [] [])) [(.tmp 6), (.tmp 7)], none⟩] [5])
  (.seq (.region [⟨(some 9), .load none (.tmp 5), none⟩,
    ⟨(some 4), .mov (.tmp 9), none⟩] [4])
  (.ret))))
def lens_Lens_Number : AFun := ⟨10, 2, [.tmp 4], lens_Lens_Number.body⟩
def body_reader_note.body : ACode := .seq (.region [⟨(some 6), .mov (.tmp 1), none⟩,
    ⟨(some 7), .mov (.tmp 6), none⟩,
    ⟨(some 8), .mov (.tmp 0), some (7, true)⟩,
    ⟨(some 9), .call (.const (.fn F.body_reader_err [] [])) [(.tmp 8)], some (7, true)⟩,
    ⟨(some 10), .bin .eql (.tmp 9) (.const (.int .i64 0)), some (7, true)⟩,
    ⟨(some 11), .pick (.tmp 7) (.tmp 10) (.const (.bool false)), none⟩] [0, 2, 11])
  (.cond (.tmp 11) (.region [⟨(some 12), .mov (.tmp 0), none⟩,
    ⟨(some 13), .mov (.tmp 2), none⟩,
    ⟨(some 14), .nilc (.tmp 12), none⟩,
    ⟨(some 15), .field 1 (.tmp 14), none⟩,
    ⟨none, .store 1 (.tmp 15) (.tmp 13), none⟩] []) (.skip))
def body_reader_note : AFun := ⟨16, 3, [], body_reader_note.body⟩
def lens_Lens_Signed.body : ACode := .seq (.region [⟨(some 4), .box T.int64 (.tmp 1), none⟩,
    ⟨(some 5), .box T.int64 (.tmp 2), none⟩,
    ⟨(some 6), .mov (.const (.int .i64 0)), none⟩] [0, 4, 5])
  (.seq (.region [⟨(some 7), .alloc T.int64 [(.int .i64 0)], none⟩,
    ⟨none, .store 1 (.tmp 7) (.const (.int .i64 0)), none⟩] [0, 4, 5, 7])
  (.seq (.region [⟨(some 8), .mov (.tmp 0), none⟩,
    ⟨(some 9), .mkfn F.lens_Lens_Signed_1 [] [(.tmp 4), (.tmp 5), (.tmp 7)], none⟩,
    ⟨(some 10), .call (.const (.fn F.lens_Lens_read [] [])) [(.tmp 8), (.tmp 9)], none⟩] [7])
  (.seq (.region [⟨(some 11), .load none (.tmp 7), none⟩,
    ⟨(some 6), .mov (.tmp 11), none⟩] [6])
  (.ret))))
def lens_Lens_Signed : AFun := ⟨12, 3, [.tmp 6], lens_Lens_Signed.body⟩
def body_reader_points.b0 : ACode := .seq (.region [⟨(some 10), .bin .lss (.tmp 9) (.tmp 8), none⟩] [1, 3, 4, 5, 8, 9, 10])
  (.seq (.cond (.tmp 10) (.skip) (.exit 0))
  (.seq (.block 1 (.seq (.region [⟨(some 11), .mov (.tmp 4), none⟩,
    ⟨(some 12), .field 0 (.tmp 5), none⟩,
    ⟨(some 13), .load none (.tmp 12), none⟩,
    ⟨(some 14), .call (.tmp 11) [(.tmp 13)], none⟩,
    ⟨(some 15), .field 0 (.tmp 5), none⟩,
    ⟨none, .store 1 (.tmp 15) (.tmp 14), none⟩] [1, 3, 4, 5, 8, 9])
  (.seq (.region [⟨(some 16), .mov (.tmp 4), none⟩,
    ⟨(some 17), .field 1 (.tmp 5), none⟩,
    ⟨(some 18), .load none (.tmp 17), none⟩,
    ⟨(some 19), .call (.tmp 16) [(.tmp 18)], none⟩,
    ⟨(some 20), .field 1 (.tmp 5), none⟩,
    ⟨none, .store 1 (.tmp 20) (.tmp 19), none⟩] [1, 3, 4, 5, 8, 9])
  (.seq (.seq (.region [⟨(some 21), .load none (.tmp 1), none⟩,
    ⟨(some 22), .call (.const (.fn F.body_reader_err [] [])) [(.tmp 21)], none⟩,
    ⟨(some 23), .bin .neq (.tmp 22) (.const (.int .i64 0)), none⟩] [1, 3, 4, 5, 8, 9, 23])
  (.cond (.tmp 23) (.exit 0) (.skip)))
  (.region [⟨(some 24), .mov (.tmp 3), none⟩,
    ⟨(some 25), .load (some 2) (.tmp 5), none⟩,
    ⟨(some 26), .lit T.msg_Point 2 1 [(.int .i64 0), (.int .i64 0)] [(0, 2, (.tmp 25))], none⟩,
    ⟨(some 27), .append T.msg_Point 2 16 (.tmp 24) (.tmp 26), none⟩,
    ⟨(some 3), .mov (.tmp 27), none⟩] [1, 3, 4, 5, 8, 9])))))
  (.region [⟨(some 28), .bin .add (.tmp 9) (.const (.int .i64 1)), none⟩,
    ⟨(some 9), .mov (.tmp 28), none⟩] [1, 3, 4, 5, 8, 9])))
def body_reader_points.body : ACode := .seq (.region [⟨(some 1), .box T.p_body_reader (.tmp 0), none⟩,
    ⟨(some 2), .mov (.const .nils), none⟩] [1])
  (.scope (.seq (.region [⟨(some 3), .mov (.const .nils), none⟩] [1, 3])
  (.seq (.region [⟨(some 6), .mkfn F.body_reader_points_1 [] [(.tmp 1)], none⟩,
    ⟨(some 4), .mov (.tmp 6), none⟩] [1, 3, 4])
  (.seq (.region [⟨(some 5), .alloc T.msg_Point [(.int .i64 0), (.int .i64 0)], none⟩] [1, 3, 4, 5])
  (.seq (.skip)
  (.seq (.seq (.region [⟨(some 7), .load none (.tmp 1), none⟩,
    ⟨(some 8), .call (.const (.fn F.body_reader_count [] [])) [(.tmp 7), (.const (.int .i64 16))], none⟩,
    ⟨(some 9), .mov (.const (.int .i64 0)), none⟩] [1, 3, 4, 5, 8, 9])
  (.block 0 (.loop body_reader_points.b0)))
  (.seq (.region [⟨(some 29), .mov (.tmp 3), none⟩,
    ⟨(some 2), .mov (.tmp 29), none⟩] [2])
  (.ret))))))))
def body_reader_points : AFun := ⟨30, 1, [.tmp 2], body_reader_points.body⟩
def body_reader_cells.b0 : ACode := .seq (.region [⟨(some 8), .bin .lss (.tmp 7) (.tmp 6), none⟩] [0, 3, 4, 6, 7, 8])
  (.seq (.cond (.tmp 8) (.skip) (.exit 0))
  (.seq (.block 1 (.seq (.region [⟨(some 9), .mov (.tmp 4), none⟩,
    ⟨(some 10), .mov (.tmp 0), none⟩,
    ⟨(some 11), .nilc (.tmp 10), none⟩,
    ⟨(some 12), .field 0 (.tmp 11), none⟩,
    ⟨(some 13), .load none (.tmp 12), none⟩,
    ⟨(some 14), .call (.const (.fn F.lens_Lens_Number [] [])) [(.tmp 13), (.const (.int .u64 65535))], none⟩,
    ⟨(some 15), .conv .i64 (.tmp 14), none⟩,
    ⟨(some 16), .bin .add (.tmp 15) (.const (.int .i64 1)), none⟩,
    ⟨(some 17), .bin .add (.tmp 9) (.tmp 16), none⟩,
    ⟨(some 4), .mov (.tmp 17), none⟩] [0, 3, 4, 6, 7])
  (.seq (.region [⟨(some 18), .mov (.tmp 0), none⟩,
    ⟨(some 19), .mov (.tmp 4), none⟩,
    ⟨(some 20), .bin .gtr (.tmp 19) (.const (.int .i64 65535)), none⟩,
    ⟨(some 21), .call (.const (.fn F.body_reader_note [] [])) [(.tmp 18), (.tmp 20), (.const (.int .i64 5))], none⟩] [0, 3, 4, 6, 7])
  (.seq (.seq (.region [⟨(some 22), .mov (.tmp 0), none⟩,
    ⟨(some 23), .call (.const (.fn F.body_reader_err [] [])) [(.tmp 22)], none⟩,
    ⟨(some 24), .bin .neq (.tmp 23) (.const (.int .i64 0)), none⟩] [0, 3, 4, 6, 7, 24])
  (.cond (.tmp 24) (.exit 0) (.skip)))
  (.region [⟨(some 25), .mov (.tmp 3), none⟩,
    ⟨(some 26), .mov (.tmp 4), none⟩,
    ⟨(some 27), .lit T.int 1 1 [(.int .i64 0)] [(0, 1, (.tmp 26))], none⟩,
    ⟨(some 28), .append T.int 1 8 (.tmp 25) (.tmp 27), none⟩,
    ⟨(some 3), .mov (.tmp 28), none⟩] [0, 3, 4, 6, 7])))))
  (.region [⟨(some 29), .bin .add (.tmp 7) (.const (.int .i64 1)), none⟩,
    ⟨(some 7), .mov (.tmp 29), none⟩] [0, 3, 4, 6, 7])))
def body_reader_cells.body : ACode := .seq (.region [⟨(some 2), .mov (.const .nils), none⟩] [0])
  (.scope (.seq (.region [⟨(some 3), .mov (.const .nils), none⟩] [0, 3])
  (.seq (.region [⟨(some 4), .mov (.const (.int .i64 (-1))), none⟩] [0, 3, 4])
  (.seq (.skip)
  (.seq (.seq (.region [⟨(some 5), .mov (.tmp 0), none⟩,
    ⟨(some 6), .call (.const (.fn F.body_reader_count [] [])) [(.tmp 5), (.const (.int .i64 32))], none⟩,
    ⟨(some 7), .mov (.const (.int .i64 0)), none⟩] [0, 3, 4, 6, 7])
  (.block 0 (.loop body_reader_cells.b0)))
  (.seq (.region [⟨(some 30), .mov (.tmp 3), none⟩,
    ⟨(some 2), .mov (.tmp 30), none⟩] [2])
  (.ret)))))))
def body_reader_cells : AFun := ⟨31, 1, [.tmp 2], body_reader_cells.body⟩
def body_reader_text.b0 : ACode := .seq (.region [⟨(some 17), .bin .lss (.tmp 16) (.tmp 15), none⟩] [0, 5, 14, 15, 16, 17])
  (.seq (.cond (.tmp 17) (.skip) (.exit 0))
  (.seq (.block 1 (.seq (.region [⟨(some 18), .idx 1 none (.tmp 14) (.tmp 16), none⟩,
    ⟨(some 19), .load none (.tmp 18), none⟩,
    ⟨(some 7), .mov (.tmp 19), none⟩] [0, 5, 7, 14, 15, 16])
  (.region [⟨(some 20), .mov (.tmp 0), none⟩,
    ⟨(some 21), .mov (.tmp 7), none⟩,
    ⟨(some 22), .bin .lss (.tmp 21) (.const (.int .u8 32)), none⟩,
    ⟨(some 23), .mov (.tmp 22), none⟩,
    ⟨(some 24), .mov (.tmp 7), some (23, false)⟩,
    ⟨(some 25), .bin .gtr (.tmp 24) (.const (.int .u8 126)), some (23, false)⟩,
    ⟨(some 26), .pick (.tmp 23) (.const (.bool true)) (.tmp 25), none⟩,
    ⟨(some 27), .call (.const (.fn F.body_reader_note [] [])) [(.tmp 20), (.tmp 26), (.const (.int .i64 19))], none⟩] [0, 5, 14, 15, 16])))
  (.region [⟨(some 28), .bin .add (.tmp 16) (.const (.int .i64 1)), none⟩,
    ⟨(some 16), .mov (.tmp 28), none⟩] [0, 5, 14, 15, 16])))
def body_reader_text.body : ACode := .seq (.region [⟨(some 4), .mov (.const (.str ⟨#[]⟩)), none⟩] [0, 1])
  (.seq (.region [⟨(some 8), .mov (.tmp 0), none⟩,
    ⟨(some 9), .nilc (.tmp 8), none⟩,
    ⟨(some 10), .field 0 (.tmp 9), none⟩,
    ⟨(some 11), .load none (.tmp 10), none⟩,
    ⟨(some 12), .mov (.tmp 1), none⟩,
    ⟨(some 13), .call (.const (.fn F.lens_Lens_Field [] [])) [(.tmp 11), (.tmp 12)], none⟩,
    ⟨(some 5), .mov (.tmp 13), none⟩] [0, 5])
  (.seq (.seq (.region [⟨(some 14), .mov (.tmp 5), none⟩,
    ⟨(some 15), .len .slice (.tmp 14), none⟩,
    ⟨(some 16), .mov (.const (.int .i64 0)), none⟩] [0, 5, 14, 15, 16])
  (.block 0 (.loop body_reader_text.b0)))
  (.seq (.region [⟨(some 29), .mov (.tmp 5), none⟩,
    ⟨(some 30), .b2s (.tmp 29), none⟩,
    ⟨(some 4), .mov (.tmp 30), none⟩] [4])
  (.ret))))
def body_reader_text : AFun := ⟨31, 2, [.tmp 4], body_reader_text.body⟩
def lens_Lens_Err.body : ACode := .seq (.region [⟨(some 2), .mov (.const (.int .i64 0)), none⟩] [0])
  (.seq (.seq (.region [⟨(some 3), .mov (.tmp 0), none⟩,
    ⟨(some 4), .eq false .ptr (.tmp 3) (.const .nilp), none⟩] [0, 4])
  (.cond (.tmp 4) (.seq (.region [⟨(some 2), .mov (.const (.int .i64 1)), none⟩] [2])
  (.ret)) (.skip)))
  (.seq (.region [⟨(some 5), .mov (.tmp 0), none⟩,
    ⟨(some 6), .nilc (.tmp 5), none⟩,
    ⟨(some 7), .field 2 (.tmp 6), none⟩,
    ⟨(some 8), .load none (.tmp 7), none⟩,
    ⟨(some 2), .mov (.tmp 8), none⟩] [2])
  (.ret)))
def lens_Lens_Err : AFun := ⟨9, 1, [.tmp 2], lens_Lens_Err.body⟩
def lens_Lens_Left.body : ACode := .seq (.region [⟨(some 2), .mov (.const (.int .i64 0)), none⟩] [0])
  (.seq (.seq (.region [⟨(some 3), .mov (.tmp 0), none⟩,
    ⟨(some 4), .eq false .ptr (.tmp 3) (.const .nilp), none⟩] [0, 4])
  (.cond (.tmp 4) (.seq (.region [⟨(some 2), .mov (.const (.int .i64 0)), none⟩] [2])
  (.ret)) (.skip)))
  (.seq (.region [⟨(some 5), .mov (.tmp 0), none⟩,
    ⟨(some 6), .call (.const (.fn F.lens_Lens_left [] [])) [(.tmp 5)], none⟩,
    ⟨(some 7), .len .slice (.tmp 6), none⟩,
    ⟨(some 2), .mov (.tmp 7), none⟩] [2])
  (.ret)))
def lens_Lens_Left : AFun := ⟨8, 1, [.tmp 2], lens_Lens_Left.body⟩
def body_Parts_1.d0 : List AOper := [⟨(some 14), .load none (.tmp 3), none⟩,
    ⟨(some 15), .field 0 (.tmp 4), none⟩,
    ⟨(some 16), .load none (.tmp 15), none⟩,
    ⟨(some 17), .load (some 11) (.tmp 1), none⟩,
    ⟨(some 18), .load (some 7) (.tmp 4), none⟩,
    ⟨(some 19), .call (.const (.fn F.body_part [] [])) [(.tmp 17), (.tmp 18)], none⟩,
    ⟨(some 20), .call (.tmp 14) [(.tmp 16), (.tmp 19)], none⟩,
    ⟨(some 21), .un .not (.tmp 20), none⟩]
def body_Parts_1.d0b : List (List Nat) := [[], [], [1], [], [], [3, 4], [0, 1, 2, 3, 4, 5], [0, 1, 2, 3, 4, 5, 6]]
def body_Parts_1.a1 : ACode := .region [⟨(some 4), .alloc T.field_Field [(.str ⟨#[]⟩), (.int .i64 0), (.int .i64 0), (.int .i64 0), (.int .i64 0), (.int .i64 0), (.int .i64 0)], none⟩,
    ⟨none, .store 7 (.tmp 4) (.tmp 13), none⟩] [1, 3, 4]
def body_Parts_1.b1 : ACode := .block 1 (.seq (.draw body_Parts_1.d0 body_Parts_1.d0b [[0, 1, 2, 3, 4, 5, 6, 7]] [(5, 0), (5, 2)] [21])
  (.cond (.tmp 21) (.exit 0) (.skip)))
def body_Parts_1.body : ACode := .seq (.region [⟨(some 3), .box T.func_string_sl_uint8_bool (.tmp 0), none⟩] [1, 2, 3])
  (.scope (.seq (.seq (.region [⟨(some 5), .load (some 11) (.tmp 1), none⟩,
    ⟨(some 6), .load none (.tmp 2), none⟩,
    ⟨(some 7), .call (.const (.fn F.body_check [] [])) [(.tmp 5), (.tmp 6)], none⟩,
    ⟨(some 8), .bin .neq (.tmp 7) (.const (.int .i64 0)), none⟩] [1, 2, 3, 8])
  (.cond (.tmp 8) (.ret) (.skip)))
  (.seq (.skip)
  (.seq (.region [⟨(some 9), .field 0 (.tmp 1), none⟩,
    ⟨(some 10), .load none (.tmp 9), none⟩,
    ⟨(some 11), .load none (.tmp 2), none⟩,
    ⟨(some 12), .call (.const (.fn F.field_All [] [])) [(.tmp 10), (.tmp 11)], none⟩] [1, 3, 12])
  (.block 0 (.range (.tmp 12) [13] body_Parts_1.a1 body_Parts_1.b1))))))
def body_Parts_1 : AFun := ⟨22, 3, [], body_Parts_1.body⟩
def body_part.body : ACode := .seq (.region [⟨(some 2), .box T.msg_Msg (.tmp 0), none⟩,
    ⟨(some 3), .box T.field_Field (.tmp 1), none⟩,
    ⟨(some 4), .mov (.const .nils), none⟩] [2, 3])
  (.seq (.region [⟨(some 6), .call (.const (.fn F.pen_New [] [])) [(.const (.int .i64 192))], none⟩,
    ⟨(some 5), .mov (.tmp 6), none⟩] [2, 3, 5])
  (.seq (.seq (.region [⟨(some 7), .field 1 (.tmp 3), none⟩,
    ⟨(some 8), .load none (.tmp 7), none⟩] [2, 3, 5, 8])
  (.block 0 (.seq (.region [⟨(some 10), .bin .eql (.tmp 8) (.const (.int .i64 1)), none⟩,
    ⟨(some 9), .mov (.tmp 10), none⟩] [2, 3, 5, 8, 9])
  (.cond (.tmp 9) (.region [⟨(some 11), .mov (.tmp 5), none⟩,
    ⟨(some 12), .field 2 (.tmp 3), none⟩,
    ⟨(some 13), .load none (.tmp 12), none⟩,
    ⟨(some 14), .field 1 (.tmp 2), none⟩,
    ⟨(some 15), .idx 1 (some 6) (.tmp 14) (.tmp 13), none⟩,
    ⟨(some 16), .load none (.tmp 15), none⟩,
    ⟨(some 17), .conv .u64 (.tmp 16), none⟩,
    ⟨(some 18), .lit T.uint64 1 1 [(.int .u64 0)] [(0, 1, (.tmp 17))], none⟩,
    ⟨(some 19), .call (.const (.fn F.pen_Pen_Number [] [])) [(.tmp 11), (.tmp 18)], none⟩] [5]) (.seq (.region [⟨(some 21), .bin .eql (.tmp 8) (.const (.int .i64 2)), none⟩,
    ⟨(some 20), .mov (.tmp 21), none⟩] [2, 3, 5, 8, 20])
  (.cond (.tmp 20) (.region [⟨(some 22), .mov (.tmp 5), none⟩,
    ⟨(some 23), .field 2 (.tmp 3), none⟩,
    ⟨(some 24), .load none (.tmp 23), none⟩,
    ⟨(some 25), .field 1 (.tmp 2), none⟩,
    ⟨(some 26), .idx 1 (some 6) (.tmp 25) (.tmp 24), none⟩,
    ⟨(some 27), .load none (.tmp 26), none⟩,
    ⟨(some 28), .lit T.int64 1 1 [(.int .i64 0)] [(0, 1, (.tmp 27))], none⟩,
    ⟨(some 29), .call (.const (.fn F.pen_Pen_Signed [] [])) [(.tmp 22), (.tmp 28)], none⟩] [5]) (.seq (.region [⟨(some 31), .bin .eql (.tmp 8) (.const (.int .i64 3)), none⟩,
    ⟨(some 30), .mov (.tmp 31), none⟩] [2, 5, 8, 30])
  (.cond (.tmp 30) (.region [⟨(some 32), .mov (.tmp 5), none⟩,
    ⟨(some 33), .field 7 (.tmp 2), none⟩,
    ⟨(some 34), .load none (.tmp 33), none⟩,
    ⟨(some 35), .call (.const (.fn F.body_points [] [])) [(.tmp 32), (.tmp 34)], none⟩] [5]) (.seq (.region [⟨(some 37), .bin .eql (.tmp 8) (.const (.int .i64 4)), none⟩,
    ⟨(some 36), .mov (.tmp 37), none⟩] [2, 5, 8, 36])
  (.cond (.tmp 36) (.region [⟨(some 38), .mov (.tmp 5), none⟩,
    ⟨(some 39), .field 8 (.tmp 2), none⟩,
    ⟨(some 40), .load none (.tmp 39), none⟩,
    ⟨(some 41), .call (.const (.fn F.body_cells [] [])) [(.tmp 38), (.tmp 40)], none⟩] [5]) (.seq (.region [⟨(some 43), .bin .eql (.tmp 8) (.const (.int .i64 5)), none⟩,
    ⟨(some 42), .mov (.tmp 43), none⟩] [2, 5, 8, 42])
  (.cond (.tmp 42) (.region [⟨(some 44), .mov (.tmp 5), none⟩,
    ⟨(some 45), .field 9 (.tmp 2), none⟩,
    ⟨(some 46), .load none (.tmp 45), none⟩,
    ⟨(some 47), .s2b (.tmp 46), none⟩,
    ⟨(some 48), .call (.const (.fn F.pen_Pen_Field [] [])) [(.tmp 44), (.tmp 47)], none⟩] [5]) (.seq (.region [⟨(some 50), .bin .eql (.tmp 8) (.const (.int .i64 6)), none⟩,
    ⟨(some 49), .mov (.tmp 50), none⟩] [2, 5, 49])
  (.cond (.tmp 49) (.region [⟨(some 51), .mov (.tmp 5), none⟩,
    ⟨(some 52), .field 10 (.tmp 2), none⟩,
    ⟨(some 53), .load none (.tmp 52), none⟩,
    ⟨(some 54), .s2b (.tmp 53), none⟩,
    ⟨(some 55), .call (.const (.fn F.pen_Pen_Field [] [])) [(.tmp 51), (.tmp 54)], none⟩] [5]) (.skip)))))))))))))))
  (.seq (.region [⟨(some 56), .mov (.tmp 5), none⟩,
    ⟨(some 57), .call (.const (.fn F.pen_Pen_Bytes [] [])) [(.tmp 56)], none⟩,
    ⟨(some 4), .mov (.tmp 57), none⟩] [4])
  (.ret))))
def body_part : AFun := ⟨58, 2, [.tmp 4], body_part.body⟩
def slices_Clone_msg_Point_msg_Point.body : ACode := .seq (.region [⟨(some 2), .mov (.const .nils), none⟩] [0])
  (.seq (.seq (.region [⟨(some 3), .mov (.tmp 0), none⟩,
    ⟨(some 4), .eq false .slice (.tmp 3) (.const .nils), none⟩] [0, 4])
  (.cond (.tmp 4) (.seq (.region [⟨(some 2), .mov (.const .nils), none⟩] [2])
  (.ret)) (.skip)))
  (.seq (.region [⟨(some 5), .lit T.msg_Point 2 0 [] [], none⟩,
    ⟨(some 6), .mov (.tmp 0), none⟩,
    ⟨(some 7), .append T.msg_Point 2 16 (.tmp 5) (.tmp 6), none⟩,
    ⟨(some 2), .mov (.tmp 7), none⟩] [2])
  (.ret)))
def slices_Clone_msg_Point_msg_Point : AFun := ⟨8, 1, [.tmp 2], slices_Clone_msg_Point_msg_Point.body⟩
def slices_Clone_int_int.body : ACode := .seq (.region [⟨(some 2), .mov (.const .nils), none⟩] [0])
  (.seq (.seq (.region [⟨(some 3), .mov (.tmp 0), none⟩,
    ⟨(some 4), .eq false .slice (.tmp 3) (.const .nils), none⟩] [0, 4])
  (.cond (.tmp 4) (.seq (.region [⟨(some 2), .mov (.const .nils), none⟩] [2])
  (.ret)) (.skip)))
  (.seq (.region [⟨(some 5), .lit T.int 1 0 [] [], none⟩,
    ⟨(some 6), .mov (.tmp 0), none⟩,
    ⟨(some 7), .append T.int 1 8 (.tmp 5) (.tmp 6), none⟩,
    ⟨(some 2), .mov (.tmp 7), none⟩] [2])
  (.ret)))
def slices_Clone_int_int : AFun := ⟨8, 1, [.tmp 2], slices_Clone_int_int.body⟩
def msg_path.b0 : ACode := .seq (.region [⟨(some 18), .bin .lss (.tmp 17) (.tmp 16), none⟩] [15, 16, 17, 18])
  (.seq (.cond (.tmp 18) (.skip) (.exit 0))
  (.seq (.block 1 (.seq (.region [⟨(some 19), .idx 2 none (.tmp 15) (.tmp 17), none⟩,
    ⟨(some 20), .load (some 2) (.tmp 19), none⟩,
    ⟨(some 7), .alloc T.msg_Point [(.int .i64 0), (.int .i64 0)], none⟩,
    ⟨none, .store 2 (.tmp 7) (.tmp 20), none⟩] [7, 15, 16, 17])
  (.seq (.region [⟨(some 21), .field 0 (.tmp 7), none⟩,
    ⟨(some 22), .load none (.tmp 21), none⟩,
    ⟨(some 23), .field 1 (.tmp 7), none⟩,
    ⟨(some 24), .load none (.tmp 23), none⟩,
    ⟨(some 25), .maxmin true (.tmp 22) (.tmp 24), none⟩,
    ⟨(some 26), .bin .gtr (.tmp 25) (.const (.int .i64 1000000)), none⟩,
    ⟨(some 27), .mov (.tmp 26), none⟩,
    ⟨(some 28), .field 0 (.tmp 7), some (27, false)⟩,
    ⟨(some 29), .load none (.tmp 28), some (27, false)⟩,
    ⟨(some 30), .field 1 (.tmp 7), some (27, false)⟩,
    ⟨(some 31), .load none (.tmp 30), some (27, false)⟩,
    ⟨(some 32), .maxmin false (.tmp 29) (.tmp 31), some (27, false)⟩,
    ⟨(some 33), .bin .lss (.tmp 32) (.const (.int .i64 (-1000000))), some (27, false)⟩,
    ⟨(some 34), .pick (.tmp 27) (.const (.bool true)) (.tmp 33), none⟩] [15, 16, 17, 34])
  (.cond (.tmp 34) (.seq (.region [⟨(some 4), .mov (.const (.int .i64 5)), none⟩] [4])
  (.ret)) (.skip)))))
  (.region [⟨(some 35), .bin .add (.tmp 17) (.const (.int .i64 1)), none⟩,
    ⟨(some 17), .mov (.tmp 35), none⟩] [15, 16, 17])))
def msg_path.body : ACode := .seq (.region [⟨(some 3), .box T.field_Field (.tmp 1), none⟩,
    ⟨(some 4), .mov (.const (.int .i64 0)), none⟩] [0, 3])
  (.seq (.seq (.region [⟨(some 8), .mov (.tmp 0), none⟩,
    ⟨(some 9), .len .slice (.tmp 8), none⟩,
    ⟨(some 10), .load (some 7) (.tmp 3), none⟩,
    ⟨(some 11), .call (.const (.fn F.msg_many [] [])) [(.tmp 9), (.tmp 10)], none⟩,
    ⟨(some 5), .mov (.tmp 11), none⟩] [0, 5])
  (.seq (.region [⟨(some 12), .mov (.tmp 5), none⟩,
    ⟨(some 13), .bin .neq (.tmp 12) (.const (.int .i64 0)), none⟩] [0, 5, 13])
  (.cond (.tmp 13) (.seq (.region [⟨(some 14), .mov (.tmp 5), none⟩,
    ⟨(some 4), .mov (.tmp 14), none⟩] [4])
  (.ret)) (.skip))))
  (.seq (.seq (.region [⟨(some 15), .mov (.tmp 0), none⟩,
    ⟨(some 16), .len .slice (.tmp 15), none⟩,
    ⟨(some 17), .mov (.const (.int .i64 0)), none⟩] [15, 16, 17])
  (.block 0 (.loop msg_path.b0)))
  (.seq (.region [⟨(some 4), .mov (.const (.int .i64 0)), none⟩] [4])
  (.ret))))
def msg_path : AFun := ⟨36, 2, [.tmp 4], msg_path.body⟩
def msg_cells.b0 : ACode := .seq (.region [⟨(some 19), .bin .lss (.tmp 18) (.tmp 17), none⟩] [6, 16, 17, 18, 19])
  (.seq (.cond (.tmp 19) (.skip) (.exit 0))
  (.seq (.block 1 (.seq (.region [⟨(some 20), .idx 1 none (.tmp 16) (.tmp 18), none⟩,
    ⟨(some 21), .load none (.tmp 20), none⟩,
    ⟨(some 8), .mov (.tmp 21), none⟩] [6, 8, 16, 17, 18])
  (.seq (.block 2 (.seq (.region [⟨(some 23), .mov (.tmp 8), none⟩,
    ⟨(some 24), .bin .lss (.tmp 23) (.const (.int .i64 0)), none⟩,
    ⟨(some 25), .mov (.tmp 24), none⟩,
    ⟨(some 26), .mov (.tmp 8), some (25, false)⟩,
    ⟨(some 27), .bin .gtr (.tmp 26) (.const (.int .i64 65535)), some (25, false)⟩,
    ⟨(some 28), .pick (.tmp 25) (.const (.bool true)) (.tmp 27), none⟩,
    ⟨(some 22), .mov (.tmp 28), none⟩] [6, 8, 16, 17, 18, 22])
  (.cond (.tmp 22) (.seq (.region [⟨(some 4), .mov (.const (.int .i64 5)), none⟩] [4])
  (.ret)) (.seq (.region [⟨(some 30), .mov (.tmp 8), none⟩,
    ⟨(some 31), .mov (.tmp 6), none⟩,
    ⟨(some 32), .bin .leq (.tmp 30) (.tmp 31), none⟩,
    ⟨(some 29), .mov (.tmp 32), none⟩] [8, 16, 17, 18, 29])
  (.cond (.tmp 29) (.seq (.region [⟨(some 4), .mov (.const (.int .i64 3)), none⟩] [4])
  (.ret)) (.skip))))))
  (.region [⟨(some 33), .mov (.tmp 8), none⟩,
    ⟨(some 6), .mov (.tmp 33), none⟩] [6, 16, 17, 18]))))
  (.region [⟨(some 34), .bin .add (.tmp 18) (.const (.int .i64 1)), none⟩,
    ⟨(some 18), .mov (.tmp 34), none⟩] [6, 16, 17, 18])))
def msg_cells.body : ACode := .seq (.region [⟨(some 3), .box T.field_Field (.tmp 1), none⟩,
    ⟨(some 4), .mov (.const (.int .i64 0)), none⟩] [0, 3])
  (.seq (.seq (.region [⟨(some 9), .mov (.tmp 0), none⟩,
    ⟨(some 10), .len .slice (.tmp 9), none⟩,
    ⟨(some 11), .load (some 7) (.tmp 3), none⟩,
    ⟨(some 12), .call (.const (.fn F.msg_many [] [])) [(.tmp 10), (.tmp 11)], none⟩,
    ⟨(some 5), .mov (.tmp 12), none⟩] [0, 5])
  (.seq (.region [⟨(some 13), .mov (.tmp 5), none⟩,
    ⟨(some 14), .bin .neq (.tmp 13) (.const (.int .i64 0)), none⟩] [0, 5, 14])
  (.cond (.tmp 14) (.seq (.region [⟨(some 15), .mov (.tmp 5), none⟩,
    ⟨(some 4), .mov (.tmp 15), none⟩] [4])
  (.ret)) (.skip))))
  (.seq (.region [⟨(some 6), .mov (.const (.int .i64 (-1))), none⟩] [0, 6])
  (.seq (.seq (.region [⟨(some 16), .mov (.tmp 0), none⟩,
    ⟨(some 17), .len .slice (.tmp 16), none⟩,
    ⟨(some 18), .mov (.const (.int .i64 0)), none⟩] [6, 16, 17, 18])
  (.block 0 (.loop msg_cells.b0)))
  (.seq (.region [⟨(some 4), .mov (.const (.int .i64 0)), none⟩] [4])
  (.ret)))))
def msg_cells : AFun := ⟨35, 2, [.tmp 4], msg_cells.body⟩
def msg_text.b0 : ACode := .seq (.region [⟨(some 19), .bin .lss (.tmp 18) (.tmp 17), none⟩] [16, 17, 18, 19])
  (.seq (.cond (.tmp 19) (.skip) (.exit 0))
  (.seq (.block 1 (.seq (.region [⟨(some 20), .idx 1 none (.tmp 16) (.tmp 18), none⟩,
    ⟨(some 21), .load none (.tmp 20), none⟩,
    ⟨(some 7), .mov (.tmp 21), none⟩] [7, 16, 17, 18])
  (.seq (.region [⟨(some 22), .mov (.tmp 7), none⟩,
    ⟨(some 23), .bin .lss (.tmp 22) (.const (.int .u8 32)), none⟩,
    ⟨(some 24), .mov (.tmp 23), none⟩,
    ⟨(some 25), .mov (.tmp 7), some (24, false)⟩,
    ⟨(some 26), .bin .gtr (.tmp 25) (.const (.int .u8 126)), some (24, false)⟩,
    ⟨(some 27), .pick (.tmp 24) (.const (.bool true)) (.tmp 26), none⟩] [16, 17, 18, 27])
  (.cond (.tmp 27) (.seq (.region [⟨(some 4), .mov (.const (.int .i64 19)), none⟩] [4])
  (.ret)) (.skip)))))
  (.region [⟨(some 28), .bin .add (.tmp 18) (.const (.int .i64 1)), none⟩,
    ⟨(some 18), .mov (.tmp 28), none⟩] [16, 17, 18])))
def msg_text.body : ACode := .seq (.region [⟨(some 3), .box T.field_Field (.tmp 1), none⟩,
    ⟨(some 4), .mov (.const (.int .i64 0)), none⟩] [0, 3])
  (.seq (.seq (.region [⟨(some 8), .mov (.tmp 0), none⟩,
    ⟨(some 9), .len .str (.tmp 8), none⟩,
    ⟨(some 10), .load (some 7) (.tmp 3), none⟩,
    ⟨(some 11), .call (.const (.fn F.msg_many [] [])) [(.tmp 9), (.tmp 10)], none⟩,
    ⟨(some 5), .mov (.tmp 11), none⟩] [0, 5])
  (.seq (.region [⟨(some 12), .mov (.tmp 5), none⟩,
    ⟨(some 13), .bin .neq (.tmp 12) (.const (.int .i64 0)), none⟩] [0, 5, 13])
  (.cond (.tmp 13) (.seq (.region [⟨(some 14), .mov (.tmp 5), none⟩,
    ⟨(some 4), .mov (.tmp 14), none⟩] [4])
  (.ret)) (.skip))))
  (.seq (.seq (.region [⟨(some 15), .mov (.tmp 0), none⟩,
    ⟨(some 16), .s2b (.tmp 15), none⟩,
    ⟨(some 17), .len .slice (.tmp 16), none⟩,
    ⟨(some 18), .mov (.const (.int .i64 0)), none⟩] [16, 17, 18])
  (.block 0 (.loop msg_text.b0)))
  (.seq (.region [⟨(some 4), .mov (.const (.int .i64 0)), none⟩] [4])
  (.ret))))
def msg_text : AFun := ⟨29, 2, [.tmp 4], msg_text.body⟩
def lens_Lens_read.body : ACode := .seq (.region [⟨(some 4), .mov (.const (.bool false)), none⟩] [0, 1])
  (.seq (.seq (.region [⟨(some 7), .mov (.tmp 0), none⟩,
    ⟨(some 8), .eq false .ptr (.tmp 7) (.const .nilp), none⟩,
    ⟨(some 9), .mov (.tmp 8), none⟩,
    ⟨(some 10), .mov (.tmp 0), some (9, false)⟩,
    ⟨(some 11), .nilc (.tmp 10), some (9, false)⟩,
    ⟨(some 12), .field 2 (.tmp 11), some (9, false)⟩,
    ⟨(some 13), .load none (.tmp 12), some (9, false)⟩,
    ⟨(some 14), .bin .neq (.tmp 13) (.const (.int .i64 0)), some (9, false)⟩,
    ⟨(some 15), .pick (.tmp 9) (.const (.bool true)) (.tmp 14), none⟩] [0, 1, 15])
  (.cond (.tmp 15) (.seq (.region [⟨(some 4), .mov (.const (.bool false)), none⟩] [4])
  (.ret)) (.skip)))
  (.seq (.region [⟨(some 17), .mov (.tmp 1), none⟩,
    ⟨(some 18), .mov (.tmp 0), none⟩,
    ⟨(some 19), .call (.const (.fn F.lens_Lens_left [] [])) [(.tmp 18)], none⟩,
    ⟨(some 20), .call (.tmp 17) [(.tmp 19)], none⟩,
    ⟨(some 16), .mov (.tmp 20), none⟩,
    ⟨(some 21), .extract (.tmp 16) 0, none⟩,
    ⟨(some 22), .extract (.tmp 16) 1, none⟩,
    ⟨(some 5), .mov (.tmp 21), none⟩,
    ⟨(some 6), .mov (.tmp 22), none⟩] [0, 5, 6])
  (.seq (.seq (.region [⟨(some 23), .mov (.tmp 6), none⟩,
    ⟨(some 24), .bin .neq (.tmp 23) (.const (.int .i64 0)), none⟩] [0, 5, 6, 24])
  (.cond (.tmp 24) (.seq (.region [⟨(some 25), .mov (.tmp 0), none⟩,
    ⟨(some 26), .mov (.tmp 6), none⟩,
    ⟨(some 27), .nilc (.tmp 25), none⟩,
    ⟨(some 28), .field 2 (.tmp 27), none⟩,
    ⟨none, .store 1 (.tmp 28) (.tmp 26), none⟩] [])
  (.seq (.region [⟨(some 4), .mov (.const (.bool false)), none⟩] [4])
  (.ret))) (.skip)))
  (.seq (.region [⟨(some 29), .mov (.tmp 0), none⟩,
    ⟨(some 30), .nilc (.tmp 29), none⟩,
    ⟨(some 31), .field 1 (.tmp 30), none⟩,
    ⟨(some 32), .load none (.tmp 31), none⟩,
    ⟨(some 33), .mov (.tmp 5), none⟩,
    ⟨(some 34), .bin .add (.tmp 32) (.tmp 33), none⟩,
    ⟨(some 35), .nilc (.tmp 29), none⟩,
    ⟨(some 36), .field 1 (.tmp 35), none⟩,
    ⟨none, .store 1 (.tmp 36) (.tmp 34), none⟩] [])
  (.seq (.region [⟨(some 4), .mov (.const (.bool true)), none⟩] [4])
  (.ret))))))
def lens_Lens_read : AFun := ⟨37, 2, [.tmp 4], lens_Lens_read.body⟩
def lens_Lens_Number_1.body : ACode := .seq (.region [⟨(some 4), .mov (.const (.int .i64 0)), none⟩,
    ⟨(some 5), .mov (.const (.int .i64 0)), none⟩] [0, 1, 2])
  (.seq (.region [⟨(some 10), .mov (.tmp 0), none⟩,
    ⟨(some 11), .call (.const (.fn F.varint_Get [] [])) [(.tmp 10)], none⟩,
    ⟨(some 9), .mov (.tmp 11), none⟩,
    ⟨(some 12), .extract (.tmp 9) 0, none⟩,
    ⟨(some 13), .extract (.tmp 9) 1, none⟩,
    ⟨(some 14), .extract (.tmp 9) 2, none⟩,
    ⟨(some 6), .mov (.tmp 12), none⟩,
    ⟨(some 7), .mov (.tmp 13), none⟩,
    ⟨(some 8), .mov (.tmp 14), none⟩] [1, 2, 6, 7, 8])
  (.seq (.seq (.region [⟨(some 15), .mov (.tmp 8), none⟩,
    ⟨(some 16), .bin .eql (.tmp 15) (.const (.int .i64 0)), none⟩,
    ⟨(some 17), .mov (.tmp 16), none⟩,
    ⟨(some 18), .mov (.tmp 6), some (17, true)⟩,
    ⟨(some 19), .load none (.tmp 1), some (17, true)⟩,
    ⟨(some 20), .bin .gtr (.tmp 18) (.tmp 19), some (17, true)⟩,
    ⟨(some 21), .pick (.tmp 17) (.tmp 20) (.const (.bool false)), none⟩] [2, 6, 7, 8, 21])
  (.cond (.tmp 21) (.region [⟨(some 8), .mov (.const (.int .i64 5)), none⟩] [2, 6, 7, 8]) (.skip)))
  (.seq (.seq (.region [⟨(some 22), .mov (.tmp 8), none⟩,
    ⟨(some 23), .bin .eql (.tmp 22) (.const (.int .i64 0)), none⟩] [2, 6, 7, 8, 23])
  (.cond (.tmp 23) (.region [⟨(some 24), .mov (.tmp 6), none⟩,
    ⟨none, .store 1 (.tmp 2) (.tmp 24), none⟩] [7, 8]) (.skip)))
  (.seq (.region [⟨(some 25), .mov (.tmp 7), none⟩,
    ⟨(some 26), .mov (.tmp 8), none⟩,
    ⟨(some 4), .mov (.tmp 25), none⟩,
    ⟨(some 5), .mov (.tmp 26), none⟩] [4, 5])
  (.ret)))))
def lens_Lens_Number_1 : AFun := ⟨27, 3, [.tmp 4, .tmp 5], lens_Lens_Number_1.body⟩
def varint_Get.b0 : ACode := .seq (.region [⟨(some 9), .bin .lss (.tmp 8) (.const (.int .i64 10)), none⟩] [0, 5, 8, 9])
  (.seq (.cond (.tmp 9) (.skip) (.exit 0))
  (.seq (.block 1 (.seq (.region [⟨(some 10), .mov (.tmp 8), none⟩,
    ⟨(some 6), .mov (.tmp 10), none⟩] [0, 5, 6, 8])
  (.seq (.seq (.region [⟨(some 11), .mov (.tmp 6), none⟩,
    ⟨(some 12), .mov (.tmp 0), none⟩,
    ⟨(some 13), .len .slice (.tmp 12), none⟩,
    ⟨(some 14), .bin .geq (.tmp 11) (.tmp 13), none⟩] [0, 5, 6, 8, 14])
  (.cond (.tmp 14) (.seq (.region [⟨(some 2), .mov (.const (.int .u64 0)), none⟩,
    ⟨(some 3), .mov (.const (.int .i64 0)), none⟩,
    ⟨(some 4), .mov (.const (.int .i64 4)), none⟩] [2, 3, 4])
  (.ret)) (.skip)))
  (.seq (.region [⟨(some 15), .mov (.tmp 0), none⟩,
    ⟨(some 16), .mov (.tmp 6), none⟩,
    ⟨(some 17), .idx 1 none (.tmp 15) (.tmp 16), none⟩,
    ⟨(some 18), .load none (.tmp 17), none⟩,
    ⟨(some 19), .bin .rem (.tmp 18) (.const (.int .u8 128)), none⟩,
    ⟨(some 20), .conv .u64 (.tmp 19), none⟩,
    ⟨(some 7), .mov (.tmp 20), none⟩] [0, 5, 6, 7, 8])
  (.seq (.region [⟨(some 21), .mov (.tmp 5), none⟩,
    ⟨(some 22), .mov (.tmp 7), none⟩,
    ⟨(some 23), .mov (.tmp 6), none⟩,
    ⟨(some 24), .bin .mul (.const (.int .i64 7)) (.tmp 23), none⟩,
    ⟨(some 25), .bin .shl (.tmp 22) (.tmp 24), none⟩,
    ⟨(some 26), .bin .or (.tmp 21) (.tmp 25), none⟩,
    ⟨(some 5), .mov (.tmp 26), none⟩] [0, 5, 6, 7, 8])
  (.seq (.seq (.region [⟨(some 27), .mov (.tmp 0), none⟩,
    ⟨(some 28), .mov (.tmp 6), none⟩,
    ⟨(some 29), .idx 1 none (.tmp 27) (.tmp 28), none⟩,
    ⟨(some 30), .load none (.tmp 29), none⟩,
    ⟨(some 31), .bin .geq (.tmp 30) (.const (.int .u8 128)), none⟩] [0, 5, 6, 7, 8, 31])
  (.cond (.tmp 31) (.exit 1) (.skip)))
  (.seq (.seq (.region [⟨(some 32), .mov (.tmp 6), none⟩,
    ⟨(some 33), .bin .gtr (.tmp 32) (.const (.int .i64 0)), none⟩,
    ⟨(some 34), .mov (.tmp 33), none⟩,
    ⟨(some 35), .mov (.tmp 7), some (34, true)⟩,
    ⟨(some 36), .bin .eql (.tmp 35) (.const (.int .u64 0)), some (34, true)⟩,
    ⟨(some 37), .pick (.tmp 34) (.tmp 36) (.const (.bool false)), none⟩,
    ⟨(some 38), .mov (.tmp 37), none⟩,
    ⟨(some 39), .mov (.tmp 7), some (38, false)⟩,
    ⟨(some 40), .mov (.tmp 6), some (38, false)⟩,
    ⟨(some 41), .bin .mul (.const (.int .i64 7)) (.tmp 40), some (38, false)⟩,
    ⟨(some 42), .bin .shl (.tmp 39) (.tmp 41), some (38, false)⟩,
    ⟨(some 43), .mov (.tmp 6), some (38, false)⟩,
    ⟨(some 44), .bin .mul (.const (.int .i64 7)) (.tmp 43), some (38, false)⟩,
    ⟨(some 45), .bin .shr (.tmp 42) (.tmp 44), some (38, false)⟩,
    ⟨(some 46), .mov (.tmp 7), some (38, false)⟩,
    ⟨(some 47), .bin .neq (.tmp 45) (.tmp 46), some (38, false)⟩,
    ⟨(some 48), .pick (.tmp 38) (.const (.bool true)) (.tmp 47), none⟩] [5, 6, 48])
  (.cond (.tmp 48) (.exit 0) (.skip)))
  (.seq (.region [⟨(some 49), .mov (.tmp 5), none⟩,
    ⟨(some 50), .mov (.tmp 6), none⟩,
    ⟨(some 51), .bin .add (.tmp 50) (.const (.int .i64 1)), none⟩,
    ⟨(some 2), .mov (.tmp 49), none⟩,
    ⟨(some 3), .mov (.tmp 51), none⟩,
    ⟨(some 4), .mov (.const (.int .i64 0)), none⟩] [2, 3, 4])
  (.ret)))))))))
  (.region [⟨(some 52), .bin .add (.tmp 8) (.const (.int .i64 1)), none⟩,
    ⟨(some 8), .mov (.tmp 52), none⟩] [0, 5, 8])))
def varint_Get.body : ACode := .seq (.region [⟨(some 2), .mov (.const (.int .u64 0)), none⟩,
    ⟨(some 3), .mov (.const (.int .i64 0)), none⟩,
    ⟨(some 4), .mov (.const (.int .i64 0)), none⟩] [0])
  (.scope (.seq (.region [⟨(some 5), .mov (.const (.int .u64 0)), none⟩] [0, 5])
  (.seq (.skip)
  (.seq (.seq (.region [⟨(some 8), .mov (.const (.int .i64 0)), none⟩] [0, 5, 8])
  (.block 0 (.loop varint_Get.b0)))
  (.seq (.region [⟨(some 2), .mov (.const (.int .u64 0)), none⟩,
    ⟨(some 3), .mov (.const (.int .i64 0)), none⟩,
    ⟨(some 4), .mov (.const (.int .i64 3)), none⟩] [2, 3, 4])
  (.ret))))))
def varint_Get : AFun := ⟨53, 1, [.tmp 2, .tmp 3, .tmp 4], varint_Get.body⟩
def lens_Lens_Signed_1.body : ACode := .seq (.region [⟨(some 5), .mov (.const (.int .i64 0)), none⟩,
    ⟨(some 6), .mov (.const (.int .i64 0)), none⟩] [0, 1, 2, 3])
  (.seq (.region [⟨(some 12), .mov (.tmp 0), none⟩,
    ⟨(some 13), .call (.const (.fn F.varint_Get [] [])) [(.tmp 12)], none⟩,
    ⟨(some 11), .mov (.tmp 13), none⟩,
    ⟨(some 14), .extract (.tmp 11) 0, none⟩,
    ⟨(some 15), .extract (.tmp 11) 1, none⟩,
    ⟨(some 16), .extract (.tmp 11) 2, none⟩,
    ⟨(some 7), .mov (.tmp 14), none⟩,
    ⟨(some 8), .mov (.tmp 15), none⟩,
    ⟨(some 9), .mov (.tmp 16), none⟩] [1, 2, 3, 7, 8, 9])
  (.seq (.seq (.region [⟨(some 17), .mov (.tmp 7), none⟩,
    ⟨(some 18), .call (.const (.fn F.varint_Zag [] [])) [(.tmp 17)], none⟩,
    ⟨(some 10), .mov (.tmp 18), none⟩] [1, 2, 3, 8, 9, 10])
  (.seq (.region [⟨(some 19), .mov (.tmp 9), none⟩,
    ⟨(some 20), .bin .eql (.tmp 19) (.const (.int .i64 0)), none⟩,
    ⟨(some 21), .mov (.tmp 20), none⟩,
    ⟨(some 22), .mov (.tmp 10), some (21, true)⟩,
    ⟨(some 23), .load none (.tmp 1), some (21, true)⟩,
    ⟨(some 24), .bin .lss (.tmp 22) (.tmp 23), some (21, true)⟩,
    ⟨(some 25), .mov (.tmp 24), some (21, true)⟩,
    ⟨(some 26), .mov (.tmp 10), some (25, false)⟩,
    ⟨(some 27), .load none (.tmp 2), some (25, false)⟩,
    ⟨(some 28), .bin .gtr (.tmp 26) (.tmp 27), some (25, false)⟩,
    ⟨(some 29), .pick (.tmp 25) (.const (.bool true)) (.tmp 28), some (21, true)⟩,
    ⟨(some 30), .pick (.tmp 21) (.tmp 29) (.const (.bool false)), none⟩] [3, 8, 9, 10, 30])
  (.cond (.tmp 30) (.region [⟨(some 9), .mov (.const (.int .i64 5)), none⟩] [8, 9]) (.seq (.region [⟨(some 31), .mov (.tmp 9), none⟩,
    ⟨(some 32), .bin .eql (.tmp 31) (.const (.int .i64 0)), none⟩] [3, 8, 9, 10, 32])
  (.cond (.tmp 32) (.region [⟨(some 33), .mov (.tmp 10), none⟩,
    ⟨none, .store 1 (.tmp 3) (.tmp 33), none⟩] [8, 9]) (.skip))))))
  (.seq (.region [⟨(some 34), .mov (.tmp 8), none⟩,
    ⟨(some 35), .mov (.tmp 9), none⟩,
    ⟨(some 5), .mov (.tmp 34), none⟩,
    ⟨(some 6), .mov (.tmp 35), none⟩] [5, 6])
  (.ret))))
def lens_Lens_Signed_1 : AFun := ⟨36, 4, [.tmp 5, .tmp 6], lens_Lens_Signed_1.body⟩
def varint_Zag.body : ACode := .seq (.region [⟨(some 2), .mov (.const (.int .i64 0)), none⟩] [0])
  (.seq (.region [⟨(some 3), .mov (.tmp 0), none⟩,
    ⟨(some 4), .bin .shr (.tmp 3) (.const (.int .u64 1)), none⟩,
    ⟨(some 5), .conv .i64 (.tmp 4), none⟩,
    ⟨(some 6), .mov (.tmp 0), none⟩,
    ⟨(some 7), .bin .and (.tmp 6) (.const (.int .u64 1)), none⟩,
    ⟨(some 8), .conv .i64 (.tmp 7), none⟩,
    ⟨(some 9), .un .neg (.tmp 8), none⟩,
    ⟨(some 10), .bin .xor (.tmp 5) (.tmp 9), none⟩,
    ⟨(some 2), .mov (.tmp 10), none⟩] [2])
  (.ret))
def varint_Zag : AFun := ⟨11, 1, [.tmp 2], varint_Zag.body⟩
def body_reader_points_1.body : ACode := .seq (.region [⟨(some 3), .mov (.const (.int .i64 0)), none⟩] [0, 1])
  (.seq (.region [⟨(some 4), .mov (.tmp 0), none⟩,
    ⟨(some 5), .load none (.tmp 1), none⟩,
    ⟨(some 6), .nilc (.tmp 5), none⟩,
    ⟨(some 7), .field 0 (.tmp 6), none⟩,
    ⟨(some 8), .load none (.tmp 7), none⟩,
    ⟨(some 9), .mov (.tmp 0), none⟩,
    ⟨(some 10), .bin .sub (.const (.int .i64 (-1000000))) (.tmp 9), none⟩,
    ⟨(some 11), .mov (.tmp 0), none⟩,
    ⟨(some 12), .bin .sub (.const (.int .i64 1000000)) (.tmp 11), none⟩,
    ⟨(some 13), .call (.const (.fn F.lens_Lens_Signed [] [])) [(.tmp 8), (.tmp 10), (.tmp 12)], none⟩,
    ⟨(some 14), .bin .add (.tmp 4) (.tmp 13), none⟩,
    ⟨(some 3), .mov (.tmp 14), none⟩] [3])
  (.ret))
def body_reader_points_1 : AFun := ⟨15, 2, [.tmp 3], body_reader_points_1.body⟩
def body_reader_count.body : ACode := .seq (.region [⟨(some 4), .mov (.const (.int .i64 0)), none⟩] [0, 1])
  (.seq (.region [⟨(some 6), .mov (.tmp 0), none⟩,
    ⟨(some 7), .nilc (.tmp 6), none⟩,
    ⟨(some 8), .field 0 (.tmp 7), none⟩,
    ⟨(some 9), .load none (.tmp 8), none⟩,
    ⟨(some 10), .call (.const (.fn F.lens_Lens_Number [] [])) [(.tmp 9), (.const (.int .u64 18446744073709551615))], none⟩,
    ⟨(some 5), .mov (.tmp 10), none⟩] [0, 1, 5])
  (.seq (.region [⟨(some 11), .mov (.tmp 0), none⟩,
    ⟨(some 12), .mov (.tmp 5), none⟩,
    ⟨(some 13), .bin .eql (.tmp 12) (.const (.int .u64 0)), none⟩,
    ⟨(some 14), .call (.const (.fn F.body_reader_note [] [])) [(.tmp 11), (.tmp 13), (.const (.int .i64 13))], none⟩] [0, 1, 5])
  (.seq (.region [⟨(some 15), .mov (.tmp 0), none⟩,
    ⟨(some 16), .mov (.tmp 5), none⟩,
    ⟨(some 17), .mov (.tmp 1), none⟩,
    ⟨(some 18), .conv .u64 (.tmp 17), none⟩,
    ⟨(some 19), .bin .gtr (.tmp 16) (.tmp 18), none⟩,
    ⟨(some 20), .call (.const (.fn F.body_reader_note [] [])) [(.tmp 15), (.tmp 19), (.const (.int .i64 6))], none⟩] [0, 5])
  (.seq (.seq (.region [⟨(some 21), .mov (.tmp 0), none⟩,
    ⟨(some 22), .call (.const (.fn F.body_reader_err [] [])) [(.tmp 21)], none⟩,
    ⟨(some 23), .bin .neq (.tmp 22) (.const (.int .i64 0)), none⟩] [5, 23])
  (.cond (.tmp 23) (.seq (.region [⟨(some 4), .mov (.const (.int .i64 0)), none⟩] [4])
  (.ret)) (.skip)))
  (.seq (.region [⟨(some 24), .mov (.tmp 5), none⟩,
    ⟨(some 25), .conv .i64 (.tmp 24), none⟩,
    ⟨(some 4), .mov (.tmp 25), none⟩] [4])
  (.ret))))))
def body_reader_count : AFun := ⟨26, 2, [.tmp 4], body_reader_count.body⟩
def lens_Lens_Field.body : ACode := .seq (.region [⟨(some 3), .box T.int (.tmp 1), none⟩,
    ⟨(some 4), .mov (.const .nils), none⟩] [0, 3])
  (.seq (.region [⟨(some 5), .alloc T.sl_uint8 [.nils], none⟩] [0, 3, 5])
  (.seq (.region [⟨(some 6), .mov (.tmp 0), none⟩,
    ⟨(some 7), .mkfn F.lens_Lens_Field_1 [] [(.tmp 3), (.tmp 5)], none⟩,
    ⟨(some 8), .call (.const (.fn F.lens_Lens_read [] [])) [(.tmp 6), (.tmp 7)], none⟩] [5])
  (.seq (.region [⟨(some 9), .load none (.tmp 5), none⟩,
    ⟨(some 4), .mov (.tmp 9), none⟩] [4])
  (.ret))))
def lens_Lens_Field : AFun := ⟨10, 2, [.tmp 4], lens_Lens_Field.body⟩
def lens_Lens_left.d0 : List AOper := [⟨(some 3), .mov (.tmp 0), none⟩,
    ⟨(some 4), .nilc (.tmp 3), none⟩,
    ⟨(some 5), .field 0 (.tmp 4), none⟩,
    ⟨(some 6), .load none (.tmp 5), none⟩,
    ⟨(some 7), .mov (.tmp 0), none⟩,
    ⟨(some 8), .nilc (.tmp 7), none⟩,
    ⟨(some 9), .field 1 (.tmp 8), none⟩,
    ⟨(some 10), .load none (.tmp 9), none⟩,
    ⟨(some 11), .mov (.tmp 0), none⟩,
    ⟨(some 12), .nilc (.tmp 11), none⟩,
    ⟨(some 13), .field 0 (.tmp 12), none⟩,
    ⟨(some 14), .load none (.tmp 13), none⟩,
    ⟨(some 15), .len .slice (.tmp 14), none⟩,
    ⟨(some 16), .mov (.tmp 0), none⟩,
    ⟨(some 17), .nilc (.tmp 16), none⟩,
    ⟨(some 18), .field 0 (.tmp 17), none⟩,
    ⟨(some 19), .load none (.tmp 18), none⟩,
    ⟨(some 20), .len .slice (.tmp 19), none⟩,
    ⟨(some 21), .slice 1 .slice (.tmp 6) (some (.tmp 10)) (some (.tmp 15)) (some (.tmp 20)), none⟩,
    ⟨(some 2), .mov (.tmp 21), none⟩]
def lens_Lens_left.d0b : List (List Nat) := [[], [0], [0, 1], [0, 1, 2], [], [4], [4, 5], [4, 5, 6], [], [8], [8, 9], [8, 9, 10], [8, 9, 10, 11], [], [13], [13, 14], [13, 14, 15], [13, 14, 15, 16], [0, 1, 2, 3, 4, 5, 6, 7, 8, 9, 10, 11, 12, 13, 14, 15, 16, 17], [0, 1, 2, 3, 4, 5, 6, 7, 8, 9, 10, 11, 12, 13, 14, 15, 16, 17, 18]]
def lens_Lens_left.body : ACode := .seq (.region [⟨(some 2), .mov (.const .nils), none⟩] [0])
  (.seq (.draw lens_Lens_left.d0 lens_Lens_left.d0b [[0, 1, 2, 3, 4, 5, 6, 7, 8, 9, 10, 11, 12, 13, 14, 15, 16, 17, 18, 19]] [] [2])
  (.ret))
def lens_Lens_left : AFun := ⟨22, 1, [.tmp 2], lens_Lens_left.body⟩
def pen_New.body : ACode := .seq (.region [⟨(some 2), .mov (.const .nilp), none⟩] [0])
  (.seq (.region [⟨(some 3), .mov (.tmp 0), none⟩,
    ⟨(some 4), .maxmin true (.tmp 3) (.const (.int .i64 0)), none⟩,
    ⟨(some 5), .build [.nils, (.int .i64 0), (.bool false)] [(1, 1, (.tmp 4))], none⟩,
    ⟨(some 6), .build [.nils, (.int .i64 0), (.bool false)] [(0, 3, (.tmp 5))], none⟩,
    ⟨(some 7), .box T.pen_Pen (.tmp 6), none⟩,
    ⟨(some 2), .mov (.tmp 7), none⟩] [2])
  (.ret))
def pen_New : AFun := ⟨8, 1, [.tmp 2], pen_New.body⟩
def pen_Pen_Number.body : ACode := .seq (.region [⟨(some 4), .mov (.const (.int .i64 0)), none⟩] [0, 1])
  (.seq (.region [⟨(some 5), .mov (.tmp 0), none⟩,
    ⟨(some 6), .mov (.tmp 1), none⟩,
    ⟨(some 7), .call (.const (.fn F.varint_Put [] [])) [(.tmp 6)], none⟩,
    ⟨(some 8), .call (.const (.fn F.pen_Pen_Raw [] [])) [(.tmp 5), (.tmp 7)], none⟩,
    ⟨(some 4), .mov (.tmp 8), none⟩] [4])
  (.ret))
def pen_Pen_Number : AFun := ⟨9, 2, [.tmp 4], pen_Pen_Number.body⟩
def pen_Pen_Signed.b0 : ACode := .seq (.region [⟨(some 11), .bin .lss (.tmp 10) (.tmp 9), none⟩] [0, 5, 8, 9, 10, 11])
  (.seq (.cond (.tmp 11) (.skip) (.exit 0))
  (.seq (.block 1 (.seq (.region [⟨(some 12), .idx 1 none (.tmp 8) (.tmp 10), none⟩,
    ⟨(some 13), .load none (.tmp 12), none⟩,
    ⟨(some 7), .mov (.tmp 13), none⟩] [0, 5, 7, 8, 9, 10])
  (.region [⟨(some 14), .mov (.tmp 5), none⟩,
    ⟨(some 15), .mov (.tmp 7), none⟩,
    ⟨(some 16), .call (.const (.fn F.varint_Zig [] [])) [(.tmp 15)], none⟩,
    ⟨(some 17), .lit T.uint64 1 1 [(.int .u64 0)] [(0, 1, (.tmp 16))], none⟩,
    ⟨(some 18), .append T.uint64 1 8 (.tmp 14) (.tmp 17), none⟩,
    ⟨(some 5), .mov (.tmp 18), none⟩] [0, 5, 8, 9, 10])))
  (.region [⟨(some 19), .bin .add (.tmp 10) (.const (.int .i64 1)), none⟩,
    ⟨(some 10), .mov (.tmp 19), none⟩] [0, 5, 8, 9, 10])))
def pen_Pen_Signed.body : ACode := .seq (.region [⟨(some 4), .mov (.const (.int .i64 0)), none⟩] [0, 1])
  (.seq (.region [⟨(some 5), .mov (.const .nils), none⟩] [0, 1, 5])
  (.seq (.seq (.region [⟨(some 8), .mov (.tmp 1), none⟩,
    ⟨(some 9), .len .slice (.tmp 8), none⟩,
    ⟨(some 10), .mov (.const (.int .i64 0)), none⟩] [0, 5, 8, 9, 10])
  (.block 0 (.loop pen_Pen_Signed.b0)))
  (.seq (.region [⟨(some 20), .mov (.tmp 0), none⟩,
    ⟨(some 21), .mov (.tmp 5), none⟩,
    ⟨(some 22), .call (.const (.fn F.pen_Pen_Number [] [])) [(.tmp 20), (.tmp 21)], none⟩,
    ⟨(some 4), .mov (.tmp 22), none⟩] [4])
  (.ret))))
def pen_Pen_Signed : AFun := ⟨23, 2, [.tmp 4], pen_Pen_Signed.body⟩
def body_points.b0 : ACode := .seq (.region [⟨(some 16), .bin .lss (.tmp 15) (.tmp 14), none⟩] [0, 4, 13, 14, 15, 16])
  (.seq (.cond (.tmp 16) (.skip) (.exit 0))
  (.seq (.block 1 (.seq (.region [⟨(some 17), .idx 2 none (.tmp 13) (.tmp 15), none⟩,
    ⟨(some 18), .load (some 2) (.tmp 17), none⟩,
    ⟨(some 6), .alloc T.msg_Point [(.int .i64 0), (.int .i64 0)], none⟩,
    ⟨none, .store 2 (.tmp 6) (.tmp 18), none⟩] [0, 4, 6, 13, 14, 15])
  (.seq (.region [⟨(some 19), .mov (.tmp 0), none⟩,
    ⟨(some 20), .field 0 (.tmp 6), none⟩,
    ⟨(some 21), .load none (.tmp 20), none⟩,
    ⟨(some 22), .field 0 (.tmp 4), none⟩,
    ⟨(some 23), .load none (.tmp 22), none⟩,
    ⟨(some 24), .bin .sub (.tmp 21) (.tmp 23), none⟩,
    ⟨(some 25), .field 1 (.tmp 6), none⟩,
    ⟨(some 26), .load none (.tmp 25), none⟩,
    ⟨(some 27), .field 1 (.tmp 4), none⟩,
    ⟨(some 28), .load none (.tmp 27), none⟩,
    ⟨(some 29), .bin .sub (.tmp 26) (.tmp 28), none⟩,
    ⟨(some 30), .lit T.int64 1 2 [(.int .i64 0), (.int .i64 0)] [(0, 1, (.tmp 24)), (1, 1, (.tmp 29))], none⟩,
    ⟨(some 31), .call (.const (.fn F.pen_Pen_Signed [] [])) [(.tmp 19), (.tmp 30)], none⟩] [0, 4, 6, 13, 14, 15])
  (.region [⟨(some 32), .load (some 2) (.tmp 6), none⟩,
    ⟨none, .store 2 (.tmp 4) (.tmp 32), none⟩] [0, 4, 13, 14, 15]))))
  (.region [⟨(some 33), .bin .add (.tmp 15) (.const (.int .i64 1)), none⟩,
    ⟨(some 15), .mov (.tmp 33), none⟩] [0, 4, 13, 14, 15])))
def body_points.body : ACode := .seq (.region [⟨(some 7), .mov (.tmp 0), none⟩,
    ⟨(some 8), .mov (.tmp 1), none⟩,
    ⟨(some 9), .len .slice (.tmp 8), none⟩,
    ⟨(some 10), .conv .u64 (.tmp 9), none⟩,
    ⟨(some 11), .lit T.uint64 1 1 [(.int .u64 0)] [(0, 1, (.tmp 10))], none⟩,
    ⟨(some 12), .call (.const (.fn F.pen_Pen_Number [] [])) [(.tmp 7), (.tmp 11)], none⟩] [0, 1])
  (.seq (.region [⟨(some 4), .alloc T.msg_Point [(.int .i64 0), (.int .i64 0)], none⟩] [0, 1, 4])
  (.seq (.region [⟨(some 13), .mov (.tmp 1), none⟩,
    ⟨(some 14), .len .slice (.tmp 13), none⟩,
    ⟨(some 15), .mov (.const (.int .i64 0)), none⟩] [0, 4, 13, 14, 15])
  (.block 0 (.loop body_points.b0))))
def body_points : AFun := ⟨34, 2, [], body_points.body⟩
def body_cells.b0 : ACode := .seq (.region [⟨(some 16), .bin .lss (.tmp 15) (.tmp 14), none⟩] [0, 4, 13, 14, 15, 16])
  (.seq (.cond (.tmp 16) (.skip) (.exit 0))
  (.seq (.block 1 (.seq (.region [⟨(some 17), .idx 1 none (.tmp 13) (.tmp 15), none⟩,
    ⟨(some 18), .load none (.tmp 17), none⟩,
    ⟨(some 6), .mov (.tmp 18), none⟩] [0, 4, 6, 13, 14, 15])
  (.seq (.region [⟨(some 19), .mov (.tmp 0), none⟩,
    ⟨(some 20), .mov (.tmp 6), none⟩,
    ⟨(some 21), .mov (.tmp 4), none⟩,
    ⟨(some 22), .bin .sub (.tmp 20) (.tmp 21), none⟩,
    ⟨(some 23), .bin .sub (.tmp 22) (.const (.int .i64 1)), none⟩,
    ⟨(some 24), .conv .u64 (.tmp 23), none⟩,
    ⟨(some 25), .lit T.uint64 1 1 [(.int .u64 0)] [(0, 1, (.tmp 24))], none⟩,
    ⟨(some 26), .call (.const (.fn F.pen_Pen_Number [] [])) [(.tmp 19), (.tmp 25)], none⟩] [0, 6, 13, 14, 15])
  (.region [⟨(some 27), .mov (.tmp 6), none⟩,
    ⟨(some 4), .mov (.tmp 27), none⟩] [0, 4, 13, 14, 15]))))
  (.region [⟨(some 28), .bin .add (.tmp 15) (.const (.int .i64 1)), none⟩,
    ⟨(some 15), .mov (.tmp 28), none⟩] [0, 4, 13, 14, 15])))
def body_cells.body : ACode := .seq (.region [⟨(some 7), .mov (.tmp 0), none⟩,
    ⟨(some 8), .mov (.tmp 1), none⟩,
    ⟨(some 9), .len .slice (.tmp 8), none⟩,
    ⟨(some 10), .conv .u64 (.tmp 9), none⟩,
    ⟨(some 11), .lit T.uint64 1 1 [(.int .u64 0)] [(0, 1, (.tmp 10))], none⟩,
    ⟨(some 12), .call (.const (.fn F.pen_Pen_Number [] [])) [(.tmp 7), (.tmp 11)], none⟩] [0, 1])
  (.seq (.region [⟨(some 4), .mov (.const (.int .i64 (-1))), none⟩] [0, 1, 4])
  (.seq (.region [⟨(some 13), .mov (.tmp 1), none⟩,
    ⟨(some 14), .len .slice (.tmp 13), none⟩,
    ⟨(some 15), .mov (.const (.int .i64 0)), none⟩] [0, 4, 13, 14, 15])
  (.block 0 (.loop body_cells.b0))))
def body_cells : AFun := ⟨29, 2, [], body_cells.body⟩
def pen_Pen_Field.body : ACode := .seq (.region [⟨(some 4), .mov (.const (.int .i64 0)), none⟩] [0, 1])
  (.seq (.region [⟨(some 5), .mov (.tmp 0), none⟩,
    ⟨(some 6), .mov (.tmp 1), none⟩,
    ⟨(some 7), .len .slice (.tmp 6), none⟩,
    ⟨(some 8), .conv .u64 (.tmp 7), none⟩,
    ⟨(some 9), .lit T.uint64 1 1 [(.int .u64 0)] [(0, 1, (.tmp 8))], none⟩,
    ⟨(some 10), .call (.const (.fn F.varint_Put [] [])) [(.tmp 9)], none⟩,
    ⟨(some 11), .mov (.tmp 1), none⟩,
    ⟨(some 12), .append T.uint8 1 1 (.tmp 10) (.tmp 11), none⟩,
    ⟨(some 13), .call (.const (.fn F.pen_Pen_Raw [] [])) [(.tmp 5), (.tmp 12)], none⟩,
    ⟨(some 4), .mov (.tmp 13), none⟩] [4])
  (.ret))
def pen_Pen_Field : AFun := ⟨14, 2, [.tmp 4], pen_Pen_Field.body⟩
def pen_Pen_Bytes.body : ACode := .seq (.region [⟨(some 2), .mov (.const .nils), none⟩] [0])
  (.seq (.seq (.region [⟨(some 3), .mov (.tmp 0), none⟩,
    ⟨(some 4), .eq false .ptr (.tmp 3) (.const .nilp), none⟩] [0, 4])
  (.cond (.tmp 4) (.seq (.region [⟨(some 2), .mov (.const .nils), none⟩] [2])
  (.ret)) (.skip)))
  (.seq (.region [⟨(some 5), .mov (.tmp 0), none⟩,
    ⟨(some 6), .nilc (.tmp 5), none⟩,
    ⟨(some 7), .field 0 (.tmp 6), none⟩,
    ⟨(some 8), .field 0 (.tmp 7), none⟩,
    ⟨(some 9), .load none (.tmp 8), none⟩,
    ⟨(some 10), .append T.uint8 1 1 (.const .nils) (.tmp 9), none⟩,
    ⟨(some 2), .mov (.tmp 10), none⟩] [2])
  (.ret)))
def pen_Pen_Bytes : AFun := ⟨11, 1, [.tmp 2], pen_Pen_Bytes.body⟩
def msg_many.body : ACode := .seq (.region [⟨(some 3), .box T.field_Field (.tmp 1), none⟩,
    ⟨(some 4), .mov (.const (.int .i64 0)), none⟩] [0, 3])
  (.seq (.block 0 (.seq (.region [⟨(some 6), .mov (.tmp 0), none⟩,
    ⟨(some 7), .field 3 (.tmp 3), none⟩,
    ⟨(some 8), .load none (.tmp 7), none⟩,
    ⟨(some 9), .bin .lss (.tmp 6) (.tmp 8), none⟩,
    ⟨(some 5), .mov (.tmp 9), none⟩] [0, 3, 5])
  (.cond (.tmp 5) (.seq (.region [⟨(some 4), .mov (.const (.int .i64 13)), none⟩] [4])
  (.ret)) (.seq (.region [⟨(some 11), .mov (.tmp 0), none⟩,
    ⟨(some 12), .field 4 (.tmp 3), none⟩,
    ⟨(some 13), .load none (.tmp 12), none⟩,
    ⟨(some 14), .bin .gtr (.tmp 11) (.tmp 13), none⟩,
    ⟨(some 10), .mov (.tmp 14), none⟩] [10])
  (.cond (.tmp 10) (.seq (.region [⟨(some 4), .mov (.const (.int .i64 6)), none⟩] [4])
  (.ret)) (.skip))))))
  (.seq (.region [⟨(some 4), .mov (.const (.int .i64 0)), none⟩] [4])
  (.ret)))
def msg_many : AFun := ⟨15, 2, [.tmp 4], msg_many.body⟩
def lens_Lens_Field_1.d0 : List AOper := [⟨(some 38), .load none (.tmp 2), none⟩,
    ⟨(some 39), .mov (.tmp 0), none⟩,
    ⟨(some 40), .mov (.tmp 7), none⟩,
    ⟨(some 41), .mov (.tmp 9), none⟩,
    ⟨(some 42), .mov (.tmp 9), none⟩,
    ⟨(some 43), .slice 1 .slice (.tmp 39) (some (.tmp 40)) (some (.tmp 41)) (some (.tmp 42)), none⟩,
    ⟨(some 44), .append T.uint8 1 1 (.tmp 38) (.tmp 43), none⟩,
    ⟨none, .store 1 (.tmp 2) (.tmp 44), none⟩]
def lens_Lens_Field_1.d0b : List (List Nat) := [[], [], [], [], [], [1, 2, 3, 4], [0, 1, 2, 3, 4, 5], [0, 1, 2, 3, 4, 5, 6]]
def lens_Lens_Field_1.body : ACode := .seq (.region [⟨(some 4), .mov (.const (.int .i64 0)), none⟩,
    ⟨(some 5), .mov (.const (.int .i64 0)), none⟩] [0, 1, 2])
  (.seq (.region [⟨(some 11), .mov (.tmp 0), none⟩,
    ⟨(some 12), .call (.const (.fn F.varint_Get [] [])) [(.tmp 11)], none⟩,
    ⟨(some 10), .mov (.tmp 12), none⟩,
    ⟨(some 13), .extract (.tmp 10) 0, none⟩,
    ⟨(some 14), .extract (.tmp 10) 1, none⟩,
    ⟨(some 15), .extract (.tmp 10) 2, none⟩,
    ⟨(some 6), .mov (.tmp 13), none⟩,
    ⟨(some 7), .mov (.tmp 14), none⟩,
    ⟨(some 8), .mov (.tmp 15), none⟩] [0, 1, 2, 6, 7, 8])
  (.seq (.block 0 (.seq (.region [⟨(some 17), .mov (.tmp 8), none⟩,
    ⟨(some 18), .bin .neq (.tmp 17) (.const (.int .i64 0)), none⟩,
    ⟨(some 16), .mov (.tmp 18), none⟩] [0, 1, 2, 6, 7, 8, 16])
  (.cond (.tmp 16) (.seq (.region [⟨(some 19), .mov (.tmp 8), none⟩,
    ⟨(some 4), .mov (.const (.int .i64 0)), none⟩,
    ⟨(some 5), .mov (.tmp 19), none⟩] [4, 5])
  (.ret)) (.seq (.region [⟨(some 21), .mov (.tmp 6), none⟩,
    ⟨(some 22), .load none (.tmp 1), none⟩,
    ⟨(some 23), .maxmin true (.tmp 22) (.const (.int .i64 0)), none⟩,
    ⟨(some 24), .conv .u64 (.tmp 23), none⟩,
    ⟨(some 25), .bin .gtr (.tmp 21) (.tmp 24), none⟩,
    ⟨(some 20), .mov (.tmp 25), none⟩] [0, 2, 6, 7, 20])
  (.cond (.tmp 20) (.seq (.region [⟨(some 4), .mov (.const (.int .i64 0)), none⟩,
    ⟨(some 5), .mov (.const (.int .i64 6)), none⟩] [4, 5])
  (.ret)) (.seq (.region [⟨(some 27), .mov (.tmp 6), none⟩,
    ⟨(some 28), .mov (.tmp 0), none⟩,
    ⟨(some 29), .len .slice (.tmp 28), none⟩,
    ⟨(some 30), .mov (.tmp 7), none⟩,
    ⟨(some 31), .bin .sub (.tmp 29) (.tmp 30), none⟩,
    ⟨(some 32), .conv .u64 (.tmp 31), none⟩,
    ⟨(some 33), .bin .gtr (.tmp 27) (.tmp 32), none⟩,
    ⟨(some 26), .mov (.tmp 33), none⟩] [0, 2, 6, 7, 26])
  (.cond (.tmp 26) (.seq (.region [⟨(some 4), .mov (.const (.int .i64 0)), none⟩,
    ⟨(some 5), .mov (.const (.int .i64 4)), none⟩] [4, 5])
  (.ret)) (.skip))))))))
  (.seq (.region [⟨(some 34), .mov (.tmp 7), none⟩,
    ⟨(some 35), .mov (.tmp 6), none⟩,
    ⟨(some 36), .conv .i64 (.tmp 35), none⟩,
    ⟨(some 37), .bin .add (.tmp 34) (.tmp 36), none⟩,
    ⟨(some 9), .mov (.tmp 37), none⟩] [0, 2, 7, 9])
  (.seq (.draw lens_Lens_Field_1.d0 lens_Lens_Field_1.d0b [[0, 1, 2, 3, 4, 5, 6, 7]] [] [9])
  (.seq (.region [⟨(some 45), .mov (.tmp 9), none⟩,
    ⟨(some 4), .mov (.tmp 45), none⟩,
    ⟨(some 5), .mov (.const (.int .i64 0)), none⟩] [4, 5])
  (.ret))))))
def lens_Lens_Field_1 : AFun := ⟨46, 3, [.tmp 4, .tmp 5], lens_Lens_Field_1.body⟩
def pen_Pen_Raw.d0 : List AOper := [⟨(some 9), .mov (.tmp 0), none⟩,
    ⟨(some 10), .nilc (.tmp 9), none⟩,
    ⟨(some 11), .field 0 (.tmp 10), none⟩,
    ⟨(some 12), .field 2 (.tmp 11), none⟩,
    ⟨(some 13), .load none (.tmp 12), none⟩,
    ⟨(some 14), .mov (.tmp 13), none⟩,
    ⟨(some 15), .mov (.tmp 1), some (14, false)⟩,
    ⟨(some 16), .len .slice (.tmp 15), some (14, false)⟩,
    ⟨(some 17), .mov (.tmp 0), some (14, false)⟩,
    ⟨(some 18), .nilc (.tmp 17), some (14, false)⟩,
    ⟨(some 19), .field 0 (.tmp 18), some (14, false)⟩,
    ⟨(some 20), .field 1 (.tmp 19), some (14, false)⟩,
    ⟨(some 21), .load none (.tmp 20), some (14, false)⟩,
    ⟨(some 22), .mov (.tmp 0), some (14, false)⟩,
    ⟨(some 23), .nilc (.tmp 22), some (14, false)⟩,
    ⟨(some 24), .field 0 (.tmp 23), some (14, false)⟩,
    ⟨(some 25), .field 0 (.tmp 24), some (14, false)⟩,
    ⟨(some 26), .load none (.tmp 25), some (14, false)⟩,
    ⟨(some 27), .len .slice (.tmp 26), some (14, false)⟩,
    ⟨(some 28), .bin .sub (.tmp 21) (.tmp 27), some (14, false)⟩,
    ⟨(some 29), .bin .gtr (.tmp 16) (.tmp 28), some (14, false)⟩,
    ⟨(some 30), .pick (.tmp 14) (.const (.bool true)) (.tmp 29), none⟩,
    ⟨(some 8), .mov (.tmp 30), none⟩]
def pen_Pen_Raw.d0b : List (List Nat) := [[], [0], [0, 1], [0, 1, 2], [0, 1, 2, 3], [0, 1, 2, 3, 4], [0, 1, 2, 3, 4, 5], [0, 1, 2, 3, 4, 5, 6], [0, 1, 2, 3, 4, 5], [0, 1, 2, 3, 4, 5, 8], [0, 1, 2, 3, 4, 5, 8, 9], [0, 1, 2, 3, 4, 5, 8, 9, 10], [0, 1, 2, 3, 4, 5, 8, 9, 10, 11], [0, 1, 2, 3, 4, 5], [0, 1, 2, 3, 4, 5, 13], [0, 1, 2, 3, 4, 5, 13, 14], [0, 1, 2, 3, 4, 5, 13, 14, 15], [0, 1, 2, 3, 4, 5, 13, 14, 15, 16], [0, 1, 2, 3, 4, 5, 13, 14, 15, 16, 17], [0, 1, 2, 3, 4, 5, 8, 9, 10, 11, 12, 13, 14, 15, 16, 17, 18], [0, 1, 2, 3, 4, 5, 6, 7, 8, 9, 10, 11, 12, 13, 14, 15, 16, 17, 18, 19], [0, 1, 2, 3, 4, 5, 6, 7, 8, 9, 10, 11, 12, 13, 14, 15, 16, 17, 18, 19, 20], [0, 1, 2, 3, 4, 5, 6, 7, 8, 9, 10, 11, 12, 13, 14, 15, 16, 17, 18, 19, 20, 21]]
def pen_Pen_Raw.body : ACode := .seq (.region [⟨(some 4), .mov (.const (.int .i64 0)), none⟩] [0, 1])
  (.seq (.block 0 (.seq (.region [⟨(some 6), .mov (.tmp 0), none⟩,
    ⟨(some 7), .eq false .ptr (.tmp 6) (.const .nilp), none⟩,
    ⟨(some 5), .mov (.tmp 7), none⟩] [0, 1, 5])
  (.cond (.tmp 5) (.seq (.region [⟨(some 4), .mov (.const (.int .i64 1)), none⟩] [4])
  (.ret)) (.seq (.draw pen_Pen_Raw.d0 pen_Pen_Raw.d0b [[0, 1, 2, 3, 4, 5, 6, 7, 8, 9, 10, 11, 12, 13, 14, 15, 16, 17, 18, 19, 20, 21, 22]] [] [0, 1, 8])
  (.cond (.tmp 8) (.seq (.region [⟨(some 31), .mov (.tmp 0), none⟩,
    ⟨(some 32), .nilc (.tmp 31), none⟩,
    ⟨(some 33), .field 0 (.tmp 32), none⟩,
    ⟨(some 34), .field 2 (.tmp 33), none⟩,
    ⟨none, .store 1 (.tmp 34) (.const (.bool true)), none⟩] [])
  (.seq (.region [⟨(some 4), .mov (.const (.int .i64 2)), none⟩] [4])
  (.ret))) (.skip))))))
  (.seq (.region [⟨(some 35), .mov (.tmp 0), none⟩,
    ⟨(some 36), .mov (.tmp 0), none⟩,
    ⟨(some 37), .nilc (.tmp 36), none⟩,
    ⟨(some 38), .field 0 (.tmp 37), none⟩,
    ⟨(some 39), .field 0 (.tmp 38), none⟩,
    ⟨(some 40), .load none (.tmp 39), none⟩,
    ⟨(some 41), .mov (.tmp 1), none⟩,
    ⟨(some 42), .append T.uint8 1 1 (.tmp 40) (.tmp 41), none⟩,
    ⟨(some 43), .nilc (.tmp 35), none⟩,
    ⟨(some 44), .field 0 (.tmp 43), none⟩,
    ⟨(some 45), .field 0 (.tmp 44), none⟩,
    ⟨none, .store 1 (.tmp 45) (.tmp 42), none⟩] [])
  (.seq (.region [⟨(some 4), .mov (.const (.int .i64 0)), none⟩] [4])
  (.ret))))
def pen_Pen_Raw : AFun := ⟨46, 2, [.tmp 4], pen_Pen_Raw.body⟩
def varint_Put.b0 : ACode := .seq (.seq (.region [⟨(some 12), .mov (.tmp 5), none⟩,
    ⟨(some 13), .bin .geq (.tmp 12) (.const (.int .u64 128)), none⟩] [3, 5, 6, 7, 8, 13])
  (.cond (.tmp 13) (.skip) (.exit 2)))
  (.seq (.block 3 (.region [⟨(some 16), .mov (.tmp 3), none⟩,
    ⟨(some 17), .mov (.tmp 5), none⟩,
    ⟨(some 18), .conv .u8 (.tmp 17), none⟩,
    ⟨(some 19), .bin .or (.tmp 18) (.const (.int .u8 128)), none⟩,
    ⟨(some 20), .lit T.uint8 1 1 [(.int .u8 0)] [(0, 1, (.tmp 19))], none⟩,
    ⟨(some 21), .append T.uint8 1 1 (.tmp 16) (.tmp 20), none⟩,
    ⟨(some 3), .mov (.tmp 21), none⟩] [3, 5, 6, 7, 8]))
  (.region [⟨(some 14), .mov (.tmp 5), none⟩,
    ⟨(some 15), .bin .shr (.tmp 14) (.const (.int .u64 7)), none⟩,
    ⟨(some 5), .mov (.tmp 15), none⟩] [3, 5, 6, 7, 8]))
def varint_Put.b1 : ACode := .seq (.region [⟨(some 9), .bin .lss (.tmp 8) (.tmp 7), none⟩] [3, 6, 7, 8, 9])
  (.seq (.cond (.tmp 9) (.skip) (.exit 0))
  (.seq (.block 1 (.seq (.region [⟨(some 10), .idx 1 none (.tmp 6) (.tmp 8), none⟩,
    ⟨(some 11), .load none (.tmp 10), none⟩,
    ⟨(some 5), .mov (.tmp 11), none⟩] [3, 5, 6, 7, 8])
  (.seq (.block 2 (.loop varint_Put.b0))
  (.region [⟨(some 22), .mov (.tmp 3), none⟩,
    ⟨(some 23), .mov (.tmp 5), none⟩,
    ⟨(some 24), .conv .u8 (.tmp 23), none⟩,
    ⟨(some 25), .lit T.uint8 1 1 [(.int .u8 0)] [(0, 1, (.tmp 24))], none⟩,
    ⟨(some 26), .append T.uint8 1 1 (.tmp 22) (.tmp 25), none⟩,
    ⟨(some 3), .mov (.tmp 26), none⟩] [3, 6, 7, 8]))))
  (.region [⟨(some 27), .bin .add (.tmp 8) (.const (.int .i64 1)), none⟩,
    ⟨(some 8), .mov (.tmp 27), none⟩] [3, 6, 7, 8])))
def varint_Put.body : ACode := .seq (.region [⟨(some 2), .mov (.const .nils), none⟩] [0])
  (.seq (.region [⟨(some 3), .mov (.const .nils), none⟩] [0, 3])
  (.seq (.seq (.region [⟨(some 6), .mov (.tmp 0), none⟩,
    ⟨(some 7), .len .slice (.tmp 6), none⟩,
    ⟨(some 8), .mov (.const (.int .i64 0)), none⟩] [3, 6, 7, 8])
  (.block 0 (.loop varint_Put.b1)))
  (.seq (.region [⟨(some 28), .mov (.tmp 3), none⟩,
    ⟨(some 2), .mov (.tmp 28), none⟩] [2])
  (.ret))))
def varint_Put : AFun := ⟨29, 1, [.tmp 2], varint_Put.body⟩
def varint_Zig.body : ACode := .seq (.region [⟨(some 2), .mov (.const (.int .u64 0)), none⟩] [0])
  (.seq (.region [⟨(some 3), .mov (.tmp 0), none⟩,
    ⟨(some 4), .conv .u64 (.tmp 3), none⟩,
    ⟨(some 5), .bin .shl (.tmp 4) (.const (.int .u64 1)), none⟩,
    ⟨(some 6), .mov (.tmp 0), none⟩,
    ⟨(some 7), .bin .shr (.tmp 6) (.const (.int .u64 63)), none⟩,
    ⟨(some 8), .conv .u64 (.tmp 7), none⟩,
    ⟨(some 9), .bin .xor (.tmp 5) (.tmp 8), none⟩,
    ⟨(some 2), .mov (.tmp 9), none⟩] [2])
  (.ret))
def varint_Zig : AFun := ⟨10, 1, [.tmp 2], varint_Zig.body⟩
theorem cuneiformlaw19_SchemaBack_code : okFun Try.prog F.cuneiformlaw19_SchemaBack cuneiformlaw19_SchemaBack = true := by kernel_rfl
theorem schema_Turn_code : okFun Try.prog F.schema_Turn schema_Turn = true := by kernel_rfl
theorem cuneiformlaw19_known_code : okFun Try.prog F.cuneiformlaw19_known cuneiformlaw19_known = true := by kernel_rfl
theorem cuneiformref01_Same_code : okFun Try.prog F.cuneiformref01_Same cuneiformref01_Same = true := by kernel_rfl
theorem schema_Versions_code : okFun Try.prog F.schema_Versions schema_Versions = true := by kernel_rfl
theorem msg_Same_code : okFun Try.prog F.msg_Same msg_Same = true := by kernel_rfl
theorem schema_Best_code : okFun Try.prog F.schema_Best schema_Best = true := by kernel_rfl
theorem schema_Lost_code : okFun Try.prog F.schema_Lost schema_Lost = true := by kernel_rfl
theorem schema_is_code : okFun Try.prog F.schema_is schema_is = true := by kernel_rfl
theorem body_Decode_code : okFun Try.prog F.body_Decode body_Decode = true := by kernel_rfl
theorem body_Encode_code : okFun Try.prog F.body_Encode body_Encode = true := by kernel_rfl
theorem msg_Project_code : okFun Try.prog F.msg_Project msg_Project = true := by kernel_rfl
theorem schema_Versions_1_code : okFun Try.prog F.schema_Versions_1 schema_Versions_1 = true := by kernel_rfl
theorem slices_Equal_msg_Point_msg_Point_code : okFun Try.prog F.slices_Equal_msg_Point_msg_Point slices_Equal_msg_Point_msg_Point = true := by kernel_rfl
theorem slices_Equal_int_int_code : okFun Try.prog F.slices_Equal_int_int slices_Equal_int_int = true := by kernel_rfl
theorem msg_Check_code : okFun Try.prog F.msg_Check msg_Check = true := by kernel_rfl
theorem schema_Lost_1_code : okFun Try.prog F.schema_Lost_1 schema_Lost_1 = true := by kernel_rfl
theorem field_Of_code : okFun Try.prog F.field_Of field_Of = true := by kernel_rfl
theorem field_Word_code : okFun Try.prog F.field_Word field_Word = true := by kernel_rfl
theorem lens_New_code : okFun Try.prog F.lens_New lens_New = true := by kernel_rfl
theorem field_All_code : okFun Try.prog F.field_All field_All = true := by kernel_rfl
theorem body_reader_field_code : okFun Try.prog F.body_reader_field body_reader_field = true := by kernel_rfl
theorem body_reader_err_code : okFun Try.prog F.body_reader_err body_reader_err = true := by kernel_rfl
theorem lens_Lens_End_code : okFun Try.prog F.lens_Lens_End lens_Lens_End = true := by kernel_rfl
theorem body_check_code : okFun Try.prog F.body_check body_check = true := by kernel_rfl
theorem body_Parts_code : okFun Try.prog F.body_Parts body_Parts = true := by kernel_rfl
theorem msg_Copy_code : okFun Try.prog F.msg_Copy msg_Copy = true := by kernel_rfl
theorem msg_without_code : okFun Try.prog F.msg_without msg_without = true := by kernel_rfl
theorem msg_wrong_code : okFun Try.prog F.msg_wrong msg_wrong = true := by kernel_rfl
theorem field_robot_code : okFun Try.prog F.field_robot field_robot = true := by kernel_rfl
theorem field_All_1_code : okFun Try.prog F.field_All_1 field_All_1 = true := by kernel_rfl
theorem lens_Lens_Number_code : okFun Try.prog F.lens_Lens_Number lens_Lens_Number = true := by kernel_rfl
theorem body_reader_note_code : okFun Try.prog F.body_reader_note body_reader_note = true := by kernel_rfl
theorem lens_Lens_Signed_code : okFun Try.prog F.lens_Lens_Signed lens_Lens_Signed = true := by kernel_rfl
theorem body_reader_points_code : okFun Try.prog F.body_reader_points body_reader_points = true := by kernel_rfl
theorem body_reader_cells_code : okFun Try.prog F.body_reader_cells body_reader_cells = true := by kernel_rfl
theorem body_reader_text_code : okFun Try.prog F.body_reader_text body_reader_text = true := by kernel_rfl
theorem lens_Lens_Err_code : okFun Try.prog F.lens_Lens_Err lens_Lens_Err = true := by kernel_rfl
theorem lens_Lens_Left_code : okFun Try.prog F.lens_Lens_Left lens_Lens_Left = true := by kernel_rfl
theorem body_Parts_1_code : okFun Try.prog F.body_Parts_1 body_Parts_1 = true := by kernel_rfl
theorem body_part_code : okFun Try.prog F.body_part body_part = true := by kernel_rfl
theorem slices_Clone_msg_Point_msg_Point_code : okFun Try.prog F.slices_Clone_msg_Point_msg_Point slices_Clone_msg_Point_msg_Point = true := by kernel_rfl
theorem slices_Clone_int_int_code : okFun Try.prog F.slices_Clone_int_int slices_Clone_int_int = true := by kernel_rfl
theorem msg_path_code : okFun Try.prog F.msg_path msg_path = true := by kernel_rfl
theorem msg_cells_code : okFun Try.prog F.msg_cells msg_cells = true := by kernel_rfl
theorem msg_text_code : okFun Try.prog F.msg_text msg_text = true := by kernel_rfl
theorem lens_Lens_read_code : okFun Try.prog F.lens_Lens_read lens_Lens_read = true := by kernel_rfl
theorem lens_Lens_Number_1_code : okFun Try.prog F.lens_Lens_Number_1 lens_Lens_Number_1 = true := by kernel_rfl
theorem varint_Get_code : okFun Try.prog F.varint_Get varint_Get = true := by kernel_rfl
theorem lens_Lens_Signed_1_code : okFun Try.prog F.lens_Lens_Signed_1 lens_Lens_Signed_1 = true := by kernel_rfl
theorem varint_Zag_code : okFun Try.prog F.varint_Zag varint_Zag = true := by kernel_rfl
theorem body_reader_points_1_code : okFun Try.prog F.body_reader_points_1 body_reader_points_1 = true := by kernel_rfl
theorem body_reader_count_code : okFun Try.prog F.body_reader_count body_reader_count = true := by kernel_rfl
theorem lens_Lens_Field_code : okFun Try.prog F.lens_Lens_Field lens_Lens_Field = true := by kernel_rfl
theorem lens_Lens_left_code : okFun Try.prog F.lens_Lens_left lens_Lens_left = true := by kernel_rfl
theorem pen_New_code : okFun Try.prog F.pen_New pen_New = true := by kernel_rfl
theorem pen_Pen_Number_code : okFun Try.prog F.pen_Pen_Number pen_Pen_Number = true := by kernel_rfl
theorem pen_Pen_Signed_code : okFun Try.prog F.pen_Pen_Signed pen_Pen_Signed = true := by kernel_rfl
theorem body_points_code : okFun Try.prog F.body_points body_points = true := by kernel_rfl
theorem body_cells_code : okFun Try.prog F.body_cells body_cells = true := by kernel_rfl
theorem pen_Pen_Field_code : okFun Try.prog F.pen_Pen_Field pen_Pen_Field = true := by kernel_rfl
theorem pen_Pen_Bytes_code : okFun Try.prog F.pen_Pen_Bytes pen_Pen_Bytes = true := by kernel_rfl
theorem msg_many_code : okFun Try.prog F.msg_many msg_many = true := by kernel_rfl
theorem lens_Lens_Field_1_code : okFun Try.prog F.lens_Lens_Field_1 lens_Lens_Field_1 = true := by kernel_rfl
theorem pen_Pen_Raw_code : okFun Try.prog F.pen_Pen_Raw pen_Pen_Raw = true := by kernel_rfl
theorem varint_Put_code : okFun Try.prog F.varint_Put varint_Put = true := by kernel_rfl
theorem varint_Zig_code : okFun Try.prog F.varint_Zig varint_Zig = true := by kernel_rfl
def codes : CT := [(F.cuneiformlaw19_SchemaBack, cuneiformlaw19_SchemaBack), (F.schema_Turn, schema_Turn), (F.cuneiformlaw19_known, cuneiformlaw19_known), (F.cuneiformref01_Same, cuneiformref01_Same), (F.schema_Versions, schema_Versions), (F.msg_Same, msg_Same), (F.schema_Best, schema_Best), (F.schema_Lost, schema_Lost), (F.schema_is, schema_is), (F.body_Decode, body_Decode), (F.body_Encode, body_Encode), (F.msg_Project, msg_Project), (F.schema_Versions_1, schema_Versions_1), (F.slices_Equal_msg_Point_msg_Point, slices_Equal_msg_Point_msg_Point), (F.slices_Equal_int_int, slices_Equal_int_int), (F.msg_Check, msg_Check), (F.schema_Lost_1, schema_Lost_1), (F.field_Of, field_Of), (F.field_Word, field_Word), (F.lens_New, lens_New), (F.field_All, field_All), (F.body_reader_field, body_reader_field), (F.body_reader_err, body_reader_err), (F.lens_Lens_End, lens_Lens_End), (F.body_check, body_check), (F.body_Parts, body_Parts), (F.msg_Copy, msg_Copy), (F.msg_without, msg_without), (F.msg_wrong, msg_wrong), (F.field_robot, field_robot), (F.field_All_1, field_All_1), (F.lens_Lens_Number, lens_Lens_Number), (F.body_reader_note, body_reader_note), (F.lens_Lens_Signed, lens_Lens_Signed), (F.body_reader_points, body_reader_points), (F.body_reader_cells, body_reader_cells), (F.body_reader_text, body_reader_text), (F.lens_Lens_Err, lens_Lens_Err), (F.lens_Lens_Left, lens_Lens_Left), (F.body_Parts_1, body_Parts_1), (F.body_part, body_part), (F.slices_Clone_msg_Point_msg_Point, slices_Clone_msg_Point_msg_Point), (F.slices_Clone_int_int, slices_Clone_int_int), (F.msg_path, msg_path), (F.msg_cells, msg_cells), (F.msg_text, msg_text), (F.lens_Lens_read, lens_Lens_read), (F.lens_Lens_Number_1, lens_Lens_Number_1), (F.varint_Get, varint_Get), (F.lens_Lens_Signed_1, lens_Lens_Signed_1), (F.varint_Zag, varint_Zag), (F.body_reader_points_1, body_reader_points_1), (F.body_reader_count, body_reader_count), (F.lens_Lens_Field, lens_Lens_Field), (F.lens_Lens_left, lens_Lens_left), (F.pen_New, pen_New), (F.pen_Pen_Number, pen_Pen_Number), (F.pen_Pen_Signed, pen_Pen_Signed), (F.body_points, body_points), (F.body_cells, body_cells), (F.pen_Pen_Field, pen_Pen_Field), (F.pen_Pen_Bytes, pen_Pen_Bytes), (F.msg_many, msg_many), (F.lens_Lens_Field_1, lens_Lens_Field_1), (F.pen_Pen_Raw, pen_Pen_Raw), (F.varint_Put, varint_Put), (F.varint_Zig, varint_Zig)]
theorem codes_ok : AllOk Try.prog codes := ⟨cuneiformlaw19_SchemaBack_code, schema_Turn_code, cuneiformlaw19_known_code, cuneiformref01_Same_code, schema_Versions_code, msg_Same_code, schema_Best_code, schema_Lost_code, schema_is_code, body_Decode_code, body_Encode_code, msg_Project_code, schema_Versions_1_code, slices_Equal_msg_Point_msg_Point_code, slices_Equal_int_int_code, msg_Check_code, schema_Lost_1_code, field_Of_code, field_Word_code, lens_New_code, field_All_code, body_reader_field_code, body_reader_err_code, lens_Lens_End_code, body_check_code, body_Parts_code, msg_Copy_code, msg_without_code, msg_wrong_code, field_robot_code, field_All_1_code, lens_Lens_Number_code, body_reader_note_code, lens_Lens_Signed_code, body_reader_points_code, body_reader_cells_code, body_reader_text_code, lens_Lens_Err_code, lens_Lens_Left_code, body_Parts_1_code, body_part_code, slices_Clone_msg_Point_msg_Point_code, slices_Clone_int_int_code, msg_path_code, msg_cells_code, msg_text_code, lens_Lens_read_code, lens_Lens_Number_1_code, varint_Get_code, lens_Lens_Signed_1_code, varint_Zag_code, body_reader_points_1_code, body_reader_count_code, lens_Lens_Field_code, lens_Lens_left_code, pen_New_code, pen_Pen_Number_code, pen_Pen_Signed_code, body_points_code, body_cells_code, pen_Pen_Field_code, pen_Pen_Bytes_code, msg_many_code, lens_Lens_Field_1_code, pen_Pen_Raw_code, varint_Put_code, varint_Zig_code, trivial⟩
end Go.Proofs.Ytgjldipoagkncaa
