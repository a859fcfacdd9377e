/-
  The code that the statements of this seat reach, in the form of that machine, and that it is the program's. By an AI agent. No person has read it.
-/
import Derived.Test.YtiepeiconkjmeaaProg
import Derived.Test.YtiepeiconkjmeaaAm6
import Derived.KernelRfl

/-
  The code of this seat in the form of the abstract machine, and that it is the program's. Printed by a program (wip/am/gen.py, code.py). By an AI agent.
-/
namespace Go.Proofs.Ytiepeiconkjmeaa
open Go Go.Am
namespace F
def cuneiformlaw22_SendNil : FuncId := 5
def send_New : FuncId := 6
def cuneiformlaw22_known : FuncId := 7
def conf_CheckSender : FuncId := 8
def send_Sender_Each : FuncId := 10
def send_Sender_Send : FuncId := 11
def send_Sender_Next : FuncId := 13
def send_Sender_Sent : FuncId := 14
def send_Sender_Frames : FuncId := 16
def frame_Wire : FuncId := 17
def send_Sender_Conf : FuncId := 20
def send_Sender_Copy : FuncId := 21
def frame_New : FuncId := 22
def send_Sender_Each_1 : FuncId := 23
def frame_Codec_Pack : FuncId := 24
def body_Parts : FuncId := 25
def body_Encode : FuncId := 26
def cut_Frames : FuncId := 27
def conf_Room : FuncId := 28
def serial_Add : FuncId := 29
def cobs_Most : FuncId := 30
def cut_Count : FuncId := 31
def crc_New : FuncId := 32
def frame_Codec_Segment : FuncId := 33
def fence_Wrap : FuncId := 34
def body_Parts_1 : FuncId := 35
def body_check : FuncId := 36
def field_All : FuncId := 37
def body_part : FuncId := 38
def head_Check : FuncId := 39
def cut_Parts : FuncId := 40
def frame_Room : FuncId := 41
def crc_shift : FuncId := 42
def frame_Codec_Check : FuncId := 43
def head_Bytes : FuncId := 44
def cobs_Encode : FuncId := 45
def crc_Seal : FuncId := 46
def msg_Check : FuncId := 47
def field_All_1 : FuncId := 48
def field_Of : FuncId := 49
def pen_New : FuncId := 50
def pen_Pen_Number : FuncId := 51
def pen_Pen_Signed : FuncId := 52
def body_points : FuncId := 53
def body_cells : FuncId := 54
def pen_Pen_Field : FuncId := 55
def pen_Pen_Bytes : FuncId := 56
def head_wrong : FuncId := 57
def cut_Parts_1 : FuncId := 58
def cobs_Blocks : FuncId := 59
def crc_bytes : FuncId := 60
def crc_Table_Sum : FuncId := 61
def msg_wrong : FuncId := 62
def msg_without : FuncId := 63
def msg_Same : FuncId := 64
def field_robot : FuncId := 65
def pen_Pen_Raw : FuncId := 66
def varint_Put : FuncId := 67
def varint_Zig : FuncId := 68
def head_wrong_1 : FuncId := 69
def cobs_Blocks_1 : FuncId := 70
def cobs_block : FuncId := 71
def crc_Table_Begin : FuncId := 72
def crc_Table_Add : FuncId := 73
def crc_Table_End : FuncId := 74
def msg_path : FuncId := 75
def msg_cells : FuncId := 76
def msg_text : FuncId := 77
def slices_Equal_msg_Point_msg_Point : FuncId := 78
def slices_Equal_int_int : FuncId := 79
def msg_many : FuncId := 80
end F
namespace T
def int64 : TypeId := 2
def int : TypeId := 3
def uint8 : TypeId := 5
def conf_Sender : TypeId := 24
def sl_msg_Msg : TypeId := 25
def p_send_Sender : TypeId := 26
def api_Errno : TypeId := 27
def msg_Msg : TypeId := 36
def sl_uint8 : TypeId := 41
def sl_frame_Frame : TypeId := 49
def head_Head : TypeId := 54
def frame_Frame : TypeId := 56
def send_Sender : TypeId := 67
def frame_Codec : TypeId := 81
def func_string_sl_uint8_bool : TypeId := 85
def field_Field : TypeId := 91
def crc_Table : TypeId := 100
def uint64 : TypeId := 113
def n8_uint8 : TypeId := 124
def n4_uint8 : TypeId := 128
def pen_Pen : TypeId := 138
def msg_Point : TypeId := 144
end T
def cuneiformlaw22_SendNil.a0 : ACode := .skip
def cuneiformlaw22_SendNil.b0 : ACode := .block 1 (.region [⟨(some 31), .load none (.tmp 8), none⟩,
    ⟨(some 32), .bin .add (.tmp 31) (.const (.int .i64 1)), none⟩,
    ⟨none, .store 1 (.tmp 8) (.tmp 32), none⟩] [])
def cuneiformlaw22_SendNil.body : ACode := .seq (.region [⟨(some 1), .box T.msg_Msg (.tmp 0), none⟩,
    ⟨(some 2), .mov (.const (.bool false)), none⟩] [1, 2])
  (.seq (.region [⟨(some 3), .mov (.const .nilp), none⟩] [1, 2, 3])
  (.seq (.region [⟨(some 11), .mov (.tmp 3), none⟩,
    ⟨(some 12), .load (some 11) (.tmp 1), none⟩,
    ⟨(some 13), .call (.const (.fn F.send_Sender_Frames [] [])) [(.tmp 11), (.tmp 12)], none⟩,
    ⟨(some 10), .mov (.tmp 13), none⟩,
    ⟨(some 14), .extract (.tmp 10) 0, none⟩,
    ⟨(some 15), .extract (.tmp 10) 1, none⟩,
    ⟨(some 4), .mov (.tmp 14), none⟩,
    ⟨(some 5), .mov (.tmp 15), none⟩] [1, 2, 3, 4, 5])
  (.seq (.region [⟨(some 17), .mov (.tmp 3), none⟩,
    ⟨(some 18), .load (some 11) (.tmp 1), none⟩,
    ⟨(some 19), .call (.const (.fn F.send_Sender_Send [] [])) [(.tmp 17), (.tmp 18)], none⟩,
    ⟨(some 16), .mov (.tmp 19), none⟩,
    ⟨(some 20), .extract (.tmp 16) 0, none⟩,
    ⟨(some 21), .extract (.tmp 16) 1, none⟩,
    ⟨(some 6), .mov (.tmp 20), none⟩,
    ⟨(some 7), .mov (.tmp 21), none⟩] [1, 2, 3, 4, 5, 6, 7])
  (.seq (.region [⟨(some 8), .alloc T.int [(.int .i64 0)], none⟩,
    ⟨none, .store 1 (.tmp 8) (.const (.int .i64 0)), none⟩] [1, 2, 3, 4, 5, 6, 7, 8])
  (.seq (.region [⟨(some 22), .mov (.tmp 3), none⟩,
    ⟨(some 23), .load (some 11) (.tmp 1), none⟩,
    ⟨(some 24), .lit T.msg_Msg 11 1 [(.int .i64 0), (.int .i64 0), (.int .i64 0), (.int .i64 0), (.int .i64 0), (.int .i64 0), (.int .i64 0), .nils, .nils, (.str ⟨#[]⟩), (.str ⟨#[]⟩)] [(0, 11, (.tmp 23))], none⟩,
    ⟨(some 25), .call (.const (.fn F.send_Sender_Each [] [])) [(.tmp 22), (.tmp 24)], none⟩,
    ⟨(some 9), .mov (.tmp 25), none⟩] [2, 3, 4, 5, 6, 7, 8, 9])
  (.seq (.seq (.region [⟨(some 26), .mov (.tmp 9), none⟩,
    ⟨(some 27), .eq false .func (.tmp 26) (.const .nilf), none⟩] [2, 3, 4, 5, 6, 7, 8, 9, 27])
  (.cond (.tmp 27) (.seq (.region [⟨(some 2), .mov (.const (.bool false)), none⟩] [2])
  (.ret)) (.skip)))
  (.seq (.seq (.region [⟨(some 28), .mov (.tmp 9), none⟩] [2, 3, 4, 5, 6, 7, 8, 28])
  (.block 0 (.range (.tmp 28) [29, 30] cuneiformlaw22_SendNil.a0 cuneiformlaw22_SendNil.b0)))
  (.seq (.region [⟨(some 33), .call (.const (.fn F.cuneiformlaw22_known [] [])) [], none⟩,
    ⟨(some 34), .mov (.tmp 33), none⟩,
    ⟨(some 35), .mov (.tmp 4), some (34, true)⟩,
    ⟨(some 36), .len .slice (.tmp 35), some (34, true)⟩,
    ⟨(some 37), .bin .eql (.tmp 36) (.const (.int .i64 0)), some (34, true)⟩,
    ⟨(some 38), .pick (.tmp 34) (.tmp 37) (.const (.bool false)), none⟩,
    ⟨(some 39), .mov (.tmp 38), none⟩,
    ⟨(some 40), .mov (.tmp 5), some (39, true)⟩,
    ⟨(some 41), .bin .eql (.tmp 40) (.const (.int .i64 1)), some (39, true)⟩,
    ⟨(some 42), .pick (.tmp 39) (.tmp 41) (.const (.bool false)), none⟩,
    ⟨(some 43), .mov (.tmp 42), none⟩,
    ⟨(some 44), .mov (.tmp 6), some (43, true)⟩,
    ⟨(some 45), .len .slice (.tmp 44), some (43, true)⟩,
    ⟨(some 46), .bin .eql (.tmp 45) (.const (.int .i64 0)), some (43, true)⟩,
    ⟨(some 47), .pick (.tmp 43) (.tmp 46) (.const (.bool false)), none⟩,
    ⟨(some 48), .mov (.tmp 47), none⟩,
    ⟨(some 49), .mov (.tmp 7), some (48, true)⟩,
    ⟨(some 50), .bin .eql (.tmp 49) (.const (.int .i64 1)), some (48, true)⟩,
    ⟨(some 51), .pick (.tmp 48) (.tmp 50) (.const (.bool false)), none⟩,
    ⟨(some 52), .mov (.tmp 51), none⟩,
    ⟨(some 53), .load none (.tmp 8), some (52, true)⟩,
    ⟨(some 54), .bin .eql (.tmp 53) (.const (.int .i64 0)), some (52, true)⟩,
    ⟨(some 55), .pick (.tmp 52) (.tmp 54) (.const (.bool false)), none⟩,
    ⟨(some 56), .mov (.tmp 55), none⟩,
    ⟨(some 57), .mov (.tmp 3), some (56, true)⟩,
    ⟨(some 58), .call (.const (.fn F.send_Sender_Next [] [])) [(.tmp 57)], some (56, true)⟩,
    ⟨(some 59), .bin .eql (.tmp 58) (.const (.int .u32 0)), some (56, true)⟩,
    ⟨(some 60), .pick (.tmp 56) (.tmp 59) (.const (.bool false)), none⟩,
    ⟨(some 61), .mov (.tmp 60), none⟩,
    ⟨(some 62), .mov (.tmp 3), some (61, true)⟩,
    ⟨(some 63), .call (.const (.fn F.send_Sender_Sent [] [])) [(.tmp 62)], some (61, true)⟩,
    ⟨(some 64), .bin .eql (.tmp 63) (.const (.int .i64 0)), some (61, true)⟩,
    ⟨(some 65), .pick (.tmp 61) (.tmp 64) (.const (.bool false)), none⟩,
    ⟨(some 66), .mov (.tmp 65), none⟩,
    ⟨(some 67), .mov (.tmp 3), some (66, true)⟩,
    ⟨(some 68), .call (.const (.fn F.send_Sender_Conf [] [])) [(.tmp 67)], some (66, true)⟩,
    ⟨(some 69), .build [(.int .i64 0), (.int .i64 0), (.int .u32 0)] [], some (66, true)⟩,
    ⟨(some 70), .eq false (.cells [.int, .int, .int]) (.tmp 68) (.tmp 69), some (66, true)⟩,
    ⟨(some 71), .pick (.tmp 66) (.tmp 70) (.const (.bool false)), none⟩,
    ⟨(some 72), .mov (.tmp 71), none⟩,
    ⟨(some 73), .mov (.tmp 3), some (72, true)⟩,
    ⟨(some 74), .call (.const (.fn F.send_Sender_Copy [] [])) [(.tmp 73)], some (72, true)⟩,
    ⟨(some 75), .eq false .ptr (.tmp 74) (.const .nilp), some (72, true)⟩,
    ⟨(some 76), .pick (.tmp 72) (.tmp 75) (.const (.bool false)), none⟩,
    ⟨(some 2), .mov (.tmp 76), none⟩] [2])
  (.ret)))))))))
def cuneiformlaw22_SendNil : AFun := ⟨77, 1, [.tmp 2], cuneiformlaw22_SendNil.body⟩
def send_New.d0 : List AOper := [⟨(some 10), .load (some 3) (.tmp 1), none⟩,
    ⟨(some 11), .build [(.int .i64 0), (.int .i64 0), (.int .u32 0)] [(0, 3, (.tmp 10))], none⟩,
    ⟨(some 12), .call (.const (.fn F.frame_New [] [])) [], none⟩,
    ⟨(some 13), .field 2 (.tmp 1), none⟩,
    ⟨(some 14), .load none (.tmp 13), none⟩,
    ⟨(some 15), .build [(.int .i64 0), (.int .i64 0), (.int .u32 0), .nilp, (.int .u32 0), (.int .i64 0)] [(0, 3, (.tmp 11)), (3, 1, (.tmp 12)), (4, 1, (.tmp 14)), (5, 1, (.const (.int .i64 0)))], none⟩,
    ⟨(some 16), .box T.send_Sender (.tmp 15), none⟩,
    ⟨(some 2), .mov (.tmp 16), none⟩,
    ⟨(some 3), .mov (.const (.int .i64 0)), none⟩]
def send_New.d0b : List (List Nat) := [[], [0], [], [], [3], [0, 1, 2, 3, 4], [0, 1, 2, 3, 4, 5], [0, 1, 2, 3, 4, 5, 6], [0, 1, 2, 3, 4, 5, 6, 7]]
def send_New.body : ACode := .seq (.region [⟨(some 1), .box T.conf_Sender (.tmp 0), none⟩,
    ⟨(some 2), .mov (.const .nilp), none⟩,
    ⟨(some 3), .mov (.const (.int .i64 0)), none⟩] [1])
  (.seq (.seq (.region [⟨(some 5), .load (some 3) (.tmp 1), none⟩,
    ⟨(some 6), .call (.const (.fn F.conf_CheckSender [] [])) [(.tmp 5)], none⟩,
    ⟨(some 4), .mov (.tmp 6), none⟩] [1, 4])
  (.seq (.region [⟨(some 7), .mov (.tmp 4), none⟩,
    ⟨(some 8), .bin .neq (.tmp 7) (.const (.int .i64 0)), none⟩] [1, 4, 8])
  (.cond (.tmp 8) (.seq (.region [⟨(some 9), .mov (.tmp 4), none⟩,
    ⟨(some 2), .mov (.const .nilp), none⟩,
    ⟨(some 3), .mov (.tmp 9), none⟩] [2, 3])
  (.ret)) (.skip))))
  (.seq (.draw send_New.d0 send_New.d0b [[0, 1, 3, 4, 2, 5, 6, 7, 8]] [(2, 0), (2, 4)] [2, 3])
  (.ret)))
def send_New : AFun := ⟨17, 1, [.tmp 2, .tmp 3], send_New.body⟩
def cuneiformlaw22_known.body : ACode := .seq (.region [⟨(some 0), .mov (.const (.bool false)), none⟩] [])
  (.seq (.region [⟨(some 6), .build [(.int .i64 0), (.int .i64 0), (.int .u32 0)] [(0, 1, (.const (.int .i64 1))), (1, 1, (.const (.int .i64 16))), (2, 1, (.const (.int .u32 7)))], none⟩,
    ⟨(some 7), .call (.const (.fn F.send_New [] [])) [(.tmp 6)], none⟩,
    ⟨(some 5), .mov (.tmp 7), none⟩,
    ⟨(some 8), .extract (.tmp 5) 0, none⟩,
    ⟨(some 9), .extract (.tmp 5) 1, none⟩,
    ⟨(some 1), .mov (.tmp 8), none⟩,
    ⟨(some 2), .mov (.tmp 9), none⟩] [1, 2])
  (.seq (.seq (.region [⟨(some 10), .mov (.tmp 2), none⟩,
    ⟨(some 11), .bin .neq (.tmp 10) (.const (.int .i64 0)), none⟩,
    ⟨(some 12), .mov (.tmp 11), none⟩,
    ⟨(some 13), .mov (.tmp 1), some (12, false)⟩,
    ⟨(some 14), .eq false .ptr (.tmp 13) (.const .nilp), some (12, false)⟩,
    ⟨(some 15), .pick (.tmp 12) (.const (.bool true)) (.tmp 14), none⟩] [1, 15])
  (.cond (.tmp 15) (.seq (.region [⟨(some 0), .mov (.const (.bool false)), none⟩] [0])
  (.ret)) (.skip)))
  (.seq (.region [⟨(some 17), .mov (.tmp 1), none⟩,
    ⟨(some 18), .build [(.int .i64 0), (.int .i64 0), (.int .i64 0), (.int .i64 0), (.int .i64 0), (.int .i64 0)] [(0, 1, (.const (.int .i64 1))), (1, 1, (.const (.int .i64 2)))], none⟩,
    ⟨(some 19), .build [(.int .i64 0), (.int .i64 0), (.int .i64 0), (.int .i64 0), (.int .i64 0), (.int .i64 0), (.int .i64 0), .nils, .nils, (.str ⟨#[]⟩), (.str ⟨#[]⟩)] [(0, 1, (.const (.int .i64 2))), (1, 6, (.tmp 18))], none⟩,
    ⟨(some 20), .call (.const (.fn F.send_Sender_Send [] [])) [(.tmp 17), (.tmp 19)], none⟩,
    ⟨(some 16), .mov (.tmp 20), none⟩,
    ⟨(some 21), .extract (.tmp 16) 0, none⟩,
    ⟨(some 22), .extract (.tmp 16) 1, none⟩,
    ⟨(some 3), .mov (.tmp 21), none⟩,
    ⟨(some 4), .mov (.tmp 22), none⟩] [1, 3, 4])
  (.seq (.region [⟨(some 23), .mov (.tmp 4), none⟩,
    ⟨(some 24), .bin .eql (.tmp 23) (.const (.int .i64 0)), none⟩,
    ⟨(some 25), .mov (.tmp 24), none⟩,
    ⟨(some 26), .mov (.tmp 3), some (25, true)⟩,
    ⟨(some 27), .len .slice (.tmp 26), some (25, true)⟩,
    ⟨(some 28), .bin .eql (.tmp 27) (.const (.int .i64 32)), some (25, true)⟩,
    ⟨(some 29), .pick (.tmp 25) (.tmp 28) (.const (.bool false)), none⟩,
    ⟨(some 30), .mov (.tmp 29), none⟩,
    ⟨(some 31), .mov (.tmp 1), some (30, true)⟩,
    ⟨(some 32), .call (.const (.fn F.send_Sender_Next [] [])) [(.tmp 31)], some (30, true)⟩,
    ⟨(some 33), .bin .eql (.tmp 32) (.const (.int .u32 8)), some (30, true)⟩,
    ⟨(some 34), .pick (.tmp 30) (.tmp 33) (.const (.bool false)), none⟩,
    ⟨(some 35), .mov (.tmp 34), none⟩,
    ⟨(some 36), .mov (.tmp 1), some (35, true)⟩,
    ⟨(some 37), .call (.const (.fn F.send_Sender_Sent [] [])) [(.tmp 36)], some (35, true)⟩,
    ⟨(some 38), .bin .eql (.tmp 37) (.const (.int .i64 1)), some (35, true)⟩,
    ⟨(some 39), .pick (.tmp 35) (.tmp 38) (.const (.bool false)), none⟩,
    ⟨(some 0), .mov (.tmp 39), none⟩] [0])
  (.ret)))))
def cuneiformlaw22_known : AFun := ⟨40, 0, [.tmp 0], cuneiformlaw22_known.body⟩
def conf_CheckSender.body : ACode := .seq (.region [⟨(some 1), .box T.conf_Sender (.tmp 0), none⟩,
    ⟨(some 2), .mov (.const (.int .i64 0)), none⟩] [1])
  (.seq (.block 0 (.seq (.region [⟨(some 4), .field 0 (.tmp 1), none⟩,
    ⟨(some 5), .load none (.tmp 4), none⟩,
    ⟨(some 6), .bin .neq (.tmp 5) (.const (.int .i64 1)), none⟩,
    ⟨(some 7), .mov (.tmp 6), none⟩,
    ⟨(some 8), .field 0 (.tmp 1), some (7, true)⟩,
    ⟨(some 9), .load none (.tmp 8), some (7, true)⟩,
    ⟨(some 10), .bin .neq (.tmp 9) (.const (.int .i64 2)), some (7, true)⟩,
    ⟨(some 11), .pick (.tmp 7) (.tmp 10) (.const (.bool false)), none⟩,
    ⟨(some 3), .mov (.tmp 11), none⟩] [1, 3])
  (.cond (.tmp 3) (.seq (.region [⟨(some 2), .mov (.const (.int .i64 10)), none⟩] [2])
  (.ret)) (.seq (.region [⟨(some 13), .field 1 (.tmp 1), none⟩,
    ⟨(some 14), .load none (.tmp 13), none⟩,
    ⟨(some 15), .bin .lss (.tmp 14) (.const (.int .i64 16)), none⟩,
    ⟨(some 16), .mov (.tmp 15), none⟩,
    ⟨(some 17), .field 1 (.tmp 1), some (16, false)⟩,
    ⟨(some 18), .load none (.tmp 17), some (16, false)⟩,
    ⟨(some 19), .bin .gtr (.tmp 18) (.const (.int .i64 257)), some (16, false)⟩,
    ⟨(some 20), .pick (.tmp 16) (.const (.bool true)) (.tmp 19), none⟩,
    ⟨(some 12), .mov (.tmp 20), none⟩] [12])
  (.cond (.tmp 12) (.seq (.region [⟨(some 2), .mov (.const (.int .i64 5)), none⟩] [2])
  (.ret)) (.skip))))))
  (.seq (.region [⟨(some 2), .mov (.const (.int .i64 0)), none⟩] [2])
  (.ret)))
def conf_CheckSender : AFun := ⟨21, 1, [.tmp 2], conf_CheckSender.body⟩
def send_Sender_Each.body : ACode := .seq (.region [⟨(some 2), .box T.p_send_Sender (.tmp 0), none⟩,
    ⟨(some 3), .box T.sl_msg_Msg (.tmp 1), none⟩,
    ⟨(some 4), .mov (.const .nilf), none⟩] [2, 3])
  (.seq (.region [⟨(some 5), .mkfn F.send_Sender_Each_1 [] [(.tmp 3), (.tmp 2)], none⟩,
    ⟨(some 4), .mov (.tmp 5), none⟩] [4])
  (.ret))
def send_Sender_Each : AFun := ⟨6, 2, [.tmp 4], send_Sender_Each.body⟩
def send_Sender_Send.body : ACode := .seq (.region [⟨(some 3), .box T.msg_Msg (.tmp 1), none⟩,
    ⟨(some 4), .mov (.const .nils), none⟩,
    ⟨(some 5), .mov (.const (.int .i64 0)), none⟩] [0, 3])
  (.seq (.region [⟨(some 9), .mov (.tmp 0), none⟩,
    ⟨(some 10), .load (some 11) (.tmp 3), none⟩,
    ⟨(some 11), .call (.const (.fn F.send_Sender_Frames [] [])) [(.tmp 9), (.tmp 10)], none⟩,
    ⟨(some 8), .mov (.tmp 11), none⟩,
    ⟨(some 12), .extract (.tmp 8) 0, none⟩,
    ⟨(some 13), .extract (.tmp 8) 1, none⟩,
    ⟨(some 6), .mov (.tmp 12), none⟩,
    ⟨(some 7), .mov (.tmp 13), none⟩] [0, 6, 7])
  (.seq (.seq (.region [⟨(some 14), .mov (.tmp 7), none⟩,
    ⟨(some 15), .bin .neq (.tmp 14) (.const (.int .i64 0)), none⟩] [0, 6, 7, 15])
  (.cond (.tmp 15) (.seq (.region [⟨(some 16), .mov (.tmp 7), none⟩,
    ⟨(some 4), .mov (.const .nils), none⟩,
    ⟨(some 5), .mov (.tmp 16), none⟩] [4, 5])
  (.ret)) (.skip)))
  (.seq (.region [⟨(some 17), .mov (.tmp 0), none⟩,
    ⟨(some 18), .nilc (.tmp 17), none⟩,
    ⟨(some 19), .field 3 (.tmp 18), none⟩,
    ⟨(some 20), .load none (.tmp 19), none⟩,
    ⟨(some 21), .mov (.tmp 6), none⟩,
    ⟨(some 22), .call (.const (.fn F.frame_Codec_Pack [] [])) [(.tmp 20), (.tmp 21)], none⟩,
    ⟨(some 23), .extract (.tmp 22) 0, none⟩,
    ⟨(some 24), .extract (.tmp 22) 1, none⟩,
    ⟨(some 4), .mov (.tmp 23), none⟩,
    ⟨(some 5), .mov (.tmp 24), none⟩] [4, 5])
  (.ret))))
def send_Sender_Send : AFun := ⟨25, 2, [.tmp 4, .tmp 5], send_Sender_Send.body⟩
def send_Sender_Next.body : ACode := .seq (.region [⟨(some 2), .mov (.const (.int .u32 0)), none⟩] [0])
  (.seq (.seq (.region [⟨(some 3), .mov (.tmp 0), none⟩,
    ⟨(some 4), .eq false .ptr (.tmp 3) (.const .nilp), none⟩] [0, 4])
  (.cond (.tmp 4) (.seq (.region [⟨(some 2), .mov (.const (.int .u32 0)), none⟩] [2])
  (.ret)) (.skip)))
  (.seq (.region [⟨(some 5), .mov (.tmp 0), none⟩,
    ⟨(some 6), .nilc (.tmp 5), none⟩,
    ⟨(some 7), .field 4 (.tmp 6), none⟩,
    ⟨(some 8), .load none (.tmp 7), none⟩,
    ⟨(some 2), .mov (.tmp 8), none⟩] [2])
  (.ret)))
def send_Sender_Next : AFun := ⟨9, 1, [.tmp 2], send_Sender_Next.body⟩
def send_Sender_Sent.body : ACode := .seq (.region [⟨(some 2), .mov (.const (.int .i64 0)), none⟩] [0])
  (.seq (.seq (.region [⟨(some 3), .mov (.tmp 0), none⟩,
    ⟨(some 4), .eq false .ptr (.tmp 3) (.const .nilp), none⟩] [0, 4])
  (.cond (.tmp 4) (.seq (.region [⟨(some 2), .mov (.const (.int .i64 0)), none⟩] [2])
  (.ret)) (.skip)))
  (.seq (.region [⟨(some 5), .mov (.tmp 0), none⟩,
    ⟨(some 6), .nilc (.tmp 5), none⟩,
    ⟨(some 7), .field 5 (.tmp 6), none⟩,
    ⟨(some 8), .load none (.tmp 7), none⟩,
    ⟨(some 2), .mov (.tmp 8), none⟩] [2])
  (.ret)))
def send_Sender_Sent : AFun := ⟨9, 1, [.tmp 2], send_Sender_Sent.body⟩
def send_Sender_Frames.d0 : List AOper := [⟨(some 12), .load (some 11) (.tmp 3), none⟩,
    ⟨(some 13), .mov (.tmp 0), none⟩,
    ⟨(some 14), .nilc (.tmp 13), none⟩,
    ⟨(some 15), .field 0 (.tmp 14), none⟩,
    ⟨(some 16), .field 0 (.tmp 15), none⟩,
    ⟨(some 17), .field 0 (.tmp 16), none⟩,
    ⟨(some 18), .load none (.tmp 17), none⟩,
    ⟨(some 19), .call (.const (.fn F.body_Encode [] [])) [(.tmp 12), (.tmp 18)], none⟩,
    ⟨(some 11), .mov (.tmp 19), none⟩,
    ⟨(some 20), .extract (.tmp 11) 0, none⟩,
    ⟨(some 21), .extract (.tmp 11) 1, none⟩,
    ⟨(some 6), .mov (.tmp 20), none⟩,
    ⟨(some 7), .mov (.tmp 21), none⟩]
def send_Sender_Frames.d0b : List (List Nat) := [[], [], [1], [1, 2], [1, 2, 3], [1, 2, 3, 4], [1, 2, 3, 4, 5], [0, 1, 2, 3, 4, 5, 6], [0, 1, 2, 3, 4, 5, 6, 7], [0, 1, 2, 3, 4, 5, 6, 7, 8], [0, 1, 2, 3, 4, 5, 6, 7, 8], [0, 1, 2, 3, 4, 5, 6, 7, 8, 9], [0, 1, 2, 3, 4, 5, 6, 7, 8, 9, 10, 11]]
def send_Sender_Frames.d1 : List AOper := [⟨(some 26), .mov (.tmp 0), none⟩,
    ⟨(some 27), .nilc (.tmp 26), none⟩,
    ⟨(some 28), .field 0 (.tmp 27), none⟩,
    ⟨(some 29), .field 0 (.tmp 28), none⟩,
    ⟨(some 30), .field 0 (.tmp 29), none⟩,
    ⟨(some 31), .load none (.tmp 30), none⟩,
    ⟨(some 32), .field 0 (.tmp 3), none⟩,
    ⟨(some 33), .load none (.tmp 32), none⟩,
    ⟨(some 34), .mov (.tmp 0), none⟩,
    ⟨(some 35), .nilc (.tmp 34), none⟩,
    ⟨(some 36), .field 4 (.tmp 35), none⟩,
    ⟨(some 37), .load none (.tmp 36), none⟩,
    ⟨(some 38), .build [(.int .i64 0), (.int .i64 0), (.int .u32 0), (.int .i64 0), (.int .i64 0)] [(0, 1, (.tmp 31)), (1, 1, (.tmp 33)), (2, 1, (.tmp 37))], none⟩,
    ⟨(some 39), .mov (.tmp 6), none⟩,
    ⟨(some 40), .mov (.tmp 0), none⟩,
    ⟨(some 41), .nilc (.tmp 40), none⟩,
    ⟨(some 42), .field 0 (.tmp 41), none⟩,
    ⟨(some 43), .field 0 (.tmp 42), none⟩,
    ⟨(some 44), .load (some 3) (.tmp 43), none⟩,
    ⟨(some 45), .call (.const (.fn F.conf_Room [] [])) [(.tmp 44)], none⟩,
    ⟨(some 46), .call (.const (.fn F.cut_Frames [] [])) [(.tmp 38), (.tmp 39), (.tmp 45)], none⟩,
    ⟨(some 25), .mov (.tmp 46), none⟩,
    ⟨(some 47), .extract (.tmp 25) 0, none⟩,
    ⟨(some 48), .extract (.tmp 25) 1, none⟩,
    ⟨(some 8), .mov (.tmp 47), none⟩,
    ⟨(some 7), .mov (.tmp 48), none⟩]
def send_Sender_Frames.d1b : List (List Nat) := [[], [0], [0, 1], [0, 1, 2], [0, 1, 2, 3], [0, 1, 2, 3, 4], [], [6], [], [8], [8, 9], [8, 9, 10], [0, 1, 2, 3, 4, 5, 6, 7, 8, 9, 10, 11], [], [], [14], [14, 15], [14, 15, 16], [14, 15, 16, 17], [14, 15, 16, 17, 18], [0, 1, 2, 3, 4, 5, 6, 7, 8, 9, 10, 11, 12, 13, 14, 15, 16, 17, 18, 19], [0, 1, 2, 3, 4, 5, 6, 7, 8, 9, 10, 11, 12, 13, 14, 15, 16, 17, 18, 19, 20], [0, 1, 2, 3, 4, 5, 6, 7, 8, 9, 10, 11, 12, 13, 14, 15, 16, 17, 18, 19, 20, 21], [0, 1, 2, 3, 4, 5, 6, 7, 8, 9, 10, 11, 12, 13, 14, 15, 16, 17, 18, 19, 20, 21], [0, 1, 2, 3, 4, 5, 6, 7, 8, 9, 10, 11, 12, 13, 14, 15, 16, 17, 18, 19, 20, 21, 22], [0, 1, 2, 3, 4, 5, 6, 7, 8, 9, 10, 11, 12, 13, 14, 15, 16, 17, 18, 19, 20, 21, 22, 23, 24]]
def send_Sender_Frames.body : ACode := .seq (.region [⟨(some 3), .box T.msg_Msg (.tmp 1), none⟩,
    ⟨(some 4), .mov (.const .nils), none⟩,
    ⟨(some 5), .mov (.const (.int .i64 0)), none⟩] [0, 3])
  (.seq (.seq (.region [⟨(some 9), .mov (.tmp 0), none⟩,
    ⟨(some 10), .eq false .ptr (.tmp 9) (.const .nilp), none⟩] [0, 3, 10])
  (.cond (.tmp 10) (.seq (.region [⟨(some 4), .mov (.const .nils), none⟩,
    ⟨(some 5), .mov (.const (.int .i64 1)), none⟩] [4, 5])
  (.ret)) (.skip)))
  (.seq (.draw send_Sender_Frames.d0 send_Sender_Frames.d0b [[0, 1, 2, 3, 4, 5, 6, 7, 8, 9, 10, 11, 12]] [] [0, 3, 6, 7])
  (.seq (.seq (.region [⟨(some 22), .mov (.tmp 7), none⟩,
    ⟨(some 23), .bin .neq (.tmp 22) (.const (.int .i64 0)), none⟩] [0, 3, 6, 7, 23])
  (.cond (.tmp 23) (.seq (.region [⟨(some 24), .mov (.tmp 7), none⟩,
    ⟨(some 4), .mov (.const .nils), none⟩,
    ⟨(some 5), .mov (.tmp 24), none⟩] [4, 5])
  (.ret)) (.skip)))
  (.seq (.draw send_Sender_Frames.d1 send_Sender_Frames.d1b [[0, 1, 2, 3, 4, 5, 6, 7, 8, 9, 10, 11, 12, 13, 14, 15, 16, 17, 18, 19, 20, 21, 22, 23, 24, 25]] [(19, 5), (19, 7), (19, 11)] [0, 7, 8])
  (.seq (.seq (.region [⟨(some 49), .mov (.tmp 7), none⟩,
    ⟨(some 50), .bin .neq (.tmp 49) (.const (.int .i64 0)), none⟩] [0, 7, 8, 50])
  (.cond (.tmp 50) (.seq (.region [⟨(some 51), .mov (.tmp 7), none⟩,
    ⟨(some 4), .mov (.const .nils), none⟩,
    ⟨(some 5), .mov (.tmp 51), none⟩] [4, 5])
  (.ret)) (.skip)))
  (.seq (.region [⟨(some 52), .mov (.tmp 0), none⟩,
    ⟨(some 53), .mov (.tmp 0), none⟩,
    ⟨(some 54), .nilc (.tmp 53), none⟩,
    ⟨(some 55), .field 4 (.tmp 54), none⟩,
    ⟨(some 56), .load none (.tmp 55), none⟩,
    ⟨(some 57), .call (.const (.fn F.serial_Add [] [])) [(.tmp 56), (.const (.int .i64 1))], none⟩,
    ⟨(some 58), .nilc (.tmp 52), none⟩,
    ⟨(some 59), .field 4 (.tmp 58), none⟩,
    ⟨none, .store 1 (.tmp 59) (.tmp 57), none⟩] [0, 8])
  (.seq (.region [⟨(some 60), .mov (.tmp 0), none⟩,
    ⟨(some 61), .nilc (.tmp 60), none⟩,
    ⟨(some 62), .field 5 (.tmp 61), none⟩,
    ⟨(some 63), .load none (.tmp 62), none⟩,
    ⟨(some 64), .bin .add (.tmp 63) (.const (.int .i64 1)), none⟩,
    ⟨(some 65), .nilc (.tmp 60), none⟩,
    ⟨(some 66), .field 5 (.tmp 65), none⟩,
    ⟨none, .store 1 (.tmp 66) (.tmp 64), none⟩] [8])
  (.seq (.region [⟨(some 67), .mov (.tmp 8), none⟩,
    ⟨(some 4), .mov (.tmp 67), none⟩,
    ⟨(some 5), .mov (.const (.int .i64 0)), none⟩] [4, 5])
  (.ret)))))))))
def send_Sender_Frames : AFun := ⟨68, 2, [.tmp 4, .tmp 5], send_Sender_Frames.body⟩
def frame_Wire.body : ACode := .seq (.region [⟨(some 2), .mov (.const (.int .i64 0)), none⟩] [0])
  (.seq (.seq (.region [⟨(some 3), .mov (.tmp 0), none⟩,
    ⟨(some 4), .bin .lss (.tmp 3) (.const (.int .i64 1)), none⟩,
    ⟨(some 5), .mov (.tmp 4), none⟩,
    ⟨(some 6), .mov (.tmp 0), some (5, false)⟩,
    ⟨(some 7), .bin .gtr (.tmp 6) (.const (.int .i64 242)), some (5, false)⟩,
    ⟨(some 8), .pick (.tmp 5) (.const (.bool true)) (.tmp 7), none⟩] [0, 8])
  (.cond (.tmp 8) (.seq (.region [⟨(some 2), .mov (.const (.int .i64 0)), none⟩] [2])
  (.ret)) (.skip)))
  (.seq (.region [⟨(some 9), .mov (.tmp 0), none⟩,
    ⟨(some 10), .bin .add (.tmp 9) (.const (.int .i64 12)), none⟩,
    ⟨(some 11), .call (.const (.fn F.cobs_Most [] [])) [(.tmp 10)], none⟩,
    ⟨(some 12), .bin .add (.tmp 11) (.const (.int .i64 2)), none⟩,
    ⟨(some 2), .mov (.tmp 12), none⟩] [2])
  (.ret)))
def frame_Wire : AFun := ⟨13, 1, [.tmp 2], frame_Wire.body⟩
def send_Sender_Conf.body : ACode := .seq (.region [⟨(some 2), .alloc T.conf_Sender [(.int .i64 0), (.int .i64 0), (.int .u32 0)], none⟩] [0, 2])
  (.seq (.seq (.region [⟨(some 3), .mov (.tmp 0), none⟩,
    ⟨(some 4), .eq false .ptr (.tmp 3) (.const .nilp), none⟩] [0, 2, 4])
  (.cond (.tmp 4) (.seq (.region [⟨(some 5), .build [(.int .i64 0), (.int .i64 0), (.int .u32 0)] [], none⟩,
    ⟨none, .store 3 (.tmp 2) (.tmp 5), none⟩] [2])
  (.ret)) (.skip)))
  (.seq (.region [⟨(some 6), .mov (.tmp 0), none⟩,
    ⟨(some 7), .nilc (.tmp 6), none⟩,
    ⟨(some 8), .field 0 (.tmp 7), none⟩,
    ⟨(some 9), .field 0 (.tmp 8), none⟩,
    ⟨(some 10), .load (some 3) (.tmp 9), none⟩,
    ⟨none, .store 3 (.tmp 2) (.tmp 10), none⟩] [2])
  (.ret)))
def send_Sender_Conf : AFun := ⟨11, 1, [.cell 2 (some 3)], send_Sender_Conf.body⟩
def send_Sender_Copy.body : ACode := .seq (.region [⟨(some 2), .mov (.const .nilp), none⟩] [0])
  (.seq (.seq (.region [⟨(some 4), .mov (.tmp 0), none⟩,
    ⟨(some 5), .eq false .ptr (.tmp 4) (.const .nilp), none⟩] [0, 5])
  (.cond (.tmp 5) (.seq (.region [⟨(some 2), .mov (.const .nilp), none⟩] [2])
  (.ret)) (.skip)))
  (.seq (.region [⟨(some 6), .mov (.tmp 0), none⟩,
    ⟨(some 7), .nilc (.tmp 6), none⟩,
    ⟨(some 8), .load (some 6) (.tmp 7), none⟩,
    ⟨(some 3), .alloc T.send_Sender [(.int .i64 0), (.int .i64 0), (.int .u32 0), .nilp, (.int .u32 0), (.int .i64 0)], none⟩,
    ⟨none, .store 6 (.tmp 3) (.tmp 8), none⟩] [3])
  (.seq (.region [⟨(some 2), .mov (.tmp 3), none⟩] [2])
  (.ret))))
def send_Sender_Copy : AFun := ⟨9, 1, [.tmp 2], send_Sender_Copy.body⟩
def frame_New.body : ACode := .seq (.region [⟨(some 0), .mov (.const .nilp), none⟩] [])
  (.seq (.region [⟨(some 1), .call (.const (.fn F.crc_New [] [])) [], none⟩,
    ⟨(some 2), .build [.nilp] [(0, 1, (.tmp 1))], none⟩,
    ⟨(some 3), .box T.frame_Codec (.tmp 2), none⟩,
    ⟨(some 0), .mov (.tmp 3), none⟩] [0])
  (.ret))
def frame_New : AFun := ⟨4, 0, [.tmp 0], frame_New.body⟩
def send_Sender_Each_1.b0 : ACode := .seq (.region [⟨(some 9), .bin .lss (.tmp 8) (.tmp 7), none⟩] [0, 2, 6, 7, 8, 9])
  (.seq (.cond (.tmp 9) (.skip) (.exit 0))
  (.seq (.block 1 (.seq (.region [⟨(some 10), .idx 11 none (.tmp 6) (.tmp 8), none⟩,
    ⟨(some 11), .load (some 11) (.tmp 10), none⟩,
    ⟨(some 5), .alloc T.msg_Msg [(.int .i64 0), (.int .i64 0), (.int .i64 0), (.int .i64 0), (.int .i64 0), (.int .i64 0), (.int .i64 0), .nils, .nils, (.str ⟨#[]⟩), (.str ⟨#[]⟩)], none⟩,
    ⟨none, .store 11 (.tmp 5) (.tmp 11), none⟩] [0, 2, 5, 6, 7, 8])
  (.seq (.region [⟨(some 12), .load none (.tmp 2), none⟩,
    ⟨(some 13), .eq false .ptr (.tmp 12) (.const .nilp), none⟩,
    ⟨(some 14), .mov (.tmp 13), none⟩,
    ⟨(some 15), .mov (.tmp 0), some (14, false)⟩,
    ⟨(some 16), .load none (.tmp 2), some (14, false)⟩,
    ⟨(some 17), .load (some 11) (.tmp 5), some (14, false)⟩,
    ⟨(some 18), .call (.const (.fn F.send_Sender_Send [] [])) [(.tmp 16), (.tmp 17)], some (14, false)⟩,
    ⟨(some 19), .extract (.tmp 18) 0, some (14, false)⟩,
    ⟨(some 20), .extract (.tmp 18) 1, some (14, false)⟩,
    ⟨(some 21), .call (.tmp 15) [(.tmp 19), (.tmp 20)], some (14, false)⟩,
    ⟨(some 22), .un .not (.tmp 21), some (14, false)⟩,
    ⟨(some 23), .pick (.tmp 14) (.const (.bool true)) (.tmp 22), none⟩] [0, 2, 6, 7, 8, 23])
  (.cond (.tmp 23) (.exit 0) (.skip)))))
  (.region [⟨(some 24), .bin .add (.tmp 8) (.const (.int .i64 1)), none⟩,
    ⟨(some 8), .mov (.tmp 24), none⟩] [0, 2, 6, 7, 8])))
def send_Sender_Each_1.body : ACode := .scope (.seq (.skip)
  (.seq (.region [⟨(some 6), .load none (.tmp 1), none⟩,
    ⟨(some 7), .len .slice (.tmp 6), none⟩,
    ⟨(some 8), .mov (.const (.int .i64 0)), none⟩] [0, 2, 6, 7, 8])
  (.block 0 (.loop send_Sender_Each_1.b0))))
def send_Sender_Each_1 : AFun := ⟨25, 3, [], send_Sender_Each_1.body⟩
def frame_Codec_Pack.b0 : ACode := .seq (.region [⟨(some 17), .bin .lss (.tmp 16) (.tmp 15), none⟩] [0, 6, 7, 14, 15, 16, 17])
  (.seq (.cond (.tmp 17) (.skip) (.exit 0))
  (.seq (.block 1 (.seq (.region [⟨(some 18), .idx 6 none (.tmp 14) (.tmp 16), none⟩,
    ⟨(some 19), .load (some 6) (.tmp 18), none⟩,
    ⟨(some 9), .alloc T.frame_Frame [(.int .i64 0), (.int .i64 0), (.int .u32 0), (.int .i64 0), (.int .i64 0), .nils], none⟩,
    ⟨none, .store 6 (.tmp 9) (.tmp 19), none⟩] [0, 6, 7, 9, 14, 15, 16])
  (.seq (.region [⟨(some 21), .mov (.tmp 0), none⟩,
    ⟨(some 22), .load (some 6) (.tmp 9), none⟩,
    ⟨(some 23), .call (.const (.fn F.frame_Codec_Segment [] [])) [(.tmp 21), (.tmp 22)], none⟩,
    ⟨(some 20), .mov (.tmp 23), none⟩,
    ⟨(some 24), .extract (.tmp 20) 0, none⟩,
    ⟨(some 25), .extract (.tmp 20) 1, none⟩,
    ⟨(some 10), .mov (.tmp 24), none⟩,
    ⟨(some 11), .mov (.tmp 25), none⟩] [0, 6, 7, 10, 11, 14, 15, 16])
  (.seq (.seq (.region [⟨(some 26), .mov (.tmp 11), none⟩,
    ⟨(some 27), .bin .neq (.tmp 26) (.const (.int .i64 0)), none⟩] [0, 6, 7, 10, 11, 14, 15, 16, 27])
  (.cond (.tmp 27) (.seq (.region [⟨(some 28), .mov (.tmp 11), none⟩,
    ⟨(some 6), .mov (.const .nils), none⟩,
    ⟨(some 7), .mov (.tmp 28), none⟩] [6, 7])
  (.exit 0)) (.skip)))
  (.region [⟨(some 29), .mov (.tmp 6), none⟩,
    ⟨(some 30), .mov (.tmp 10), none⟩,
    ⟨(some 31), .lit T.sl_uint8 1 1 [.nils] [(0, 1, (.tmp 30))], none⟩,
    ⟨(some 32), .append T.sl_uint8 1 24 (.tmp 29) (.tmp 31), none⟩,
    ⟨(some 6), .mov (.tmp 32), none⟩] [0, 6, 7, 14, 15, 16])))))
  (.region [⟨(some 33), .bin .add (.tmp 16) (.const (.int .i64 1)), none⟩,
    ⟨(some 16), .mov (.tmp 33), none⟩] [0, 6, 7, 14, 15, 16])))
def frame_Codec_Pack.body : ACode := .seq (.region [⟨(some 4), .mov (.const .nils), none⟩,
    ⟨(some 5), .mov (.const (.int .i64 0)), none⟩] [0, 1])
  (.scope (.seq (.seq (.region [⟨(some 12), .mov (.tmp 0), none⟩,
    ⟨(some 13), .eq false .ptr (.tmp 12) (.const .nilp), none⟩] [0, 1, 13])
  (.cond (.tmp 13) (.seq (.region [⟨(some 4), .mov (.const .nils), none⟩,
    ⟨(some 5), .mov (.const (.int .i64 1)), none⟩] [4, 5])
  (.ret)) (.skip)))
  (.seq (.region [⟨(some 6), .mov (.const .nils), none⟩] [0, 1, 6])
  (.seq (.region [⟨(some 7), .mov (.const (.int .i64 0)), none⟩] [0, 1, 6, 7])
  (.seq (.skip)
  (.seq (.seq (.region [⟨(some 14), .mov (.tmp 1), none⟩,
    ⟨(some 15), .len .slice (.tmp 14), none⟩,
    ⟨(some 16), .mov (.const (.int .i64 0)), none⟩] [0, 6, 7, 14, 15, 16])
  (.block 0 (.loop frame_Codec_Pack.b0)))
  (.seq (.region [⟨(some 34), .mov (.tmp 6), none⟩,
    ⟨(some 35), .call (.const (.fn F.fence_Wrap [] [])) [(.tmp 34)], none⟩,
    ⟨(some 36), .mov (.tmp 7), none⟩,
    ⟨(some 4), .mov (.tmp 35), none⟩,
    ⟨(some 5), .mov (.tmp 36), none⟩] [4, 5])
  (.ret))))))))
def frame_Codec_Pack : AFun := ⟨37, 2, [.tmp 4, .tmp 5], frame_Codec_Pack.body⟩
def body_Parts.body : ACode := .seq (.region [⟨(some 2), .box T.msg_Msg (.tmp 0), none⟩,
    ⟨(some 3), .box T.int (.tmp 1), none⟩,
    ⟨(some 4), .mov (.const .nilf), none⟩] [2, 3])
  (.seq (.region [⟨(some 5), .mkfn F.body_Parts_1 [] [(.tmp 2), (.tmp 3)], none⟩,
    ⟨(some 4), .mov (.tmp 5), none⟩] [4])
  (.ret))
def body_Parts : AFun := ⟨6, 2, [.tmp 4], body_Parts.body⟩
def body_Encode.a0 : ACode := .region [⟨(some 9), .mov (.tmp 20), none⟩] [7, 9]
def body_Encode.b0 : ACode := .block 1 (.region [⟨(some 21), .load none (.tmp 7), none⟩,
    ⟨(some 22), .mov (.tmp 9), none⟩,
    ⟨(some 23), .append T.uint8 1 1 (.tmp 21) (.tmp 22), none⟩,
    ⟨none, .store 1 (.tmp 7) (.tmp 23), none⟩] [])
def body_Encode.body : ACode := .seq (.region [⟨(some 2), .box T.msg_Msg (.tmp 0), none⟩,
    ⟨(some 4), .mov (.const .nils), none⟩,
    ⟨(some 5), .mov (.const (.int .i64 0)), none⟩] [1, 2, 4, 5])
  (.seq (.seq (.region [⟨(some 10), .load (some 11) (.tmp 2), none⟩,
    ⟨(some 11), .mov (.tmp 1), none⟩,
    ⟨(some 12), .call (.const (.fn F.body_check [] [])) [(.tmp 10), (.tmp 11)], none⟩,
    ⟨(some 6), .mov (.tmp 12), none⟩] [1, 2, 4, 5, 6])
  (.seq (.region [⟨(some 13), .mov (.tmp 6), none⟩,
    ⟨(some 14), .bin .neq (.tmp 13) (.const (.int .i64 0)), none⟩] [1, 2, 4, 5, 6, 14])
  (.cond (.tmp 14) (.seq (.region [⟨(some 15), .mov (.tmp 6), none⟩,
    ⟨(some 4), .mov (.const .nils), none⟩,
    ⟨(some 5), .mov (.tmp 15), none⟩] [4, 5])
  (.ret)) (.skip))))
  (.seq (.region [⟨(some 7), .alloc T.sl_uint8 [.nils], none⟩] [1, 2, 4, 5, 7])
  (.seq (.seq (.region [⟨(some 16), .load (some 11) (.tmp 2), none⟩,
    ⟨(some 17), .mov (.tmp 1), none⟩,
    ⟨(some 18), .call (.const (.fn F.body_Parts [] [])) [(.tmp 16), (.tmp 17)], none⟩] [4, 5, 7, 18])
  (.block 0 (.range (.tmp 18) [19, 20] body_Encode.a0 body_Encode.b0)))
  (.seq (.region [⟨(some 24), .load none (.tmp 7), none⟩,
    ⟨(some 4), .mov (.tmp 24), none⟩,
    ⟨(some 5), .mov (.const (.int .i64 0)), none⟩] [4, 5])
  (.ret)))))
def body_Encode : AFun := ⟨25, 2, [.tmp 4, .tmp 5], body_Encode.body⟩
def cut_Frames.a0 : ACode := .seq (.region [⟨(some 10), .mov (.tmp 41), none⟩] [3, 9, 10, 42])
  (.region [⟨(some 11), .mov (.tmp 42), none⟩] [3, 9, 10, 11])
def cut_Frames.b0 : ACode := .block 2 (.seq (.region [⟨(some 43), .mov (.tmp 10), none⟩,
    ⟨(some 44), .field 3 (.tmp 3), none⟩,
    ⟨none, .store 1 (.tmp 44) (.tmp 43), none⟩] [3, 9, 11])
  (.region [⟨(some 45), .load none (.tmp 9), none⟩,
    ⟨(some 46), .load (some 5) (.tmp 3), none⟩,
    ⟨(some 47), .mov (.tmp 11), none⟩,
    ⟨(some 48), .build [(.int .i64 0), (.int .i64 0), (.int .u32 0), (.int .i64 0), (.int .i64 0), .nils] [(0, 5, (.tmp 46)), (5, 1, (.tmp 47))], none⟩,
    ⟨(some 49), .lit T.frame_Frame 6 1 [(.int .i64 0), (.int .i64 0), (.int .u32 0), (.int .i64 0), (.int .i64 0), .nils] [(0, 6, (.tmp 48))], none⟩,
    ⟨(some 50), .append T.frame_Frame 6 64 (.tmp 45) (.tmp 49), none⟩,
    ⟨none, .store 1 (.tmp 9) (.tmp 50), none⟩] []))
def cut_Frames.body : ACode := .seq (.region [⟨(some 3), .box T.head_Head (.tmp 0), none⟩,
    ⟨(some 6), .mov (.const .nils), none⟩,
    ⟨(some 7), .mov (.const (.int .i64 0)), none⟩] [1, 2, 3, 6, 7])
  (.seq (.block 0 (.seq (.region [⟨(some 13), .mov (.tmp 1), none⟩,
    ⟨(some 14), .len .slice (.tmp 13), none⟩,
    ⟨(some 15), .bin .eql (.tmp 14) (.const (.int .i64 0)), none⟩,
    ⟨(some 12), .mov (.tmp 15), none⟩] [1, 2, 3, 6, 7, 12])
  (.cond (.tmp 12) (.seq (.region [⟨(some 6), .mov (.const .nils), none⟩,
    ⟨(some 7), .mov (.const (.int .i64 13)), none⟩] [6, 7])
  (.ret)) (.seq (.region [⟨(some 17), .mov (.tmp 1), none⟩,
    ⟨(some 18), .len .slice (.tmp 17), none⟩,
    ⟨(some 19), .bin .gtr (.tmp 18) (.const (.int .i64 192)), none⟩,
    ⟨(some 16), .mov (.tmp 19), none⟩] [1, 2, 3, 6, 7, 16])
  (.cond (.tmp 16) (.seq (.region [⟨(some 6), .mov (.const .nils), none⟩,
    ⟨(some 7), .mov (.const (.int .i64 2)), none⟩] [6, 7])
  (.ret)) (.seq (.region [⟨(some 21), .mov (.tmp 2), none⟩,
    ⟨(some 22), .bin .lss (.tmp 21) (.const (.int .i64 1)), none⟩,
    ⟨(some 23), .mov (.tmp 22), none⟩,
    ⟨(some 24), .mov (.tmp 2), some (23, false)⟩,
    ⟨(some 25), .bin .gtr (.tmp 24) (.const (.int .i64 242)), some (23, false)⟩,
    ⟨(some 26), .pick (.tmp 23) (.const (.bool true)) (.tmp 25), none⟩,
    ⟨(some 20), .mov (.tmp 26), none⟩] [1, 2, 3, 6, 7, 20])
  (.cond (.tmp 20) (.seq (.region [⟨(some 6), .mov (.const .nils), none⟩,
    ⟨(some 7), .mov (.const (.int .i64 5)), none⟩] [6, 7])
  (.ret)) (.skip))))))))
  (.seq (.region [⟨(some 27), .mov (.tmp 1), none⟩,
    ⟨(some 28), .len .slice (.tmp 27), none⟩,
    ⟨(some 29), .mov (.tmp 2), none⟩,
    ⟨(some 30), .call (.const (.fn F.cut_Count [] [])) [(.tmp 28), (.tmp 29)], none⟩,
    ⟨(some 31), .field 3 (.tmp 3), none⟩,
    ⟨none, .store 1 (.tmp 31) (.const (.int .i64 0)), none⟩,
    ⟨(some 32), .field 4 (.tmp 3), none⟩,
    ⟨none, .store 1 (.tmp 32) (.tmp 30), none⟩] [1, 2, 3, 6, 7])
  (.seq (.seq (.region [⟨(some 33), .load (some 5) (.tmp 3), none⟩,
    ⟨(some 34), .call (.const (.fn F.head_Check [] [])) [(.tmp 33)], none⟩,
    ⟨(some 8), .mov (.tmp 34), none⟩] [1, 2, 3, 6, 7, 8])
  (.seq (.region [⟨(some 35), .mov (.tmp 8), none⟩,
    ⟨(some 36), .bin .neq (.tmp 35) (.const (.int .i64 0)), none⟩] [1, 2, 3, 6, 7, 8, 36])
  (.cond (.tmp 36) (.seq (.region [⟨(some 37), .mov (.tmp 8), none⟩,
    ⟨(some 6), .mov (.const .nils), none⟩,
    ⟨(some 7), .mov (.tmp 37), none⟩] [6, 7])
  (.ret)) (.skip))))
  (.seq (.region [⟨(some 9), .alloc T.sl_frame_Frame [.nils], none⟩] [1, 2, 3, 6, 7, 9])
  (.seq (.seq (.region [⟨(some 38), .mov (.tmp 1), none⟩,
    ⟨(some 39), .mov (.tmp 2), none⟩,
    ⟨(some 40), .call (.const (.fn F.cut_Parts [] [])) [(.tmp 38), (.tmp 39)], none⟩] [3, 6, 7, 9, 40])
  (.block 1 (.range (.tmp 40) [41, 42] cut_Frames.a0 cut_Frames.b0)))
  (.seq (.region [⟨(some 51), .load none (.tmp 9), none⟩,
    ⟨(some 6), .mov (.tmp 51), none⟩,
    ⟨(some 7), .mov (.const (.int .i64 0)), none⟩] [6, 7])
  (.ret)))))))
def cut_Frames : AFun := ⟨52, 3, [.tmp 6, .tmp 7], cut_Frames.body⟩
def conf_Room.body : ACode := .seq (.region [⟨(some 1), .box T.conf_Sender (.tmp 0), none⟩,
    ⟨(some 2), .mov (.const (.int .i64 0)), none⟩] [1])
  (.seq (.seq (.region [⟨(some 3), .load (some 3) (.tmp 1), none⟩,
    ⟨(some 4), .call (.const (.fn F.conf_CheckSender [] [])) [(.tmp 3)], none⟩,
    ⟨(some 5), .bin .neq (.tmp 4) (.const (.int .i64 0)), none⟩] [1, 5])
  (.cond (.tmp 5) (.seq (.region [⟨(some 2), .mov (.const (.int .i64 0)), none⟩] [2])
  (.ret)) (.skip)))
  (.seq (.region [⟨(some 6), .field 1 (.tmp 1), none⟩,
    ⟨(some 7), .load none (.tmp 6), none⟩,
    ⟨(some 8), .call (.const (.fn F.frame_Room [] [])) [(.tmp 7)], none⟩,
    ⟨(some 2), .mov (.tmp 8), none⟩] [2])
  (.ret)))
def conf_Room : AFun := ⟨9, 1, [.tmp 2], conf_Room.body⟩
def serial_Add.body : ACode := .seq (.region [⟨(some 4), .mov (.const (.int .u32 0)), none⟩] [0, 1])
  (.seq (.region [⟨(some 5), .mov (.tmp 0), none⟩,
    ⟨(some 6), .mov (.tmp 1), none⟩,
    ⟨(some 7), .conv .u32 (.tmp 6), none⟩,
    ⟨(some 8), .bin .add (.tmp 5) (.tmp 7), none⟩,
    ⟨(some 4), .mov (.tmp 8), none⟩] [4])
  (.ret))
def serial_Add : AFun := ⟨9, 2, [.tmp 4], serial_Add.body⟩
def cobs_Most.body : ACode := .seq (.region [⟨(some 2), .mov (.const (.int .i64 0)), none⟩] [0])
  (.seq (.seq (.region [⟨(some 4), .mov (.tmp 0), none⟩,
    ⟨(some 5), .bin .lss (.tmp 4) (.const (.int .i64 0)), none⟩] [0, 5])
  (.cond (.tmp 5) (.seq (.region [⟨(some 2), .mov (.const (.int .i64 0)), none⟩] [2])
  (.ret)) (.skip)))
  (.seq (.region [⟨(some 6), .mov (.tmp 0), none⟩,
    ⟨(some 7), .bin .quo (.tmp 6) (.const (.int .i64 254)), none⟩,
    ⟨(some 3), .mov (.tmp 7), none⟩] [0, 3])
  (.seq (.seq (.region [⟨(some 8), .mov (.tmp 0), none⟩,
    ⟨(some 9), .bin .rem (.tmp 8) (.const (.int .i64 254)), none⟩,
    ⟨(some 10), .bin .neq (.tmp 9) (.const (.int .i64 0)), none⟩] [0, 3, 10])
  (.cond (.tmp 10) (.region [⟨(some 11), .mov (.tmp 3), none⟩,
    ⟨(some 12), .bin .add (.tmp 11) (.const (.int .i64 1)), none⟩,
    ⟨(some 3), .mov (.tmp 12), none⟩] [0, 3]) (.skip)))
  (.seq (.region [⟨(some 13), .mov (.tmp 0), none⟩,
    ⟨(some 14), .mov (.tmp 3), none⟩,
    ⟨(some 15), .maxmin true (.tmp 14) (.const (.int .i64 1)), none⟩,
    ⟨(some 16), .bin .add (.tmp 13) (.tmp 15), none⟩,
    ⟨(some 2), .mov (.tmp 16), none⟩] [2])
  (.ret)))))
def cobs_Most : AFun := ⟨17, 1, [.tmp 2], cobs_Most.body⟩
def cut_Count.body : ACode := .seq (.region [⟨(some 4), .mov (.const (.int .i64 0)), none⟩] [0, 1])
  (.seq (.block 0 (.seq (.region [⟨(some 6), .mov (.tmp 1), none⟩,
    ⟨(some 7), .bin .lss (.tmp 6) (.const (.int .i64 1)), none⟩,
    ⟨(some 5), .mov (.tmp 7), none⟩] [0, 1, 5])
  (.cond (.tmp 5) (.seq (.region [⟨(some 4), .mov (.const (.int .i64 0)), none⟩] [4])
  (.ret)) (.seq (.region [⟨(some 9), .mov (.tmp 0), none⟩,
    ⟨(some 10), .bin .lss (.tmp 9) (.const (.int .i64 1)), none⟩,
    ⟨(some 8), .mov (.tmp 10), none⟩] [0, 1, 8])
  (.cond (.tmp 8) (.seq (.region [⟨(some 4), .mov (.const (.int .i64 1)), none⟩] [4])
  (.ret)) (.skip))))))
  (.seq (.region [⟨(some 11), .mov (.tmp 0), none⟩,
    ⟨(some 12), .bin .sub (.tmp 11) (.const (.int .i64 1)), none⟩,
    ⟨(some 13), .mov (.tmp 1), none⟩,
    ⟨(some 14), .bin .quo (.tmp 12) (.tmp 13), none⟩,
    ⟨(some 15), .bin .add (.tmp 14) (.const (.int .i64 1)), none⟩,
    ⟨(some 4), .mov (.tmp 15), none⟩] [4])
  (.ret)))
def cut_Count : AFun := ⟨16, 2, [.tmp 4], cut_Count.body⟩
def crc_New.b0 : ACode := .seq (.region [⟨(some 13), .bin .lss (.tmp 12) (.const (.int .i64 4)), none⟩] [1, 2, 3, 7, 12, 13])
  (.seq (.cond (.tmp 13) (.skip) (.exit 2))
  (.seq (.block 3 (.seq (.region [⟨(some 14), .mov (.tmp 12), none⟩,
    ⟨(some 4), .mov (.tmp 14), none⟩] [1, 2, 3, 4, 7, 12])
  (.seq (.region [⟨(some 15), .mov (.tmp 3), none⟩,
    ⟨(some 16), .call (.const (.fn F.crc_shift [] [])) [(.tmp 15)], none⟩,
    ⟨(some 3), .mov (.tmp 16), none⟩] [1, 2, 3, 4, 7, 12])
  (.region [⟨(some 17), .mov (.tmp 1), none⟩,
    ⟨(some 18), .mov (.tmp 4), none⟩,
    ⟨(some 19), .mov (.tmp 2), none⟩,
    ⟨(some 20), .mov (.tmp 3), none⟩,
    ⟨(some 21), .nilc (.tmp 17), none⟩,
    ⟨(some 22), .field 0 (.tmp 21), none⟩,
    ⟨(some 23), .idx 256 (some 4) (.tmp 22) (.tmp 18), none⟩,
    ⟨(some 24), .idx 1 (some 256) (.tmp 23) (.tmp 19), none⟩,
    ⟨none, .store 1 (.tmp 24) (.tmp 20), none⟩] [1, 2, 3, 7, 12]))))
  (.region [⟨(some 25), .bin .add (.tmp 12) (.const (.int .i64 1)), none⟩,
    ⟨(some 12), .mov (.tmp 25), none⟩] [1, 2, 3, 7, 12])))
def crc_New.b1 : ACode := .seq (.region [⟨(some 8), .bin .lss (.tmp 7) (.const (.int .i64 256)), none⟩] [1, 7, 8])
  (.seq (.cond (.tmp 8) (.skip) (.exit 0))
  (.seq (.block 1 (.seq (.region [⟨(some 9), .mov (.tmp 7), none⟩,
    ⟨(some 2), .mov (.tmp 9), none⟩] [1, 2, 7])
  (.seq (.region [⟨(some 10), .mov (.tmp 2), none⟩,
    ⟨(some 11), .conv .u32 (.tmp 10), none⟩,
    ⟨(some 3), .mov (.tmp 11), none⟩] [1, 2, 3, 7])
  (.seq (.region [⟨(some 12), .mov (.const (.int .i64 0)), none⟩] [1, 2, 3, 7, 12])
  (.block 2 (.loop crc_New.b0))))))
  (.region [⟨(some 26), .bin .add (.tmp 7) (.const (.int .i64 1)), none⟩,
    ⟨(some 7), .mov (.tmp 26), none⟩] [1, 7])))
def crc_New.body : ACode := .seq (.region [⟨(some 0), .mov (.const .nilp), none⟩] [])
  (.seq (.region [⟨(some 5), .build [(.int .u32 0), (.int .u32 0), (.int .u32 0), (.int .u32 0), (.int .u32 0), (.int .u32 0), (.int .u32 0), (.int .u32 0), (.int .u32 0), (.int .u32 0), (.int .u32 0), (.int .u32 0), (.int .u32 0), (.int .u32 0), (.int .u32 0), (.int .u32 0), (.int .u32 0), (.int .u32 0), (.int .u32 0), (.int .u32 0), (.int .u32 0), (.int .u32 0), (.int .u32 0), (.int .u32 0), (.int .u32 0), (.int .u32 0), (.int .u32 0), (.int .u32 0), (.int .u32 0), (.int .u32 0), (.int .u32 0), (.int .u32 0), (.int .u32 0), (.int .u32 0), (.int .u32 0), (.int .u32 0), (.int .u32 0), (.int .u32 0), (.int .u32 0), (.int .u32 0), (.int .u32 0), (.int .u32 0), (.int .u32 0), (.int .u32 0), (.int .u32 0), (.int .u32 0), (.int .u32 0), (.int .u32 0), (.int .u32 0), (.int .u32 0), (.int .u32 0), (.int .u32 0), (.int .u32 0), (.int .u32 0), (.int .u32 0), (.int .u32 0), (.int .u32 0), (.int .u32 0), (.int .u32 0), (.int .u32 0), (.int .u32 0), (.int .u32 0), (.int .u32 0), (.int .u32 0), (.int .u32 0), (.int .u32 0), (.int .u32 0), (.int .u32 0), (.int .u32 0), (.int .u32 0), (.int .u32 0), (.int .u32 0), (.int .u32 0), (.int .u32 0), (.int .u32 0), (.int .u32 0), (.int .u32 0), (.int .u32 0), (.int .u32 0), (.int .u32 0), (.int .u32 0), (.int .u32 0), (.int .u32 0), (.int .u32 0), (.int .u32 0), (.int .u32 0), (.int .u32 0), (.int .u32 0), (.int .u32 0), (.int .u32 0), (.int .u32 0), (.int .u32 0), (.int .u32 0), (.int .u32 0), (.int .u32 0), (.int .u32 0), (.int .u32 0), (.int .u32 0), (.int .u32 0), (.int .u32 0), (.int .u32 0), (.int .u32 0), (.int .u32 0), (.int .u32 0), (.int .u32 0), (.int .u32 0), (.int .u32 0), (.int .u32 0), (.int .u32 0), (.int .u32 0), (.int .u32 0), (.int .u32 0), (.int .u32 0), (.int .u32 0), (.int .u32 0), (.int .u32 0), (.int .u32 0), (.int .u32 0), (.int .u32 0), (.int .u32 0), (.int .u32 0), (.int .u32 0), (.int .u32 0), (.int .u32 0), (.int .u32 0), (.int .u32 0), (.int .u32 0), (.int .u32 0), (.int .u32 0), (.int .u32 0), (.int .u32 0), (.int .u32 0), (.int .u32 0), (.int .u32 0), (.int .u32 0), (.int .u32 0), (.int .u32 0), (.int .u32 0), (.int .u32 0), (.int .u32 0), (.int .u32 0), (.int .u32 0), (.int .u32 0), (.int .u32 0), (.int .u32 0), (.int .u32 0), (.int .u32 0), (.int .u32 0), (.int .u32 0), (.int .u32 0), (.int .u32 0), (.int .u32 0), (.int .u32 0), (.int .u32 0), (.int .u32 0), (.int .u32 0), (.int .u32 0), (.int .u32 0), (.int .u32 0), (.int .u32 0), (.int .u32 0), (.int .u32 0), (.int .u32 0), (.int .u32 0), (.int .u32 0), (.int .u32 0), (.int .u32 0), (.int .u32 0), (.int .u32 0), (.int .u32 0), (.int .u32 0), (.int .u32 0), (.int .u32 0), (.int .u32 0), (.int .u32 0), (.int .u32 0), (.int .u32 0), (.int .u32 0), (.int .u32 0), (.int .u32 0), (.int .u32 0), (.int .u32 0), (.int .u32 0), (.int .u32 0), (.int .u32 0), (.int .u32 0), (.int .u32 0), (.int .u32 0), (.int .u32 0), (.int .u32 0), (.int .u32 0), (.int .u32 0), (.int .u32 0), (.int .u32 0), (.int .u32 0), (.int .u32 0), (.int .u32 0), (.int .u32 0), (.int .u32 0), (.int .u32 0), (.int .u32 0), (.int .u32 0), (.int .u32 0), (.int .u32 0), (.int .u32 0), (.int .u32 0), (.int .u32 0), (.int .u32 0), (.int .u32 0), (.int .u32 0), (.int .u32 0), (.int .u32 0), (.int .u32 0), (.int .u32 0), (.int .u32 0), (.int .u32 0), (.int .u32 0), (.int .u32 0), (.int .u32 0), (.int .u32 0), (.int .u32 0), (.int .u32 0), (.int .u32 0), (.int .u32 0), (.int .u32 0), (.int .u32 0), (.int .u32 0), (.int .u32 0), (.int .u32 0), (.int .u32 0), (.int .u32 0), (.int .u32 0), (.int .u32 0), (.int .u32 0), (.int .u32 0), (.int .u32 0), (.int .u32 0), (.int .u32 0), (.int .u32 0), (.int .u32 0), (.int .u32 0), (.int .u32 0), (.int .u32 0), (.int .u32 0), (.int .u32 0), (.int .u32 0), (.int .u32 0), (.int .u32 0), (.int .u32 0), (.int .u32 0), (.int .u32 0), (.int .u32 0), (.int .u32 0), (.int .u32 0), (.int .u32 0), (.int .u32 0), (.int .u32 0), (.int .u32 0), (.int .u32 0), (.int .u32 0), (.int .u32 0), (.int .u32 0), (.int .u32 0), (.int .u32 0), (.int .u32 0), (.int .u32 0), (.int .u32 0), (.int .u32 0), (.int .u32 0), (.int .u32 0), (.int .u32 0), (.int .u32 0), (.int .u32 0), (.int .u32 0), (.int .u32 0), (.int .u32 0), (.int .u32 0), (.int .u32 0), (.int .u32 0), (.int .u32 0), (.int .u32 0), (.int .u32 0), (.int .u32 0), (.int .u32 0), (.int .u32 0), (.int .u32 0), (.int .u32 0), (.int .u32 0), (.int .u32 0), (.int .u32 0), (.int .u32 0), (.int .u32 0), (.int .u32 0), (.int .u32 0), (.int .u32 0), (.int .u32 0), (.int .u32 0), (.int .u32 0), (.int .u32 0), (.int .u32 0), (.int .u32 0), (.int .u32 0), (.int .u32 0), (.int .u32 0), (.int .u32 0), (.int .u32 0), (.int .u32 0), (.int .u32 0), (.int .u32 0), (.int .u32 0), (.int .u32 0), (.int .u32 0), (.int .u32 0), (.int .u32 0), (.int .u32 0), (.int .u32 0), (.int .u32 0), (.int .u32 0), (.int .u32 0), (.int .u32 0), (.int .u32 0), (.int .u32 0), (.int .u32 0), (.int .u32 0), (.int .u32 0), (.int .u32 0), (.int .u32 0), (.int .u32 0), (.int .u32 0), (.int .u32 0), (.int .u32 0), (.int .u32 0), (.int .u32 0), (.int .u32 0), (.int .u32 0), (.int .u32 0), (.int .u32 0), (.int .u32 0), (.int .u32 0), (.int .u32 0), (.int .u32 0), (.int .u32 0), (.int .u32 0), (.int .u32 0), (.int .u32 0), (.int .u32 0), (.int .u32 0), (.int .u32 0), (.int .u32 0), (.int .u32 0), (.int .u32 0), (.int .u32 0), (.int .u32 0), (.int .u32 0), (.int .u32 0), (.int .u32 0), (.int .u32 0), (.int .u32 0), (.int .u32 0), (.int .u32 0), (.int .u32 0), (.int .u32 0), (.int .u32 0), (.int .u32 0), (.int .u32 0), (.int .u32 0), (.int .u32 0), (.int .u32 0), (.int .u32 0), (.int .u32 0), (.int .u32 0), (.int .u32 0), (.int .u32 0), (.int .u32 0), (.int .u32 0), (.int .u32 0), (.int .u32 0), (.int .u32 0), (.int .u32 0), (.int .u32 0), (.int .u32 0), (.int .u32 0), (.int .u32 0), (.int .u32 0), (.int .u32 0), (.int .u32 0), (.int .u32 0), (.int .u32 0), (.int .u32 0), (.int .u32 0), (.int .u32 0), (.int .u32 0), (.int .u32 0), (.int .u32 0), (.int .u32 0), (.int .u32 0), (.int .u32 0), (.int .u32 0), (.int .u32 0), (.int .u32 0), (.int .u32 0), (.int .u32 0), (.int .u32 0), (.int .u32 0), (.int .u32 0), (.int .u32 0), (.int .u32 0), (.int .u32 0), (.int .u32 0), (.int .u32 0), (.int .u32 0), (.int .u32 0), (.int .u32 0), (.int .u32 0), (.int .u32 0), (.int .u32 0), (.int .u32 0), (.int .u32 0), (.int .u32 0), (.int .u32 0), (.int .u32 0), (.int .u32 0), (.int .u32 0), (.int .u32 0), (.int .u32 0), (.int .u32 0), (.int .u32 0), (.int .u32 0), (.int .u32 0), (.int .u32 0), (.int .u32 0), (.int .u32 0), (.int .u32 0), (.int .u32 0), (.int .u32 0), (.int .u32 0), (.int .u32 0), (.int .u32 0), (.int .u32 0), (.int .u32 0), (.int .u32 0), (.int .u32 0), (.int .u32 0), (.int .u32 0), (.int .u32 0), (.int .u32 0), (.int .u32 0), (.int .u32 0), (.int .u32 0), (.int .u32 0), (.int .u32 0), (.int .u32 0), (.int .u32 0), (.int .u32 0), (.int .u32 0), (.int .u32 0), (.int .u32 0), (.int .u32 0), (.int .u32 0), (.int .u32 0), (.int .u32 0), (.int .u32 0), (.int .u32 0), (.int .u32 0), (.int .u32 0), (.int .u32 0), (.int .u32 0), (.int .u32 0), (.int .u32 0), (.int .u32 0), (.int .u32 0), (.int .u32 0), (.int .u32 0), (.int .u32 0), (.int .u32 0), (.int .u32 0), (.int .u32 0), (.int .u32 0), (.int .u32 0), (.int .u32 0), (.int .u32 0), (.int .u32 0), (.int .u32 0), (.int .u32 0), (.int .u32 0), (.int .u32 0), (.int .u32 0), (.int .u32 0), (.int .u32 0), (.int .u32 0), (.int .u32 0), (.int .u32 0), (.int .u32 0), (.int .u32 0), (.int .u32 0), (.int .u32 0), (.int .u32 0), (.int .u32 0), (.int .u32 0), (.int .u32 0), (.int .u32 0), (.int .u32 0), (.int .u32 0), (.int .u32 0), (.int .u32 0), (.int .u32 0), (.int .u32 0), (.int .u32 0), (.int .u32 0), (.int .u32 0), (.int .u32 0), (.int .u32 0), (.int .u32 0), (.int .u32 0), (.int .u32 0), (.int .u32 0), (.int .u32 0), (.int .u32 0), (.int .u32 0), (.int .u32 0), (.int .u32 0), (.int .u32 0), (.int .u32 0), (.int .u32 0), (.int .u32 0), (.int .u32 0), (.int .u32 0), (.int .u32 0), (.int .u32 0), (.int .u32 0), (.int .u32 0), (.int .u32 0), (.int .u32 0), (.int .u32 0), (.int .u32 0), (.int .u32 0), (.int .u32 0), (.int .u32 0), (.int .u32 0), (.int .u32 0), (.int .u32 0), (.int .u32 0), (.int .u32 0), (.int .u32 0), (.int .u32 0), (.int .u32 0), (.int .u32 0), (.int .u32 0), (.int .u32 0), (.int .u32 0), (.int .u32 0), (.int .u32 0), (.int .u32 0), (.int .u32 0), (.int .u32 0), (.int .u32 0), (.int .u32 0), (.int .u32 0), (.int .u32 0), (.int .u32 0), (.int .u32 0), (.int .u32 0), (.int .u32 0), (.int .u32 0), (.int .u32 0), (.int .u32 0), (.int .u32 0), (.int .u32 0), (.int .u32 0), (.int .u32 0), (.int .u32 0), (.int .u32 0), (.int .u32 0), (.int .u32 0), (.int .u32 0), (.int .u32 0), (.int .u32 0), (.int .u32 0), (.int .u32 0), (.int .u32 0), (.int .u32 0), (.int .u32 0), (.int .u32 0), (.int .u32 0), (.int .u32 0), (.int .u32 0), (.int .u32 0), (.int .u32 0), (.int .u32 0), (.int .u32 0), (.int .u32 0), (.int .u32 0), (.int .u32 0), (.int .u32 0), (.int .u32 0), (.int .u32 0), (.int .u32 0), (.int .u32 0), (.int .u32 0), (.int .u32 0), (.int .u32 0), (.int .u32 0), (.int .u32 0), (.int .u32 0), (.int .u32 0), (.int .u32 0), (.int .u32 0), (.int .u32 0), (.int .u32 0), (.int .u32 0), (.int .u32 0), (.int .u32 0), (.int .u32 0), (.int .u32 0), (.int .u32 0), (.int .u32 0), (.int .u32 0), (.int .u32 0), (.int .u32 0), (.int .u32 0), (.int .u32 0), (.int .u32 0), (.int .u32 0), (.int .u32 0), (.int .u32 0), (.int .u32 0), (.int .u32 0), (.int .u32 0), (.int .u32 0), (.int .u32 0), (.int .u32 0), (.int .u32 0), (.int .u32 0), (.int .u32 0), (.int .u32 0), (.int .u32 0), (.int .u32 0), (.int .u32 0), (.int .u32 0), (.int .u32 0), (.int .u32 0), (.int .u32 0), (.int .u32 0), (.int .u32 0), (.int .u32 0), (.int .u32 0), (.int .u32 0), (.int .u32 0), (.int .u32 0), (.int .u32 0), (.int .u32 0), (.int .u32 0), (.int .u32 0), (.int .u32 0), (.int .u32 0), (.int .u32 0), (.int .u32 0), (.int .u32 0), (.int .u32 0), (.int .u32 0), (.int .u32 0), (.int .u32 0), (.int .u32 0), (.int .u32 0), (.int .u32 0), (.int .u32 0), (.int .u32 0), (.int .u32 0), (.int .u32 0), (.int .u32 0), (.int .u32 0), (.int .u32 0), (.int .u32 0), (.int .u32 0), (.int .u32 0), (.int .u32 0), (.int .u32 0), (.int .u32 0), (.int .u32 0), (.int .u32 0), (.int .u32 0), (.int .u32 0), (.int .u32 0), (.int .u32 0), (.int .u32 0), (.int .u32 0), (.int .u32 0), (.int .u32 0), (.int .u32 0), (.int .u32 0), (.int .u32 0), (.int .u32 0), (.int .u32 0), (.int .u32 0), (.int .u32 0), (.int .u32 0), (.int .u32 0), (.int .u32 0), (.int .u32 0), (.int .u32 0), (.int .u32 0), (.int .u32 0), (.int .u32 0), (.int .u32 0), (.int .u32 0), (.int .u32 0), (.int .u32 0), (.int .u32 0), (.int .u32 0), (.int .u32 0), (.int .u32 0), (.int .u32 0), (.int .u32 0), (.int .u32 0), (.int .u32 0), (.int .u32 0), (.int .u32 0), (.int .u32 0), (.int .u32 0), (.int .u32 0), (.int .u32 0), (.int .u32 0), (.int .u32 0), (.int .u32 0), (.int .u32 0), (.int .u32 0), (.int .u32 0), (.int .u32 0), (.int .u32 0), (.int .u32 0), (.int .u32 0), (.int .u32 0), (.int .u32 0), (.int .u32 0), (.int .u32 0), (.int .u32 0), (.int .u32 0), (.int .u32 0), (.int .u32 0), (.int .u32 0), (.int .u32 0), (.int .u32 0), (.int .u32 0), (.int .u32 0), (.int .u32 0), (.int .u32 0), (.int .u32 0), (.int .u32 0), (.int .u32 0), (.int .u32 0), (.int .u32 0), (.int .u32 0), (.int .u32 0), (.int .u32 0), (.int .u32 0), (.int .u32 0), (.int .u32 0), (.int .u32 0), (.int .u32 0), (.int .u32 0), (.int .u32 0), (.int .u32 0), (.int .u32 0), (.int .u32 0), (.int .u32 0), (.int .u32 0), (.int .u32 0), (.int .u32 0), (.int .u32 0), (.int .u32 0), (.int .u32 0), (.int .u32 0), (.int .u32 0), (.int .u32 0), (.int .u32 0), (.int .u32 0), (.int .u32 0), (.int .u32 0), (.int .u32 0), (.int .u32 0), (.int .u32 0), (.int .u32 0), (.int .u32 0), (.int .u32 0), (.int .u32 0), (.int .u32 0), (.int .u32 0), (.int .u32 0), (.int .u32 0), (.int .u32 0), (.int .u32 0), (.int .u32 0), (.int .u32 0), (.int .u32 0), (.int .u32 0), (.int .u32 0), (.int .u32 0), (.int .u32 0), (.int .u32 0), (.int .u32 0), (.int .u32 0), (.int .u32 0), (.int .u32 0), (.int .u32 0), (.int .u32 0), (.int .u32 0), (.int .u32 0), (.int .u32 0), (.int .u32 0), (.int .u32 0), (.int .u32 0), (.int .u32 0), (.int .u32 0), (.int .u32 0), (.int .u32 0), (.int .u32 0), (.int .u32 0), (.int .u32 0), (.int .u32 0), (.int .u32 0), (.int .u32 0), (.int .u32 0), (.int .u32 0), (.int .u32 0), (.int .u32 0), (.int .u32 0), (.int .u32 0), (.int .u32 0), (.int .u32 0), (.int .u32 0), (.int .u32 0), (.int .u32 0), (.int .u32 0), (.int .u32 0), (.int .u32 0), (.int .u32 0), (.int .u32 0), (.int .u32 0), (.int .u32 0), (.int .u32 0), (.int .u32 0), (.int .u32 0), (.int .u32 0), (.int .u32 0), (.int .u32 0), (.int .u32 0), (.int .u32 0), (.int .u32 0), (.int .u32 0), (.int .u32 0), (.int .u32 0), (.int .u32 0), (.int .u32 0), (.int .u32 0), (.int .u32 0), (.int .u32 0), (.int .u32 0), (.int .u32 0), (.int .u32 0), (.int .u32 0), (.int .u32 0), (.int .u32 0), (.int .u32 0), (.int .u32 0), (.int .u32 0), (.int .u32 0), (.int .u32 0), (.int .u32 0), (.int .u32 0), (.int .u32 0), (.int .u32 0), (.int .u32 0), (.int .u32 0), (.int .u32 0), (.int .u32 0), (.int .u32 0), (.int .u32 0), (.int .u32 0), (.int .u32 0), (.int .u32 0), (.int .u32 0), (.int .u32 0), (.int .u32 0), (.int .u32 0), (.int .u32 0), (.int .u32 0), (.int .u32 0), (.int .u32 0), (.int .u32 0), (.int .u32 0), (.int .u32 0), (.int .u32 0), (.int .u32 0), (.int .u32 0), (.int .u32 0), (.int .u32 0), (.int .u32 0), (.int .u32 0), (.int .u32 0), (.int .u32 0), (.int .u32 0), (.int .u32 0), (.int .u32 0), (.int .u32 0), (.int .u32 0), (.int .u32 0), (.int .u32 0), (.int .u32 0), (.int .u32 0), (.int .u32 0), (.int .u32 0), (.int .u32 0), (.int .u32 0), (.int .u32 0), (.int .u32 0), (.int .u32 0), (.int .u32 0), (.int .u32 0), (.int .u32 0), (.int .u32 0), (.int .u32 0), (.int .u32 0), (.int .u32 0), (.int .u32 0), (.int .u32 0), (.int .u32 0), (.int .u32 0), (.int .u32 0), (.int .u32 0), (.int .u32 0), (.int .u32 0), (.int .u32 0), (.int .u32 0), (.int .u32 0), (.int .u32 0), (.int .u32 0), (.int .u32 0), (.int .u32 0), (.int .u32 0), (.int .u32 0), (.int .u32 0), (.int .u32 0), (.int .u32 0), (.int .u32 0), (.int .u32 0), (.int .u32 0), (.int .u32 0), (.int .u32 0), (.int .u32 0), (.int .u32 0), (.int .u32 0), (.int .u32 0), (.int .u32 0), (.int .u32 0), (.int .u32 0), (.int .u32 0), (.int .u32 0), (.int .u32 0), (.int .u32 0), (.int .u32 0), (.int .u32 0), (.int .u32 0), (.int .u32 0), (.int .u32 0), (.int .u32 0), (.int .u32 0), (.int .u32 0), (.int .u32 0), (.int .u32 0), (.int .u32 0), (.int .u32 0), (.int .u32 0), (.int .u32 0), (.int .u32 0), (.int .u32 0), (.int .u32 0), (.int .u32 0), (.int .u32 0), (.int .u32 0), (.int .u32 0), (.int .u32 0), (.int .u32 0), (.int .u32 0), (.int .u32 0), (.int .u32 0), (.int .u32 0), (.int .u32 0), (.int .u32 0), (.int .u32 0), (.int .u32 0), (.int .u32 0), (.int .u32 0), (.int .u32 0), (.int .u32 0), (.int .u32 0), (.int .u32 0), (.int .u32 0), (.int .u32 0), (.int .u32 0), (.int .u32 0), (.int .u32 0), (.int .u32 0), (.int .u32 0), (.int .u32 0), (.int .u32 0), (.int .u32 0), (.int .u32 0), (.int .u32 0), (.int .u32 0), (.int .u32 0), (.int .u32 0), (.int .u32 0), (.int .u32 0), (.int .u32 0), (.int .u32 0), (.int .u32 0), (.int .u32 0), (.int .u32 0), (.int .u32 0), (.int .u32 0), (.int .u32 0), (.int .u32 0), (.int .u32 0), (.int .u32 0)] [], none⟩,
    ⟨(some 6), .box T.crc_Table (.tmp 5), none⟩,
    ⟨(some 1), .mov (.tmp 6), none⟩] [1])
  (.seq (.seq (.region [⟨(some 7), .mov (.const (.int .i64 0)), none⟩] [1, 7])
  (.block 0 (.loop crc_New.b1)))
  (.seq (.region [⟨(some 27), .mov (.tmp 1), none⟩,
    ⟨(some 0), .mov (.tmp 27), none⟩] [0])
  (.ret))))
def crc_New : AFun := ⟨28, 0, [.tmp 0], crc_New.body⟩
def frame_Codec_Segment.d0 : List AOper := [⟨(some 21), .mov (.tmp 0), none⟩,
    ⟨(some 22), .nilc (.tmp 21), none⟩,
    ⟨(some 23), .field 0 (.tmp 22), none⟩,
    ⟨(some 24), .load none (.tmp 23), none⟩,
    ⟨(some 25), .mov (.tmp 7), none⟩,
    ⟨(some 26), .field 5 (.tmp 3), none⟩,
    ⟨(some 27), .load none (.tmp 26), none⟩,
    ⟨(some 28), .append T.uint8 1 1 (.tmp 25) (.tmp 27), none⟩,
    ⟨(some 29), .call (.const (.fn F.crc_Seal [] [])) [(.tmp 24), (.tmp 28)], none⟩,
    ⟨(some 30), .call (.const (.fn F.cobs_Encode [] [])) [(.tmp 29)], none⟩,
    ⟨(some 31), .mov (.tmp 8), none⟩,
    ⟨(some 4), .mov (.tmp 30), none⟩,
    ⟨(some 5), .mov (.tmp 31), none⟩]
def frame_Codec_Segment.d0b : List (List Nat) := [[], [0], [0, 1], [0, 1, 2], [], [], [5], [4, 5, 6], [0, 1, 2, 3, 4, 5, 6, 7], [0, 1, 2, 3, 4, 5, 6, 7, 8], [], [0, 1, 2, 3, 4, 5, 6, 7, 8, 9], [0, 1, 2, 3, 4, 5, 6, 7, 8, 9, 10, 11]]
def frame_Codec_Segment.body : ACode := .seq (.region [⟨(some 3), .box T.frame_Frame (.tmp 1), none⟩,
    ⟨(some 4), .mov (.const .nils), none⟩,
    ⟨(some 5), .mov (.const (.int .i64 0)), none⟩] [0, 3])
  (.seq (.seq (.region [⟨(some 9), .mov (.tmp 0), none⟩,
    ⟨(some 10), .load (some 6) (.tmp 3), none⟩,
    ⟨(some 11), .call (.const (.fn F.frame_Codec_Check [] [])) [(.tmp 9), (.tmp 10)], none⟩,
    ⟨(some 6), .mov (.tmp 11), none⟩] [0, 3, 6])
  (.seq (.region [⟨(some 12), .mov (.tmp 6), none⟩,
    ⟨(some 13), .bin .neq (.tmp 12) (.const (.int .i64 0)), none⟩] [0, 3, 6, 13])
  (.cond (.tmp 13) (.seq (.region [⟨(some 14), .mov (.tmp 6), none⟩,
    ⟨(some 4), .mov (.const .nils), none⟩,
    ⟨(some 5), .mov (.tmp 14), none⟩] [4, 5])
  (.ret)) (.skip))))
  (.seq (.region [⟨(some 16), .field 0 (.tmp 3), none⟩,
    ⟨(some 17), .load (some 5) (.tmp 16), none⟩,
    ⟨(some 18), .call (.const (.fn F.head_Bytes [] [])) [(.tmp 17)], none⟩,
    ⟨(some 15), .mov (.tmp 18), none⟩,
    ⟨(some 19), .extract (.tmp 15) 0, none⟩,
    ⟨(some 20), .extract (.tmp 15) 1, none⟩,
    ⟨(some 7), .mov (.tmp 19), none⟩,
    ⟨(some 8), .mov (.tmp 20), none⟩] [0, 3, 7, 8])
  (.seq (.draw frame_Codec_Segment.d0 frame_Codec_Segment.d0b [[0, 1, 2, 3, 4, 5, 6, 10, 7, 8, 9, 11, 12]] [(7, 3)] [4, 5])
  (.ret))))
def frame_Codec_Segment : AFun := ⟨32, 2, [.tmp 4, .tmp 5], frame_Codec_Segment.body⟩
def fence_Wrap.b0 : ACode := .seq (.region [⟨(some 9), .bin .lss (.tmp 8) (.tmp 7), none⟩] [3, 6, 7, 8, 9])
  (.seq (.cond (.tmp 9) (.skip) (.exit 0))
  (.seq (.block 1 (.seq (.region [⟨(some 10), .idx 1 none (.tmp 6) (.tmp 8), none⟩,
    ⟨(some 11), .load none (.tmp 10), none⟩,
    ⟨(some 5), .mov (.tmp 11), none⟩] [3, 5, 6, 7, 8])
  (.seq (.region [⟨(some 12), .mov (.tmp 3), none⟩,
    ⟨(some 13), .lit T.uint8 1 1 [(.int .u8 0)] [(0, 1, (.const (.int .u8 0)))], none⟩,
    ⟨(some 14), .append T.uint8 1 1 (.tmp 12) (.tmp 13), none⟩,
    ⟨(some 3), .mov (.tmp 14), none⟩] [3, 5, 6, 7, 8])
  (.seq (.region [⟨(some 15), .mov (.tmp 3), none⟩,
    ⟨(some 16), .mov (.tmp 5), none⟩,
    ⟨(some 17), .append T.uint8 1 1 (.tmp 15) (.tmp 16), none⟩,
    ⟨(some 3), .mov (.tmp 17), none⟩] [3, 6, 7, 8])
  (.region [⟨(some 18), .mov (.tmp 3), none⟩,
    ⟨(some 19), .lit T.uint8 1 1 [(.int .u8 0)] [(0, 1, (.const (.int .u8 0)))], none⟩,
    ⟨(some 20), .append T.uint8 1 1 (.tmp 18) (.tmp 19), none⟩,
    ⟨(some 3), .mov (.tmp 20), none⟩] [3, 6, 7, 8])))))
  (.region [⟨(some 21), .bin .add (.tmp 8) (.const (.int .i64 1)), none⟩,
    ⟨(some 8), .mov (.tmp 21), none⟩] [3, 6, 7, 8])))
def fence_Wrap.body : ACode := .seq (.region [⟨(some 2), .mov (.const .nils), none⟩] [0])
  (.seq (.region [⟨(some 3), .mov (.const .nils), none⟩] [0, 3])
  (.seq (.seq (.region [⟨(some 6), .mov (.tmp 0), none⟩,
    ⟨(some 7), .len .slice (.tmp 6), none⟩,
    ⟨(some 8), .mov (.const (.int .i64 0)), none⟩] [3, 6, 7, 8])
  (.block 0 (.loop fence_Wrap.b0)))
  (.seq (.region [⟨(some 22), .mov (.tmp 3), none⟩,
    ⟨(some 2), .mov (.tmp 22), none⟩] [2])
  (.ret))))
def fence_Wrap : AFun := ⟨23, 1, [.tmp 2], fence_Wrap.body⟩
def body_Parts_1.d0 : List AOper := [⟨(some 14), .load none (.tmp 3), none⟩,
    ⟨(some 15), .field 0 (.tmp 4), none⟩,
    ⟨(some 16), .load none (.tmp 15), none⟩,
    ⟨(some 17), .load (some 11) (.tmp 1), none⟩,
    ⟨(some 18), .load (some 7) (.tmp 4), none⟩,
    ⟨(some 19), .call (.const (.fn F.body_part [] [])) [(.tmp 17), (.tmp 18)], none⟩,
    ⟨(some 20), .call (.tmp 14) [(.tmp 16), (.tmp 19)], none⟩,
    ⟨(some 21), .un .not (.tmp 20), none⟩]
def body_Parts_1.d0b : List (List Nat) := [[], [], [1], [], [], [3, 4], [0, 1, 2, 3, 4, 5], [0, 1, 2, 3, 4, 5, 6]]
def body_Parts_1.a1 : ACode := .region [⟨(some 4), .alloc T.field_Field [(.str ⟨#[]⟩), (.int .i64 0), (.int .i64 0), (.int .i64 0), (.int .i64 0), (.int .i64 0), (.int .i64 0)], none⟩,
    ⟨none, .store 7 (.tmp 4) (.tmp 13), none⟩] [1, 3, 4]
def body_Parts_1.b1 : ACode := .block 1 (.seq (.draw body_Parts_1.d0 body_Parts_1.d0b [[0, 1, 2, 3, 4, 5, 6, 7]] [(5, 0), (5, 2)] [21])
  (.cond (.tmp 21) (.exit 0) (.skip)))
def body_Parts_1.body : ACode := .seq (.region [⟨(some 3), .box T.func_string_sl_uint8_bool (.tmp 0), none⟩] [1, 2, 3])
  (.scope (.seq (.seq (.region [⟨(some 5), .load (some 11) (.tmp 1), none⟩,
    ⟨(some 6), .load none (.tmp 2), none⟩,
    ⟨(some 7), .call (.const (.fn F.body_check [] [])) [(.tmp 5), (.tmp 6)], none⟩,
    ⟨(some 8), .bin .neq (.tmp 7) (.const (.int .i64 0)), none⟩] [1, 2, 3, 8])
  (.cond (.tmp 8) (.ret) (.skip)))
  (.seq (.skip)
  (.seq (.region [⟨(some 9), .field 0 (.tmp 1), none⟩,
    ⟨(some 10), .load none (.tmp 9), none⟩,
    ⟨(some 11), .load none (.tmp 2), none⟩,
    ⟨(some 12), .call (.const (.fn F.field_All [] [])) [(.tmp 10), (.tmp 11)], none⟩] [1, 3, 12])
  (.block 0 (.range (.tmp 12) [13] body_Parts_1.a1 body_Parts_1.b1))))))
def body_Parts_1 : AFun := ⟨22, 3, [], body_Parts_1.body⟩
def body_check.body : ACode := .seq (.region [⟨(some 2), .box T.msg_Msg (.tmp 0), none⟩,
    ⟨(some 4), .mov (.const (.int .i64 0)), none⟩] [1, 2])
  (.seq (.seq (.region [⟨(some 5), .mov (.tmp 1), none⟩,
    ⟨(some 6), .bin .neq (.tmp 5) (.const (.int .i64 1)), none⟩,
    ⟨(some 7), .mov (.tmp 6), none⟩,
    ⟨(some 8), .mov (.tmp 1), some (7, true)⟩,
    ⟨(some 9), .bin .neq (.tmp 8) (.const (.int .i64 2)), some (7, true)⟩,
    ⟨(some 10), .pick (.tmp 7) (.tmp 9) (.const (.bool false)), none⟩] [2, 10])
  (.cond (.tmp 10) (.seq (.region [⟨(some 4), .mov (.const (.int .i64 10)), none⟩] [4])
  (.ret)) (.skip)))
  (.seq (.region [⟨(some 11), .load (some 11) (.tmp 2), none⟩,
    ⟨(some 12), .call (.const (.fn F.msg_Check [] [])) [(.tmp 11)], none⟩,
    ⟨(some 4), .mov (.tmp 12), none⟩] [4])
  (.ret)))
def body_check : AFun := ⟨13, 2, [.tmp 4], body_check.body⟩
def field_All.body : ACode := .seq (.region [⟨(some 2), .box T.int (.tmp 0), none⟩,
    ⟨(some 3), .box T.int (.tmp 1), none⟩,
    ⟨(some 4), .mov (.const .nilf), none⟩] [2, 3])
  (.seq (.region [⟨(some 5), .mkfn F.field_All_1 [] [(.tmp 2), (.tmp 3)], none⟩,
    ⟨(some 4), .mov (.tmp 5), none⟩] [4])
  (.ret))
def field_All : AFun := ⟨6, 2, [.tmp 4], field_All.body⟩
def body_part.body : ACode := .seq (.region [⟨(some 2), .box T.msg_Msg (.tmp 0), none⟩,
    ⟨(some 3), .box T.field_Field (.tmp 1), none⟩,
    ⟨(some 4), .mov (.const .nils), none⟩] [2, 3])
  (.seq (.region [⟨(some 6), .call (.const (.fn F.pen_New [] [])) [(.const (.int .i64 192))], none⟩,
    ⟨(some 5), .mov (.tmp 6), none⟩] [2, 3, 5])
  (.seq (.seq (.region [⟨(some 7), .field 1 (.tmp 3), none⟩,
    ⟨(some 8), .load none (.tmp 7), none⟩] [2, 3, 5, 8])
  (.block 0 (.seq (.region [⟨(some 10), .bin .eql (.tmp 8) (.const (.int .i64 1)), none⟩,
    ⟨(some 9), .mov (.tmp 10), none⟩] [2, 3, 5, 8, 9])
  (.cond (.tmp 9) (.region [⟨(some 11), .mov (.tmp 5), none⟩,
    ⟨(some 12), .field 2 (.tmp 3), none⟩,
    ⟨(some 13), .load none (.tmp 12), none⟩,
    ⟨(some 14), .field 1 (.tmp 2), none⟩,
    ⟨(some 15), .idx 1 (some 6) (.tmp 14) (.tmp 13), none⟩,
    ⟨(some 16), .load none (.tmp 15), none⟩,
    ⟨(some 17), .conv .u64 (.tmp 16), none⟩,
    ⟨(some 18), .lit T.uint64 1 1 [(.int .u64 0)] [(0, 1, (.tmp 17))], none⟩,
    ⟨(some 19), .call (.const (.fn F.pen_Pen_Number [] [])) [(.tmp 11), (.tmp 18)], none⟩] [5]) (.seq (.region [⟨(some 21), .bin .eql (.tmp 8) (.const (.int .i64 2)), none⟩,
    ⟨(some 20), .mov (.tmp 21), none⟩] [2, 3, 5, 8, 20])
  (.cond (.tmp 20) (.region [⟨(some 22), .mov (.tmp 5), none⟩,
    ⟨(some 23), .field 2 (.tmp 3), none⟩,
    ⟨(some 24), .load none (.tmp 23), none⟩,
    ⟨(some 25), .field 1 (.tmp 2), none⟩,
    ⟨(some 26), .idx 1 (some 6) (.tmp 25) (.tmp 24), none⟩,
    ⟨(some 27), .load none (.tmp 26), none⟩,
    ⟨(some 28), .lit T.int64 1 1 [(.int .i64 0)] [(0, 1, (.tmp 27))], none⟩,
    ⟨(some 29), .call (.const (.fn F.pen_Pen_Signed [] [])) [(.tmp 22), (.tmp 28)], none⟩] [5]) (.seq (.region [⟨(some 31), .bin .eql (.tmp 8) (.const (.int .i64 3)), none⟩,
    ⟨(some 30), .mov (.tmp 31), none⟩] [2, 5, 8, 30])
  (.cond (.tmp 30) (.region [⟨(some 32), .mov (.tmp 5), none⟩,
    ⟨(some 33), .field 7 (.tmp 2), none⟩,
    ⟨(some 34), .load none (.tmp 33), none⟩,
    ⟨(some 35), .call (.const (.fn F.body_points [] [])) [(.tmp 32), (.tmp 34)], none⟩] [5]) (.seq (.region [⟨(some 37), .bin .eql (.tmp 8) (.const (.int .i64 4)), none⟩,
    ⟨(some 36), .mov (.tmp 37), none⟩] [2, 5, 8, 36])
  (.cond (.tmp 36) (.region [⟨(some 38), .mov (.tmp 5), none⟩,
    ⟨(some 39), .field 8 (.tmp 2), none⟩,
    ⟨(some 40), .load none (.tmp 39), none⟩,
    ⟨(some 41), .call (.const (.fn F.body_cells [] [])) [(.tmp 38), (.tmp 40)], none⟩] [5]) (.seq (.region [⟨(some 43), .bin .eql (.tmp 8) (.const (.int .i64 5)), none⟩,
    ⟨(some 42), .mov (.tmp 43), none⟩] [2, 5, 8, 42])
  (.cond (.tmp 42) (.region [⟨(some 44), .mov (.tmp 5), none⟩,
    ⟨(some 45), .field 9 (.tmp 2), none⟩,
    ⟨(some 46), .load none (.tmp 45), none⟩,
    ⟨(some 47), .s2b (.tmp 46), none⟩,
    ⟨(some 48), .call (.const (.fn F.pen_Pen_Field [] [])) [(.tmp 44), (.tmp 47)], none⟩] [5]) (.seq (.region [⟨(some 50), .bin .eql (.tmp 8) (.const (.int .i64 6)), none⟩,
    ⟨(some 49), .mov (.tmp 50), none⟩] [2, 5, 49])
  (.cond (.tmp 49) (.region [⟨(some 51), .mov (.tmp 5), none⟩,
    ⟨(some 52), .field 10 (.tmp 2), none⟩,
    ⟨(some 53), .load none (.tmp 52), none⟩,
    ⟨(some 54), .s2b (.tmp 53), none⟩,
    ⟨(some 55), .call (.const (.fn F.pen_Pen_Field [] [])) [(.tmp 51), (.tmp 54)], none⟩] [5]) (.skip)))))))))))))))
  (.seq (.region [⟨(some 56), .mov (.tmp 5), none⟩,
    ⟨(some 57), .call (.const (.fn F.pen_Pen_Bytes [] [])) [(.tmp 56)], none⟩,
    ⟨(some 4), .mov (.tmp 57), none⟩] [4])
  (.ret))))
def body_part : AFun := ⟨58, 2, [.tmp 4], body_part.body⟩
def head_Check.a0 : ACode := .seq (.region [⟨(some 4), .mov (.tmp 8), none⟩] [3, 4, 9])
  (.region [⟨(some 5), .mov (.tmp 9), none⟩] [3, 4, 5])
def head_Check.b0 : ACode := .block 1 (.seq (.region [⟨(some 10), .mov (.tmp 5), none⟩] [3, 4, 10])
  (.cond (.tmp 10) (.seq (.region [⟨(some 11), .mov (.tmp 4), none⟩,
    ⟨none, .store 1 (.tmp 3) (.tmp 11), none⟩] [])
  (.exit 0)) (.skip)))
def head_Check.body : ACode := .seq (.region [⟨(some 1), .box T.head_Head (.tmp 0), none⟩,
    ⟨(some 2), .mov (.const (.int .i64 0)), none⟩] [1, 2])
  (.scope (.seq (.region [⟨(some 3), .alloc T.api_Errno [(.int .i64 0)], none⟩,
    ⟨none, .store 1 (.tmp 3) (.const (.int .i64 0)), none⟩] [1, 2, 3])
  (.seq (.skip)
  (.seq (.seq (.region [⟨(some 6), .load (some 5) (.tmp 1), none⟩,
    ⟨(some 7), .call (.const (.fn F.head_wrong [] [])) [(.tmp 6)], none⟩] [2, 3, 7])
  (.block 0 (.range (.tmp 7) [8, 9] head_Check.a0 head_Check.b0)))
  (.seq (.region [⟨(some 12), .load none (.tmp 3), none⟩,
    ⟨(some 2), .mov (.tmp 12), none⟩] [2])
  (.ret))))))
def head_Check : AFun := ⟨13, 1, [.tmp 2], head_Check.body⟩
def cut_Parts.body : ACode := .seq (.region [⟨(some 2), .box T.sl_uint8 (.tmp 0), none⟩,
    ⟨(some 3), .box T.int (.tmp 1), none⟩,
    ⟨(some 4), .mov (.const .nilf), none⟩] [2, 3])
  (.seq (.region [⟨(some 5), .mkfn F.cut_Parts_1 [] [(.tmp 2), (.tmp 3)], none⟩,
    ⟨(some 4), .mov (.tmp 5), none⟩] [4])
  (.ret))
def cut_Parts : AFun := ⟨6, 2, [.tmp 4], cut_Parts.body⟩
def frame_Room.body : ACode := .seq (.region [⟨(some 2), .mov (.const (.int .i64 0)), none⟩] [0])
  (.seq (.seq (.region [⟨(some 3), .mov (.tmp 0), none⟩,
    ⟨(some 4), .call (.const (.fn F.frame_Wire [] [])) [(.const (.int .i64 1))], none⟩,
    ⟨(some 5), .bin .lss (.tmp 3) (.tmp 4), none⟩] [0, 5])
  (.cond (.tmp 5) (.seq (.region [⟨(some 2), .mov (.const (.int .i64 0)), none⟩] [2])
  (.ret)) (.skip)))
  (.seq (.region [⟨(some 6), .mov (.tmp 0), none⟩,
    ⟨(some 7), .call (.const (.fn F.frame_Wire [] [])) [(.const (.int .i64 1))], none⟩,
    ⟨(some 8), .bin .sub (.tmp 6) (.tmp 7), none⟩,
    ⟨(some 9), .bin .add (.tmp 8) (.const (.int .i64 1)), none⟩,
    ⟨(some 10), .maxmin false (.tmp 9) (.const (.int .i64 242)), none⟩,
    ⟨(some 2), .mov (.tmp 10), none⟩] [2])
  (.ret)))
def frame_Room : AFun := ⟨11, 1, [.tmp 2], frame_Room.body⟩
def crc_shift.b0 : ACode := .seq (.region [⟨(some 4), .bin .lss (.tmp 3) (.const (.int .i64 8)), none⟩] [0, 3, 4])
  (.seq (.cond (.tmp 4) (.skip) (.exit 0))
  (.seq (.block 1 (.region [⟨(some 5), .mov (.tmp 0), none⟩,
    ⟨(some 6), .bin .shr (.tmp 5) (.const (.int .u64 1)), none⟩,
    ⟨(some 7), .mov (.tmp 0), none⟩,
    ⟨(some 8), .bin .and (.tmp 7) (.const (.int .u32 1)), none⟩,
    ⟨(some 9), .un .neg (.tmp 8), none⟩,
    ⟨(some 10), .bin .and (.const (.int .u32 3988292384)) (.tmp 9), none⟩,
    ⟨(some 11), .bin .xor (.tmp 6) (.tmp 10), none⟩,
    ⟨(some 0), .mov (.tmp 11), none⟩] [0, 3]))
  (.region [⟨(some 12), .bin .add (.tmp 3) (.const (.int .i64 1)), none⟩,
    ⟨(some 3), .mov (.tmp 12), none⟩] [0, 3])))
def crc_shift.body : ACode := .seq (.region [⟨(some 2), .mov (.const (.int .u32 0)), none⟩] [0])
  (.seq (.seq (.region [⟨(some 3), .mov (.const (.int .i64 0)), none⟩] [0, 3])
  (.block 0 (.loop crc_shift.b0)))
  (.seq (.region [⟨(some 13), .mov (.tmp 0), none⟩,
    ⟨(some 2), .mov (.tmp 13), none⟩] [2])
  (.ret)))
def crc_shift : AFun := ⟨14, 1, [.tmp 2], crc_shift.body⟩
def frame_Codec_Check.body : ACode := .seq (.region [⟨(some 3), .box T.frame_Frame (.tmp 1), none⟩,
    ⟨(some 4), .mov (.const (.int .i64 0)), none⟩] [0, 3])
  (.seq (.seq (.region [⟨(some 6), .mov (.tmp 0), none⟩,
    ⟨(some 7), .eq false .ptr (.tmp 6) (.const .nilp), none⟩] [3, 7])
  (.cond (.tmp 7) (.seq (.region [⟨(some 4), .mov (.const (.int .i64 1)), none⟩] [4])
  (.ret)) (.skip)))
  (.seq (.region [⟨(some 8), .field 0 (.tmp 3), none⟩,
    ⟨(some 9), .load (some 5) (.tmp 8), none⟩,
    ⟨(some 10), .call (.const (.fn F.head_Check [] [])) [(.tmp 9)], none⟩,
    ⟨(some 5), .mov (.tmp 10), none⟩] [3, 5])
  (.seq (.block 0 (.seq (.region [⟨(some 12), .mov (.tmp 5), none⟩,
    ⟨(some 13), .bin .neq (.tmp 12) (.const (.int .i64 0)), none⟩,
    ⟨(some 11), .mov (.tmp 13), none⟩] [3, 5, 11])
  (.cond (.tmp 11) (.seq (.region [⟨(some 14), .mov (.tmp 5), none⟩,
    ⟨(some 4), .mov (.tmp 14), none⟩] [4])
  (.ret)) (.seq (.region [⟨(some 16), .field 5 (.tmp 3), none⟩,
    ⟨(some 17), .load none (.tmp 16), none⟩,
    ⟨(some 18), .len .slice (.tmp 17), none⟩,
    ⟨(some 19), .bin .eql (.tmp 18) (.const (.int .i64 0)), none⟩,
    ⟨(some 15), .mov (.tmp 19), none⟩] [3, 15])
  (.cond (.tmp 15) (.seq (.region [⟨(some 4), .mov (.const (.int .i64 13)), none⟩] [4])
  (.ret)) (.seq (.region [⟨(some 21), .field 5 (.tmp 3), none⟩,
    ⟨(some 22), .load none (.tmp 21), none⟩,
    ⟨(some 23), .len .slice (.tmp 22), none⟩,
    ⟨(some 24), .bin .gtr (.tmp 23) (.const (.int .i64 242)), none⟩,
    ⟨(some 20), .mov (.tmp 24), none⟩] [20])
  (.cond (.tmp 20) (.seq (.region [⟨(some 4), .mov (.const (.int .i64 2)), none⟩] [4])
  (.ret)) (.skip))))))))
  (.seq (.region [⟨(some 4), .mov (.const (.int .i64 0)), none⟩] [4])
  (.ret)))))
def frame_Codec_Check : AFun := ⟨25, 2, [.tmp 4], frame_Codec_Check.body⟩
def head_Bytes.body : ACode := .seq (.region [⟨(some 1), .box T.head_Head (.tmp 0), none⟩,
    ⟨(some 2), .mov (.const .nils), none⟩,
    ⟨(some 3), .mov (.const (.int .i64 0)), none⟩] [1])
  (.seq (.seq (.region [⟨(some 6), .load (some 5) (.tmp 1), none⟩,
    ⟨(some 7), .call (.const (.fn F.head_Check [] [])) [(.tmp 6)], none⟩,
    ⟨(some 4), .mov (.tmp 7), none⟩] [1, 4])
  (.seq (.region [⟨(some 8), .mov (.tmp 4), none⟩,
    ⟨(some 9), .bin .neq (.tmp 8) (.const (.int .i64 0)), none⟩] [1, 4, 9])
  (.cond (.tmp 9) (.seq (.region [⟨(some 10), .mov (.tmp 4), none⟩,
    ⟨(some 2), .mov (.const .nils), none⟩,
    ⟨(some 3), .mov (.tmp 10), none⟩] [2, 3])
  (.ret)) (.skip))))
  (.seq (.region [⟨(some 11), .field 0 (.tmp 1), none⟩,
    ⟨(some 12), .load none (.tmp 11), none⟩,
    ⟨(some 13), .conv .u8 (.tmp 12), none⟩,
    ⟨(some 14), .field 1 (.tmp 1), none⟩,
    ⟨(some 15), .load none (.tmp 14), none⟩,
    ⟨(some 16), .conv .u8 (.tmp 15), none⟩,
    ⟨(some 17), .field 2 (.tmp 1), none⟩,
    ⟨(some 18), .load none (.tmp 17), none⟩,
    ⟨(some 19), .conv .u8 (.tmp 18), none⟩,
    ⟨(some 20), .field 2 (.tmp 1), none⟩,
    ⟨(some 21), .load none (.tmp 20), none⟩,
    ⟨(some 22), .bin .shr (.tmp 21) (.const (.int .u64 8)), none⟩,
    ⟨(some 23), .conv .u8 (.tmp 22), none⟩,
    ⟨(some 24), .field 2 (.tmp 1), none⟩,
    ⟨(some 25), .load none (.tmp 24), none⟩,
    ⟨(some 26), .bin .shr (.tmp 25) (.const (.int .u64 16)), none⟩,
    ⟨(some 27), .conv .u8 (.tmp 26), none⟩,
    ⟨(some 28), .field 2 (.tmp 1), none⟩,
    ⟨(some 29), .load none (.tmp 28), none⟩,
    ⟨(some 30), .bin .shr (.tmp 29) (.const (.int .u64 24)), none⟩,
    ⟨(some 31), .conv .u8 (.tmp 30), none⟩,
    ⟨(some 32), .field 3 (.tmp 1), none⟩,
    ⟨(some 33), .load none (.tmp 32), none⟩,
    ⟨(some 34), .conv .u8 (.tmp 33), none⟩,
    ⟨(some 35), .field 4 (.tmp 1), none⟩,
    ⟨(some 36), .load none (.tmp 35), none⟩,
    ⟨(some 37), .conv .u8 (.tmp 36), none⟩,
    ⟨(some 38), .build [(.int .u8 0), (.int .u8 0), (.int .u8 0), (.int .u8 0), (.int .u8 0), (.int .u8 0), (.int .u8 0), (.int .u8 0)] [(0, 1, (.tmp 13)), (1, 1, (.tmp 16)), (2, 1, (.tmp 19)), (3, 1, (.tmp 23)), (4, 1, (.tmp 27)), (5, 1, (.tmp 31)), (6, 1, (.tmp 34)), (7, 1, (.tmp 37))], none⟩,
    ⟨(some 5), .alloc T.n8_uint8 [(.int .u8 0), (.int .u8 0), (.int .u8 0), (.int .u8 0), (.int .u8 0), (.int .u8 0), (.int .u8 0), (.int .u8 0)], none⟩,
    ⟨none, .store 8 (.tmp 5) (.tmp 38), none⟩] [5])
  (.seq (.region [⟨(some 39), .slice 1 (.array 8) (.tmp 5) none none none, none⟩,
    ⟨(some 2), .mov (.tmp 39), none⟩,
    ⟨(some 3), .mov (.const (.int .i64 0)), none⟩] [2, 3])
  (.ret))))
def head_Bytes : AFun := ⟨40, 1, [.tmp 2, .tmp 3], head_Bytes.body⟩
def cobs_Encode.a0 : ACode := .region [⟨(some 4), .mov (.tmp 7), none⟩] [3, 4]
def cobs_Encode.b0 : ACode := .block 1 (.seq (.region [⟨(some 8), .load none (.tmp 3), none⟩,
    ⟨(some 9), .mov (.tmp 4), none⟩,
    ⟨(some 10), .len .slice (.tmp 9), none⟩,
    ⟨(some 11), .bin .add (.tmp 10) (.const (.int .i64 1)), none⟩,
    ⟨(some 12), .conv .u8 (.tmp 11), none⟩,
    ⟨(some 13), .lit T.uint8 1 1 [(.int .u8 0)] [(0, 1, (.tmp 12))], none⟩,
    ⟨(some 14), .append T.uint8 1 1 (.tmp 8) (.tmp 13), none⟩,
    ⟨none, .store 1 (.tmp 3) (.tmp 14), none⟩] [3, 4])
  (.region [⟨(some 15), .load none (.tmp 3), none⟩,
    ⟨(some 16), .mov (.tmp 4), none⟩,
    ⟨(some 17), .append T.uint8 1 1 (.tmp 15) (.tmp 16), none⟩,
    ⟨none, .store 1 (.tmp 3) (.tmp 17), none⟩] []))
def cobs_Encode.body : ACode := .seq (.region [⟨(some 2), .mov (.const .nils), none⟩] [0, 2])
  (.seq (.region [⟨(some 3), .alloc T.sl_uint8 [.nils], none⟩] [0, 2, 3])
  (.seq (.seq (.region [⟨(some 5), .mov (.tmp 0), none⟩,
    ⟨(some 6), .call (.const (.fn F.cobs_Blocks [] [])) [(.tmp 5)], none⟩] [2, 3, 6])
  (.block 0 (.range (.tmp 6) [7] cobs_Encode.a0 cobs_Encode.b0)))
  (.seq (.region [⟨(some 18), .load none (.tmp 3), none⟩,
    ⟨(some 2), .mov (.tmp 18), none⟩] [2])
  (.ret))))
def cobs_Encode : AFun := ⟨19, 1, [.tmp 2], cobs_Encode.body⟩
def crc_Seal.d0 : List AOper := [⟨(some 13), .lit T.uint8 1 0 [] [], none⟩,
    ⟨(some 14), .mov (.tmp 1), none⟩,
    ⟨(some 15), .append T.uint8 1 1 (.tmp 13) (.tmp 14), none⟩,
    ⟨(some 16), .slice 1 (.array 4) (.tmp 5) none none none, none⟩,
    ⟨(some 17), .append T.uint8 1 1 (.tmp 15) (.tmp 16), none⟩,
    ⟨(some 4), .mov (.tmp 17), none⟩]
def crc_Seal.d0b : List (List Nat) := [[], [], [0, 1], [], [0, 1, 2, 3], [0, 1, 2, 3, 4]]
def crc_Seal.body : ACode := .seq (.region [⟨(some 4), .mov (.const .nils), none⟩] [0, 1])
  (.seq (.seq (.region [⟨(some 6), .mov (.tmp 0), none⟩,
    ⟨(some 7), .eq false .ptr (.tmp 6) (.const .nilp), none⟩] [0, 1, 7])
  (.cond (.tmp 7) (.seq (.region [⟨(some 4), .mov (.const .nils), none⟩] [4])
  (.ret)) (.skip)))
  (.seq (.region [⟨(some 8), .mov (.tmp 0), none⟩,
    ⟨(some 9), .mov (.tmp 1), none⟩,
    ⟨(some 10), .lit T.sl_uint8 1 1 [.nils] [(0, 1, (.tmp 9))], none⟩,
    ⟨(some 11), .call (.const (.fn F.crc_Table_Sum [] [])) [(.tmp 8), (.tmp 10)], none⟩,
    ⟨(some 12), .call (.const (.fn F.crc_bytes [] [])) [(.tmp 11)], none⟩,
    ⟨(some 5), .alloc T.n4_uint8 [(.int .u8 0), (.int .u8 0), (.int .u8 0), (.int .u8 0)], none⟩,
    ⟨none, .store 4 (.tmp 5) (.tmp 12), none⟩] [1, 5])
  (.seq (.draw crc_Seal.d0 crc_Seal.d0b [[1, 3, 0, 2, 4, 5]] [(0, 3), (2, 3)] [4])
  (.ret))))
def crc_Seal : AFun := ⟨18, 2, [.tmp 4], crc_Seal.body⟩
def msg_Check.d0 : List AOper := [⟨(some 7), .load (some 11) (.tmp 1), none⟩,
    ⟨(some 4), .alloc T.msg_Msg [(.int .i64 0), (.int .i64 0), (.int .i64 0), (.int .i64 0), (.int .i64 0), (.int .i64 0), (.int .i64 0), .nils, .nils, (.str ⟨#[]⟩), (.str ⟨#[]⟩)], none⟩,
    ⟨(some 3), .mov (.const (.int .i64 9)), none⟩,
    ⟨none, .store 11 (.tmp 4) (.tmp 7), none⟩]
def msg_Check.d0b : List (List Nat) := [[], [], [1], [0, 1, 2]]
def msg_Check.b1 : ACode := .seq (.region [⟨(some 13), .bin .lss (.tmp 12) (.tmp 11), none⟩] [1, 3, 4, 10, 11, 12, 13])
  (.seq (.cond (.tmp 13) (.skip) (.exit 0))
  (.seq (.block 1 (.seq (.region [⟨(some 14), .idx 7 none (.tmp 10) (.tmp 12), none⟩,
    ⟨(some 15), .load (some 7) (.tmp 14), none⟩,
    ⟨(some 6), .alloc T.field_Field [(.str ⟨#[]⟩), (.int .i64 0), (.int .i64 0), (.int .i64 0), (.int .i64 0), (.int .i64 0), (.int .i64 0)], none⟩,
    ⟨none, .store 7 (.tmp 6) (.tmp 15), none⟩] [1, 4, 6, 10, 11, 12])
  (.seq (.seq (.region [⟨(some 16), .load (some 11) (.tmp 1), none⟩,
    ⟨(some 17), .load (some 7) (.tmp 6), none⟩,
    ⟨(some 18), .call (.const (.fn F.msg_wrong [] [])) [(.tmp 16), (.tmp 17)], none⟩,
    ⟨(some 3), .mov (.tmp 18), none⟩] [1, 3, 4, 6, 10, 11, 12])
  (.seq (.region [⟨(some 19), .mov (.tmp 3), none⟩,
    ⟨(some 20), .bin .neq (.tmp 19) (.const (.int .i64 0)), none⟩] [1, 3, 4, 6, 10, 11, 12, 20])
  (.cond (.tmp 20) (.exit 0) (.skip))))
  (.region [⟨(some 21), .load (some 11) (.tmp 4), none⟩,
    ⟨(some 22), .load (some 7) (.tmp 6), none⟩,
    ⟨(some 23), .call (.const (.fn F.msg_without [] [])) [(.tmp 21), (.tmp 22)], none⟩,
    ⟨none, .store 11 (.tmp 4) (.tmp 23), none⟩] [1, 3, 4, 10, 11, 12]))))
  (.region [⟨(some 24), .bin .add (.tmp 12) (.const (.int .i64 1)), none⟩,
    ⟨(some 12), .mov (.tmp 24), none⟩] [1, 3, 4, 10, 11, 12])))
def msg_Check.body : ACode := .seq (.region [⟨(some 1), .box T.msg_Msg (.tmp 0), none⟩,
    ⟨(some 2), .mov (.const (.int .i64 0)), none⟩] [1])
  (.scope (.seq (.draw msg_Check.d0 msg_Check.d0b [[0, 1, 2, 3]] [(1, 0)] [1, 3, 4])
  (.seq (.skip)
  (.seq (.seq (.region [⟨(some 8), .field 0 (.tmp 1), none⟩,
    ⟨(some 9), .load none (.tmp 8), none⟩,
    ⟨(some 10), .call (.const (.fn F.field_Of [] [])) [(.tmp 9)], none⟩,
    ⟨(some 11), .len .slice (.tmp 10), none⟩,
    ⟨(some 12), .mov (.const (.int .i64 0)), none⟩] [1, 3, 4, 10, 11, 12])
  (.block 0 (.loop msg_Check.b1)))
  (.seq (.seq (.region [⟨(some 25), .mov (.tmp 3), none⟩,
    ⟨(some 26), .bin .eql (.tmp 25) (.const (.int .i64 0)), none⟩,
    ⟨(some 27), .mov (.tmp 26), none⟩,
    ⟨(some 28), .load (some 11) (.tmp 4), some (27, true)⟩,
    ⟨(some 29), .field 0 (.tmp 1), some (27, true)⟩,
    ⟨(some 30), .load none (.tmp 29), some (27, true)⟩,
    ⟨(some 31), .build [(.int .i64 0), (.int .i64 0), (.int .i64 0), (.int .i64 0), (.int .i64 0), (.int .i64 0), (.int .i64 0), .nils, .nils, (.str ⟨#[]⟩), (.str ⟨#[]⟩)] [(0, 1, (.tmp 30))], some (27, true)⟩,
    ⟨(some 32), .call (.const (.fn F.msg_Same [] [])) [(.tmp 28), (.tmp 31)], some (27, true)⟩,
    ⟨(some 33), .un .not (.tmp 32), some (27, true)⟩,
    ⟨(some 34), .pick (.tmp 27) (.tmp 33) (.const (.bool false)), none⟩] [3, 34])
  (.cond (.tmp 34) (.seq (.region [⟨(some 2), .mov (.const (.int .i64 3)), none⟩] [2])
  (.ret)) (.skip)))
  (.seq (.region [⟨(some 35), .mov (.tmp 3), none⟩,
    ⟨(some 2), .mov (.tmp 35), none⟩] [2])
  (.ret)))))))
def msg_Check : AFun := ⟨36, 1, [.tmp 2], msg_Check.body⟩
def field_All_1.b0 : ACode := .seq (.region [⟨(some 10), .bin .lss (.tmp 9) (.tmp 8), none⟩] [0, 2, 7, 8, 9, 10])
  (.seq (.cond (.tmp 10) (.skip) (.exit 0))
  (.seq (.block 1 (.seq (.region [⟨(some 11), .idx 7 none (.tmp 7) (.tmp 9), none⟩,
    ⟨(some 12), .load (some 7) (.tmp 11), none⟩,
    ⟨(some 5), .alloc T.field_Field [(.str ⟨#[]⟩), (.int .i64 0), (.int .i64 0), (.int .i64 0), (.int .i64 0), (.int .i64 0), (.int .i64 0)], none⟩,
    ⟨none, .store 7 (.tmp 5) (.tmp 12), none⟩] [0, 2, 5, 7, 8, 9])
  (.seq (.seq (.region [⟨(some 13), .field 5 (.tmp 5), none⟩,
    ⟨(some 14), .load none (.tmp 13), none⟩,
    ⟨(some 15), .load none (.tmp 2), none⟩,
    ⟨(some 16), .bin .gtr (.tmp 14) (.tmp 15), none⟩] [0, 2, 5, 7, 8, 9, 16])
  (.cond (.tmp 16) (.exit 1) (.skip)))
  (.seq (.region [⟨(some 17), .mov (.tmp 0), none⟩,
    ⟨(some 18), .load (some 7) (.tmp 5), none⟩,
    ⟨(some 19), .call (.tmp 17) [(.tmp 18)], none⟩,
    ⟨(some 20), .un .not (.tmp 19), none⟩] [0, 2, 7, 8, 9, 20])
  (.cond (.tmp 20) (.exit 0) (.skip))))))
  (.region [⟨(some 21), .bin .add (.tmp 9) (.const (.int .i64 1)), none⟩,
    ⟨(some 9), .mov (.tmp 21), none⟩] [0, 2, 7, 8, 9])))
def field_All_1.body : ACode := .scope (.seq (.skip)
  (.seq (.region [⟨(some 6), .load none (.tmp 1), none⟩,
    ⟨(some 7), .call (.const (.fn F.field_Of [] [])) [(.tmp 6)], none⟩,
    ⟨(some 8), .len .slice (.tmp 7), none⟩,
    ⟨(some 9), .mov (.const (.int .i64 0)), none⟩] [0, 2, 7, 8, 9])
  (.block 0 (.loop field_All_1.b0))))
def field_All_1 : AFun := ⟨22, 3, [], field_All_1.body⟩
def field_Of.body : ACode := .seq (.region [⟨(some 2), .mov (.const .nils), none⟩] [0])
  (.seq (.seq (.region [⟨(some 3), .mov (.tmp 0), none⟩] [3])
  (.block 0 (.seq (.region [⟨(some 5), .bin .eql (.tmp 3) (.const (.int .i64 1)), none⟩,
    ⟨(some 4), .mov (.tmp 5), none⟩] [3, 4])
  (.cond (.tmp 4) (.seq (.region [⟨(some 6), .call (.const (.fn F.field_robot [] [])) [], none⟩,
    ⟨(some 7), .build [(.str ⟨#[]⟩), (.int .i64 0), (.int .i64 0), (.int .i64 0), (.int .i64 0), (.int .i64 0), (.int .i64 0)] [(0, 1, (.const (.str ⟨#[115, 112, 101, 101, 100]⟩))), (1, 1, (.const (.int .i64 1))), (2, 1, (.const (.int .i64 1))), (3, 1, (.const (.int .i64 1))), (4, 1, (.const (.int .i64 5000))), (5, 1, (.const (.int .i64 1))), (6, 1, (.const (.int .i64 0)))], none⟩,
    ⟨(some 8), .build [(.str ⟨#[]⟩), (.int .i64 0), (.int .i64 0), (.int .i64 0), (.int .i64 0), (.int .i64 0), (.int .i64 0)] [(0, 1, (.const (.str ⟨#[97, 99, 99, 101, 108]⟩))), (1, 1, (.const (.int .i64 1))), (2, 1, (.const (.int .i64 2))), (3, 1, (.const (.int .i64 1))), (4, 1, (.const (.int .i64 10000))), (5, 1, (.const (.int .i64 2))), (6, 1, (.const (.int .i64 500)))], none⟩,
    ⟨(some 9), .build [(.str ⟨#[]⟩), (.int .i64 0), (.int .i64 0), (.int .i64 0), (.int .i64 0), (.int .i64 0), (.int .i64 0)] [(0, 1, (.const (.str ⟨#[112, 97, 116, 104]⟩))), (1, 1, (.const (.int .i64 3))), (2, 1, (.const (.int .i64 (-1)))), (3, 1, (.const (.int .i64 1))), (4, 1, (.const (.int .i64 16))), (5, 1, (.const (.int .i64 1))), (6, 1, (.const (.int .i64 0)))], none⟩,
    ⟨(some 10), .build [(.str ⟨#[]⟩), (.int .i64 0), (.int .i64 0), (.int .i64 0), (.int .i64 0), (.int .i64 0), (.int .i64 0)] [(0, 1, (.const (.str ⟨#[116, 97, 103]⟩))), (1, 1, (.const (.int .i64 6))), (2, 1, (.const (.int .i64 (-1)))), (3, 1, (.const (.int .i64 0))), (4, 1, (.const (.int .i64 16))), (5, 1, (.const (.int .i64 2))), (6, 1, (.const (.int .i64 0)))], none⟩,
    ⟨(some 11), .lit T.field_Field 7 5 [(.str ⟨#[]⟩), (.int .i64 0), (.int .i64 0), (.int .i64 0), (.int .i64 0), (.int .i64 0), (.int .i64 0), (.str ⟨#[]⟩), (.int .i64 0), (.int .i64 0), (.int .i64 0), (.int .i64 0), (.int .i64 0), (.int .i64 0), (.str ⟨#[]⟩), (.int .i64 0), (.int .i64 0), (.int .i64 0), (.int .i64 0), (.int .i64 0), (.int .i64 0), (.str ⟨#[]⟩), (.int .i64 0), (.int .i64 0), (.int .i64 0), (.int .i64 0), (.int .i64 0), (.int .i64 0), (.str ⟨#[]⟩), (.int .i64 0), (.int .i64 0), (.int .i64 0), (.int .i64 0), (.int .i64 0), (.int .i64 0)] [(0, 7, (.tmp 6)), (7, 7, (.tmp 7)), (14, 7, (.tmp 8)), (21, 7, (.tmp 9)), (28, 7, (.tmp 10))], none⟩,
    ⟨(some 2), .mov (.tmp 11), none⟩] [2])
  (.ret)) (.seq (.region [⟨(some 13), .bin .eql (.tmp 3) (.const (.int .i64 2)), none⟩,
    ⟨(some 12), .mov (.tmp 13), none⟩] [3, 12])
  (.cond (.tmp 12) (.seq (.region [⟨(some 14), .call (.const (.fn F.field_robot [] [])) [], none⟩,
    ⟨(some 15), .build [(.str ⟨#[]⟩), (.int .i64 0), (.int .i64 0), (.int .i64 0), (.int .i64 0), (.int .i64 0), (.int .i64 0)] [(0, 1, (.const (.str ⟨#[114, 101, 97, 115, 111, 110]⟩))), (1, 1, (.const (.int .i64 1))), (2, 1, (.const (.int .i64 1))), (3, 1, (.const (.int .i64 0))), (4, 1, (.const (.int .i64 15))), (5, 1, (.const (.int .i64 1))), (6, 1, (.const (.int .i64 0)))], none⟩,
    ⟨(some 16), .build [(.str ⟨#[]⟩), (.int .i64 0), (.int .i64 0), (.int .i64 0), (.int .i64 0), (.int .i64 0), (.int .i64 0)] [(0, 1, (.const (.str ⟨#[122, 111, 110, 101]⟩))), (1, 1, (.const (.int .i64 1))), (2, 1, (.const (.int .i64 2))), (3, 1, (.const (.int .i64 0))), (4, 1, (.const (.int .i64 4095))), (5, 1, (.const (.int .i64 2))), (6, 1, (.const (.int .i64 0)))], none⟩,
    ⟨(some 17), .lit T.field_Field 7 3 [(.str ⟨#[]⟩), (.int .i64 0), (.int .i64 0), (.int .i64 0), (.int .i64 0), (.int .i64 0), (.int .i64 0), (.str ⟨#[]⟩), (.int .i64 0), (.int .i64 0), (.int .i64 0), (.int .i64 0), (.int .i64 0), (.int .i64 0), (.str ⟨#[]⟩), (.int .i64 0), (.int .i64 0), (.int .i64 0), (.int .i64 0), (.int .i64 0), (.int .i64 0)] [(0, 7, (.tmp 14)), (7, 7, (.tmp 15)), (14, 7, (.tmp 16))], none⟩,
    ⟨(some 2), .mov (.tmp 17), none⟩] [2])
  (.ret)) (.seq (.region [⟨(some 19), .bin .eql (.tmp 3) (.const (.int .i64 3)), none⟩,
    ⟨(some 18), .mov (.tmp 19), none⟩] [3, 18])
  (.cond (.tmp 18) (.seq (.region [⟨(some 20), .call (.const (.fn F.field_robot [] [])) [], none⟩,
    ⟨(some 21), .build [(.str ⟨#[]⟩), (.int .i64 0), (.int .i64 0), (.int .i64 0), (.int .i64 0), (.int .i64 0), (.int .i64 0)] [(0, 1, (.const (.str ⟨#[122, 111, 110, 101]⟩))), (1, 1, (.const (.int .i64 1))), (2, 1, (.const (.int .i64 1))), (3, 1, (.const (.int .i64 0))), (4, 1, (.const (.int .i64 4095))), (5, 1, (.const (.int .i64 1))), (6, 1, (.const (.int .i64 0)))], none⟩,
    ⟨(some 22), .build [(.str ⟨#[]⟩), (.int .i64 0), (.int .i64 0), (.int .i64 0), (.int .i64 0), (.int .i64 0), (.int .i64 0)] [(0, 1, (.const (.str ⟨#[108, 101, 97, 115, 101]⟩))), (1, 1, (.const (.int .i64 1))), (2, 1, (.const (.int .i64 2))), (3, 1, (.const (.int .i64 1))), (4, 1, (.const (.int .i64 255))), (5, 1, (.const (.int .i64 2))), (6, 1, (.const (.int .i64 1)))], none⟩,
    ⟨(some 23), .build [(.str ⟨#[]⟩), (.int .i64 0), (.int .i64 0), (.int .i64 0), (.int .i64 0), (.int .i64 0), (.int .i64 0)] [(0, 1, (.const (.str ⟨#[99, 101, 108, 108, 115]⟩))), (1, 1, (.const (.int .i64 4))), (2, 1, (.const (.int .i64 (-1)))), (3, 1, (.const (.int .i64 1))), (4, 1, (.const (.int .i64 32))), (5, 1, (.const (.int .i64 1))), (6, 1, (.const (.int .i64 0)))], none⟩,
    ⟨(some 24), .lit T.field_Field 7 4 [(.str ⟨#[]⟩), (.int .i64 0), (.int .i64 0), (.int .i64 0), (.int .i64 0), (.int .i64 0), (.int .i64 0), (.str ⟨#[]⟩), (.int .i64 0), (.int .i64 0), (.int .i64 0), (.int .i64 0), (.int .i64 0), (.int .i64 0), (.str ⟨#[]⟩), (.int .i64 0), (.int .i64 0), (.int .i64 0), (.int .i64 0), (.int .i64 0), (.int .i64 0), (.str ⟨#[]⟩), (.int .i64 0), (.int .i64 0), (.int .i64 0), (.int .i64 0), (.int .i64 0), (.int .i64 0)] [(0, 7, (.tmp 20)), (7, 7, (.tmp 21)), (14, 7, (.tmp 22)), (21, 7, (.tmp 23))], none⟩,
    ⟨(some 2), .mov (.tmp 24), none⟩] [2])
  (.ret)) (.seq (.region [⟨(some 26), .bin .eql (.tmp 3) (.const (.int .i64 4)), none⟩,
    ⟨(some 25), .mov (.tmp 26), none⟩] [3, 25])
  (.cond (.tmp 25) (.seq (.region [⟨(some 27), .call (.const (.fn F.field_robot [] [])) [], none⟩,
    ⟨(some 28), .build [(.str ⟨#[]⟩), (.int .i64 0), (.int .i64 0), (.int .i64 0), (.int .i64 0), (.int .i64 0), (.int .i64 0)] [(0, 1, (.const (.str ⟨#[120]⟩))), (1, 1, (.const (.int .i64 2))), (2, 1, (.const (.int .i64 1))), (3, 1, (.const (.int .i64 (-1000000)))), (4, 1, (.const (.int .i64 1000000))), (5, 1, (.const (.int .i64 1))), (6, 1, (.const (.int .i64 0)))], none⟩,
    ⟨(some 29), .build [(.str ⟨#[]⟩), (.int .i64 0), (.int .i64 0), (.int .i64 0), (.int .i64 0), (.int .i64 0), (.int .i64 0)] [(0, 1, (.const (.str ⟨#[121]⟩))), (1, 1, (.const (.int .i64 2))), (2, 1, (.const (.int .i64 2))), (3, 1, (.const (.int .i64 (-1000000)))), (4, 1, (.const (.int .i64 1000000))), (5, 1, (.const (.int .i64 1))), (6, 1, (.const (.int .i64 0)))], none⟩,
    ⟨(some 30), .build [(.str ⟨#[]⟩), (.int .i64 0), (.int .i64 0), (.int .i64 0), (.int .i64 0), (.int .i64 0), (.int .i64 0)] [(0, 1, (.const (.str ⟨#[104, 101, 97, 100, 105, 110, 103]⟩))), (1, 1, (.const (.int .i64 1))), (2, 1, (.const (.int .i64 3))), (3, 1, (.const (.int .i64 0))), (4, 1, (.const (.int .i64 35999))), (5, 1, (.const (.int .i64 1))), (6, 1, (.const (.int .i64 0)))], none⟩,
    ⟨(some 31), .build [(.str ⟨#[]⟩), (.int .i64 0), (.int .i64 0), (.int .i64 0), (.int .i64 0), (.int .i64 0), (.int .i64 0)] [(0, 1, (.const (.str ⟨#[98, 97, 116, 116, 101, 114, 121]⟩))), (1, 1, (.const (.int .i64 1))), (2, 1, (.const (.int .i64 4))), (3, 1, (.const (.int .i64 0))), (4, 1, (.const (.int .i64 1000))), (5, 1, (.const (.int .i64 1))), (6, 1, (.const (.int .i64 0)))], none⟩,
    ⟨(some 32), .build [(.str ⟨#[]⟩), (.int .i64 0), (.int .i64 0), (.int .i64 0), (.int .i64 0), (.int .i64 0), (.int .i64 0)] [(0, 1, (.const (.str ⟨#[115, 117, 114, 101]⟩))), (1, 1, (.const (.int .i64 1))), (2, 1, (.const (.int .i64 5))), (3, 1, (.const (.int .i64 0))), (4, 1, (.const (.int .i64 100))), (5, 1, (.const (.int .i64 2))), (6, 1, (.const (.int .i64 100)))], none⟩,
    ⟨(some 33), .lit T.field_Field 7 6 [(.str ⟨#[]⟩), (.int .i64 0), (.int .i64 0), (.int .i64 0), (.int .i64 0), (.int .i64 0), (.int .i64 0), (.str ⟨#[]⟩), (.int .i64 0), (.int .i64 0), (.int .i64 0), (.int .i64 0), (.int .i64 0), (.int .i64 0), (.str ⟨#[]⟩), (.int .i64 0), (.int .i64 0), (.int .i64 0), (.int .i64 0), (.int .i64 0), (.int .i64 0), (.str ⟨#[]⟩), (.int .i64 0), (.int .i64 0), (.int .i64 0), (.int .i64 0), (.int .i64 0), (.int .i64 0), (.str ⟨#[]⟩), (.int .i64 0), (.int .i64 0), (.int .i64 0), (.int .i64 0), (.int .i64 0), (.int .i64 0), (.str ⟨#[]⟩), (.int .i64 0), (.int .i64 0), (.int .i64 0), (.int .i64 0), (.int .i64 0), (.int .i64 0)] [(0, 7, (.tmp 27)), (7, 7, (.tmp 28)), (14, 7, (.tmp 29)), (21, 7, (.tmp 30)), (28, 7, (.tmp 31)), (35, 7, (.tmp 32))], none⟩,
    ⟨(some 2), .mov (.tmp 33), none⟩] [2])
  (.ret)) (.seq (.region [⟨(some 35), .bin .eql (.tmp 3) (.const (.int .i64 5)), none⟩,
    ⟨(some 34), .mov (.tmp 35), none⟩] [34])
  (.cond (.tmp 34) (.seq (.region [⟨(some 36), .call (.const (.fn F.field_robot [] [])) [], none⟩,
    ⟨(some 37), .build [(.str ⟨#[]⟩), (.int .i64 0), (.int .i64 0), (.int .i64 0), (.int .i64 0), (.int .i64 0), (.int .i64 0)] [(0, 1, (.const (.str ⟨#[99, 111, 100, 101]⟩))), (1, 1, (.const (.int .i64 1))), (2, 1, (.const (.int .i64 1))), (3, 1, (.const (.int .i64 1))), (4, 1, (.const (.int .i64 9999))), (5, 1, (.const (.int .i64 1))), (6, 1, (.const (.int .i64 0)))], none⟩,
    ⟨(some 38), .build [(.str ⟨#[]⟩), (.int .i64 0), (.int .i64 0), (.int .i64 0), (.int .i64 0), (.int .i64 0), (.int .i64 0)] [(0, 1, (.const (.str ⟨#[115, 101, 118, 101, 114, 105, 116, 121]⟩))), (1, 1, (.const (.int .i64 1))), (2, 1, (.const (.int .i64 2))), (3, 1, (.const (.int .i64 0))), (4, 1, (.const (.int .i64 4))), (5, 1, (.const (.int .i64 1))), (6, 1, (.const (.int .i64 0)))], none⟩,
    ⟨(some 39), .build [(.str ⟨#[]⟩), (.int .i64 0), (.int .i64 0), (.int .i64 0), (.int .i64 0), (.int .i64 0), (.int .i64 0)] [(0, 1, (.const (.str ⟨#[112, 97, 114, 116]⟩))), (1, 1, (.const (.int .i64 1))), (2, 1, (.const (.int .i64 3))), (3, 1, (.const (.int .i64 0))), (4, 1, (.const (.int .i64 255))), (5, 1, (.const (.int .i64 2))), (6, 1, (.const (.int .i64 0)))], none⟩,
    ⟨(some 40), .build [(.str ⟨#[]⟩), (.int .i64 0), (.int .i64 0), (.int .i64 0), (.int .i64 0), (.int .i64 0), (.int .i64 0)] [(0, 1, (.const (.str ⟨#[116, 105, 109, 101, 115]⟩))), (1, 1, (.const (.int .i64 1))), (2, 1, (.const (.int .i64 4))), (3, 1, (.const (.int .i64 1))), (4, 1, (.const (.int .i64 1000000))), (5, 1, (.const (.int .i64 2))), (6, 1, (.const (.int .i64 1)))], none⟩,
    ⟨(some 41), .build [(.str ⟨#[]⟩), (.int .i64 0), (.int .i64 0), (.int .i64 0), (.int .i64 0), (.int .i64 0), (.int .i64 0)] [(0, 1, (.const (.str ⟨#[116, 101, 120, 116]⟩))), (1, 1, (.const (.int .i64 5))), (2, 1, (.const (.int .i64 (-1)))), (3, 1, (.const (.int .i64 0))), (4, 1, (.const (.int .i64 64))), (5, 1, (.const (.int .i64 1))), (6, 1, (.const (.int .i64 0)))], none⟩,
    ⟨(some 42), .lit T.field_Field 7 6 [(.str ⟨#[]⟩), (.int .i64 0), (.int .i64 0), (.int .i64 0), (.int .i64 0), (.int .i64 0), (.int .i64 0), (.str ⟨#[]⟩), (.int .i64 0), (.int .i64 0), (.int .i64 0), (.int .i64 0), (.int .i64 0), (.int .i64 0), (.str ⟨#[]⟩), (.int .i64 0), (.int .i64 0), (.int .i64 0), (.int .i64 0), (.int .i64 0), (.int .i64 0), (.str ⟨#[]⟩), (.int .i64 0), (.int .i64 0), (.int .i64 0), (.int .i64 0), (.int .i64 0), (.int .i64 0), (.str ⟨#[]⟩), (.int .i64 0), (.int .i64 0), (.int .i64 0), (.int .i64 0), (.int .i64 0), (.int .i64 0), (.str ⟨#[]⟩), (.int .i64 0), (.int .i64 0), (.int .i64 0), (.int .i64 0), (.int .i64 0), (.int .i64 0)] [(0, 7, (.tmp 36)), (7, 7, (.tmp 37)), (14, 7, (.tmp 38)), (21, 7, (.tmp 39)), (28, 7, (.tmp 40)), (35, 7, (.tmp 41))], none⟩,
    ⟨(some 2), .mov (.tmp 42), none⟩] [2])
  (.ret)) (.skip)))))))))))))
  (.seq (.region [⟨(some 2), .mov (.const .nils), none⟩] [2])
  (.ret)))
def field_Of : AFun := ⟨43, 1, [.tmp 2], field_Of.body⟩
def pen_New.body : ACode := .seq (.region [⟨(some 2), .mov (.const .nilp), none⟩] [0])
  (.seq (.region [⟨(some 3), .mov (.tmp 0), none⟩,
    ⟨(some 4), .maxmin true (.tmp 3) (.const (.int .i64 0)), none⟩,
    ⟨(some 5), .build [.nils, (.int .i64 0), (.bool false)] [(1, 1, (.tmp 4))], none⟩,
    ⟨(some 6), .build [.nils, (.int .i64 0), (.bool false)] [(0, 3, (.tmp 5))], none⟩,
    ⟨(some 7), .box T.pen_Pen (.tmp 6), none⟩,
    ⟨(some 2), .mov (.tmp 7), none⟩] [2])
  (.ret))
def pen_New : AFun := ⟨8, 1, [.tmp 2], pen_New.body⟩
def pen_Pen_Number.body : ACode := .seq (.region [⟨(some 4), .mov (.const (.int .i64 0)), none⟩] [0, 1])
  (.seq (.region [⟨(some 5), .mov (.tmp 0), none⟩,
    ⟨(some 6), .mov (.tmp 1), none⟩,
    ⟨(some 7), .call (.const (.fn F.varint_Put [] [])) [(.tmp 6)], none⟩,
    ⟨(some 8), .call (.const (.fn F.pen_Pen_Raw [] [])) [(.tmp 5), (.tmp 7)], none⟩,
    ⟨(some 4), .mov (.tmp 8), none⟩] [4])
  (.ret))
def pen_Pen_Number : AFun := ⟨9, 2, [.tmp 4], pen_Pen_Number.body⟩
def pen_Pen_Signed.b0 : ACode := .seq (.region [⟨(some 11), .bin .lss (.tmp 10) (.tmp 9), none⟩] [0, 5, 8, 9, 10, 11])
  (.seq (.cond (.tmp 11) (.skip) (.exit 0))
  (.seq (.block 1 (.seq (.region [⟨(some 12), .idx 1 none (.tmp 8) (.tmp 10), none⟩,
    ⟨(some 13), .load none (.tmp 12), none⟩,
    ⟨(some 7), .mov (.tmp 13), none⟩] [0, 5, 7, 8, 9, 10])
  (.region [⟨(some 14), .mov (.tmp 5), none⟩,
    ⟨(some 15), .mov (.tmp 7), none⟩,
    ⟨(some 16), .call (.const (.fn F.varint_Zig [] [])) [(.tmp 15)], none⟩,
    ⟨(some 17), .lit T.uint64 1 1 [(.int .u64 0)] [(0, 1, (.tmp 16))], none⟩,
    ⟨(some 18), .append T.uint64 1 8 (.tmp 14) (.tmp 17), none⟩,
    ⟨(some 5), .mov (.tmp 18), none⟩] [0, 5, 8, 9, 10])))
  (.region [⟨(some 19), .bin .add (.tmp 10) (.const (.int .i64 1)), none⟩,
    ⟨(some 10), .mov (.tmp 19), none⟩] [0, 5, 8, 9, 10])))
def pen_Pen_Signed.body : ACode := .seq (.region [⟨(some 4), .mov (.const (.int .i64 0)), none⟩] [0, 1])
  (.seq (.region [⟨(some 5), .mov (.const .nils), none⟩] [0, 1, 5])
  (.seq (.seq (.region [⟨(some 8), .mov (.tmp 1), none⟩,
    ⟨(some 9), .len .slice (.tmp 8), none⟩,
    ⟨(some 10), .mov (.const (.int .i64 0)), none⟩] [0, 5, 8, 9, 10])
  (.block 0 (.loop pen_Pen_Signed.b0)))
  (.seq (.region [⟨(some 20), .mov (.tmp 0), none⟩,
    ⟨(some 21), .mov (.tmp 5), none⟩,
    ⟨(some 22), .call (.const (.fn F.pen_Pen_Number [] [])) [(.tmp 20), (.tmp 21)], none⟩,
    ⟨(some 4), .mov (.tmp 22), none⟩] [4])
  (.ret))))
def pen_Pen_Signed : AFun := ⟨23, 2, [.tmp 4], pen_Pen_Signed.body⟩
def body_points.b0 : ACode := .seq (.region [⟨(some 16), .bin .lss (.tmp 15) (.tmp 14), none⟩] [0, 4, 13, 14, 15, 16])
  (.seq (.cond (.tmp 16) (.skip) (.exit 0))
  (.seq (.block 1 (.seq (.region [⟨(some 17), .idx 2 none (.tmp 13) (.tmp 15), none⟩,
    ⟨(some 18), .load (some 2) (.tmp 17), none⟩,
    ⟨(some 6), .alloc T.msg_Point [(.int .i64 0), (.int .i64 0)], none⟩,
    ⟨none, .store 2 (.tmp 6) (.tmp 18), none⟩] [0, 4, 6, 13, 14, 15])
  (.seq (.region [⟨(some 19), .mov (.tmp 0), none⟩,
    ⟨(some 20), .field 0 (.tmp 6), none⟩,
    ⟨(some 21), .load none (.tmp 20), none⟩,
    ⟨(some 22), .field 0 (.tmp 4), none⟩,
    ⟨(some 23), .load none (.tmp 22), none⟩,
    ⟨(some 24), .bin .sub (.tmp 21) (.tmp 23), none⟩,
    ⟨(some 25), .field 1 (.tmp 6), none⟩,
    ⟨(some 26), .load none (.tmp 25), none⟩,
    ⟨(some 27), .field 1 (.tmp 4), none⟩,
    ⟨(some 28), .load none (.tmp 27), none⟩,
    ⟨(some 29), .bin .sub (.tmp 26) (.tmp 28), none⟩,
    ⟨(some 30), .lit T.int64 1 2 [(.int .i64 0), (.int .i64 0)] [(0, 1, (.tmp 24)), (1, 1, (.tmp 29))], none⟩,
    ⟨(some 31), .call (.const (.fn F.pen_Pen_Signed [] [])) [(.tmp 19), (.tmp 30)], none⟩] [0, 4, 6, 13, 14, 15])
  (.region [⟨(some 32), .load (some 2) (.tmp 6), none⟩,
    ⟨none, .store 2 (.tmp 4) (.tmp 32), none⟩] [0, 4, 13, 14, 15]))))
  (.region [⟨(some 33), .bin .add (.tmp 15) (.const (.int .i64 1)), none⟩,
    ⟨(some 15), .mov (.tmp 33), none⟩] [0, 4, 13, 14, 15])))
def body_points.body : ACode := .seq (.region [⟨(some 7), .mov (.tmp 0), none⟩,
    ⟨(some 8), .mov (.tmp 1), none⟩,
    ⟨(some 9), .len .slice (.tmp 8), none⟩,
    ⟨(some 10), .conv .u64 (.tmp 9), none⟩,
    ⟨(some 11), .lit T.uint64 1 1 [(.int .u64 0)] [(0, 1, (.tmp 10))], none⟩,
    ⟨(some 12), .call (.const (.fn F.pen_Pen_Number [] [])) [(.tmp 7), (.tmp 11)], none⟩] [0, 1])
  (.seq (.region [⟨(some 4), .alloc T.msg_Point [(.int .i64 0), (.int .i64 0)], none⟩] [0, 1, 4])
  (.seq (.region [⟨(some 13), .mov (.tmp 1), none⟩,
    ⟨(some 14), .len .slice (.tmp 13), none⟩,
    ⟨(some 15), .mov (.const (.int .i64 0)), none⟩] [0, 4, 13, 14, 15])
  (.block 0 (.loop body_points.b0))))
def body_points : AFun := ⟨34, 2, [], body_points.body⟩
def body_cells.b0 : ACode := .seq (.region [⟨(some 16), .bin .lss (.tmp 15) (.tmp 14), none⟩] [0, 4, 13, 14, 15, 16])
  (.seq (.cond (.tmp 16) (.skip) (.exit 0))
  (.seq (.block 1 (.seq (.region [⟨(some 17), .idx 1 none (.tmp 13) (.tmp 15), none⟩,
    ⟨(some 18), .load none (.tmp 17), none⟩,
    ⟨(some 6), .mov (.tmp 18), none⟩] [0, 4, 6, 13, 14, 15])
  (.seq (.region [⟨(some 19), .mov (.tmp 0), none⟩,
    ⟨(some 20), .mov (.tmp 6), none⟩,
    ⟨(some 21), .mov (.tmp 4), none⟩,
    ⟨(some 22), .bin .sub (.tmp 20) (.tmp 21), none⟩,
    ⟨(some 23), .bin .sub (.tmp 22) (.const (.int .i64 1)), none⟩,
    ⟨(some 24), .conv .u64 (.tmp 23), none⟩,
    ⟨(some 25), .lit T.uint64 1 1 [(.int .u64 0)] [(0, 1, (.tmp 24))], none⟩,
    ⟨(some 26), .call (.const (.fn F.pen_Pen_Number [] [])) [(.tmp 19), (.tmp 25)], none⟩] [0, 6, 13, 14, 15])
  (.region [⟨(some 27), .mov (.tmp 6), none⟩,
    ⟨(some 4), .mov (.tmp 27), none⟩] [0, 4, 13, 14, 15]))))
  (.region [⟨(some 28), .bin .add (.tmp 15) (.const (.int .i64 1)), none⟩,
    ⟨(some 15), .mov (.tmp 28), none⟩] [0, 4, 13, 14, 15])))
def body_cells.body : ACode := .seq (.region [⟨(some 7), .mov (.tmp 0), none⟩,
    ⟨(some 8), .mov (.tmp 1), none⟩,
    ⟨(some 9), .len .slice (.tmp 8), none⟩,
    ⟨(some 10), .conv .u64 (.tmp 9), none⟩,
    ⟨(some 11), .lit T.uint64 1 1 [(.int .u64 0)] [(0, 1, (.tmp 10))], none⟩,
    ⟨(some 12), .call (.const (.fn F.pen_Pen_Number [] [])) [(.tmp 7), (.tmp 11)], none⟩] [0, 1])
  (.seq (.region [⟨(some 4), .mov (.const (.int .i64 (-1))), none⟩] [0, 1, 4])
  (.seq (.region [⟨(some 13), .mov (.tmp 1), none⟩,
    ⟨(some 14), .len .slice (.tmp 13), none⟩,
    ⟨(some 15), .mov (.const (.int .i64 0)), none⟩] [0, 4, 13, 14, 15])
  (.block 0 (.loop body_cells.b0))))
def body_cells : AFun := ⟨29, 2, [], body_cells.body⟩
def pen_Pen_Field.body : ACode := .seq (.region [⟨(some 4), .mov (.const (.int .i64 0)), none⟩] [0, 1])
  (.seq (.region [⟨(some 5), .mov (.tmp 0), none⟩,
    ⟨(some 6), .mov (.tmp 1), none⟩,
    ⟨(some 7), .len .slice (.tmp 6), none⟩,
    ⟨(some 8), .conv .u64 (.tmp 7), none⟩,
    ⟨(some 9), .lit T.uint64 1 1 [(.int .u64 0)] [(0, 1, (.tmp 8))], none⟩,
    ⟨(some 10), .call (.const (.fn F.varint_Put [] [])) [(.tmp 9)], none⟩,
    ⟨(some 11), .mov (.tmp 1), none⟩,
    ⟨(some 12), .append T.uint8 1 1 (.tmp 10) (.tmp 11), none⟩,
    ⟨(some 13), .call (.const (.fn F.pen_Pen_Raw [] [])) [(.tmp 5), (.tmp 12)], none⟩,
    ⟨(some 4), .mov (.tmp 13), none⟩] [4])
  (.ret))
def pen_Pen_Field : AFun := ⟨14, 2, [.tmp 4], pen_Pen_Field.body⟩
def pen_Pen_Bytes.body : ACode := .seq (.region [⟨(some 2), .mov (.const .nils), none⟩] [0])
  (.seq (.seq (.region [⟨(some 3), .mov (.tmp 0), none⟩,
    ⟨(some 4), .eq false .ptr (.tmp 3) (.const .nilp), none⟩] [0, 4])
  (.cond (.tmp 4) (.seq (.region [⟨(some 2), .mov (.const .nils), none⟩] [2])
  (.ret)) (.skip)))
  (.seq (.region [⟨(some 5), .mov (.tmp 0), none⟩,
    ⟨(some 6), .nilc (.tmp 5), none⟩,
    ⟨(some 7), .field 0 (.tmp 6), none⟩,
    ⟨(some 8), .field 0 (.tmp 7), none⟩,
    ⟨(some 9), .load none (.tmp 8), none⟩,
    ⟨(some 10), .append T.uint8 1 1 (.const .nils) (.tmp 9), none⟩,
    ⟨(some 2), .mov (.tmp 10), none⟩] [2])
  (.ret)))
def pen_Pen_Bytes : AFun := ⟨11, 1, [.tmp 2], pen_Pen_Bytes.body⟩
def head_wrong.body : ACode := .seq (.region [⟨(some 1), .box T.head_Head (.tmp 0), none⟩,
    ⟨(some 2), .mov (.const .nilf), none⟩] [1])
  (.seq (.region [⟨(some 3), .mkfn F.head_wrong_1 [] [(.tmp 1)], none⟩,
    ⟨(some 2), .mov (.tmp 3), none⟩] [2])
  (.ret))
def head_wrong : AFun := ⟨4, 1, [.tmp 2], head_wrong.body⟩
def cut_Parts_1.b0 : ACode := .seq (.seq (.region [⟨(some 6), .load none (.tmp 1), none⟩,
    ⟨(some 7), .len .slice (.tmp 6), none⟩,
    ⟨(some 8), .bin .gtr (.tmp 7) (.const (.int .i64 0)), none⟩,
    ⟨(some 9), .mov (.tmp 8), none⟩,
    ⟨(some 10), .load none (.tmp 2), some (9, true)⟩,
    ⟨(some 11), .bin .gtr (.tmp 10) (.const (.int .i64 0)), some (9, true)⟩,
    ⟨(some 12), .pick (.tmp 9) (.tmp 11) (.const (.bool false)), none⟩] [0, 1, 2, 4, 12])
  (.cond (.tmp 12) (.skip) (.exit 0)))
  (.seq (.block 1 (.seq (.region [⟨(some 15), .load none (.tmp 2), none⟩,
    ⟨(some 16), .load none (.tmp 1), none⟩,
    ⟨(some 17), .len .slice (.tmp 16), none⟩,
    ⟨(some 18), .maxmin false (.tmp 15) (.tmp 17), none⟩,
    ⟨(some 5), .mov (.tmp 18), none⟩] [0, 1, 2, 4, 5])
  (.seq (.seq (.region [⟨(some 19), .mov (.tmp 0), none⟩,
    ⟨(some 20), .mov (.tmp 4), none⟩,
    ⟨(some 21), .lit T.uint8 1 0 [] [], none⟩,
    ⟨(some 22), .load none (.tmp 1), none⟩,
    ⟨(some 23), .mov (.tmp 5), none⟩,
    ⟨(some 24), .mov (.tmp 5), none⟩,
    ⟨(some 25), .slice 1 .slice (.tmp 22) none (some (.tmp 23)) (some (.tmp 24)), none⟩,
    ⟨(some 26), .append T.uint8 1 1 (.tmp 21) (.tmp 25), none⟩,
    ⟨(some 27), .call (.tmp 19) [(.tmp 20), (.tmp 26)], none⟩,
    ⟨(some 28), .un .not (.tmp 27), none⟩] [0, 1, 2, 4, 5, 28])
  (.cond (.tmp 28) (.ret) (.skip)))
  (.region [⟨(some 29), .load none (.tmp 1), none⟩,
    ⟨(some 30), .mov (.tmp 5), none⟩,
    ⟨(some 31), .slice 1 .slice (.tmp 29) (some (.tmp 30)) none none, none⟩,
    ⟨none, .store 1 (.tmp 1) (.tmp 31), none⟩] [0, 1, 2, 4]))))
  (.region [⟨(some 13), .mov (.tmp 4), none⟩,
    ⟨(some 14), .bin .add (.tmp 13) (.const (.int .i64 1)), none⟩,
    ⟨(some 4), .mov (.tmp 14), none⟩] [0, 1, 2, 4]))
def cut_Parts_1.body : ACode := .seq (.region [⟨(some 4), .mov (.const (.int .i64 0)), none⟩] [0, 1, 2, 4])
  (.block 0 (.loop cut_Parts_1.b0))
def cut_Parts_1 : AFun := ⟨32, 3, [], cut_Parts_1.body⟩
def cobs_Blocks.body : ACode := .seq (.region [⟨(some 1), .box T.sl_uint8 (.tmp 0), none⟩,
    ⟨(some 2), .mov (.const .nilf), none⟩] [1])
  (.seq (.region [⟨(some 3), .mkfn F.cobs_Blocks_1 [] [(.tmp 1)], none⟩,
    ⟨(some 2), .mov (.tmp 3), none⟩] [2])
  (.ret))
def cobs_Blocks : AFun := ⟨4, 1, [.tmp 2], cobs_Blocks.body⟩
def crc_bytes.body : ACode := .seq (.region [⟨(some 2), .alloc T.n4_uint8 [(.int .u8 0), (.int .u8 0), (.int .u8 0), (.int .u8 0)], none⟩] [0, 2])
  (.seq (.region [⟨(some 3), .mov (.tmp 0), none⟩,
    ⟨(some 4), .conv .u8 (.tmp 3), none⟩,
    ⟨(some 5), .mov (.tmp 0), none⟩,
    ⟨(some 6), .bin .shr (.tmp 5) (.const (.int .u64 8)), none⟩,
    ⟨(some 7), .conv .u8 (.tmp 6), none⟩,
    ⟨(some 8), .mov (.tmp 0), none⟩,
    ⟨(some 9), .bin .shr (.tmp 8) (.const (.int .u64 16)), none⟩,
    ⟨(some 10), .conv .u8 (.tmp 9), none⟩,
    ⟨(some 11), .mov (.tmp 0), none⟩,
    ⟨(some 12), .bin .shr (.tmp 11) (.const (.int .u64 24)), none⟩,
    ⟨(some 13), .conv .u8 (.tmp 12), none⟩,
    ⟨(some 14), .build [(.int .u8 0), (.int .u8 0), (.int .u8 0), (.int .u8 0)] [(0, 1, (.tmp 4)), (1, 1, (.tmp 7)), (2, 1, (.tmp 10)), (3, 1, (.tmp 13))], none⟩,
    ⟨none, .store 4 (.tmp 2) (.tmp 14), none⟩] [2])
  (.ret))
def crc_bytes : AFun := ⟨15, 1, [.cell 2 (some 4)], crc_bytes.body⟩
def crc_Table_Sum.b0 : ACode := .seq (.region [⟨(some 13), .bin .lss (.tmp 12) (.tmp 11), none⟩] [0, 5, 10, 11, 12, 13])
  (.seq (.cond (.tmp 13) (.skip) (.exit 0))
  (.seq (.block 1 (.seq (.region [⟨(some 14), .idx 1 none (.tmp 10) (.tmp 12), none⟩,
    ⟨(some 15), .load none (.tmp 14), none⟩,
    ⟨(some 7), .mov (.tmp 15), none⟩] [0, 5, 7, 10, 11, 12])
  (.region [⟨(some 16), .mov (.tmp 0), none⟩,
    ⟨(some 17), .mov (.tmp 5), none⟩,
    ⟨(some 18), .mov (.tmp 7), none⟩,
    ⟨(some 19), .call (.const (.fn F.crc_Table_Add [] [])) [(.tmp 16), (.tmp 17), (.tmp 18)], none⟩,
    ⟨(some 5), .mov (.tmp 19), none⟩] [0, 5, 10, 11, 12])))
  (.region [⟨(some 20), .bin .add (.tmp 12) (.const (.int .i64 1)), none⟩,
    ⟨(some 12), .mov (.tmp 20), none⟩] [0, 5, 10, 11, 12])))
def crc_Table_Sum.body : ACode := .seq (.region [⟨(some 4), .mov (.const (.int .u32 0)), none⟩] [0, 1])
  (.seq (.region [⟨(some 8), .mov (.tmp 0), none⟩,
    ⟨(some 9), .call (.const (.fn F.crc_Table_Begin [] [])) [(.tmp 8)], none⟩,
    ⟨(some 5), .mov (.tmp 9), none⟩] [0, 1, 5])
  (.seq (.seq (.region [⟨(some 10), .mov (.tmp 1), none⟩,
    ⟨(some 11), .len .slice (.tmp 10), none⟩,
    ⟨(some 12), .mov (.const (.int .i64 0)), none⟩] [0, 5, 10, 11, 12])
  (.block 0 (.loop crc_Table_Sum.b0)))
  (.seq (.region [⟨(some 21), .mov (.tmp 0), none⟩,
    ⟨(some 22), .mov (.tmp 5), none⟩,
    ⟨(some 23), .call (.const (.fn F.crc_Table_End [] [])) [(.tmp 21), (.tmp 22)], none⟩,
    ⟨(some 4), .mov (.tmp 23), none⟩] [4])
  (.ret))))
def crc_Table_Sum : AFun := ⟨24, 2, [.tmp 4], crc_Table_Sum.body⟩
def msg_wrong.body : ACode := .seq (.region [⟨(some 2), .box T.msg_Msg (.tmp 0), none⟩,
    ⟨(some 3), .box T.field_Field (.tmp 1), none⟩,
    ⟨(some 4), .mov (.const (.int .i64 0)), none⟩] [2, 3])
  (.seq (.seq (.region [⟨(some 6), .field 1 (.tmp 3), none⟩,
    ⟨(some 7), .load none (.tmp 6), none⟩] [2, 3, 7])
  (.block 0 (.seq (.region [⟨(some 9), .bin .eql (.tmp 7) (.const (.int .i64 3)), none⟩,
    ⟨(some 8), .mov (.tmp 9), none⟩] [2, 3, 7, 8])
  (.cond (.tmp 8) (.seq (.region [⟨(some 10), .field 7 (.tmp 2), none⟩,
    ⟨(some 11), .load none (.tmp 10), none⟩,
    ⟨(some 12), .load (some 7) (.tmp 3), none⟩,
    ⟨(some 13), .call (.const (.fn F.msg_path [] [])) [(.tmp 11), (.tmp 12)], none⟩,
    ⟨(some 4), .mov (.tmp 13), none⟩] [4])
  (.ret)) (.seq (.region [⟨(some 15), .bin .eql (.tmp 7) (.const (.int .i64 4)), none⟩,
    ⟨(some 14), .mov (.tmp 15), none⟩] [2, 3, 7, 14])
  (.cond (.tmp 14) (.seq (.region [⟨(some 16), .field 8 (.tmp 2), none⟩,
    ⟨(some 17), .load none (.tmp 16), none⟩,
    ⟨(some 18), .load (some 7) (.tmp 3), none⟩,
    ⟨(some 19), .call (.const (.fn F.msg_cells [] [])) [(.tmp 17), (.tmp 18)], none⟩,
    ⟨(some 4), .mov (.tmp 19), none⟩] [4])
  (.ret)) (.seq (.region [⟨(some 21), .bin .eql (.tmp 7) (.const (.int .i64 5)), none⟩,
    ⟨(some 20), .mov (.tmp 21), none⟩] [2, 3, 7, 20])
  (.cond (.tmp 20) (.seq (.region [⟨(some 22), .field 9 (.tmp 2), none⟩,
    ⟨(some 23), .load none (.tmp 22), none⟩,
    ⟨(some 24), .load (some 7) (.tmp 3), none⟩,
    ⟨(some 25), .call (.const (.fn F.msg_text [] [])) [(.tmp 23), (.tmp 24)], none⟩,
    ⟨(some 4), .mov (.tmp 25), none⟩] [4])
  (.ret)) (.seq (.region [⟨(some 27), .bin .eql (.tmp 7) (.const (.int .i64 6)), none⟩,
    ⟨(some 26), .mov (.tmp 27), none⟩] [2, 3, 26])
  (.cond (.tmp 26) (.seq (.region [⟨(some 28), .field 10 (.tmp 2), none⟩,
    ⟨(some 29), .load none (.tmp 28), none⟩,
    ⟨(some 30), .load (some 7) (.tmp 3), none⟩,
    ⟨(some 31), .call (.const (.fn F.msg_text [] [])) [(.tmp 29), (.tmp 30)], none⟩,
    ⟨(some 4), .mov (.tmp 31), none⟩] [4])
  (.ret)) (.skip)))))))))))
  (.seq (.seq (.region [⟨(some 32), .field 2 (.tmp 3), none⟩,
    ⟨(some 33), .load none (.tmp 32), none⟩,
    ⟨(some 34), .field 1 (.tmp 2), none⟩,
    ⟨(some 35), .idx 1 (some 6) (.tmp 34) (.tmp 33), none⟩,
    ⟨(some 36), .load none (.tmp 35), none⟩,
    ⟨(some 5), .mov (.tmp 36), none⟩] [3, 5])
  (.seq (.region [⟨(some 37), .mov (.tmp 5), none⟩,
    ⟨(some 38), .field 3 (.tmp 3), none⟩,
    ⟨(some 39), .load none (.tmp 38), none⟩,
    ⟨(some 40), .bin .lss (.tmp 37) (.tmp 39), none⟩,
    ⟨(some 41), .mov (.tmp 40), none⟩,
    ⟨(some 42), .mov (.tmp 5), some (41, false)⟩,
    ⟨(some 43), .field 4 (.tmp 3), some (41, false)⟩,
    ⟨(some 44), .load none (.tmp 43), some (41, false)⟩,
    ⟨(some 45), .bin .gtr (.tmp 42) (.tmp 44), some (41, false)⟩,
    ⟨(some 46), .pick (.tmp 41) (.const (.bool true)) (.tmp 45), none⟩] [46])
  (.cond (.tmp 46) (.seq (.region [⟨(some 4), .mov (.const (.int .i64 5)), none⟩] [4])
  (.ret)) (.skip))))
  (.seq (.region [⟨(some 4), .mov (.const (.int .i64 0)), none⟩] [4])
  (.ret))))
def msg_wrong : AFun := ⟨47, 2, [.tmp 4], msg_wrong.body⟩
def msg_without.body : ACode := .seq (.region [⟨(some 2), .box T.msg_Msg (.tmp 0), none⟩,
    ⟨(some 3), .box T.field_Field (.tmp 1), none⟩,
    ⟨(some 4), .alloc T.msg_Msg [(.int .i64 0), (.int .i64 0), (.int .i64 0), (.int .i64 0), (.int .i64 0), (.int .i64 0), (.int .i64 0), .nils, .nils, (.str ⟨#[]⟩), (.str ⟨#[]⟩)], none⟩] [2, 3, 4])
  (.seq (.seq (.region [⟨(some 5), .field 1 (.tmp 3), none⟩,
    ⟨(some 6), .load none (.tmp 5), none⟩] [2, 3, 4, 6])
  (.block 0 (.seq (.region [⟨(some 12), .bin .eql (.tmp 6) (.const (.int .i64 3)), none⟩,
    ⟨(some 11), .mov (.tmp 12), none⟩] [2, 3, 4, 6, 11])
  (.cond (.tmp 11) (.region [⟨(some 13), .field 7 (.tmp 2), none⟩,
    ⟨none, .store 1 (.tmp 13) (.const .nils), none⟩] [2, 4]) (.seq (.region [⟨(some 15), .bin .eql (.tmp 6) (.const (.int .i64 4)), none⟩,
    ⟨(some 14), .mov (.tmp 15), none⟩] [2, 3, 4, 6, 14])
  (.cond (.tmp 14) (.region [⟨(some 16), .field 8 (.tmp 2), none⟩,
    ⟨none, .store 1 (.tmp 16) (.const .nils), none⟩] [2, 4]) (.seq (.region [⟨(some 18), .bin .eql (.tmp 6) (.const (.int .i64 5)), none⟩,
    ⟨(some 17), .mov (.tmp 18), none⟩] [2, 3, 4, 6, 17])
  (.cond (.tmp 17) (.region [⟨(some 19), .field 9 (.tmp 2), none⟩,
    ⟨none, .store 1 (.tmp 19) (.const (.str ⟨#[]⟩)), none⟩] [2, 4]) (.seq (.region [⟨(some 21), .bin .eql (.tmp 6) (.const (.int .i64 6)), none⟩,
    ⟨(some 20), .mov (.tmp 21), none⟩] [2, 3, 4, 20])
  (.cond (.tmp 20) (.region [⟨(some 22), .field 10 (.tmp 2), none⟩,
    ⟨none, .store 1 (.tmp 22) (.const (.str ⟨#[]⟩)), none⟩] [2, 4]) (.region [⟨(some 7), .field 2 (.tmp 3), none⟩,
    ⟨(some 8), .load none (.tmp 7), none⟩,
    ⟨(some 9), .field 1 (.tmp 2), none⟩,
    ⟨(some 10), .idx 1 (some 6) (.tmp 9) (.tmp 8), none⟩,
    ⟨none, .store 1 (.tmp 10) (.const (.int .i64 0)), none⟩] [2, 4])))))))))))
  (.seq (.region [⟨(some 23), .load (some 11) (.tmp 2), none⟩,
    ⟨none, .store 11 (.tmp 4) (.tmp 23), none⟩] [4])
  (.ret)))
def msg_without : AFun := ⟨24, 2, [.cell 4 (some 11)], msg_without.body⟩
def msg_Same.body : ACode := .seq (.region [⟨(some 2), .box T.msg_Msg (.tmp 0), none⟩,
    ⟨(some 3), .box T.msg_Msg (.tmp 1), none⟩,
    ⟨(some 4), .mov (.const (.bool false)), none⟩] [2, 3])
  (.seq (.region [⟨(some 5), .field 0 (.tmp 2), none⟩,
    ⟨(some 6), .load none (.tmp 5), none⟩,
    ⟨(some 7), .field 0 (.tmp 3), none⟩,
    ⟨(some 8), .load none (.tmp 7), none⟩,
    ⟨(some 9), .bin .eql (.tmp 6) (.tmp 8), none⟩,
    ⟨(some 10), .mov (.tmp 9), none⟩,
    ⟨(some 11), .field 1 (.tmp 2), some (10, true)⟩,
    ⟨(some 12), .load (some 6) (.tmp 11), some (10, true)⟩,
    ⟨(some 13), .field 1 (.tmp 3), some (10, true)⟩,
    ⟨(some 14), .load (some 6) (.tmp 13), some (10, true)⟩,
    ⟨(some 15), .eq false (.cells [.int, .int, .int, .int, .int, .int]) (.tmp 12) (.tmp 14), some (10, true)⟩,
    ⟨(some 16), .pick (.tmp 10) (.tmp 15) (.const (.bool false)), none⟩,
    ⟨(some 17), .mov (.tmp 16), none⟩,
    ⟨(some 18), .field 7 (.tmp 2), some (17, true)⟩,
    ⟨(some 19), .load none (.tmp 18), some (17, true)⟩,
    ⟨(some 20), .field 7 (.tmp 3), some (17, true)⟩,
    ⟨(some 21), .load none (.tmp 20), some (17, true)⟩,
    ⟨(some 22), .call (.const (.fn F.slices_Equal_msg_Point_msg_Point [] [])) [(.tmp 19), (.tmp 21)], some (17, true)⟩,
    ⟨(some 23), .pick (.tmp 17) (.tmp 22) (.const (.bool false)), none⟩,
    ⟨(some 24), .mov (.tmp 23), none⟩,
    ⟨(some 25), .field 8 (.tmp 2), some (24, true)⟩,
    ⟨(some 26), .load none (.tmp 25), some (24, true)⟩,
    ⟨(some 27), .field 8 (.tmp 3), some (24, true)⟩,
    ⟨(some 28), .load none (.tmp 27), some (24, true)⟩,
    ⟨(some 29), .call (.const (.fn F.slices_Equal_int_int [] [])) [(.tmp 26), (.tmp 28)], some (24, true)⟩,
    ⟨(some 30), .pick (.tmp 24) (.tmp 29) (.const (.bool false)), none⟩,
    ⟨(some 31), .mov (.tmp 30), none⟩,
    ⟨(some 32), .field 9 (.tmp 2), some (31, true)⟩,
    ⟨(some 33), .load none (.tmp 32), some (31, true)⟩,
    ⟨(some 34), .field 9 (.tmp 3), some (31, true)⟩,
    ⟨(some 35), .load none (.tmp 34), some (31, true)⟩,
    ⟨(some 36), .bin .eql (.tmp 33) (.tmp 35), some (31, true)⟩,
    ⟨(some 37), .pick (.tmp 31) (.tmp 36) (.const (.bool false)), none⟩,
    ⟨(some 38), .mov (.tmp 37), none⟩,
    ⟨(some 39), .field 10 (.tmp 2), some (38, true)⟩,
    ⟨(some 40), .load none (.tmp 39), some (38, true)⟩,
    ⟨(some 41), .field 10 (.tmp 3), some (38, true)⟩,
    ⟨(some 42), .load none (.tmp 41), some (38, true)⟩,
    ⟨(some 43), .bin .eql (.tmp 40) (.tmp 42), some (38, true)⟩,
    ⟨(some 44), .pick (.tmp 38) (.tmp 43) (.const (.bool false)), none⟩,
    ⟨(some 4), .mov (.tmp 44), none⟩] [4])
  (.ret))
def msg_Same : AFun := ⟨45, 2, [.tmp 4], msg_Same.body⟩
def field_robot.body : ACode := .seq (.region [⟨(some 0), .alloc T.field_Field [(.str ⟨#[]⟩), (.int .i64 0), (.int .i64 0), (.int .i64 0), (.int .i64 0), (.int .i64 0), (.int .i64 0)], none⟩] [0])
  (.seq (.region [⟨(some 1), .build [(.str ⟨#[]⟩), (.int .i64 0), (.int .i64 0), (.int .i64 0), (.int .i64 0), (.int .i64 0), (.int .i64 0)] [(0, 1, (.const (.str ⟨#[114, 111, 98, 111, 116]⟩))), (1, 1, (.const (.int .i64 1))), (2, 1, (.const (.int .i64 0))), (3, 1, (.const (.int .i64 0))), (4, 1, (.const (.int .i64 65535))), (5, 1, (.const (.int .i64 1))), (6, 1, (.const (.int .i64 0)))], none⟩,
    ⟨none, .store 7 (.tmp 0) (.tmp 1), none⟩] [0])
  (.ret))
def field_robot : AFun := ⟨2, 0, [.cell 0 (some 7)], field_robot.body⟩
def pen_Pen_Raw.d0 : List AOper := [⟨(some 9), .mov (.tmp 0), none⟩,
    ⟨(some 10), .nilc (.tmp 9), none⟩,
    ⟨(some 11), .field 0 (.tmp 10), none⟩,
    ⟨(some 12), .field 2 (.tmp 11), none⟩,
    ⟨(some 13), .load none (.tmp 12), none⟩,
    ⟨(some 14), .mov (.tmp 13), none⟩,
    ⟨(some 15), .mov (.tmp 1), some (14, false)⟩,
    ⟨(some 16), .len .slice (.tmp 15), some (14, false)⟩,
    ⟨(some 17), .mov (.tmp 0), some (14, false)⟩,
    ⟨(some 18), .nilc (.tmp 17), some (14, false)⟩,
    ⟨(some 19), .field 0 (.tmp 18), some (14, false)⟩,
    ⟨(some 20), .field 1 (.tmp 19), some (14, false)⟩,
    ⟨(some 21), .load none (.tmp 20), some (14, false)⟩,
    ⟨(some 22), .mov (.tmp 0), some (14, false)⟩,
    ⟨(some 23), .nilc (.tmp 22), some (14, false)⟩,
    ⟨(some 24), .field 0 (.tmp 23), some (14, false)⟩,
    ⟨(some 25), .field 0 (.tmp 24), some (14, false)⟩,
    ⟨(some 26), .load none (.tmp 25), some (14, false)⟩,
    ⟨(some 27), .len .slice (.tmp 26), some (14, false)⟩,
    ⟨(some 28), .bin .sub (.tmp 21) (.tmp 27), some (14, false)⟩,
    ⟨(some 29), .bin .gtr (.tmp 16) (.tmp 28), some (14, false)⟩,
    ⟨(some 30), .pick (.tmp 14) (.const (.bool true)) (.tmp 29), none⟩,
    ⟨(some 8), .mov (.tmp 30), none⟩]
def pen_Pen_Raw.d0b : List (List Nat) := [[], [0], [0, 1], [0, 1, 2], [0, 1, 2, 3], [0, 1, 2, 3, 4], [0, 1, 2, 3, 4, 5], [0, 1, 2, 3, 4, 5, 6], [0, 1, 2, 3, 4, 5], [0, 1, 2, 3, 4, 5, 8], [0, 1, 2, 3, 4, 5, 8, 9], [0, 1, 2, 3, 4, 5, 8, 9, 10], [0, 1, 2, 3, 4, 5, 8, 9, 10, 11], [0, 1, 2, 3, 4, 5], [0, 1, 2, 3, 4, 5, 13], [0, 1, 2, 3, 4, 5, 13, 14], [0, 1, 2, 3, 4, 5, 13, 14, 15], [0, 1, 2, 3, 4, 5, 13, 14, 15, 16], [0, 1, 2, 3, 4, 5, 13, 14, 15, 16, 17], [0, 1, 2, 3, 4, 5, 8, 9, 10, 11, 12, 13, 14, 15, 16, 17, 18], [0, 1, 2, 3, 4, 5, 6, 7, 8, 9, 10, 11, 12, 13, 14, 15, 16, 17, 18, 19], [0, 1, 2, 3, 4, 5, 6, 7, 8, 9, 10, 11, 12, 13, 14, 15, 16, 17, 18, 19, 20], [0, 1, 2, 3, 4, 5, 6, 7, 8, 9, 10, 11, 12, 13, 14, 15, 16, 17, 18, 19, 20, 21]]
def pen_Pen_Raw.body : ACode := .seq (.region [⟨(some 4), .mov (.const (.int .i64 0)), none⟩] [0, 1])
  (.seq (.block 0 (.seq (.region [⟨(some 6), .mov (.tmp 0), none⟩,
    ⟨(some 7), .eq false .ptr (.tmp 6) (.const .nilp), none⟩,
    ⟨(some 5), .mov (.tmp 7), none⟩] [0, 1, 5])
  (.cond (.tmp 5) (.seq (.region [⟨(some 4), .mov (.const (.int .i64 1)), none⟩] [4])
  (.ret)) (.seq (.draw pen_Pen_Raw.d0 pen_Pen_Raw.d0b [[0, 1, 2, 3, 4, 5, 6, 7, 8, 9, 10, 11, 12, 13, 14, 15, 16, 17, 18, 19, 20, 21, 22]] [] [0, 1, 8])
  (.cond (.tmp 8) (.seq (.region [⟨(some 31), .mov (.tmp 0), none⟩,
    ⟨(some 32), .nilc (.tmp 31), none⟩,
    ⟨(some 33), .field 0 (.tmp 32), none⟩,
    ⟨(some 34), .field 2 (.tmp 33), none⟩,
    ⟨none, .store 1 (.tmp 34) (.const (.bool true)), none⟩] [])
  (.seq (.region [⟨(some 4), .mov (.const (.int .i64 2)), none⟩] [4])
  (.ret))) (.skip))))))
  (.seq (.region [⟨(some 35), .mov (.tmp 0), none⟩,
    ⟨(some 36), .mov (.tmp 0), none⟩,
    ⟨(some 37), .nilc (.tmp 36), none⟩,
    ⟨(some 38), .field 0 (.tmp 37), none⟩,
    ⟨(some 39), .field 0 (.tmp 38), none⟩,
    ⟨(some 40), .load none (.tmp 39), none⟩,
    ⟨(some 41), .mov (.tmp 1), none⟩,
    ⟨(some 42), .append T.uint8 1 1 (.tmp 40) (.tmp 41), none⟩,
    ⟨(some 43), .nilc (.tmp 35), none⟩,
    ⟨(some 44), .field 0 (.tmp 43), none⟩,
    ⟨(some 45), .field 0 (.tmp 44), none⟩,
    ⟨none, .store 1 (.tmp 45) (.tmp 42), none⟩] [])
  (.seq (.region [⟨(some 4), .mov (.const (.int .i64 0)), none⟩] [4])
  (.ret))))
def pen_Pen_Raw : AFun := ⟨46, 2, [.tmp 4], pen_Pen_Raw.body⟩
def varint_Put.b0 : ACode := .seq (.seq (.region [⟨(some 12), .mov (.tmp 5), none⟩,
    ⟨(some 13), .bin .geq (.tmp 12) (.const (.int .u64 128)), none⟩] [3, 5, 6, 7, 8, 13])
  (.cond (.tmp 13) (.skip) (.exit 2)))
  (.seq (.block 3 (.region [⟨(some 16), .mov (.tmp 3), none⟩,
    ⟨(some 17), .mov (.tmp 5), none⟩,
    ⟨(some 18), .conv .u8 (.tmp 17), none⟩,
    ⟨(some 19), .bin .or (.tmp 18) (.const (.int .u8 128)), none⟩,
    ⟨(some 20), .lit T.uint8 1 1 [(.int .u8 0)] [(0, 1, (.tmp 19))], none⟩,
    ⟨(some 21), .append T.uint8 1 1 (.tmp 16) (.tmp 20), none⟩,
    ⟨(some 3), .mov (.tmp 21), none⟩] [3, 5, 6, 7, 8]))
  (.region [⟨(some 14), .mov (.tmp 5), none⟩,
    ⟨(some 15), .bin .shr (.tmp 14) (.const (.int .u64 7)), none⟩,
    ⟨(some 5), .mov (.tmp 15), none⟩] [3, 5, 6, 7, 8]))
def varint_Put.b1 : ACode := .seq (.region [⟨(some 9), .bin .lss (.tmp 8) (.tmp 7), none⟩] [3, 6, 7, 8, 9])
  (.seq (.cond (.tmp 9) (.skip) (.exit 0))
  (.seq (.block 1 (.seq (.region [⟨(some 10), .idx 1 none (.tmp 6) (.tmp 8), none⟩,
    ⟨(some 11), .load none (.tmp 10), none⟩,
    ⟨(some 5), .mov (.tmp 11), none⟩] [3, 5, 6, 7, 8])
  (.seq (.block 2 (.loop varint_Put.b0))
  (.region [⟨(some 22), .mov (.tmp 3), none⟩,
    ⟨(some 23), .mov (.tmp 5), none⟩,
    ⟨(some 24), .conv .u8 (.tmp 23), none⟩,
    ⟨(some 25), .lit T.uint8 1 1 [(.int .u8 0)] [(0, 1, (.tmp 24))], none⟩,
    ⟨(some 26), .append T.uint8 1 1 (.tmp 22) (.tmp 25), none⟩,
    ⟨(some 3), .mov (.tmp 26), none⟩] [3, 6, 7, 8]))))
  (.region [⟨(some 27), .bin .add (.tmp 8) (.const (.int .i64 1)), none⟩,
    ⟨(some 8), .mov (.tmp 27), none⟩] [3, 6, 7, 8])))
def varint_Put.body : ACode := .seq (.region [⟨(some 2), .mov (.const .nils), none⟩] [0])
  (.seq (.region [⟨(some 3), .mov (.const .nils), none⟩] [0, 3])
  (.seq (.seq (.region [⟨(some 6), .mov (.tmp 0), none⟩,
    ⟨(some 7), .len .slice (.tmp 6), none⟩,
    ⟨(some 8), .mov (.const (.int .i64 0)), none⟩] [3, 6, 7, 8])
  (.block 0 (.loop varint_Put.b1)))
  (.seq (.region [⟨(some 28), .mov (.tmp 3), none⟩,
    ⟨(some 2), .mov (.tmp 28), none⟩] [2])
  (.ret))))
def varint_Put : AFun := ⟨29, 1, [.tmp 2], varint_Put.body⟩
def varint_Zig.body : ACode := .seq (.region [⟨(some 2), .mov (.const (.int .u64 0)), none⟩] [0])
  (.seq (.region [⟨(some 3), .mov (.tmp 0), none⟩,
    ⟨(some 4), .conv .u64 (.tmp 3), none⟩,
    ⟨(some 5), .bin .shl (.tmp 4) (.const (.int .u64 1)), none⟩,
    ⟨(some 6), .mov (.tmp 0), none⟩,
    ⟨(some 7), .bin .shr (.tmp 6) (.const (.int .u64 63)), none⟩,
    ⟨(some 8), .conv .u64 (.tmp 7), none⟩,
    ⟨(some 9), .bin .xor (.tmp 5) (.tmp 8), none⟩,
    ⟨(some 2), .mov (.tmp 9), none⟩] [2])
  (.ret))
def varint_Zig : AFun := ⟨10, 1, [.tmp 2], varint_Zig.body⟩
def head_wrong_1.body : ACode := .region [⟨(some 3), .mov (.tmp 0), none⟩,
    ⟨(some 4), .field 0 (.tmp 1), none⟩,
    ⟨(some 5), .load none (.tmp 4), none⟩,
    ⟨(some 6), .bin .lss (.tmp 5) (.const (.int .i64 1)), none⟩,
    ⟨(some 7), .mov (.tmp 6), none⟩,
    ⟨(some 8), .field 0 (.tmp 1), some (7, false)⟩,
    ⟨(some 9), .load none (.tmp 8), some (7, false)⟩,
    ⟨(some 10), .bin .gtr (.tmp 9) (.const (.int .i64 2)), some (7, false)⟩,
    ⟨(some 11), .pick (.tmp 7) (.const (.bool true)) (.tmp 10), none⟩,
    ⟨(some 12), .call (.tmp 3) [(.const (.int .i64 10)), (.tmp 11)], none⟩,
    ⟨(some 13), .mov (.tmp 12), none⟩,
    ⟨(some 14), .mov (.tmp 0), some (13, true)⟩,
    ⟨(some 15), .field 1 (.tmp 1), some (13, true)⟩,
    ⟨(some 16), .load none (.tmp 15), some (13, true)⟩,
    ⟨(some 17), .bin .lss (.tmp 16) (.const (.int .i64 1)), some (13, true)⟩,
    ⟨(some 18), .mov (.tmp 17), some (13, true)⟩,
    ⟨(some 19), .field 1 (.tmp 1), some (18, false)⟩,
    ⟨(some 20), .load none (.tmp 19), some (18, false)⟩,
    ⟨(some 21), .bin .gtr (.tmp 20) (.const (.int .i64 5)), some (18, false)⟩,
    ⟨(some 22), .pick (.tmp 18) (.const (.bool true)) (.tmp 21), some (13, true)⟩,
    ⟨(some 23), .call (.tmp 14) [(.const (.int .i64 9)), (.tmp 22)], some (13, true)⟩,
    ⟨(some 24), .pick (.tmp 13) (.tmp 23) (.const (.bool false)), none⟩,
    ⟨(some 25), .mov (.tmp 24), none⟩,
    ⟨(some 26), .mov (.tmp 0), some (25, true)⟩,
    ⟨(some 27), .field 4 (.tmp 1), some (25, true)⟩,
    ⟨(some 28), .load none (.tmp 27), some (25, true)⟩,
    ⟨(some 29), .bin .lss (.tmp 28) (.const (.int .i64 1)), some (25, true)⟩,
    ⟨(some 30), .mov (.tmp 29), some (25, true)⟩,
    ⟨(some 31), .field 4 (.tmp 1), some (30, false)⟩,
    ⟨(some 32), .load none (.tmp 31), some (30, false)⟩,
    ⟨(some 33), .bin .gtr (.tmp 32) (.const (.int .i64 255)), some (30, false)⟩,
    ⟨(some 34), .pick (.tmp 30) (.const (.bool true)) (.tmp 33), some (25, true)⟩,
    ⟨(some 35), .mov (.tmp 34), some (25, true)⟩,
    ⟨(some 36), .field 3 (.tmp 1), some (35, false)⟩,
    ⟨(some 37), .load none (.tmp 36), some (35, false)⟩,
    ⟨(some 38), .bin .lss (.tmp 37) (.const (.int .i64 0)), some (35, false)⟩,
    ⟨(some 39), .pick (.tmp 35) (.const (.bool true)) (.tmp 38), some (25, true)⟩,
    ⟨(some 40), .mov (.tmp 39), some (25, true)⟩,
    ⟨(some 41), .field 3 (.tmp 1), some (40, false)⟩,
    ⟨(some 42), .load none (.tmp 41), some (40, false)⟩,
    ⟨(some 43), .field 4 (.tmp 1), some (40, false)⟩,
    ⟨(some 44), .load none (.tmp 43), some (40, false)⟩,
    ⟨(some 45), .bin .geq (.tmp 42) (.tmp 44), some (40, false)⟩,
    ⟨(some 46), .pick (.tmp 40) (.const (.bool true)) (.tmp 45), some (25, true)⟩,
    ⟨(some 47), .call (.tmp 26) [(.const (.int .i64 3)), (.tmp 46)], some (25, true)⟩,
    ⟨(some 48), .pick (.tmp 25) (.tmp 47) (.const (.bool false)), none⟩] []
def head_wrong_1 : AFun := ⟨49, 2, [], head_wrong_1.body⟩
def cobs_Blocks_1.b0 : ACode := .seq (.seq (.region [⟨(some 9), .mov (.tmp 4), none⟩] [0, 3, 9])
  (.cond (.tmp 9) (.skip) (.exit 0)))
  (.block 1 (.seq (.region [⟨(some 11), .mov (.tmp 3), none⟩,
    ⟨(some 12), .call (.const (.fn F.cobs_block [] [])) [(.tmp 11)], none⟩,
    ⟨(some 10), .mov (.tmp 12), none⟩,
    ⟨(some 13), .extract (.tmp 10) 0, none⟩,
    ⟨(some 14), .extract (.tmp 10) 1, none⟩,
    ⟨(some 15), .extract (.tmp 10) 2, none⟩,
    ⟨(some 5), .mov (.tmp 13), none⟩,
    ⟨(some 6), .mov (.tmp 14), none⟩,
    ⟨(some 7), .mov (.tmp 15), none⟩] [0, 3, 5, 6, 7])
  (.seq (.seq (.region [⟨(some 16), .mov (.tmp 0), none⟩,
    ⟨(some 17), .lit T.uint8 1 0 [] [], none⟩,
    ⟨(some 18), .mov (.tmp 3), none⟩,
    ⟨(some 19), .mov (.tmp 5), none⟩,
    ⟨(some 20), .mov (.tmp 5), none⟩,
    ⟨(some 21), .slice 1 .slice (.tmp 18) none (some (.tmp 19)) (some (.tmp 20)), none⟩,
    ⟨(some 22), .append T.uint8 1 1 (.tmp 17) (.tmp 21), none⟩,
    ⟨(some 23), .call (.tmp 16) [(.tmp 22)], none⟩,
    ⟨(some 24), .un .not (.tmp 23), none⟩] [0, 3, 6, 7, 24])
  (.cond (.tmp 24) (.ret) (.skip)))
  (.region [⟨(some 25), .mov (.tmp 3), none⟩,
    ⟨(some 26), .mov (.tmp 6), none⟩,
    ⟨(some 27), .slice 1 .slice (.tmp 25) (some (.tmp 26)) none none, none⟩,
    ⟨(some 28), .mov (.tmp 7), none⟩,
    ⟨(some 3), .mov (.tmp 27), none⟩,
    ⟨(some 4), .mov (.tmp 28), none⟩] [0, 3, 4]))))
def cobs_Blocks_1.body : ACode := .seq (.region [⟨(some 8), .load none (.tmp 1), none⟩,
    ⟨(some 3), .mov (.tmp 8), none⟩,
    ⟨(some 4), .mov (.const (.bool true)), none⟩] [0, 3, 4])
  (.block 0 (.loop cobs_Blocks_1.b0))
def cobs_Blocks_1 : AFun := ⟨29, 2, [], cobs_Blocks_1.body⟩
def cobs_block.b0 : ACode := .seq (.region [⟨(some 14), .bin .lss (.tmp 13) (.tmp 12), none⟩] [0, 11, 12, 13, 14])
  (.seq (.cond (.tmp 14) (.skip) (.exit 0))
  (.seq (.block 1 (.seq (.region [⟨(some 15), .mov (.tmp 13), none⟩,
    ⟨(some 16), .idx 1 none (.tmp 11) (.tmp 13), none⟩,
    ⟨(some 17), .load none (.tmp 16), none⟩,
    ⟨(some 5), .mov (.tmp 15), none⟩,
    ⟨(some 6), .mov (.tmp 17), none⟩] [0, 5, 6, 11, 12, 13])
  (.seq (.region [⟨(some 18), .mov (.tmp 6), none⟩,
    ⟨(some 19), .bin .eql (.tmp 18) (.const (.int .u8 0)), none⟩] [0, 5, 11, 12, 13, 19])
  (.cond (.tmp 19) (.seq (.region [⟨(some 20), .mov (.tmp 5), none⟩,
    ⟨(some 21), .mov (.tmp 5), none⟩,
    ⟨(some 22), .bin .add (.tmp 21) (.const (.int .i64 1)), none⟩,
    ⟨(some 2), .mov (.tmp 20), none⟩,
    ⟨(some 3), .mov (.tmp 22), none⟩,
    ⟨(some 4), .mov (.const (.bool true)), none⟩] [2, 3, 4])
  (.ret)) (.skip)))))
  (.region [⟨(some 23), .bin .add (.tmp 13) (.const (.int .i64 1)), none⟩,
    ⟨(some 13), .mov (.tmp 23), none⟩] [0, 11, 12, 13])))
def cobs_block.body : ACode := .seq (.region [⟨(some 2), .mov (.const (.int .i64 0)), none⟩,
    ⟨(some 3), .mov (.const (.int .i64 0)), none⟩,
    ⟨(some 4), .mov (.const (.bool false)), none⟩] [0])
  (.seq (.seq (.region [⟨(some 7), .mov (.tmp 0), none⟩,
    ⟨(some 8), .mov (.tmp 0), none⟩,
    ⟨(some 9), .len .slice (.tmp 8), none⟩,
    ⟨(some 10), .maxmin false (.tmp 9) (.const (.int .i64 254)), none⟩,
    ⟨(some 11), .slice 1 .slice (.tmp 7) none (some (.tmp 10)) none, none⟩,
    ⟨(some 12), .len .slice (.tmp 11), none⟩,
    ⟨(some 13), .mov (.const (.int .i64 0)), none⟩] [0, 11, 12, 13])
  (.block 0 (.loop cobs_block.b0)))
  (.seq (.seq (.region [⟨(some 24), .mov (.tmp 0), none⟩,
    ⟨(some 25), .len .slice (.tmp 24), none⟩,
    ⟨(some 26), .bin .geq (.tmp 25) (.const (.int .i64 254)), none⟩] [0, 26])
  (.cond (.tmp 26) (.seq (.region [⟨(some 27), .mov (.tmp 0), none⟩,
    ⟨(some 28), .len .slice (.tmp 27), none⟩,
    ⟨(some 29), .bin .gtr (.tmp 28) (.const (.int .i64 254)), none⟩,
    ⟨(some 2), .mov (.const (.int .i64 254)), none⟩,
    ⟨(some 3), .mov (.const (.int .i64 254)), none⟩,
    ⟨(some 4), .mov (.tmp 29), none⟩] [2, 3, 4])
  (.ret)) (.skip)))
  (.seq (.region [⟨(some 30), .mov (.tmp 0), none⟩,
    ⟨(some 31), .len .slice (.tmp 30), none⟩,
    ⟨(some 32), .mov (.tmp 0), none⟩,
    ⟨(some 33), .len .slice (.tmp 32), none⟩,
    ⟨(some 2), .mov (.tmp 31), none⟩,
    ⟨(some 3), .mov (.tmp 33), none⟩,
    ⟨(some 4), .mov (.const (.bool false)), none⟩] [2, 3, 4])
  (.ret))))
def cobs_block : AFun := ⟨34, 1, [.tmp 2, .tmp 3, .tmp 4], cobs_block.body⟩
def crc_Table_Begin.body : ACode := .seq (.region [⟨(some 2), .mov (.const (.int .u32 0)), none⟩] [0])
  (.seq (.seq (.region [⟨(some 3), .mov (.tmp 0), none⟩,
    ⟨(some 4), .eq false .ptr (.tmp 3) (.const .nilp), none⟩] [4])
  (.cond (.tmp 4) (.seq (.region [⟨(some 2), .mov (.const (.int .u32 0)), none⟩] [2])
  (.ret)) (.skip)))
  (.seq (.region [⟨(some 2), .mov (.const (.int .u32 4294967295)), none⟩] [2])
  (.ret)))
def crc_Table_Begin : AFun := ⟨5, 1, [.tmp 2], crc_Table_Begin.body⟩
def crc_Table_Add.d0 : List AOper := [⟨(some 14), .mov (.tmp 1), none⟩,
    ⟨(some 15), .mov (.tmp 2), none⟩,
    ⟨(some 16), .idx 1 none (.tmp 15) (.const (.int .i64 0)), none⟩,
    ⟨(some 17), .load none (.tmp 16), none⟩,
    ⟨(some 18), .conv .u32 (.tmp 17), none⟩,
    ⟨(some 19), .mov (.tmp 2), none⟩,
    ⟨(some 20), .idx 1 none (.tmp 19) (.const (.int .i64 1)), none⟩,
    ⟨(some 21), .load none (.tmp 20), none⟩,
    ⟨(some 22), .conv .u32 (.tmp 21), none⟩,
    ⟨(some 23), .bin .shl (.tmp 22) (.const (.int .u64 8)), none⟩,
    ⟨(some 24), .bin .or (.tmp 18) (.tmp 23), none⟩,
    ⟨(some 25), .mov (.tmp 2), none⟩,
    ⟨(some 26), .idx 1 none (.tmp 25) (.const (.int .i64 2)), none⟩,
    ⟨(some 27), .load none (.tmp 26), none⟩,
    ⟨(some 28), .conv .u32 (.tmp 27), none⟩,
    ⟨(some 29), .bin .shl (.tmp 28) (.const (.int .u64 16)), none⟩,
    ⟨(some 30), .bin .or (.tmp 24) (.tmp 29), none⟩,
    ⟨(some 31), .mov (.tmp 2), none⟩,
    ⟨(some 32), .idx 1 none (.tmp 31) (.const (.int .i64 3)), none⟩,
    ⟨(some 33), .load none (.tmp 32), none⟩,
    ⟨(some 34), .conv .u32 (.tmp 33), none⟩,
    ⟨(some 35), .bin .shl (.tmp 34) (.const (.int .u64 24)), none⟩,
    ⟨(some 36), .bin .or (.tmp 30) (.tmp 35), none⟩,
    ⟨(some 37), .bin .xor (.tmp 14) (.tmp 36), none⟩,
    ⟨(some 1), .mov (.tmp 37), none⟩]
def crc_Table_Add.d0b : List (List Nat) := [[], [], [1], [1, 2], [1, 2, 3], [], [5], [5, 6], [5, 6, 7], [5, 6, 7, 8], [1, 2, 3, 4, 5, 6, 7, 8, 9], [], [11], [11, 12], [11, 12, 13], [11, 12, 13, 14], [1, 2, 3, 4, 5, 6, 7, 8, 9, 10, 11, 12, 13, 14, 15], [], [17], [17, 18], [17, 18, 19], [17, 18, 19, 20], [1, 2, 3, 4, 5, 6, 7, 8, 9, 10, 11, 12, 13, 14, 15, 16, 17, 18, 19, 20, 21], [0, 1, 2, 3, 4, 5, 6, 7, 8, 9, 10, 11, 12, 13, 14, 15, 16, 17, 18, 19, 20, 21, 22], [0, 1, 2, 3, 4, 5, 6, 7, 8, 9, 10, 11, 12, 13, 14, 15, 16, 17, 18, 19, 20, 21, 22, 23]]
def crc_Table_Add.d1 : List AOper := [⟨(some 38), .mov (.tmp 0), none⟩,
    ⟨(some 39), .mov (.tmp 1), none⟩,
    ⟨(some 40), .bin .and (.tmp 39) (.const (.int .u32 255)), none⟩,
    ⟨(some 41), .nilc (.tmp 38), none⟩,
    ⟨(some 42), .field 0 (.tmp 41), none⟩,
    ⟨(some 43), .idx 256 (some 4) (.tmp 42) (.const (.int .i64 3)), none⟩,
    ⟨(some 44), .idx 1 (some 256) (.tmp 43) (.tmp 40), none⟩,
    ⟨(some 45), .load none (.tmp 44), none⟩,
    ⟨(some 46), .mov (.tmp 0), none⟩,
    ⟨(some 47), .mov (.tmp 1), none⟩,
    ⟨(some 48), .bin .shr (.tmp 47) (.const (.int .u64 8)), none⟩,
    ⟨(some 49), .bin .and (.tmp 48) (.const (.int .u32 255)), none⟩,
    ⟨(some 50), .nilc (.tmp 46), none⟩,
    ⟨(some 51), .field 0 (.tmp 50), none⟩,
    ⟨(some 52), .idx 256 (some 4) (.tmp 51) (.const (.int .i64 2)), none⟩,
    ⟨(some 53), .idx 1 (some 256) (.tmp 52) (.tmp 49), none⟩,
    ⟨(some 54), .load none (.tmp 53), none⟩,
    ⟨(some 55), .bin .xor (.tmp 45) (.tmp 54), none⟩,
    ⟨(some 56), .mov (.tmp 0), none⟩,
    ⟨(some 57), .mov (.tmp 1), none⟩,
    ⟨(some 58), .bin .shr (.tmp 57) (.const (.int .u64 16)), none⟩,
    ⟨(some 59), .bin .and (.tmp 58) (.const (.int .u32 255)), none⟩,
    ⟨(some 60), .nilc (.tmp 56), none⟩,
    ⟨(some 61), .field 0 (.tmp 60), none⟩,
    ⟨(some 62), .idx 256 (some 4) (.tmp 61) (.const (.int .i64 1)), none⟩,
    ⟨(some 63), .idx 1 (some 256) (.tmp 62) (.tmp 59), none⟩,
    ⟨(some 64), .load none (.tmp 63), none⟩,
    ⟨(some 65), .bin .xor (.tmp 55) (.tmp 64), none⟩,
    ⟨(some 66), .mov (.tmp 0), none⟩,
    ⟨(some 67), .mov (.tmp 1), none⟩,
    ⟨(some 68), .bin .shr (.tmp 67) (.const (.int .u64 24)), none⟩,
    ⟨(some 69), .nilc (.tmp 66), none⟩,
    ⟨(some 70), .field 0 (.tmp 69), none⟩,
    ⟨(some 71), .idx 256 (some 4) (.tmp 70) (.const (.int .i64 0)), none⟩,
    ⟨(some 72), .idx 1 (some 256) (.tmp 71) (.tmp 68), none⟩,
    ⟨(some 73), .load none (.tmp 72), none⟩,
    ⟨(some 74), .bin .xor (.tmp 65) (.tmp 73), none⟩,
    ⟨(some 1), .mov (.tmp 74), none⟩]
def crc_Table_Add.d1b : List (List Nat) := [[], [], [1], [0], [0, 3], [0, 3, 4], [0, 1, 2, 3, 4, 5], [0, 1, 2, 3, 4, 5, 6], [], [], [9], [9, 10], [8], [8, 12], [8, 12, 13], [8, 9, 10, 11, 12, 13, 14], [8, 9, 10, 11, 12, 13, 14, 15], [0, 1, 2, 3, 4, 5, 6, 7, 8, 9, 10, 11, 12, 13, 14, 15, 16], [], [], [19], [19, 20], [18], [18, 22], [18, 22, 23], [18, 19, 20, 21, 22, 23, 24], [18, 19, 20, 21, 22, 23, 24, 25], [0, 1, 2, 3, 4, 5, 6, 7, 8, 9, 10, 11, 12, 13, 14, 15, 16, 17, 18, 19, 20, 21, 22, 23, 24, 25, 26], [], [], [29], [28], [28, 31], [28, 31, 32], [28, 29, 30, 31, 32, 33], [28, 29, 30, 31, 32, 33, 34], [0, 1, 2, 3, 4, 5, 6, 7, 8, 9, 10, 11, 12, 13, 14, 15, 16, 17, 18, 19, 20, 21, 22, 23, 24, 25, 26, 27, 28, 29, 30, 31, 32, 33, 34, 35], [0, 1, 2, 3, 4, 5, 6, 7, 8, 9, 10, 11, 12, 13, 14, 15, 16, 17, 18, 19, 20, 21, 22, 23, 24, 25, 26, 27, 28, 29, 30, 31, 32, 33, 34, 35, 36]]
def crc_Table_Add.b2 : ACode := .block 1 (.seq (.seq (.region [⟨(some 11), .mov (.tmp 2), none⟩,
    ⟨(some 12), .len .slice (.tmp 11), none⟩,
    ⟨(some 13), .bin .lss (.tmp 12) (.const (.int .i64 4)), none⟩] [0, 1, 2, 13])
  (.cond (.tmp 13) (.exit 0) (.skip)))
  (.seq (.draw crc_Table_Add.d0 crc_Table_Add.d0b [[0, 1, 2, 3, 4, 5, 6, 7, 8, 9, 10, 11, 12, 13, 14, 15, 16, 17, 18, 19, 20, 21, 22, 23, 24]] [] [0, 1, 2])
  (.seq (.draw crc_Table_Add.d1 crc_Table_Add.d1b [[0, 1, 2, 3, 4, 5, 6, 7, 8, 9, 10, 11, 12, 13, 14, 15, 16, 17, 18, 19, 20, 21, 22, 23, 24, 25, 26, 27, 28, 29, 30, 31, 32, 33, 34, 35, 36, 37]] [] [0, 1, 2])
  (.region [⟨(some 75), .mov (.tmp 2), none⟩,
    ⟨(some 76), .slice 1 .slice (.tmp 75) (some (.const (.int .i64 4))) none none, none⟩,
    ⟨(some 2), .mov (.tmp 76), none⟩] [0, 1, 2]))))
def crc_Table_Add.b3 : ACode := .seq (.region [⟨(some 80), .bin .lss (.tmp 79) (.tmp 78), none⟩] [0, 1, 77, 78, 79, 80])
  (.seq (.cond (.tmp 80) (.skip) (.exit 2))
  (.seq (.block 3 (.seq (.region [⟨(some 81), .idx 1 none (.tmp 77) (.tmp 79), none⟩,
    ⟨(some 82), .load none (.tmp 81), none⟩,
    ⟨(some 8), .mov (.tmp 82), none⟩] [0, 1, 8, 77, 78, 79])
  (.region [⟨(some 83), .mov (.tmp 1), none⟩,
    ⟨(some 84), .bin .shr (.tmp 83) (.const (.int .u64 8)), none⟩,
    ⟨(some 85), .mov (.tmp 0), none⟩,
    ⟨(some 86), .mov (.tmp 1), none⟩,
    ⟨(some 87), .conv .u8 (.tmp 86), none⟩,
    ⟨(some 88), .mov (.tmp 8), none⟩,
    ⟨(some 89), .bin .xor (.tmp 87) (.tmp 88), none⟩,
    ⟨(some 90), .nilc (.tmp 85), none⟩,
    ⟨(some 91), .field 0 (.tmp 90), none⟩,
    ⟨(some 92), .idx 256 (some 4) (.tmp 91) (.const (.int .i64 0)), none⟩,
    ⟨(some 93), .idx 1 (some 256) (.tmp 92) (.tmp 89), none⟩,
    ⟨(some 94), .load none (.tmp 93), none⟩,
    ⟨(some 95), .bin .xor (.tmp 84) (.tmp 94), none⟩,
    ⟨(some 1), .mov (.tmp 95), none⟩] [0, 1, 77, 78, 79])))
  (.region [⟨(some 96), .bin .add (.tmp 79) (.const (.int .i64 1)), none⟩,
    ⟨(some 79), .mov (.tmp 96), none⟩] [0, 1, 77, 78, 79])))
def crc_Table_Add.body : ACode := .seq (.region [⟨(some 6), .mov (.const (.int .u32 0)), none⟩] [0, 1, 2])
  (.scope (.seq (.seq (.region [⟨(some 9), .mov (.tmp 0), none⟩,
    ⟨(some 10), .eq false .ptr (.tmp 9) (.const .nilp), none⟩] [0, 1, 2, 10])
  (.cond (.tmp 10) (.seq (.region [⟨(some 6), .mov (.const (.int .u32 0)), none⟩] [6])
  (.ret)) (.skip)))
  (.seq (.skip)
  (.seq (.block 0 (.loop crc_Table_Add.b2))
  (.seq (.seq (.region [⟨(some 77), .mov (.tmp 2), none⟩,
    ⟨(some 78), .len .slice (.tmp 77), none⟩,
    ⟨(some 79), .mov (.const (.int .i64 0)), none⟩] [0, 1, 77, 78, 79])
  (.block 2 (.loop crc_Table_Add.b3)))
  (.seq (.region [⟨(some 97), .mov (.tmp 1), none⟩,
    ⟨(some 6), .mov (.tmp 97), none⟩] [6])
  (.ret)))))))
def crc_Table_Add : AFun := ⟨98, 3, [.tmp 6], crc_Table_Add.body⟩
def crc_Table_End.body : ACode := .seq (.region [⟨(some 4), .mov (.const (.int .u32 0)), none⟩] [0, 1])
  (.seq (.seq (.region [⟨(some 5), .mov (.tmp 0), none⟩,
    ⟨(some 6), .eq false .ptr (.tmp 5) (.const .nilp), none⟩] [1, 6])
  (.cond (.tmp 6) (.seq (.region [⟨(some 4), .mov (.const (.int .u32 0)), none⟩] [4])
  (.ret)) (.skip)))
  (.seq (.region [⟨(some 7), .mov (.tmp 1), none⟩,
    ⟨(some 8), .un .xor (.tmp 7), none⟩,
    ⟨(some 4), .mov (.tmp 8), none⟩] [4])
  (.ret)))
def crc_Table_End : AFun := ⟨9, 2, [.tmp 4], crc_Table_End.body⟩
def msg_path.b0 : ACode := .seq (.region [⟨(some 18), .bin .lss (.tmp 17) (.tmp 16), none⟩] [15, 16, 17, 18])
  (.seq (.cond (.tmp 18) (.skip) (.exit 0))
  (.seq (.block 1 (.seq (.region [⟨(some 19), .idx 2 none (.tmp 15) (.tmp 17), none⟩,
    ⟨(some 20), .load (some 2) (.tmp 19), none⟩,
    ⟨(some 7), .alloc T.msg_Point [(.int .i64 0), (.int .i64 0)], none⟩,
    ⟨none, .store 2 (.tmp 7) (.tmp 20), none⟩] [7, 15, 16, 17])
  (.seq (.region [⟨(some 21), .field 0 (.tmp 7), none⟩,
    ⟨(some 22), .load none (.tmp 21), none⟩,
    ⟨(some 23), .field 1 (.tmp 7), none⟩,
    ⟨(some 24), .load none (.tmp 23), none⟩,
    ⟨(some 25), .maxmin true (.tmp 22) (.tmp 24), none⟩,
    ⟨(some 26), .bin .gtr (.tmp 25) (.const (.int .i64 1000000)), none⟩,
    ⟨(some 27), .mov (.tmp 26), none⟩,
    ⟨(some 28), .field 0 (.tmp 7), some (27, false)⟩,
    ⟨(some 29), .load none (.tmp 28), some (27, false)⟩,
    ⟨(some 30), .field 1 (.tmp 7), some (27, false)⟩,
    ⟨(some 31), .load none (.tmp 30), some (27, false)⟩,
    ⟨(some 32), .maxmin false (.tmp 29) (.tmp 31), some (27, false)⟩,
    ⟨(some 33), .bin .lss (.tmp 32) (.const (.int .i64 (-1000000))), some (27, false)⟩,
    ⟨(some 34), .pick (.tmp 27) (.const (.bool true)) (.tmp 33), none⟩] [15, 16, 17, 34])
  (.cond (.tmp 34) (.seq (.region [⟨(some 4), .mov (.const (.int .i64 5)), none⟩] [4])
  (.ret)) (.skip)))))
  (.region [⟨(some 35), .bin .add (.tmp 17) (.const (.int .i64 1)), none⟩,
    ⟨(some 17), .mov (.tmp 35), none⟩] [15, 16, 17])))
def msg_path.body : ACode := .seq (.region [⟨(some 3), .box T.field_Field (.tmp 1), none⟩,
    ⟨(some 4), .mov (.const (.int .i64 0)), none⟩] [0, 3])
  (.seq (.seq (.region [⟨(some 8), .mov (.tmp 0), none⟩,
    ⟨(some 9), .len .slice (.tmp 8), none⟩,
    ⟨(some 10), .load (some 7) (.tmp 3), none⟩,
    ⟨(some 11), .call (.const (.fn F.msg_many [] [])) [(.tmp 9), (.tmp 10)], none⟩,
    ⟨(some 5), .mov (.tmp 11), none⟩] [0, 5])
  (.seq (.region [⟨(some 12), .mov (.tmp 5), none⟩,
    ⟨(some 13), .bin .neq (.tmp 12) (.const (.int .i64 0)), none⟩] [0, 5, 13])
  (.cond (.tmp 13) (.seq (.region [⟨(some 14), .mov (.tmp 5), none⟩,
    ⟨(some 4), .mov (.tmp 14), none⟩] [4])
  (.ret)) (.skip))))
  (.seq (.seq (.region [⟨(some 15), .mov (.tmp 0), none⟩,
    ⟨(some 16), .len .slice (.tmp 15), none⟩,
    ⟨(some 17), .mov (.const (.int .i64 0)), none⟩] [15, 16, 17])
  (.block 0 (.loop msg_path.b0)))
  (.seq (.region [⟨(some 4), .mov (.const (.int .i64 0)), none⟩] [4])
  (.ret))))
def msg_path : AFun := ⟨36, 2, [.tmp 4], msg_path.body⟩
def msg_cells.b0 : ACode := .seq (.region [⟨(some 19), .bin .lss (.tmp 18) (.tmp 17), none⟩] [6, 16, 17, 18, 19])
  (.seq (.cond (.tmp 19) (.skip) (.exit 0))
  (.seq (.block 1 (.seq (.region [⟨(some 20), .idx 1 none (.tmp 16) (.tmp 18), none⟩,
    ⟨(some 21), .load none (.tmp 20), none⟩,
    ⟨(some 8), .mov (.tmp 21), none⟩] [6, 8, 16, 17, 18])
  (.seq (.block 2 (.seq (.region [⟨(some 23), .mov (.tmp 8), none⟩,
    ⟨(some 24), .bin .lss (.tmp 23) (.const (.int .i64 0)), none⟩,
    ⟨(some 25), .mov (.tmp 24), none⟩,
    ⟨(some 26), .mov (.tmp 8), some (25, false)⟩,
    ⟨(some 27), .bin .gtr (.tmp 26) (.const (.int .i64 65535)), some (25, false)⟩,
    ⟨(some 28), .pick (.tmp 25) (.const (.bool true)) (.tmp 27), none⟩,
    ⟨(some 22), .mov (.tmp 28), none⟩] [6, 8, 16, 17, 18, 22])
  (.cond (.tmp 22) (.seq (.region [⟨(some 4), .mov (.const (.int .i64 5)), none⟩] [4])
  (.ret)) (.seq (.region [⟨(some 30), .mov (.tmp 8), none⟩,
    ⟨(some 31), .mov (.tmp 6), none⟩,
    ⟨(some 32), .bin .leq (.tmp 30) (.tmp 31), none⟩,
    ⟨(some 29), .mov (.tmp 32), none⟩] [8, 16, 17, 18, 29])
  (.cond (.tmp 29) (.seq (.region [⟨(some 4), .mov (.const (.int .i64 3)), none⟩] [4])
  (.ret)) (.skip))))))
  (.region [⟨(some 33), .mov (.tmp 8), none⟩,
    ⟨(some 6), .mov (.tmp 33), none⟩] [6, 16, 17, 18]))))
  (.region [⟨(some 34), .bin .add (.tmp 18) (.const (.int .i64 1)), none⟩,
    ⟨(some 18), .mov (.tmp 34), none⟩] [6, 16, 17, 18])))
def msg_cells.body : ACode := .seq (.region [⟨(some 3), .box T.field_Field (.tmp 1), none⟩,
    ⟨(some 4), .mov (.const (.int .i64 0)), none⟩] [0, 3])
  (.seq (.seq (.region [⟨(some 9), .mov (.tmp 0), none⟩,
    ⟨(some 10), .len .slice (.tmp 9), none⟩,
    ⟨(some 11), .load (some 7) (.tmp 3), none⟩,
    ⟨(some 12), .call (.const (.fn F.msg_many [] [])) [(.tmp 10), (.tmp 11)], none⟩,
    ⟨(some 5), .mov (.tmp 12), none⟩] [0, 5])
  (.seq (.region [⟨(some 13), .mov (.tmp 5), none⟩,
    ⟨(some 14), .bin .neq (.tmp 13) (.const (.int .i64 0)), none⟩] [0, 5, 14])
  (.cond (.tmp 14) (.seq (.region [⟨(some 15), .mov (.tmp 5), none⟩,
    ⟨(some 4), .mov (.tmp 15), none⟩] [4])
  (.ret)) (.skip))))
  (.seq (.region [⟨(some 6), .mov (.const (.int .i64 (-1))), none⟩] [0, 6])
  (.seq (.seq (.region [⟨(some 16), .mov (.tmp 0), none⟩,
    ⟨(some 17), .len .slice (.tmp 16), none⟩,
    ⟨(some 18), .mov (.const (.int .i64 0)), none⟩] [6, 16, 17, 18])
  (.block 0 (.loop msg_cells.b0)))
  (.seq (.region [⟨(some 4), .mov (.const (.int .i64 0)), none⟩] [4])
  (.ret)))))
def msg_cells : AFun := ⟨35, 2, [.tmp 4], msg_cells.body⟩
def msg_text.b0 : ACode := .seq (.region [⟨(some 19), .bin .lss (.tmp 18) (.tmp 17), none⟩] [16, 17, 18, 19])
  (.seq (.cond (.tmp 19) (.skip) (.exit 0))
  (.seq (.block 1 (.seq (.region [⟨(some 20), .idx 1 none (.tmp 16) (.tmp 18), none⟩,
    ⟨(some 21), .load none (.tmp 20), none⟩,
    ⟨(some 7), .mov (.tmp 21), none⟩] [7, 16, 17, 18])
  (.seq (.region [⟨(some 22), .mov (.tmp 7), none⟩,
    ⟨(some 23), .bin .lss (.tmp 22) (.const (.int .u8 32)), none⟩,
    ⟨(some 24), .mov (.tmp 23), none⟩,
    ⟨(some 25), .mov (.tmp 7), some (24, false)⟩,
    ⟨(some 26), .bin .gtr (.tmp 25) (.const (.int .u8 126)), some (24, false)⟩,
    ⟨(some 27), .pick (.tmp 24) (.const (.bool true)) (.tmp 26), none⟩] [16, 17, 18, 27])
  (.cond (.tmp 27) (.seq (.region [⟨(some 4), .mov (.const (.int .i64 19)), none⟩] [4])
  (.ret)) (.skip)))))
  (.region [⟨(some 28), .bin .add (.tmp 18) (.const (.int .i64 1)), none⟩,
    ⟨(some 18), .mov (.tmp 28), none⟩] [16, 17, 18])))
def msg_text.body : ACode := .seq (.region [⟨(some 3), .box T.field_Field (.tmp 1), none⟩,
    ⟨(some 4), .mov (.const (.int .i64 0)), none⟩] [0, 3])
  (.seq (.seq (.region [⟨(some 8), .mov (.tmp 0), none⟩,
    ⟨(some 9), .len .str (.tmp 8), none⟩,
    ⟨(some 10), .load (some 7) (.tmp 3), none⟩,
    ⟨(some 11), .call (.const (.fn F.msg_many [] [])) [(.tmp 9), (.tmp 10)], none⟩,
    ⟨(some 5), .mov (.tmp 11), none⟩] [0, 5])
  (.seq (.region [⟨(some 12), .mov (.tmp 5), none⟩,
    ⟨(some 13), .bin .neq (.tmp 12) (.const (.int .i64 0)), none⟩] [0, 5, 13])
  (.cond (.tmp 13) (.seq (.region [⟨(some 14), .mov (.tmp 5), none⟩,
    ⟨(some 4), .mov (.tmp 14), none⟩] [4])
  (.ret)) (.skip))))
  (.seq (.seq (.region [⟨(some 15), .mov (.tmp 0), none⟩,
    ⟨(some 16), .s2b (.tmp 15), none⟩,
    ⟨(some 17), .len .slice (.tmp 16), none⟩,
    ⟨(some 18), .mov (.const (.int .i64 0)), none⟩] [16, 17, 18])
  (.block 0 (.loop msg_text.b0)))
  (.seq (.region [⟨(some 4), .mov (.const (.int .i64 0)), none⟩] [4])
  (.ret))))
def msg_text : AFun := ⟨29, 2, [.tmp 4], msg_text.body⟩
def slices_Equal_msg_Point_msg_Point.d0 : List AOper := [⟨(some 16), .mov (.tmp 0), none⟩,
    ⟨(some 17), .mov (.tmp 5), none⟩,
    ⟨(some 18), .idx 2 none (.tmp 16) (.tmp 17), none⟩,
    ⟨(some 19), .load (some 2) (.tmp 18), none⟩,
    ⟨(some 20), .mov (.tmp 1), none⟩,
    ⟨(some 21), .mov (.tmp 5), none⟩,
    ⟨(some 22), .idx 2 none (.tmp 20) (.tmp 21), none⟩,
    ⟨(some 23), .load (some 2) (.tmp 22), none⟩,
    ⟨(some 24), .eq true (.cells [.int, .int]) (.tmp 19) (.tmp 23), none⟩]
def slices_Equal_msg_Point_msg_Point.d0b : List (List Nat) := [[], [], [0, 1], [0, 1, 2], [], [], [4, 5], [4, 5, 6], [0, 1, 2, 3, 4, 5, 6, 7]]
def slices_Equal_msg_Point_msg_Point.b1 : ACode := .seq (.region [⟨(some 14), .bin .lss (.tmp 13) (.tmp 12), none⟩] [0, 1, 12, 13, 14])
  (.seq (.cond (.tmp 14) (.skip) (.exit 0))
  (.seq (.block 1 (.seq (.region [⟨(some 15), .mov (.tmp 13), none⟩,
    ⟨(some 5), .mov (.tmp 15), none⟩] [0, 1, 5, 12, 13])
  (.seq (.draw slices_Equal_msg_Point_msg_Point.d0 slices_Equal_msg_Point_msg_Point.d0b [[0, 1, 2, 3, 4, 5, 6, 7, 8]] [] [0, 1, 12, 13, 24])
  (.cond (.tmp 24) (.seq (.region [⟨(some 4), .mov (.const (.bool false)), none⟩] [4])
  (.ret)) (.skip)))))
  (.region [⟨(some 25), .bin .add (.tmp 13) (.const (.int .i64 1)), none⟩,
    ⟨(some 13), .mov (.tmp 25), none⟩] [0, 1, 12, 13])))
def slices_Equal_msg_Point_msg_Point.body : ACode := .seq (.region [⟨(some 4), .mov (.const (.bool false)), none⟩] [0, 1])
  (.seq (.seq (.region [⟨(some 6), .mov (.tmp 0), none⟩,
    ⟨(some 7), .len .slice (.tmp 6), none⟩,
    ⟨(some 8), .mov (.tmp 1), none⟩,
    ⟨(some 9), .len .slice (.tmp 8), none⟩,
    ⟨(some 10), .bin .neq (.tmp 7) (.tmp 9), none⟩] [0, 1, 10])
  (.cond (.tmp 10) (.seq (.region [⟨(some 4), .mov (.const (.bool false)), none⟩] [4])
  (.ret)) (.skip)))
  (.seq (.seq (.region [⟨(some 11), .mov (.tmp 0), none⟩,
    ⟨(some 12), .len .slice (.tmp 11), none⟩,
    ⟨(some 13), .mov (.const (.int .i64 0)), none⟩] [0, 1, 12, 13])
  (.block 0 (.loop slices_Equal_msg_Point_msg_Point.b1)))
  (.seq (.region [⟨(some 4), .mov (.const (.bool true)), none⟩] [4])
  (.ret))))
def slices_Equal_msg_Point_msg_Point : AFun := ⟨26, 2, [.tmp 4], slices_Equal_msg_Point_msg_Point.body⟩
def slices_Equal_int_int.d0 : List AOper := [⟨(some 16), .mov (.tmp 0), none⟩,
    ⟨(some 17), .mov (.tmp 5), none⟩,
    ⟨(some 18), .idx 1 none (.tmp 16) (.tmp 17), none⟩,
    ⟨(some 19), .load none (.tmp 18), none⟩,
    ⟨(some 20), .mov (.tmp 1), none⟩,
    ⟨(some 21), .mov (.tmp 5), none⟩,
    ⟨(some 22), .idx 1 none (.tmp 20) (.tmp 21), none⟩,
    ⟨(some 23), .load none (.tmp 22), none⟩,
    ⟨(some 24), .bin .neq (.tmp 19) (.tmp 23), none⟩]
def slices_Equal_int_int.d0b : List (List Nat) := [[], [], [0, 1], [0, 1, 2], [], [], [4, 5], [4, 5, 6], [0, 1, 2, 3, 4, 5, 6, 7]]
def slices_Equal_int_int.b1 : ACode := .seq (.region [⟨(some 14), .bin .lss (.tmp 13) (.tmp 12), none⟩] [0, 1, 12, 13, 14])
  (.seq (.cond (.tmp 14) (.skip) (.exit 0))
  (.seq (.block 1 (.seq (.region [⟨(some 15), .mov (.tmp 13), none⟩,
    ⟨(some 5), .mov (.tmp 15), none⟩] [0, 1, 5, 12, 13])
  (.seq (.draw slices_Equal_int_int.d0 slices_Equal_int_int.d0b [[0, 1, 2, 3, 4, 5, 6, 7, 8]] [] [0, 1, 12, 13, 24])
  (.cond (.tmp 24) (.seq (.region [⟨(some 4), .mov (.const (.bool false)), none⟩] [4])
  (.ret)) (.skip)))))
  (.region [⟨(some 25), .bin .add (.tmp 13) (.const (.int .i64 1)), none⟩,
    ⟨(some 13), .mov (.tmp 25), none⟩] [0, 1, 12, 13])))
def slices_Equal_int_int.body : ACode := .seq (.region [⟨(some 4), .mov (.const (.bool false)), none⟩] [0, 1])
  (.seq (.seq (.region [⟨(some 6), .mov (.tmp 0), none⟩,
    ⟨(some 7), .len .slice (.tmp 6), none⟩,
    ⟨(some 8), .mov (.tmp 1), none⟩,
    ⟨(some 9), .len .slice (.tmp 8), none⟩,
    ⟨(some 10), .bin .neq (.tmp 7) (.tmp 9), none⟩] [0, 1, 10])
  (.cond (.tmp 10) (.seq (.region [⟨(some 4), .mov (.const (.bool false)), none⟩] [4])
  (.ret)) (.skip)))
  (.seq (.seq (.region [⟨(some 11), .mov (.tmp 0), none⟩,
    ⟨(some 12), .len .slice (.tmp 11), none⟩,
    ⟨(some 13), .mov (.const (.int .i64 0)), none⟩] [0, 1, 12, 13])
  (.block 0 (.loop slices_Equal_int_int.b1)))
  (.seq (.region [⟨(some 4), .mov (.const (.bool true)), none⟩] [4])
  (.ret))))
def slices_Equal_int_int : AFun := ⟨26, 2, [.tmp 4], slices_Equal_int_int.body⟩
def msg_many.body : ACode := .seq (.region [⟨(some 3), .box T.field_Field (.tmp 1), none⟩,
    ⟨(some 4), .mov (.const (.int .i64 0)), none⟩] [0, 3])
  (.seq (.block 0 (.seq (.region [⟨(some 6), .mov (.tmp 0), none⟩,
    ⟨(some 7), .field 3 (.tmp 3), none⟩,
    ⟨(some 8), .load none (.tmp 7), none⟩,
    ⟨(some 9), .bin .lss (.tmp 6) (.tmp 8), none⟩,
    ⟨(some 5), .mov (.tmp 9), none⟩] [0, 3, 5])
  (.cond (.tmp 5) (.seq (.region [⟨(some 4), .mov (.const (.int .i64 13)), none⟩] [4])
  (.ret)) (.seq (.region [⟨(some 11), .mov (.tmp 0), none⟩,
    ⟨(some 12), .field 4 (.tmp 3), none⟩,
    ⟨(some 13), .load none (.tmp 12), none⟩,
    ⟨(some 14), .bin .gtr (.tmp 11) (.tmp 13), none⟩,
    ⟨(some 10), .mov (.tmp 14), none⟩] [10])
  (.cond (.tmp 10) (.seq (.region [⟨(some 4), .mov (.const (.int .i64 6)), none⟩] [4])
  (.ret)) (.skip))))))
  (.seq (.region [⟨(some 4), .mov (.const (.int .i64 0)), none⟩] [4])
  (.ret)))
def msg_many : AFun := ⟨15, 2, [.tmp 4], msg_many.body⟩
theorem cuneiformlaw22_SendNil_code : okFun Try.prog F.cuneiformlaw22_SendNil cuneiformlaw22_SendNil = true := by kernel_rfl
theorem send_New_code : okFun Try.prog F.send_New send_New = true := by kernel_rfl
theorem cuneiformlaw22_known_code : okFun Try.prog F.cuneiformlaw22_known cuneiformlaw22_known = true := by kernel_rfl
theorem conf_CheckSender_code : okFun Try.prog F.conf_CheckSender conf_CheckSender = true := by kernel_rfl
theorem send_Sender_Each_code : okFun Try.prog F.send_Sender_Each send_Sender_Each = true := by kernel_rfl
theorem send_Sender_Send_code : okFun Try.prog F.send_Sender_Send send_Sender_Send = true := by kernel_rfl
theorem send_Sender_Next_code : okFun Try.prog F.send_Sender_Next send_Sender_Next = true := by kernel_rfl
theorem send_Sender_Sent_code : okFun Try.prog F.send_Sender_Sent send_Sender_Sent = true := by kernel_rfl
theorem send_Sender_Frames_code : okFun Try.prog F.send_Sender_Frames send_Sender_Frames = true := by kernel_rfl
theorem frame_Wire_code : okFun Try.prog F.frame_Wire frame_Wire = true := by kernel_rfl
theorem send_Sender_Conf_code : okFun Try.prog F.send_Sender_Conf send_Sender_Conf = true := by kernel_rfl
theorem send_Sender_Copy_code : okFun Try.prog F.send_Sender_Copy send_Sender_Copy = true := by kernel_rfl
theorem frame_New_code : okFun Try.prog F.frame_New frame_New = true := by kernel_rfl
theorem send_Sender_Each_1_code : okFun Try.prog F.send_Sender_Each_1 send_Sender_Each_1 = true := by kernel_rfl
theorem frame_Codec_Pack_code : okFun Try.prog F.frame_Codec_Pack frame_Codec_Pack = true := by kernel_rfl
theorem body_Parts_code : okFun Try.prog F.body_Parts body_Parts = true := by kernel_rfl
theorem body_Encode_code : okFun Try.prog F.body_Encode body_Encode = true := by kernel_rfl
theorem cut_Frames_code : okFun Try.prog F.cut_Frames cut_Frames = true := by kernel_rfl
theorem conf_Room_code : okFun Try.prog F.conf_Room conf_Room = true := by kernel_rfl
theorem serial_Add_code : okFun Try.prog F.serial_Add serial_Add = true := by kernel_rfl
theorem cobs_Most_code : okFun Try.prog F.cobs_Most cobs_Most = true := by kernel_rfl
theorem cut_Count_code : okFun Try.prog F.cut_Count cut_Count = true := by kernel_rfl
theorem crc_New_code : okFun Try.prog F.crc_New crc_New = true := by kernel_rfl
theorem frame_Codec_Segment_code : okFun Try.prog F.frame_Codec_Segment frame_Codec_Segment = true := by kernel_rfl
theorem fence_Wrap_code : okFun Try.prog F.fence_Wrap fence_Wrap = true := by kernel_rfl
theorem body_Parts_1_code : okFun Try.prog F.body_Parts_1 body_Parts_1 = true := by kernel_rfl
theorem body_check_code : okFun Try.prog F.body_check body_check = true := by kernel_rfl
theorem field_All_code : okFun Try.prog F.field_All field_All = true := by kernel_rfl
theorem body_part_code : okFun Try.prog F.body_part body_part = true := by kernel_rfl
theorem head_Check_code : okFun Try.prog F.head_Check head_Check = true := by kernel_rfl
theorem cut_Parts_code : okFun Try.prog F.cut_Parts cut_Parts = true := by kernel_rfl
theorem frame_Room_code : okFun Try.prog F.frame_Room frame_Room = true := by kernel_rfl
theorem crc_shift_code : okFun Try.prog F.crc_shift crc_shift = true := by kernel_rfl
theorem frame_Codec_Check_code : okFun Try.prog F.frame_Codec_Check frame_Codec_Check = true := by kernel_rfl
theorem head_Bytes_code : okFun Try.prog F.head_Bytes head_Bytes = true := by kernel_rfl
theorem cobs_Encode_code : okFun Try.prog F.cobs_Encode cobs_Encode = true := by kernel_rfl
theorem crc_Seal_code : okFun Try.prog F.crc_Seal crc_Seal = true := by kernel_rfl
theorem msg_Check_code : okFun Try.prog F.msg_Check msg_Check = true := by kernel_rfl
theorem field_All_1_code : okFun Try.prog F.field_All_1 field_All_1 = true := by kernel_rfl
theorem field_Of_code : okFun Try.prog F.field_Of field_Of = true := by kernel_rfl
theorem pen_New_code : okFun Try.prog F.pen_New pen_New = true := by kernel_rfl
theorem pen_Pen_Number_code : okFun Try.prog F.pen_Pen_Number pen_Pen_Number = true := by kernel_rfl
theorem pen_Pen_Signed_code : okFun Try.prog F.pen_Pen_Signed pen_Pen_Signed = true := by kernel_rfl
theorem body_points_code : okFun Try.prog F.body_points body_points = true := by kernel_rfl
theorem body_cells_code : okFun Try.prog F.body_cells body_cells = true := by kernel_rfl
theorem pen_Pen_Field_code : okFun Try.prog F.pen_Pen_Field pen_Pen_Field = true := by kernel_rfl
theorem pen_Pen_Bytes_code : okFun Try.prog F.pen_Pen_Bytes pen_Pen_Bytes = true := by kernel_rfl
theorem head_wrong_code : okFun Try.prog F.head_wrong head_wrong = true := by kernel_rfl
theorem cut_Parts_1_code : okFun Try.prog F.cut_Parts_1 cut_Parts_1 = true := by kernel_rfl
theorem cobs_Blocks_code : okFun Try.prog F.cobs_Blocks cobs_Blocks = true := by kernel_rfl
theorem crc_bytes_code : okFun Try.prog F.crc_bytes crc_bytes = true := by kernel_rfl
theorem crc_Table_Sum_code : okFun Try.prog F.crc_Table_Sum crc_Table_Sum = true := by kernel_rfl
theorem msg_wrong_code : okFun Try.prog F.msg_wrong msg_wrong = true := by kernel_rfl
theorem msg_without_code : okFun Try.prog F.msg_without msg_without = true := by kernel_rfl
theorem msg_Same_code : okFun Try.prog F.msg_Same msg_Same = true := by kernel_rfl
theorem field_robot_code : okFun Try.prog F.field_robot field_robot = true := by kernel_rfl
theorem pen_Pen_Raw_code : okFun Try.prog F.pen_Pen_Raw pen_Pen_Raw = true := by kernel_rfl
theorem varint_Put_code : okFun Try.prog F.varint_Put varint_Put = true := by kernel_rfl
theorem varint_Zig_code : okFun Try.prog F.varint_Zig varint_Zig = true := by kernel_rfl
theorem head_wrong_1_code : okFun Try.prog F.head_wrong_1 head_wrong_1 = true := by kernel_rfl
theorem cobs_Blocks_1_code : okFun Try.prog F.cobs_Blocks_1 cobs_Blocks_1 = true := by kernel_rfl
theorem cobs_block_code : okFun Try.prog F.cobs_block cobs_block = true := by kernel_rfl
theorem crc_Table_Begin_code : okFun Try.prog F.crc_Table_Begin crc_Table_Begin = true := by kernel_rfl
theorem crc_Table_Add_code : okFun Try.prog F.crc_Table_Add crc_Table_Add = true := by kernel_rfl
theorem crc_Table_End_code : okFun Try.prog F.crc_Table_End crc_Table_End = true := by kernel_rfl
theorem msg_path_code : okFun Try.prog F.msg_path msg_path = true := by kernel_rfl
theorem msg_cells_code : okFun Try.prog F.msg_cells msg_cells = true := by kernel_rfl
theorem msg_text_code : okFun Try.prog F.msg_text msg_text = true := by kernel_rfl
theorem slices_Equal_msg_Point_msg_Point_code : okFun Try.prog F.slices_Equal_msg_Point_msg_Point slices_Equal_msg_Point_msg_Point = true := by kernel_rfl
theorem slices_Equal_int_int_code : okFun Try.prog F.slices_Equal_int_int slices_Equal_int_int = true := by kernel_rfl
theorem msg_many_code : okFun Try.prog F.msg_many msg_many = true := by kernel_rfl
def codes : CT := [(F.cuneiformlaw22_SendNil, cuneiformlaw22_SendNil), (F.send_New, send_New), (F.cuneiformlaw22_known, cuneiformlaw22_known), (F.conf_CheckSender, conf_CheckSender), (F.send_Sender_Each, send_Sender_Each), (F.send_Sender_Send, send_Sender_Send), (F.send_Sender_Next, send_Sender_Next), (F.send_Sender_Sent, send_Sender_Sent), (F.send_Sender_Frames, send_Sender_Frames), (F.frame_Wire, frame_Wire), (F.send_Sender_Conf, send_Sender_Conf), (F.send_Sender_Copy, send_Sender_Copy), (F.frame_New, frame_New), (F.send_Sender_Each_1, send_Sender_Each_1), (F.frame_Codec_Pack, frame_Codec_Pack), (F.body_Parts, body_Parts), (F.body_Encode, body_Encode), (F.cut_Frames, cut_Frames), (F.conf_Room, conf_Room), (F.serial_Add, serial_Add), (F.cobs_Most, cobs_Most), (F.cut_Count, cut_Count), (F.crc_New, crc_New), (F.frame_Codec_Segment, frame_Codec_Segment), (F.fence_Wrap, fence_Wrap), (F.body_Parts_1, body_Parts_1), (F.body_check, body_check), (F.field_All, field_All), (F.body_part, body_part), (F.head_Check, head_Check), (F.cut_Parts, cut_Parts), (F.frame_Room, frame_Room), (F.crc_shift, crc_shift), (F.frame_Codec_Check, frame_Codec_Check), (F.head_Bytes, head_Bytes), (F.cobs_Encode, cobs_Encode), (F.crc_Seal, crc_Seal), (F.msg_Check, msg_Check), (F.field_All_1, field_All_1), (F.field_Of, field_Of), (F.pen_New, pen_New), (F.pen_Pen_Number, pen_Pen_Number), (F.pen_Pen_Signed, pen_Pen_Signed), (F.body_points, body_points), (F.body_cells, body_cells), (F.pen_Pen_Field, pen_Pen_Field), (F.pen_Pen_Bytes, pen_Pen_Bytes), (F.head_wrong, head_wrong), (F.cut_Parts_1, cut_Parts_1), (F.cobs_Blocks, cobs_Blocks), (F.crc_bytes, crc_bytes), (F.crc_Table_Sum, crc_Table_Sum), (F.msg_wrong, msg_wrong), (F.msg_without, msg_without), (F.msg_Same, msg_Same), (F.field_robot, field_robot), (F.pen_Pen_Raw, pen_Pen_Raw), (F.varint_Put, varint_Put), (F.varint_Zig, varint_Zig), (F.head_wrong_1, head_wrong_1), (F.cobs_Blocks_1, cobs_Blocks_1), (F.cobs_block, cobs_block), (F.crc_Table_Begin, crc_Table_Begin), (F.crc_Table_Add, crc_Table_Add), (F.crc_Table_End, crc_Table_End), (F.msg_path, msg_path), (F.msg_cells, msg_cells), (F.msg_text, msg_text), (F.slices_Equal_msg_Point_msg_Point, slices_Equal_msg_Point_msg_Point), (F.slices_Equal_int_int, slices_Equal_int_int), (F.msg_many, msg_many)]
theorem codes_ok : AllOk Try.prog codes := ⟨cuneiformlaw22_SendNil_code, send_New_code, cuneiformlaw22_known_code, conf_CheckSender_code, send_Sender_Each_code, send_Sender_Send_code, send_Sender_Next_code, send_Sender_Sent_code, send_Sender_Frames_code, frame_Wire_code, send_Sender_Conf_code, send_Sender_Copy_code, frame_New_code, send_Sender_Each_1_code, frame_Codec_Pack_code, body_Parts_code, body_Encode_code, cut_Frames_code, conf_Room_code, serial_Add_code, cobs_Most_code, cut_Count_code, crc_New_code, frame_Codec_Segment_code, fence_Wrap_code, body_Parts_1_code, body_check_code, field_All_code, body_part_code, head_Check_code, cut_Parts_code, frame_Room_code, crc_shift_code, frame_Codec_Check_code, head_Bytes_code, cobs_Encode_code, crc_Seal_code, msg_Check_code, field_All_1_code, field_Of_code, pen_New_code, pen_Pen_Number_code, pen_Pen_Signed_code, body_points_code, body_cells_code, pen_Pen_Field_code, pen_Pen_Bytes_code, head_wrong_code, cut_Parts_1_code, cobs_Blocks_code, crc_bytes_code, crc_Table_Sum_code, msg_wrong_code, msg_without_code, msg_Same_code, field_robot_code, pen_Pen_Raw_code, varint_Put_code, varint_Zig_code, head_wrong_1_code, cobs_Blocks_1_code, cobs_block_code, crc_Table_Begin_code, crc_Table_Add_code, crc_Table_End_code, msg_path_code, msg_cells_code, msg_text_code, slices_Equal_msg_Point_msg_Point_code, slices_Equal_int_int_code, msg_many_code, trivial⟩
end Go.Proofs.Ytiepeiconkjmeaa
