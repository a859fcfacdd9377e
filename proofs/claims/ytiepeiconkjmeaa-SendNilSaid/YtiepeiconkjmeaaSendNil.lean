/-
  A nil sender sends nothing, for any message. By an AI agent. No person has read it.
-/
import Derived.Test.YtiepeiconkjmeaaSENDA
import Derived.Test.YtiepeiconkjmeaaAm6
import Derived.OpenShut
import Derived.Test.YtiepeiconkjmeaaRows

namespace Go.Proofs.Ytiepeiconkjmeaa
open Go Go.Am
set_option linter.unusedSimpArgs false
set_option linter.unusedVariables false

theorem each1_nil {H : AHeap} {n a b q : Nat} {cs : List AVal} {t1 t2 t3 : TypeId} (ha : H[a]? = some (.cells [.slc q 0 1 11] t1)) (hb : H[b]? = some (.cells [.nilp] t2)) (hq : H[q]? = some (.vec cs t3 11)) (hcs : cs.length = 11) (hcl : cs.all AVal.cellish = true) : Iter Try.prog F.send_Sender_Each_1 [.yld n, .ptr a 0, .ptr b 0] n (fun _ => [.nils, .int .i64 0]) 0 [] H := by
  intro I hI fp hi hown
  have hb' : ∀ L : AHeap, (H ++ L)[b]? = some (.cells [.nilp] t2) := fun L => (at_low (List.getElem?_eq_some_iff.1 hb).1).trans hb
  refine fun_V 100 send_Sender_Each_1_code rfl ?_
  have hld : loadA H (some 11) (.sptr (.slc q 0 1 11) 0) = some (True, .agg cs) := by
    simp [loadA, cellsAt, view, hq, content, hcs, List.take_of_length_le]
  simp (disch := first | omega | (simp only [lnx]; omega)) only [stdh, stdx, ↓reduceIte, seval, send_Sender_Each_1, send_Sender_Each_1.body, ha]
  refine loop_V 100 send_Sender_Each_1.b0.eq_1 ?_
  simp (disch := first | omega | (simp only [lnx]; omega)) only [stdh, stdx, ↓reduceIte, seval, hld, hb', eqA]
  refine ⟨by simp [view, hq, content, hcs], ?_⟩
  refine run_inScope ?_
  exact run_fin rfl rfl trivial ⟨true, 0, fp, by simp, fun m hm _ => at_low hm, fun _ => rfl, (hI.foot true 0).stable _ _ _ hi (by simp) fun m hm => at_low ((hI.foot true 0).lt _ _ hi m hm)⟩

theorem each_nil (H : AHeap) {q : Nat} (Q : AVal → AHeap → Prop) (h : Q (.fn F.send_Sender_Each_1 [] [.ptr (H.length + 1) 0, .ptr H.length 0]) (H ++ [.cells [.nilp] T.p_send_Sender, .cells [.slc q 0 1 11] T.sl_msg_Msg])) : FunOK Try.prog F.send_Sender_Each [.nilp, .slc q 0 1 11] H Q := by
  refine fun_V 40 send_Sender_Each_code rfl ?_
  simp (disch := first | omega | (simp only [lnx]; omega)) only [stdh, stdx, ↓reduceIte, seval, send_Sender_Each, send_Sender_Each.body]
  exact h

theorem frames_nil {k n0 n1 n2 n3 n4 n5 : Int} {p c : AVal} {t g : ByteArray} (hp : p.cellish = true) (hc : c.cellish = true) (H : AHeap) (Q : AVal → AHeap → Prop) (h : Q (.tup [.nils, .int .i64 1]) H) :
    FunOK Try.prog F.send_Sender_Frames [.nilp, .agg [.int .i64 k, .int .i64 n0, .int .i64 n1, .int .i64 n2, .int .i64 n3, .int .i64 n4, .int .i64 n5, p, c, .str t, .str g]] H Q := by
  refine fun_iced send_Sender_Frames_code fun _ => ?_
  refine fun_V 40 send_Sender_Frames_code rfl ?_
  simp (disch := first | omega | (simp only [lnx]; omega)) only [stdh, stdx, ↓reduceIte, seval, send_Sender_Frames, send_Sender_Frames.body, eqA, hp, hc]
  exact ice_keeps (keeps_append _ _) ⟨trivial, trivial, trivial⟩ h

theorem send_nil {k n0 n1 n2 n3 n4 n5 : Int} {p c : AVal} {t g : ByteArray} (hp : p.cellish = true) (hc : c.cellish = true) (H : AHeap) (Q : AVal → AHeap → Prop) (h : Q (.tup [.nils, .int .i64 1]) H) :
    FunOK Try.prog F.send_Sender_Send [.nilp, .agg [.int .i64 k, .int .i64 n0, .int .i64 n1, .int .i64 n2, .int .i64 n3, .int .i64 n4, .int .i64 n5, p, c, .str t, .str g]] H Q := by
  refine fun_iced send_Sender_Send_code fun _ => ?_
  refine fun_V 40 send_Sender_Send_code rfl ?_
  simp (disch := first | omega | (simp only [lnx]; omega)) only [stdh, stdx, ↓reduceIte, seval, send_Sender_Send, send_Sender_Send.body, hp, hc]
  refine callK_fn (frames_nil hp hc _ _ ?_)
  refine runL_V 60 ?_
  simp (disch := first | omega | (simp only [lnx]; omega)) only [stdh, stdx, ↓reduceIte, seval]
  exact ice_keeps (keeps_append _ _) ⟨trivial, trivial, trivial⟩ h

set_option maxHeartbeats 4000000 in
theorem sendnil_ok {k n0 n1 n2 n3 n4 n5 : Int} {p c : AVal} {t g : ByteArray} (hp : p.cellish = true) (hc : c.cellish = true) :
    FunOK Try.prog F.cuneiformlaw22_SendNil [.agg [.int .i64 k, .int .i64 n0, .int .i64 n1, .int .i64 n2, .int .i64 n3, .int .i64 n4, .int .i64 n5, p, c, .str t, .str g]] [] fun av _ => av = .bool true := by
  refine fun_V 60 cuneiformlaw22_SendNil_code rfl ?_
  simp (disch := first | omega | (simp only [lnx]; omega)) only [stdh, stdx, ↓reduceIte, seval, cuneiformlaw22_SendNil, cuneiformlaw22_SendNil.body, hp, hc]
  refine callK_fn (frames_nil hp hc _ _ ?_)
  refine runL_V 60 ?_
  simp (disch := first | omega | (simp only [lnx]; omega)) only [stdh, stdx, ↓reduceIte, seval]
  refine callK_fn (send_nil hp hc _ _ ?_)
  refine runL_V 60 ?_
  simp (disch := first | omega | (simp only [lnx]; omega)) only [stdh, stdx, ↓reduceIte, seval, hp, hc]
  refine callK_fn (each_nil _ _ ?_)
  refine runL_V 60 ?_
  simp (disch := first | omega | (simp only [lnx]; omega)) only [stdh, stdx, ↓reduceIte, seval, eqA]
  refine range_vars (g := F.send_Sender_Each_1) (first := []) (captured := [.ptr 4 0, .ptr 3 0]) rfl (by intro n hn; cases hn) (item := fun _ => [.nils, .int .i64 0]) (len := 0) (fun j => rfl) [] (fun _ => none) vars_nil (fun _ _ _ _ hj => absurd hj (by omega)) (fun H1 h1 h2 => each1_nil (t1 := T.sl_msg_Msg) (t2 := T.p_send_Sender) (t3 := T.msg_Msg) (q := 2) (cs := [.int .i64 k, .int .i64 n0, .int .i64 n1, .int .i64 n2, .int .i64 n3, .int .i64 n4, .int .i64 n5, p, c, .str t, .str g]) ((h2 4 (by simp)).trans rfl) ((h2 3 (by simp)).trans rfl) ((h2 2 (by simp)).trans rfl) rfl (by simp [hp, hc, cellish_int, cellish_str])) ?_ (fun _ _ _ _ _ _ hh => by cases hh)
  intro H' hl hk _ _
  have hk1 : H'[1]? = some (.cells [.int .i64 0] T.int) := (hk 1 (by simp) (by simp)).trans rfl
  clear hk hl
  refine run_V0 60 ?_
  simp (disch := first | omega | (simp only [lnx]; omega)) only [stdh, stdx, ↓reduceIte, seval]
  refine callK_fn (known22_ok _ _ ?_)
  refine runL_V 60 ?_
  simp (disch := first | omega | (simp only [lnx]; omega)) only [stdh, stdx, ↓reduceIte, seval, hk1]
  refine callK_fn (fun_reck codes_ok 100 (.int .u32 0) (by kernel_rfl) rfl rfl _ _ ?_)
  refine runL_V 60 ?_
  simp (disch := first | omega | (simp only [lnx]; omega)) only [stdh, stdx, ↓reduceIte, seval]
  refine callK_fn (fun_reck codes_ok 100 (.int .i64 0) (by kernel_rfl) rfl rfl _ _ ?_)
  refine runL_V 60 ?_
  simp (disch := first | omega | (simp only [lnx]; omega)) only [stdh, stdx, ↓reduceIte, seval]
  refine callK_fn (fun_reck codes_ok 100 (.agg [.int .i64 0, .int .i64 0, .int .u32 0]) (by kernel_rfl) rfl rfl _ _ ?_)
  refine runL_V 60 ?_
  simp (disch := first | omega | (simp only [lnx]; omega)) only [stdh, stdx, ↓reduceIte, seval, eqA, eqCells, eqCell]
  refine callK_fn (fun_reck codes_ok 100 .nilp (by kernel_rfl) rfl rfl _ _ ?_)
  refine runL_V 60 ?_
  simp (disch := first | omega | (simp only [lnx]; omega)) only [stdh, stdx, ↓reduceIte, seval, eqA]
end Go.Proofs.Ytiepeiconkjmeaa

namespace Go.Proofs.Ytiepeiconkjmeaa.sendNil
open Go Go.Am Go.ChangeShapes Go.WideShapes Go.ChangeAt Go.RowKit
set_option linter.unusedVariables false

theorem own : ownKnob Try.prog.godebug = none := by kernel_rfl
theorem laidOut : laidOutB Try.prog = true := by kernel_rfl

set_option maxRecDepth 100000 in
theorem lifted (os : Os) (started : os.Started) (H : Type) (enc : TypeId × Value → H) :
    ReturnsInHanded {} Try.checked os F.cuneiformlaw22_SendNil .any (Rows.sendNilSpec.pre6 enc Try.prog Try.f5 Rows.sendNilRow.domain false) (Rows.sendNilSpec.post enc Try.prog Try.f5 false true false false) := by
  refine returnsInHanded_of_change (C := Try.checked) own started (by kernel_rfl) Try.func5
    (ChangeSpec.witness6 (enc := enc) (C := Try.checked) false ⟨#[], #[.agg #[.int .i64 0, .int .i64 0, .int .i64 0, .int .i64 0, .int .i64 0, .int .i64 0, .int .i64 0, .slice none 0 0, .slice none 0 0, .string ⟨#[]⟩, .string ⟨#[]⟩]], []⟩ 8 (by kernel_rfl) (by kernel_rfl) (by kernel_rfl) (by kernel_rfl)) ?_
  intro W base args ds gs before hval hW hcnd _
  refine law_calls (shs := [shMsg]) (tb := 4) laidOut (by kernel_rfl) ?_ (by kernel_rfl) Try.underlying4 rfl ?_ ?_ hval hW
  · intro t ht
    have : ∀ t ∈ Try.f5.params.toList, (Try.prog.readableRec t && decide (t < Try.prog.types.size)) = true := List.all_eq_true.1 (by kernel_rfl)
    simpa using this t ht
  · intro H ds hd
    match ds, hd with
    | [d0], _ => exact ⟨rfl, rfl, rfl⟩
  · rintro xs ⟨a, r, rfl, ha, rfl⟩
    obtain ⟨k, n0, n1, n2, n3, n4, n5, p, c, t, g, rfl, hp, hc⟩ := msg_fits ha
    exact sendnil_ok hp hc

theorem proved : Rows.SendNilSaid :=
  OpenClaim.holds_of_wide F.cuneiformlaw22_SendNil Try.f5 rfl rfl rfl rfl rfl rfl rfl ⟨rfl, rfl, rfl, rfl, rfl⟩ rfl rfl rfl rfl rfl (by kernel_rfl) Try.func5 (by kernel_rfl)
    (of_decide_eq_true (by kernel_rfl)) (by unfold Func.isWrapper; first | (rw [if_pos (by decide +kernel)]; kernel_rfl) | (rw [if_neg (by decide +kernel)]; exact ⟨rfl, rfl⟩))
    (fun os started H enc _ => lifted os started H enc)
end Go.Proofs.Ytiepeiconkjmeaa.sendNil
