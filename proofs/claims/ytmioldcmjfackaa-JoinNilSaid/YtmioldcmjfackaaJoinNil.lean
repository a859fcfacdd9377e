/-
  A nil joiner has no messages: it takes no frame, has no number done, drops nothing, and has nothing to tell. By an AI agent. No person has read it.
-/
import Derived.Test.YtmioldcmjfackaaCode
import Derived.Test.YtmioldcmjfackaaJOINA
import Derived.Test.YtmioldcmjfackaaAm6
import Derived.OpenShut
import Derived.Test.YtmioldcmjfackaaRows
set_option linter.unusedSimpArgs false
set_option linter.unusedVariables false

namespace Go.Proofs.Ytmioldcmjfackaa
open Go Go.Am
set_option linter.unusedSimpArgs false
set_option linter.unusedVariables false

theorem known15_ok (H : AHeap) (Q : AVal → AHeap → Prop) (h : Q (.bool true) H) : FunOK Try.prog F.cuneiformlaw15_known [] H Q := fun_reck codes_ok 10000 (.bool true) (by kernel_rfl) rfl rfl H Q h

theorem waiting1_nil {H : AHeap} {n : Nat} : Iter Try.prog F.join_Joiner_Waiting_1 [.yld n, cell .nilp] n (fun _ => [.int .u32 0, .int .i64 0]) 0 [] H := by
  intro I hI fp hi hown
  refine fun_V 100 join_Joiner_Waiting_1_code rfl ?_
  simp (disch := first | omega | (simp only [lnx]; omega)) only [stdh, stdx, ↓reduceIte, seval, join_Joiner_Waiting_1, join_Joiner_Waiting_1.body, eqA]
  refine ⟨rfl, true, 0, fp, fun m hm _ => List.getElem?_append_left hm, fun _ => rfl, (hI.foot true 0).stable fp H _ hi (by simp) fun m hm => List.getElem?_append_left ((hI.foot true 0).lt fp H hi m hm)⟩

theorem waiting_nil (H : AHeap) (Q : AVal → AHeap → Prop) (h : Q (.fn F.join_Joiner_Waiting_1 [] [cell .nilp]) H) : FunOK Try.prog F.join_Joiner_Waiting [.nilp] H Q := by
  refine fun_iced join_Joiner_Waiting_code fun _ => ?_
  refine fun_V 40 join_Joiner_Waiting_code rfl ?_
  simp (disch := first | omega | (simp only [lnx]; omega)) only [stdh, stdx, ↓reduceIte, seval, join_Joiner_Waiting, join_Joiner_Waiting.body]
  exact ice_clo1 trivial h

theorem take_nil (v k s i c : Int) (bs : List Nat) (H : AHeap) (Q : AVal → AHeap → Prop) (h : Q (.tup [.agg [.nils, .bool false, .bool false, .int .u32 0], .int .i64 1]) H) : FunOK Try.prog F.join_Joiner_Take [.nilp, .agg [.int .i64 v, .int .i64 k, .int .u32 s, .int .i64 i, .int .i64 c, nums .u8 false bs]] H Q := by
  refine fun_iced join_Joiner_Take_code fun _ => ?_
  refine fun_V 40 join_Joiner_Take_code rfl ?_
  simp (disch := first | omega | (simp only [lnx]; omega)) only [stdh, stdx, ↓reduceIte, seval, join_Joiner_Take, join_Joiner_Take.body, eqA]
  exact ice_keeps (keeps_append _ _) (by simp [closed, closeds]) h

theorem jdone_nil (s : Int) (H : AHeap) (Q : AVal → AHeap → Prop) (h : Q (.int .i64 1) H) : FunOK Try.prog F.join_Joiner_Done [.nilp, .int .u32 s] H Q := by
  refine fun_iced join_Joiner_Done_code fun _ => ?_
  refine fun_V 40 join_Joiner_Done_code rfl ?_
  simp (disch := first | omega | (simp only [lnx]; omega)) only [stdh, stdx, ↓reduceIte, seval, join_Joiner_Done, join_Joiner_Done.body, eqA]
  exact ice_keeps (Keeps.refl _) (by simp [closed]) h

theorem jdrop_nil (s : Int) (H : AHeap) (Q : AVal → AHeap → Prop) (h : Q (.bool false) H) : FunOK Try.prog F.join_Joiner_Drop [.nilp, .int .u32 s] H Q := by
  refine fun_iced join_Joiner_Drop_code fun _ => ?_
  refine fun_V 40 join_Joiner_Drop_code rfl ?_
  simp (disch := first | omega | (simp only [lnx]; omega)) only [stdh, stdx, ↓reduceIte, seval, join_Joiner_Drop, join_Joiner_Drop.body, eqA]
  exact ice_keeps (Keeps.refl _) (by simp [closed]) h

set_option maxHeartbeats 4000000 in
theorem jnil_ok (v k s i c : Int) (bs : List Nat) : FunOK Try.prog F.cuneiformlaw15_JoinNil [.agg [.int .i64 v, .int .i64 k, .int .u32 s, .int .i64 i, .int .i64 c, nums .u8 false bs]] [] fun av _ => av = .bool true := by
  refine fun_V 60 cuneiformlaw15_JoinNil_code rfl ?_
  simp (disch := first | omega | (simp only [lnx]; omega)) only [stdh, stdx, ↓reduceIte, seval, cuneiformlaw15_JoinNil, cuneiformlaw15_JoinNil.body]
  refine callK_fn (take_nil _ _ _ _ _ _ _ _ ?_)
  refine runL_V 60 ?_
  simp (disch := first | omega | (simp only [lnx]; omega)) only [stdh, stdx, ↓reduceIte, seval]
  refine callK_fn (waiting_nil _ _ ?_)
  refine runL_V 60 ?_
  simp (disch := first | omega | (simp only [lnx]; omega)) only [stdh, stdx, ↓reduceIte, seval, eqA]
  refine range_vars (g := F.join_Joiner_Waiting_1) (first := []) (captured := [cell .nilp]) rfl (by intro n hn; cases hn) (item := fun _ => [.int .u32 0, .int .i64 0]) (len := 0) (fun j => rfl) [] (fun _ => none) vars_nil (fun _ _ _ _ hj => absurd hj (by omega)) (fun _ _ _ => waiting1_nil) ?_ (fun _ _ _ _ _ _ hh => by cases hh)
  intro H' hl hk _ _
  have hk0 : H'[0]? = some (.cells [.int .i64 v, .int .i64 k, .int .u32 s, .int .i64 i, .int .i64 c, nums .u8 false bs] T.frame_Frame) := (hk 0 (by (first | omega | (simp only [lnx]; omega))) (by simp)).trans rfl
  have hk1 : H'[1]? = some (.cells [.nils, .bool false, .bool false, .int .u32 0] T.table_Out) := (hk 1 (by (first | omega | (simp only [lnx]; omega))) (by simp)).trans rfl
  have hk2 : H'[2]? = some (.cells [.int .i64 0] T.int) := (hk 2 (by (first | omega | (simp only [lnx]; omega))) (by simp)).trans rfl
  clear hk hl
  refine run_V0 60 ?_
  simp (disch := first | omega | (simp only [lnx]; omega)) only [stdh, stdx, ↓reduceIte, seval]
  refine callK_fn (known15_ok _ _ ?_)
  refine runL_V 60 ?_
  simp (disch := first | omega | (simp only [lnx]; omega)) only [stdh, stdx, ↓reduceIte, seval, hk0, hk1, hk2]
  refine callK_fn (fun_reck codes_ok 1000 (.bool true) (by kernel_rfl) rfl rfl _ _ ?_)
  refine runL_V 60 ?_
  simp (disch := first | omega | (simp only [lnx]; omega)) only [stdh, stdx, ↓reduceIte, seval, hk0, hk1, hk2]
  refine callK_fn (jdone_nil _ _ _ ?_)
  refine runL_V 60 ?_
  simp (disch := first | omega | (simp only [lnx]; omega)) only [stdh, stdx, ↓reduceIte, seval, hk0, hk1, hk2]
  refine callK_fn (jdrop_nil _ _ _ ?_)
  refine runL_V 60 ?_
  simp (disch := first | omega | (simp only [lnx]; omega)) only [stdh, stdx, ↓reduceIte, seval, hk0, hk1, hk2]
  refine callK_fn (fun_reck codes_ok 1000 .nilp (by kernel_rfl) rfl rfl _ _ ?_)
  refine runL_V 60 ?_
  simp (disch := first | omega | (simp only [lnx]; omega)) only [stdh, stdx, ↓reduceIte, seval, hk0, hk1, hk2, eqA]
  refine callK_fn (fun_reck codes_ok 1000 .nilp (by kernel_rfl) rfl rfl _ _ ?_)
  refine runL_V 60 ?_
  simp (disch := first | omega | (simp only [lnx]; omega)) only [stdh, stdx, ↓reduceIte, seval, hk0, hk1, hk2, eqA]
  refine callK_fn (fun_reck codes_ok 1000 (.int .i64 0) (by kernel_rfl) rfl rfl _ _ ?_)
  refine runL_V 60 ?_
  simp (disch := first | omega | (simp only [lnx]; omega)) only [stdh, stdx, ↓reduceIte, seval, hk0, hk1, hk2]
  refine callK_fn (fun_reck codes_ok 1000 .nilp (by kernel_rfl) rfl rfl _ _ ?_)
  refine runL_V 60 ?_
  simp (disch := first | omega | (simp only [lnx]; omega)) only [stdh, stdx, ↓reduceIte, seval, hk0, hk1, hk2, eqA]
end Go.Proofs.Ytmioldcmjfackaa

namespace Go.Proofs.Ytmioldcmjfackaa.joinNil
open Go Go.Am Go.ChangeShapes Go.WideShapes Go.ChangeAt Go.RowKit
set_option linter.unusedVariables false

theorem own : ownKnob Try.prog.godebug = none := by kernel_rfl
theorem laidOut : laidOutB Try.prog = true := by kernel_rfl

set_option maxRecDepth 100000 in
theorem lifted (os : Os) (started : os.Started) (H : Type) (enc : TypeId × Value → H) :
    ReturnsInHanded {} Try.checked os F.cuneiformlaw15_JoinNil .any (Rows.joinNilSpec.pre6 enc Try.prog Try.f4 Rows.joinNilRow.domain false) (Rows.joinNilSpec.post enc Try.prog Try.f4 false true false false) := by
  refine returnsInHanded_of_change (C := Try.checked) own started (by kernel_rfl) Try.func4
    (ChangeSpec.witness6 (enc := enc) (C := Try.checked) false ⟨#[], #[.agg #[.int .i64 0, .int .i64 0, .int .u32 0, .int .i64 0, .int .i64 0, .slice none 0 0]], []⟩ 8 (by kernel_rfl) (by kernel_rfl) (by kernel_rfl) (by kernel_rfl)) ?_
  intro W base args ds gs before hval hW hcnd _
  refine law_calls (shs := [shFrame]) (tb := 4) laidOut (by kernel_rfl) ?_ (by kernel_rfl) Try.underlying4 rfl ?_ ?_ hval hW
  · intro t ht
    have : ∀ t ∈ Try.f4.params.toList, (Try.prog.readableRec t && decide (t < Try.prog.types.size)) = true := List.all_eq_true.1 (by kernel_rfl)
    simpa using this t ht
  · intro H ds hd
    match ds, hd with
    | [d0], _ => exact ⟨rfl, rfl, rfl⟩
  · rintro xs ⟨a, r, rfl, ha, rfl⟩
    obtain ⟨v, k, s, i, c, bs, h1, _⟩ := frame_fits ha
    exact fun_sees (.cons h1 .nil) (jnil_ok v k s i c bs)

theorem proved : Rows.JoinNilSaid :=
  OpenClaim.holds_of_wide F.cuneiformlaw15_JoinNil Try.f4 rfl rfl rfl rfl rfl rfl rfl ⟨rfl, rfl, rfl, rfl, rfl⟩ rfl rfl rfl rfl rfl (by kernel_rfl) Try.func4 (by kernel_rfl)
    (of_decide_eq_true (by kernel_rfl)) (by unfold Func.isWrapper; first | (rw [if_pos (by decide +kernel)]; kernel_rfl) | (rw [if_neg (by decide +kernel)]; exact ⟨rfl, rfl⟩))
    (fun os started H enc _ => lifted os started H enc)
end Go.Proofs.Ytmioldcmjfackaa.joinNil
