/-
  whatever the frame, the law SlotNil returns true, and the input reads as it did. No condition. By an AI agent. No person has read it.
-/
import Derived.Test.YtchijhlfccedfaaCode
import Derived.Test.YtchijhlfccedfaaLIB
import Derived.Test.YtchijhlfccedfaaAm5
import Derived.OpenShut
import Derived.Test.YtchijhlfccedfaaRows

namespace Go.Proofs.Ytchijhlfccedfaa
open Go Go.Am
set_option linter.unusedSimpArgs false
set_option linter.unusedVariables false

theorem known13_ok (H : AHeap) (Q : AVal → AHeap → Prop) (h : Q (.bool true) H) : FunOK Try.prog F.cuneiformlaw13_known [] H Q := fun_reck codes_ok 10000 (.bool true) (by kernel_rfl) rfl rfl H Q h

theorem missing1_nil {H : AHeap} {n : Nat} : Iter Try.prog F.slot_Slot_Missing_1 [.yld n, cell .nilp] n (fun _ => [.int .i64 0]) 0 [] H := by
  intro I hI fp hi hown
  refine fun_V 100 slot_Slot_Missing_1_code rfl ?_
  simp (disch := first | omega | (simp only [List.length_append, List.length_cons, List.length_nil, List.length_set, List.length_map, List.length_take, List.length_drop]; omega)) only [stdh, ↓reduceIte, Nat.reduceEqDiff, Int.reduceToNat, Int.reducePow, Nat.reduceAdd, Nat.reduceLeDiff, Nat.reduceMul, Nat.reduceBEq, reduceCtorEq, slot_Slot_Missing_1, slot_Slot_Missing_1.body]
  refine loop_V 100 slot_Slot_Missing_1.b0.eq_1 ?_
  simp (disch := first | omega | (simp only [List.length_append, List.length_cons, List.length_nil, List.length_set, List.length_map, List.length_take, List.length_drop]; omega)) only [stdh, ↓reduceIte, Nat.reduceEqDiff, Int.reduceToNat, Int.reducePow, Nat.reduceAdd, Nat.reduceLeDiff, Nat.reduceMul, Nat.reduceBEq, reduceCtorEq, eqA]
  refine run_V0 60 ?_
  simp (disch := first | omega | (simp only [List.length_append, List.length_cons, List.length_nil, List.length_set, List.length_map, List.length_take, List.length_drop]; omega)) only [stdh, ↓reduceIte, Nat.reduceEqDiff, Int.reduceToNat, Int.reducePow, Nat.reduceAdd, Nat.reduceLeDiff, Nat.reduceMul, Nat.reduceBEq, reduceCtorEq]
  refine run_fin rfl rfl trivial ?_
  exact ⟨true, 0, fp, Nat.le_refl _, fun _ _ _ => rfl, fun _ => rfl, hi⟩

theorem missing_nil (H : AHeap) (Q : AVal → AHeap → Prop) (h : Q (.fn F.slot_Slot_Missing_1 [] [cell .nilp]) H) : FunOK Try.prog F.slot_Slot_Missing [.nilp] H Q := by
  refine fun_iced slot_Slot_Missing_code fun _ => ?_
  refine fun_V 40 slot_Slot_Missing_code rfl ?_
  simp (disch := first | omega | (simp only [List.length_append, List.length_cons, List.length_nil, List.length_set, List.length_map, List.length_take, List.length_drop]; omega)) only [stdh, ↓reduceIte, Nat.reduceEqDiff, Int.reduceToNat, Int.reducePow, Nat.reduceAdd, Nat.reduceLeDiff, Nat.reduceMul, Nat.reduceBEq, reduceCtorEq, slot_Slot_Missing, slot_Slot_Missing.body]
  exact ice_clo1 trivial h

theorem put_nil (v k s i c : Int) (bs : List Nat) (H : AHeap) (Q : AVal → AHeap → Prop) (h : Q (.int .i64 1) H) : FunOK Try.prog F.slot_Slot_Put [.nilp, .agg [.int .i64 v, .int .i64 k, .int .u32 s, .int .i64 i, .int .i64 c, nums .u8 false bs]] H Q := by
  refine fun_iced slot_Slot_Put_code fun _ => ?_
  refine fun_V 40 slot_Slot_Put_code rfl ?_
  simp (disch := first | omega | (simp only [List.length_append, List.length_cons, List.length_nil, List.length_set, List.length_map, List.length_take, List.length_drop]; omega)) only [stdh, ↓reduceIte, Nat.reduceEqDiff, Int.reduceToNat, Int.reducePow, Nat.reduceAdd, Nat.reduceLeDiff, Nat.reduceMul, Nat.reduceBEq, reduceCtorEq, slot_Slot_Put, slot_Slot_Put.body, eqA]
  exact ice_keeps (keeps_append _ _) trivial h

theorem snil_ok (v k s i c : Int) (bs : List Nat) : FunOK Try.prog F.cuneiformlaw13_SlotNil [.agg [.int .i64 v, .int .i64 k, .int .u32 s, .int .i64 i, .int .i64 c, nums .u8 false bs]] [] fun av _ => av = .bool true := by
  refine fun_V 60 cuneiformlaw13_SlotNil_code rfl ?_
  simp (disch := first | omega | (simp only [List.length_append, List.length_cons, List.length_nil, List.length_set, List.length_map, List.length_take, List.length_drop]; omega)) only [stdh, ↓reduceIte, Nat.reduceEqDiff, Int.reduceToNat, Int.reducePow, Nat.reduceAdd, Nat.reduceLeDiff, Nat.reduceMul, Nat.reduceBEq, reduceCtorEq, cuneiformlaw13_SlotNil, cuneiformlaw13_SlotNil.body]
  refine callK_fn (fun_reckI codes_ok 100 (.tup [.imm [] 0 false, .bool false]) (by kernel_rfl) rfl _ _ ?_)
  refine runL_V 60 ?_
  simp (disch := first | omega | (simp only [List.length_append, List.length_cons, List.length_nil, List.length_set, List.length_map, List.length_take, List.length_drop]; omega)) only [stdh, ↓reduceIte, Nat.reduceEqDiff, Int.reduceToNat, Int.reducePow, Nat.reduceAdd, Nat.reduceLeDiff, Nat.reduceMul, Nat.reduceBEq, reduceCtorEq]
  refine callK_fn (missing_nil _ _ ?_)
  refine runL_V 60 ?_
  simp (disch := first | omega | (simp only [List.length_append, List.length_cons, List.length_nil, List.length_set, List.length_map, List.length_take, List.length_drop]; omega)) only [stdh, ↓reduceIte, Nat.reduceEqDiff, Int.reduceToNat, Int.reducePow, Nat.reduceAdd, Nat.reduceLeDiff, Nat.reduceMul, Nat.reduceBEq, reduceCtorEq, eqA]
  refine range_vars (g := F.slot_Slot_Missing_1) (first := []) (captured := [cell .nilp]) rfl (by intro n hn; cases hn) (item := fun _ => [.int .i64 0]) (len := 0) (fun j => rfl) [] (fun _ => none) vars_nil (fun _ _ _ _ hj => absurd hj (by omega)) (fun _ _ _ => missing1_nil) ?_ (fun _ _ _ _ _ _ hh => by cases hh)
  intro H' hl hk _ _
  have hk0 : H'[0]? = some (.cells [.int .i64 v, .int .i64 k, .int .u32 s, .int .i64 i, .int .i64 c, nums .u8 false bs] T.frame_Frame) := (hk 0 (by (first | omega | (simp only [List.length_append, List.length_cons, List.length_nil, List.length_set, List.length_map, List.length_take, List.length_drop]; omega))) (by simp)).trans rfl
  have hk1 : H'[1]? = some (.cells [.int .i64 0] T.int) := (hk 1 (by (first | omega | (simp only [List.length_append, List.length_cons, List.length_nil, List.length_set, List.length_map, List.length_take, List.length_drop]; omega))) (by simp)).trans rfl
  clear hk hl
  refine run_V0 60 ?_
  simp (disch := first | omega | (simp only [List.length_append, List.length_cons, List.length_nil, List.length_set, List.length_map, List.length_take, List.length_drop]; omega)) only [stdh, ↓reduceIte, Nat.reduceEqDiff, Int.reduceToNat, Int.reducePow, Nat.reduceAdd, Nat.reduceLeDiff, Nat.reduceMul, Nat.reduceBEq, reduceCtorEq]
  refine callK_fn (known13_ok _ _ ?_)
  refine runL_V 60 ?_
  simp (disch := first | omega | (simp only [List.length_append, List.length_cons, List.length_nil, List.length_set, List.length_map, List.length_take, List.length_drop]; omega)) only [stdh, ↓reduceIte, Nat.reduceEqDiff, Int.reduceToNat, Int.reducePow, Nat.reduceAdd, Nat.reduceLeDiff, Nat.reduceMul, Nat.reduceBEq, reduceCtorEq, hk0]
  refine callK_fn (put_nil _ _ _ _ _ _ _ _ ?_)
  refine runL_V 60 ?_
  simp (disch := first | omega | (simp only [List.length_append, List.length_cons, List.length_nil, List.length_set, List.length_map, List.length_take, List.length_drop]; omega)) only [stdh, ↓reduceIte, Nat.reduceEqDiff, Int.reduceToNat, Int.reducePow, Nat.reduceAdd, Nat.reduceLeDiff, Nat.reduceMul, Nat.reduceBEq, reduceCtorEq]
  refine callK_fn (fun_reck codes_ok 1000 (.agg [.int .i64 0, .int .i64 0, .int .u32 0, .int .i64 0, .int .i64 0]) (by kernel_rfl) rfl rfl _ _ ?_)
  refine runL_V 60 ?_
  simp (disch := first | omega | (simp only [List.length_append, List.length_cons, List.length_nil, List.length_set, List.length_map, List.length_take, List.length_drop]; omega)) only [stdh, ↓reduceIte, Nat.reduceEqDiff, Int.reduceToNat, Int.reducePow, Nat.reduceAdd, Nat.reduceLeDiff, Nat.reduceMul, Nat.reduceBEq, reduceCtorEq, eqA]
  refine callK_fn (fun_reck codes_ok 1000 (.int .i64 0) (by kernel_rfl) rfl rfl _ _ ?_)
  refine runL_V 60 ?_
  simp (disch := first | omega | (simp only [List.length_append, List.length_cons, List.length_nil, List.length_set, List.length_map, List.length_take, List.length_drop]; omega)) only [stdh, ↓reduceIte, Nat.reduceEqDiff, Int.reduceToNat, Int.reducePow, Nat.reduceAdd, Nat.reduceLeDiff, Nat.reduceMul, Nat.reduceBEq, reduceCtorEq]
  refine callK_fn (fun_reck codes_ok 1000 (.int .i64 0) (by kernel_rfl) rfl rfl _ _ ?_)
  refine runL_V 60 ?_
  simp (disch := first | omega | (simp only [List.length_append, List.length_cons, List.length_nil, List.length_set, List.length_map, List.length_take, List.length_drop]; omega)) only [stdh, ↓reduceIte, Nat.reduceEqDiff, Int.reduceToNat, Int.reducePow, Nat.reduceAdd, Nat.reduceLeDiff, Nat.reduceMul, Nat.reduceBEq, reduceCtorEq]
  refine callK_fn (fun_reck codes_ok 1000 (.bool false) (by kernel_rfl) rfl rfl _ _ ?_)
  refine runL_V 60 ?_
  simp (disch := first | omega | (simp only [List.length_append, List.length_cons, List.length_nil, List.length_set, List.length_map, List.length_take, List.length_drop]; omega)) only [stdh, ↓reduceIte, Nat.reduceEqDiff, Int.reduceToNat, Int.reducePow, Nat.reduceAdd, Nat.reduceLeDiff, Nat.reduceMul, Nat.reduceBEq, reduceCtorEq, hk1]
  refine callK_fn (fun_reck codes_ok 1000 .nilp (by kernel_rfl) rfl rfl _ _ ?_)
  refine runL_V 60 ?_
  simp (disch := first | omega | (simp only [List.length_append, List.length_cons, List.length_nil, List.length_set, List.length_map, List.length_take, List.length_drop]; omega)) only [stdh, ↓reduceIte, Nat.reduceEqDiff, Int.reduceToNat, Int.reducePow, Nat.reduceAdd, Nat.reduceLeDiff, Nat.reduceMul, Nat.reduceBEq, reduceCtorEq, eqA]
end Go.Proofs.Ytchijhlfccedfaa

namespace Go.Proofs.Ytchijhlfccedfaa.slotNil
open Go Go.Am Go.ChangeShapes Go.WideShapes Go.ChangeAt Go.RowKit
set_option linter.unusedVariables false

theorem own : ownKnob Try.prog.godebug = none := by kernel_rfl
theorem laidOut : laidOutB Try.prog = true := by kernel_rfl

set_option maxRecDepth 100000 in
theorem lifted (os : Os) (started : os.Started) (H : Type) (enc : TypeId × Value → H) :
    ReturnsInHanded {} Try.checked os F.cuneiformlaw13_SlotNil .any (Rows.slotNilSpec.pre6 enc Try.prog Try.f4 Rows.slotNilRow.domain false) (Rows.slotNilSpec.post enc Try.prog Try.f4 false true false false) := by
  refine returnsInHanded_of_change (C := Try.checked) own started (by kernel_rfl) Try.func4
    (ChangeSpec.witness6 (enc := enc) (C := Try.checked) false ⟨#[], #[.agg #[.int .i64 0, .int .i64 0, .int .u32 0, .int .i64 0, .int .i64 0, .slice none 0 0]], []⟩ 8 (by kernel_rfl) (by kernel_rfl) (by kernel_rfl) (by kernel_rfl)) ?_
  intro W base args ds gs before hval hW hcnd _
  refine law_calls (shs := [shFrame]) (tb := 4) laidOut (by kernel_rfl) ?_ (by kernel_rfl) Try.underlying4 rfl ?_ ?_ hval hW
  · intro t ht
    have : ∀ t ∈ Try.f4.params.toList, (Try.prog.readableRec t && decide (t < Try.prog.types.size)) = true := List.all_eq_true.1 (by kernel_rfl)
    simpa using this t ht
  · intro H ds hd
    match ds, hd with
    | [d0], _ => exact ⟨rfl, rfl, rfl⟩
  · rintro xs ⟨a, r, rfl, ha, rfl⟩
    obtain ⟨v, k, s, i, c, bs, h1, _⟩ := frame_fits ha
    exact fun_sees (.cons h1 .nil) (snil_ok v k s i c bs)

theorem proved : Rows.SlotNilSaid :=
  OpenClaim.holds_of_wide F.cuneiformlaw13_SlotNil Try.f4 rfl rfl rfl rfl rfl rfl rfl ⟨rfl, rfl, rfl, rfl, rfl⟩ rfl rfl rfl rfl rfl (by kernel_rfl) Try.func4 (by kernel_rfl)
    (of_decide_eq_true (by kernel_rfl)) (by unfold Func.isWrapper; first | (rw [if_pos (by decide +kernel)]; kernel_rfl) | (rw [if_neg (by decide +kernel)]; exact ⟨rfl, rfl⟩))
    (fun os started H enc _ => lifted os started H enc)
end Go.Proofs.Ytchijhlfccedfaa.slotNil
