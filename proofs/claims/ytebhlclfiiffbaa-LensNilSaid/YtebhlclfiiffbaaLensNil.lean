/-
  whatever the number, the law LensNil returns true, and the input reads as it did. No condition. By an AI agent. No person has read it.
-/
import Derived.Test.YtebhlclfiiffbaaCode
import Derived.Test.YtebhlclfiiffbaaAm5
import Derived.OpenShut
import Derived.Test.YtebhlclfiiffbaaRows

namespace Go.Proofs.Ytebhlclfiiffbaa
open Go Go.Am
set_option linter.unusedSimpArgs false
set_option linter.unusedVariables false

theorem known03_ok (H : AHeap) (Q : AVal → AHeap → Prop) (h : Q (.bool true) H) : FunOK Try.prog F.cuneiformlaw03_known [] H Q := fun_reck codes_ok 10000 (.bool true) (by kernel_rfl) rfl rfl H Q h

theorem ice_clo2r {H L : AHeap} {Q : AVal → AHeap → Prop} {g : FuncId} {a b : AVal} {T T' : TypeId} (ha : closed H.length a) (hb : closed H.length b) (hq : Q (.fn g [] [cell b, cell a]) H) : IceQ H Q (.fn g [] [.ptr (H.length + 1) 0, .ptr H.length 0]) (H ++ .cells [a] T :: .cells [b] T' :: L) := by
  refine ⟨keeps_append _ _, [(H.length, [a]), (H.length + 1, [b])], .fn g [] [cell b, cell a], ?_, ?_, hq⟩
  · intro p hp
    simp only [List.mem_cons, List.not_mem_nil, or_false] at hp
    rcases hp with rfl | rfl
    · have hc : closeds H.length [a] := ⟨ha, trivial⟩
      exact ⟨[a], by simp [content], (mvs_id (L := H.length) (fun _ h => toF_low h) _ hc).symm, colds_of (L := H.length) (fun _ h => toF_low h) _ hc⟩
    · have hc : closeds H.length [b] := ⟨hb, trivial⟩
      exact ⟨[b], by simp [content], (mvs_id (L := H.length) (fun _ h => toF_low h) _ hc).symm, colds_of (L := H.length) (fun _ h => toF_low h) _ hc⟩
  · have h1 : toF H.length [] [(H.length, [a]), (H.length + 1, [b])] H.length = .ice [a] := by simp [toF, findN, findI]
    have h2 : toF H.length [] [(H.length, [a]), (H.length + 1, [b])] (H.length + 1) = .ice [b] := by simp [toF, findN, findI]
    simp only [mv, mvs, h1, h2, mvPtr]
    exact Sees.refl _

theorem words1_nil {H : AHeap} {n : Nat} : Iter Try.prog F.lens_Lens_Words_1 [.yld n, cell (.int .i64 1), cell .nilp] n (fun _ => [.int .u32 0]) 0 [] H := by
  intro I hI fp hi hown
  refine fun_V 100 lens_Lens_Words_1_code rfl ?_
  simp (disch := first | omega | (simp only [List.length_append, List.length_cons, List.length_nil, List.length_set, List.length_map, List.length_take, List.length_drop]; omega)) only [stdh, ↓reduceIte, Nat.reduceEqDiff, Int.reduceToNat, Int.reducePow, Nat.reduceAdd, Nat.reduceLeDiff, Nat.reduceMul, Nat.reduceBEq, reduceCtorEq, lens_Lens_Words_1, lens_Lens_Words_1.body]
  refine loop_V 100 lens_Lens_Words_1.b1.eq_1 ?_
  simp (disch := first | omega | (simp only [List.length_append, List.length_cons, List.length_nil, List.length_set, List.length_map, List.length_take, List.length_drop]; omega)) only [stdh, ↓reduceIte, Nat.reduceEqDiff, Int.reduceToNat, Int.reducePow, Nat.reduceAdd, Nat.reduceLeDiff, Nat.reduceMul, Nat.reduceBEq, reduceCtorEq, lens_Lens_Words_1.d0]
  refine callD_fn (fun_reck codes_ok 100 (.int .i64 1) (by kernel_rfl) rfl rfl _ _ ?_)
  refine ⟨by simp (disch := first | omega | (simp only [List.length_append, List.length_cons, List.length_nil, List.length_set, List.length_map, List.length_take, List.length_drop]; omega)) only [stdh, ↓reduceIte, Nat.reduceEqDiff, Int.reduceToNat, Int.reducePow, Nat.reduceAdd, Nat.reduceLeDiff, Nat.reduceMul, Nat.reduceBEq, reduceCtorEq], ?_⟩
  refine runD_V 60 ?_
  simp (disch := first | omega | (simp only [List.length_append, List.length_cons, List.length_nil, List.length_set, List.length_map, List.length_take, List.length_drop]; omega)) only [stdh, ↓reduceIte, Nat.reduceEqDiff, Int.reduceToNat, Int.reducePow, Nat.reduceAdd, Nat.reduceLeDiff, Nat.reduceMul, Nat.reduceBEq, reduceCtorEq]
  refine run_V0 60 ?_
  simp (disch := first | omega | (simp only [List.length_append, List.length_cons, List.length_nil, List.length_set, List.length_map, List.length_take, List.length_drop]; omega)) only [stdh, ↓reduceIte, Nat.reduceEqDiff, Int.reduceToNat, Int.reducePow, Nat.reduceAdd, Nat.reduceLeDiff, Nat.reduceMul, Nat.reduceBEq, reduceCtorEq]
  refine run_fin rfl rfl trivial ?_
  exact ⟨true, 0, fp, Nat.le_refl _, fun _ _ _ => rfl, fun _ => rfl, hi⟩

theorem words_nil (H : AHeap) (Q : AVal → AHeap → Prop) (h : Q (.fn F.lens_Lens_Words_1 [] [cell (.int .i64 1), cell .nilp]) H) : FunOK Try.prog F.lens_Lens_Words [.nilp, .int .i64 1] H Q := by
  refine fun_iced lens_Lens_Words_code fun _ => ?_
  refine fun_V 40 lens_Lens_Words_code rfl ?_
  simp (disch := first | omega | (simp only [List.length_append, List.length_cons, List.length_nil, List.length_set, List.length_map, List.length_take, List.length_drop]; omega)) only [stdh, ↓reduceIte, Nat.reduceEqDiff, Int.reduceToNat, Int.reducePow, Nat.reduceAdd, Nat.reduceLeDiff, Nat.reduceMul, Nat.reduceBEq, reduceCtorEq, lens_Lens_Words, lens_Lens_Words.body]
  exact ice_clo2r trivial trivial h

theorem read_nil (H : AHeap) (f : AVal) (Q : AVal → AHeap → Prop) (h : Q (.bool false) H) : FunOK Try.prog F.lens_Lens_read [.nilp, f] H Q := by
  refine fun_V 40 lens_Lens_read_code rfl ?_
  simp (disch := first | omega | (simp only [List.length_append, List.length_cons, List.length_nil, List.length_set, List.length_map, List.length_take, List.length_drop]; omega)) only [stdh, ↓reduceIte, Nat.reduceEqDiff, Int.reduceToNat, Int.reducePow, Nat.reduceAdd, Nat.reduceLeDiff, Nat.reduceMul, Nat.reduceBEq, reduceCtorEq, lens_Lens_read, lens_Lens_read.body, eqA]
  exact h

theorem lraw_nil (n : Int) (H : AHeap) (Q : AVal → AHeap → Prop) (h : Q (.imm [] 0 false) H) : FunOK Try.prog F.lens_Lens_Raw [.nilp, .int .i64 n] H Q := by
  refine fun_iced lens_Lens_Raw_code fun _ => ?_
  refine fun_V 40 lens_Lens_Raw_code rfl ?_
  simp (disch := first | omega | (simp only [List.length_append, List.length_cons, List.length_nil, List.length_set, List.length_map, List.length_take, List.length_drop]; omega)) only [stdh, ↓reduceIte, Nat.reduceEqDiff, Int.reduceToNat, Int.reducePow, Nat.reduceAdd, Nat.reduceLeDiff, Nat.reduceMul, Nat.reduceBEq, reduceCtorEq, lens_Lens_Raw, lens_Lens_Raw.body]
  refine callK_fn (read_nil _ _ _ ?_)
  refine runL_V 40 ?_
  simp (disch := first | omega | (simp only [List.length_append, List.length_cons, List.length_nil, List.length_set, List.length_map, List.length_take, List.length_drop]; omega)) only [stdh, ↓reduceIte, Nat.reduceEqDiff, Int.reduceToNat, Int.reducePow, Nat.reduceAdd, Nat.reduceLeDiff, Nat.reduceMul, Nat.reduceBEq, reduceCtorEq]
  exact ice_nils (keeps_append _ _) h

theorem lfield_nil (n : Int) (H : AHeap) (Q : AVal → AHeap → Prop) (h : Q (.imm [] 0 false) H) : FunOK Try.prog F.lens_Lens_Field [.nilp, .int .i64 n] H Q := by
  refine fun_iced lens_Lens_Field_code fun _ => ?_
  refine fun_V 40 lens_Lens_Field_code rfl ?_
  simp (disch := first | omega | (simp only [List.length_append, List.length_cons, List.length_nil, List.length_set, List.length_map, List.length_take, List.length_drop]; omega)) only [stdh, ↓reduceIte, Nat.reduceEqDiff, Int.reduceToNat, Int.reducePow, Nat.reduceAdd, Nat.reduceLeDiff, Nat.reduceMul, Nat.reduceBEq, reduceCtorEq, lens_Lens_Field, lens_Lens_Field.body]
  refine callK_fn (read_nil _ _ _ ?_)
  refine runL_V 40 ?_
  simp (disch := first | omega | (simp only [List.length_append, List.length_cons, List.length_nil, List.length_set, List.length_map, List.length_take, List.length_drop]; omega)) only [stdh, ↓reduceIte, Nat.reduceEqDiff, Int.reduceToNat, Int.reducePow, Nat.reduceAdd, Nat.reduceLeDiff, Nat.reduceMul, Nat.reduceBEq, reduceCtorEq]
  exact ice_nils (keeps_append _ _) h

theorem lrest_nil (H : AHeap) (Q : AVal → AHeap → Prop) (h : Q (.imm [] 0 false) H) : FunOK Try.prog F.lens_Lens_Rest [.nilp] H Q := by
  refine fun_V 40 lens_Lens_Rest_code rfl ?_
  simp (disch := first | omega | (simp only [List.length_append, List.length_cons, List.length_nil, List.length_set, List.length_map, List.length_take, List.length_drop]; omega)) only [stdh, ↓reduceIte, Nat.reduceEqDiff, Int.reduceToNat, Int.reducePow, Nat.reduceAdd, Nat.reduceLeDiff, Nat.reduceMul, Nat.reduceBEq, reduceCtorEq, lens_Lens_Rest, lens_Lens_Rest.body]
  refine callK_fn (fun_reck codes_ok 100 (.int .i64 0) (by kernel_rfl) rfl rfl _ _ ?_)
  refine runL_V 40 ?_
  simp (disch := first | omega | (simp only [List.length_append, List.length_cons, List.length_nil, List.length_set, List.length_map, List.length_take, List.length_drop]; omega)) only [stdh, ↓reduceIte, Nat.reduceEqDiff, Int.reduceToNat, Int.reducePow, Nat.reduceAdd, Nat.reduceLeDiff, Nat.reduceMul, Nat.reduceBEq, reduceCtorEq]
  refine callK_fn (lraw_nil _ _ _ ?_)
  refine runL_V 40 ?_
  simp (disch := first | omega | (simp only [List.length_append, List.length_cons, List.length_nil, List.length_set, List.length_map, List.length_take, List.length_drop]; omega)) only [stdh, ↓reduceIte, Nat.reduceEqDiff, Int.reduceToNat, Int.reducePow, Nat.reduceAdd, Nat.reduceLeDiff, Nat.reduceMul, Nat.reduceBEq, reduceCtorEq]
  exact h

theorem lnil_ok (n : Int) : FunOK Try.prog F.cuneiformlaw03_LensNil [.int .i64 n] [] fun av _ => av = .bool true := by
  refine fun_V 60 cuneiformlaw03_LensNil_code rfl ?_
  simp (disch := first | omega | (simp only [List.length_append, List.length_cons, List.length_nil, List.length_set, List.length_map, List.length_take, List.length_drop]; omega)) only [stdh, ↓reduceIte, Nat.reduceEqDiff, Int.reduceToNat, Int.reducePow, Nat.reduceAdd, Nat.reduceLeDiff, Nat.reduceMul, Nat.reduceBEq, reduceCtorEq, cuneiformlaw03_LensNil, cuneiformlaw03_LensNil.body]
  refine callK_fn (words_nil _ _ ?_)
  refine runL_V 60 ?_
  simp (disch := first | omega | (simp only [List.length_append, List.length_cons, List.length_nil, List.length_set, List.length_map, List.length_take, List.length_drop]; omega)) only [stdh, ↓reduceIte, Nat.reduceEqDiff, Int.reduceToNat, Int.reducePow, Nat.reduceAdd, Nat.reduceLeDiff, Nat.reduceMul, Nat.reduceBEq, reduceCtorEq, eqA]
  refine range_vars (g := F.lens_Lens_Words_1) (first := []) (captured := [cell (.int .i64 1), cell .nilp]) rfl (by intro n hn; cases hn) (item := fun _ => [.int .u32 0]) (len := 0) (fun j => rfl) [] (fun _ => none) vars_nil (fun _ _ _ _ hj => absurd hj (by omega)) (fun _ _ _ => words1_nil) ?_ (fun _ _ _ _ _ _ hh => by cases hh)
  intro H' hl hk _ _
  have hk0 : H'[0]? = some (.cells [.int .i64 0] T.int) := (hk 0 (by (first | omega | (simp only [List.length_append, List.length_cons, List.length_nil, List.length_set, List.length_map, List.length_take, List.length_drop]; omega))) (by simp)).trans rfl
  clear hk hl
  refine run_V0 60 ?_
  simp (disch := first | omega | (simp only [List.length_append, List.length_cons, List.length_nil, List.length_set, List.length_map, List.length_take, List.length_drop]; omega)) only [stdh, ↓reduceIte, Nat.reduceEqDiff, Int.reduceToNat, Int.reducePow, Nat.reduceAdd, Nat.reduceLeDiff, Nat.reduceMul, Nat.reduceBEq, reduceCtorEq]
  refine callK_fn (known03_ok _ _ ?_)
  refine runL_V 60 ?_
  simp (disch := first | omega | (simp only [List.length_append, List.length_cons, List.length_nil, List.length_set, List.length_map, List.length_take, List.length_drop]; omega)) only [stdh, ↓reduceIte, Nat.reduceEqDiff, Int.reduceToNat, Int.reducePow, Nat.reduceAdd, Nat.reduceLeDiff, Nat.reduceMul, Nat.reduceBEq, reduceCtorEq]
  refine callK_fn (fun_reck codes_ok 1000 (.int .u8 0) (by kernel_rfl) rfl rfl _ _ ?_)
  refine runL_V 60 ?_
  simp (disch := first | omega | (simp only [List.length_append, List.length_cons, List.length_nil, List.length_set, List.length_map, List.length_take, List.length_drop]; omega)) only [stdh, ↓reduceIte, Nat.reduceEqDiff, Int.reduceToNat, Int.reducePow, Nat.reduceAdd, Nat.reduceLeDiff, Nat.reduceMul, Nat.reduceBEq, reduceCtorEq]
  refine callK_fn (fun_reck codes_ok 1000 (.int .u16 0) (by kernel_rfl) rfl rfl _ _ ?_)
  refine runL_V 60 ?_
  simp (disch := first | omega | (simp only [List.length_append, List.length_cons, List.length_nil, List.length_set, List.length_map, List.length_take, List.length_drop]; omega)) only [stdh, ↓reduceIte, Nat.reduceEqDiff, Int.reduceToNat, Int.reducePow, Nat.reduceAdd, Nat.reduceLeDiff, Nat.reduceMul, Nat.reduceBEq, reduceCtorEq]
  refine callK_fn (fun_reck codes_ok 1000 (.int .u32 0) (by kernel_rfl) rfl rfl _ _ ?_)
  refine runL_V 60 ?_
  simp (disch := first | omega | (simp only [List.length_append, List.length_cons, List.length_nil, List.length_set, List.length_map, List.length_take, List.length_drop]; omega)) only [stdh, ↓reduceIte, Nat.reduceEqDiff, Int.reduceToNat, Int.reducePow, Nat.reduceAdd, Nat.reduceLeDiff, Nat.reduceMul, Nat.reduceBEq, reduceCtorEq]
  refine callK_fn (fun_reck codes_ok 1000 (.int .u64 0) (by kernel_rfl) rfl rfl _ _ ?_)
  refine runL_V 60 ?_
  simp (disch := first | omega | (simp only [List.length_append, List.length_cons, List.length_nil, List.length_set, List.length_map, List.length_take, List.length_drop]; omega)) only [stdh, ↓reduceIte, Nat.reduceEqDiff, Int.reduceToNat, Int.reducePow, Nat.reduceAdd, Nat.reduceLeDiff, Nat.reduceMul, Nat.reduceBEq, reduceCtorEq]
  refine callK_fn (fun_reck codes_ok 1000 (.int .i64 0) (by kernel_rfl) rfl rfl _ _ ?_)
  refine runL_V 60 ?_
  simp (disch := first | omega | (simp only [List.length_append, List.length_cons, List.length_nil, List.length_set, List.length_map, List.length_take, List.length_drop]; omega)) only [stdh, ↓reduceIte, Nat.reduceEqDiff, Int.reduceToNat, Int.reducePow, Nat.reduceAdd, Nat.reduceLeDiff, Nat.reduceMul, Nat.reduceBEq, reduceCtorEq]
  refine callK_fn (lraw_nil _ _ _ ?_)
  refine runL_V 60 ?_
  simp (disch := first | omega | (simp only [List.length_append, List.length_cons, List.length_nil, List.length_set, List.length_map, List.length_take, List.length_drop]; omega)) only [stdh, ↓reduceIte, Nat.reduceEqDiff, Int.reduceToNat, Int.reducePow, Nat.reduceAdd, Nat.reduceLeDiff, Nat.reduceMul, Nat.reduceBEq, reduceCtorEq]
  refine callK_fn (lfield_nil _ _ _ ?_)
  refine runL_V 60 ?_
  simp (disch := first | omega | (simp only [List.length_append, List.length_cons, List.length_nil, List.length_set, List.length_map, List.length_take, List.length_drop]; omega)) only [stdh, ↓reduceIte, Nat.reduceEqDiff, Int.reduceToNat, Int.reducePow, Nat.reduceAdd, Nat.reduceLeDiff, Nat.reduceMul, Nat.reduceBEq, reduceCtorEq]
  refine callK_fn (lrest_nil _ _ ?_)
  refine runL_V 60 ?_
  simp (disch := first | omega | (simp only [List.length_append, List.length_cons, List.length_nil, List.length_set, List.length_map, List.length_take, List.length_drop]; omega)) only [stdh, ↓reduceIte, Nat.reduceEqDiff, Int.reduceToNat, Int.reducePow, Nat.reduceAdd, Nat.reduceLeDiff, Nat.reduceMul, Nat.reduceBEq, reduceCtorEq]
  refine callK_fn (fun_reck codes_ok 1000 (.int .i64 0) (by kernel_rfl) rfl rfl _ _ ?_)
  refine runL_V 60 ?_
  simp (disch := first | omega | (simp only [List.length_append, List.length_cons, List.length_nil, List.length_set, List.length_map, List.length_take, List.length_drop]; omega)) only [stdh, ↓reduceIte, Nat.reduceEqDiff, Int.reduceToNat, Int.reducePow, Nat.reduceAdd, Nat.reduceLeDiff, Nat.reduceMul, Nat.reduceBEq, reduceCtorEq]
  refine callK_fn (fun_reck codes_ok 1000 (.int .i64 0) (by kernel_rfl) rfl rfl _ _ ?_)
  refine runL_V 60 ?_
  simp (disch := first | omega | (simp only [List.length_append, List.length_cons, List.length_nil, List.length_set, List.length_map, List.length_take, List.length_drop]; omega)) only [stdh, ↓reduceIte, Nat.reduceEqDiff, Int.reduceToNat, Int.reducePow, Nat.reduceAdd, Nat.reduceLeDiff, Nat.reduceMul, Nat.reduceBEq, reduceCtorEq]
  refine callK_fn (fun_reck codes_ok 1000 (.int .i64 1) (by kernel_rfl) rfl rfl _ _ ?_)
  refine runL_V 60 ?_
  simp (disch := first | omega | (simp only [List.length_append, List.length_cons, List.length_nil, List.length_set, List.length_map, List.length_take, List.length_drop]; omega)) only [stdh, ↓reduceIte, Nat.reduceEqDiff, Int.reduceToNat, Int.reducePow, Nat.reduceAdd, Nat.reduceLeDiff, Nat.reduceMul, Nat.reduceBEq, reduceCtorEq]
  refine callK_fn (fun_reck codes_ok 1000 (.int .i64 1) (by kernel_rfl) rfl rfl _ _ ?_)
  refine runL_V 60 ?_
  simp (disch := first | omega | (simp only [List.length_append, List.length_cons, List.length_nil, List.length_set, List.length_map, List.length_take, List.length_drop]; omega)) only [stdh, ↓reduceIte, Nat.reduceEqDiff, Int.reduceToNat, Int.reducePow, Nat.reduceAdd, Nat.reduceLeDiff, Nat.reduceMul, Nat.reduceBEq, reduceCtorEq, hk0]
end Go.Proofs.Ytebhlclfiiffbaa

namespace Go.Proofs.Ytebhlclfiiffbaa.lensNil
open Go Go.Am Go.ChangeShapes Go.WideShapes Go.ChangeAt Go.RowKit
set_option linter.unusedVariables false

theorem own : ownKnob Try.prog.godebug = none := by kernel_rfl
theorem laidOut : laidOutB Try.prog = true := by kernel_rfl

set_option maxRecDepth 100000 in
theorem lifted (os : Os) (started : os.Started) (H : Type) (enc : TypeId × Value → H) :
    ReturnsInHanded {} Try.checked os F.cuneiformlaw03_LensNil .any (Rows.lensNilSpec.pre6 enc Try.prog Try.f5 Rows.lensNilRow.domain false) (Rows.lensNilSpec.post enc Try.prog Try.f5 false true false false) := by
  refine returnsInHanded_of_change (C := Try.checked) own started (by kernel_rfl) Try.func5
    (ChangeSpec.witness6 (enc := enc) (C := Try.checked) false ⟨#[], #[.int .i64 0], []⟩ 8 (by kernel_rfl) (by kernel_rfl) (by kernel_rfl) (by kernel_rfl)) ?_
  intro W base args ds gs before hval hW hcnd _
  refine law_calls (shs := [.int .i64]) (tb := 4) laidOut (by kernel_rfl) ?_ (by kernel_rfl) Try.underlying4 rfl ?_ ?_ hval hW
  · intro t ht
    have : ∀ t ∈ Try.f5.params.toList, (Try.prog.readableRec t && decide (t < Try.prog.types.size)) = true := List.all_eq_true.1 (by kernel_rfl)
    simpa using this t ht
  · intro H ds hd
    match ds, hd with
    | [d0], _ => exact ⟨rfl, rfl, rfl⟩
  · rintro xs ⟨a, r, rfl, ⟨s, hs, ws⟩, rfl⟩
    cases hs
    exact lnil_ok s

theorem proved : Rows.LensNilSaid :=
  OpenClaim.holds_of_wide F.cuneiformlaw03_LensNil Try.f5 rfl rfl rfl rfl rfl rfl rfl ⟨rfl, rfl, rfl, rfl, rfl⟩ rfl rfl rfl rfl rfl (by kernel_rfl) Try.func5 (by kernel_rfl)
    (of_decide_eq_true (by kernel_rfl)) (by unfold Func.isWrapper; first | (rw [if_pos (by decide +kernel)]; kernel_rfl) | (rw [if_neg (by decide +kernel)]; exact ⟨rfl, rfl⟩))
    (fun os started H enc _ => lifted os started H enc)
end Go.Proofs.Ytebhlclfiiffbaa.lensNil
