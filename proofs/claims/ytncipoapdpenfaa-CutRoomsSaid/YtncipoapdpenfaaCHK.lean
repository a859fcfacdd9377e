/-
  Lemmas on the way to the statements of this seat. By an AI agent. No person has read it.
-/
import Derived.Test.YtncipoapdpenfaaLIB

namespace Go.Proofs.Ytncipoapdpenfaa
open Go Go.Am
set_option linter.unusedSimpArgs false
set_option linter.unusedVariables false

def errs (j : Nat) : Nat := if j = 0 then 10 else if j = 1 then 9 else 3
def bads (h : Hd) (j : Nat) : Bool :=
  if j = 0 then decide (h.v < 1 ∨ 2 < h.v) else if j = 1 then decide (h.k < 1 ∨ 5 < h.k) else decide (h.c < 1 ∨ 255 < h.c ∨ h.i < 0 ∨ h.c ≤ h.i)
def wrongItem (h : Hd) (j : Nat) : List AVal := [.int .i64 (errs j : Nat), .bool (bads h j)]

/-- What is wrong with a head. -/
def checkOf (h : Hd) : Nat := if bads h 0 then 10 else if bads h 1 then 9 else if bads h 2 then 3 else 0

set_option maxHeartbeats 4000000 in
theorem wrong_iter {H : AHeap} {n : Nat} (h : Hd) : Iter Try.prog F.head_wrong_1 [.yld n, cellN (encHd h)] n (wrongItem h) 3 [] H := by
  intro I hI fp hi hown
  refine fun_V 200 head_wrong_1_code rfl ?_
  by_cases h0 : h.v < 1
  · by_cases h1 : h.k < 1
    · skip
      by_cases h2 : h.c < 1
      · skip
        have i0 : wrongItem h 0 = [.int .i64 10, .bool true] := by simp [wrongItem, bads, errs, h0]
        have i1 : wrongItem h 1 = [.int .i64 9, .bool true] := by simp [wrongItem, bads, errs, h1]
        have i2 : wrongItem h 2 = [.int .i64 3, .bool true] := by simp [wrongItem, bads, errs, h2]
        simp (disch := first | omega | (simp only [List.length_append, List.length_cons, List.length_nil, List.length_set, List.length_map, List.length_take, List.length_drop]; omega)) only [stdh, goK_s2b, dgoK_s2b, isEff_s2b, isPure_s2b, goK_b2s, dgoK_b2s, isEff_b2s, isPure_b2s, evalOp_s2b, s2bR, goK_mark, dgoK_mark, isEff_mark, isPure_mark, evalOp_mark, markA_slc, markB, ↓reduceIte, Nat.reduceEqDiff, Int.reduceToNat, Int.reducePow, Nat.reduceAdd, Nat.reduceLeDiff, Nat.reduceMul, Nat.reduceBEq, reduceCtorEq, head_wrong_1, head_wrong_1.body, cellN, load_imm, encHd]
        have s0 := hI.step 0 fp H (by omega) hi
        rw [i0] at s0
        refine CallV.mono s0 fun av H1 hh => ?_
        obtain ⟨fp1, t1, hh⟩ := hh
        refine runL_V 200 ?_
        rcases hh with ⟨rfl, hi1⟩ | ⟨rfl, hi1⟩
        rotate_left
        · simp (disch := first | omega | (simp only [List.length_append, List.length_cons, List.length_nil, List.length_set, List.length_map, List.length_take, List.length_drop]; omega)) only [stdh, goK_s2b, dgoK_s2b, isEff_s2b, isPure_s2b, goK_b2s, dgoK_b2s, isEff_b2s, isPure_b2s, evalOp_s2b, s2bR, goK_mark, dgoK_mark, isEff_mark, isPure_mark, evalOp_mark, markA_slc, markB, ↓reduceIte, Nat.reduceEqDiff, Int.reduceToNat, Int.reducePow, Nat.reduceAdd, Nat.reduceLeDiff, Nat.reduceMul, Nat.reduceBEq, reduceCtorEq]
          refine run_fin rfl rfl trivial ?_
          exact ⟨false, 1, fp1, t1.le, t1.kept, (fun e => by cases e), hi1⟩
        simp (disch := first | omega | (simp only [List.length_append, List.length_cons, List.length_nil, List.length_set, List.length_map, List.length_take, List.length_drop]; omega)) only [stdh, goK_s2b, dgoK_s2b, isEff_s2b, isPure_s2b, goK_b2s, dgoK_b2s, isEff_b2s, isPure_b2s, evalOp_s2b, s2bR, goK_mark, dgoK_mark, isEff_mark, isPure_mark, evalOp_mark, markA_slc, markB, ↓reduceIte, Nat.reduceEqDiff, Int.reduceToNat, Int.reducePow, Nat.reduceAdd, Nat.reduceLeDiff, Nat.reduceMul, Nat.reduceBEq, reduceCtorEq, load_imm]
        have s1 := hI.step 1 fp1 H1 (by omega) hi1
        rw [i1] at s1
        refine CallV.mono s1 fun av H2 hh => ?_
        obtain ⟨fp2, t2, hh⟩ := hh
        replace t2 := t1.trans t2
        refine runL_V 200 ?_
        rcases hh with ⟨rfl, hi2⟩ | ⟨rfl, hi2⟩
        rotate_left
        · simp (disch := first | omega | (simp only [List.length_append, List.length_cons, List.length_nil, List.length_set, List.length_map, List.length_take, List.length_drop]; omega)) only [stdh, goK_s2b, dgoK_s2b, isEff_s2b, isPure_s2b, goK_b2s, dgoK_b2s, isEff_b2s, isPure_b2s, evalOp_s2b, s2bR, goK_mark, dgoK_mark, isEff_mark, isPure_mark, evalOp_mark, markA_slc, markB, ↓reduceIte, Nat.reduceEqDiff, Int.reduceToNat, Int.reducePow, Nat.reduceAdd, Nat.reduceLeDiff, Nat.reduceMul, Nat.reduceBEq, reduceCtorEq]
          refine run_fin rfl rfl trivial ?_
          exact ⟨false, 2, fp2, t2.le, t2.kept, (fun e => by cases e), hi2⟩
        simp (disch := first | omega | (simp only [List.length_append, List.length_cons, List.length_nil, List.length_set, List.length_map, List.length_take, List.length_drop]; omega)) only [stdh, goK_s2b, dgoK_s2b, isEff_s2b, isPure_s2b, goK_b2s, dgoK_b2s, isEff_b2s, isPure_b2s, evalOp_s2b, s2bR, goK_mark, dgoK_mark, isEff_mark, isPure_mark, evalOp_mark, markA_slc, markB, ↓reduceIte, Nat.reduceEqDiff, Int.reduceToNat, Int.reducePow, Nat.reduceAdd, Nat.reduceLeDiff, Nat.reduceMul, Nat.reduceBEq, reduceCtorEq, load_imm]
        have s2 := hI.step 2 fp2 H2 (by omega) hi2
        rw [i2] at s2
        refine CallV.mono s2 fun av H3 hh => ?_
        obtain ⟨fp3, t3, hh⟩ := hh
        replace t3 := t2.trans t3
        refine runL_V 200 ?_
        rcases hh with ⟨rfl, hi3⟩ | ⟨rfl, hi3⟩
        rotate_left
        · simp (disch := first | omega | (simp only [List.length_append, List.length_cons, List.length_nil, List.length_set, List.length_map, List.length_take, List.length_drop]; omega)) only [stdh, goK_s2b, dgoK_s2b, isEff_s2b, isPure_s2b, goK_b2s, dgoK_b2s, isEff_b2s, isPure_b2s, evalOp_s2b, s2bR, goK_mark, dgoK_mark, isEff_mark, isPure_mark, evalOp_mark, markA_slc, markB, ↓reduceIte, Nat.reduceEqDiff, Int.reduceToNat, Int.reducePow, Nat.reduceAdd, Nat.reduceLeDiff, Nat.reduceMul, Nat.reduceBEq, reduceCtorEq]
          refine run_fin rfl rfl trivial ?_
          exact ⟨false, 3, fp3, t3.le, t3.kept, (fun e => by cases e), hi3⟩
        simp (disch := first | omega | (simp only [List.length_append, List.length_cons, List.length_nil, List.length_set, List.length_map, List.length_take, List.length_drop]; omega)) only [stdh, goK_s2b, dgoK_s2b, isEff_s2b, isPure_s2b, goK_b2s, dgoK_b2s, isEff_b2s, isPure_b2s, evalOp_s2b, s2bR, goK_mark, dgoK_mark, isEff_mark, isPure_mark, evalOp_mark, markA_slc, markB, ↓reduceIte, Nat.reduceEqDiff, Int.reduceToNat, Int.reducePow, Nat.reduceAdd, Nat.reduceLeDiff, Nat.reduceMul, Nat.reduceBEq, reduceCtorEq]
        refine run_fin rfl rfl trivial ?_
        exact ⟨true, 3, fp3, t3.le, t3.kept, fun _ => rfl, hi3⟩
      · by_cases h3 : 255 < h.c
        · skip
          have i0 : wrongItem h 0 = [.int .i64 10, .bool true] := by simp [wrongItem, bads, errs, h0]
          have i1 : wrongItem h 1 = [.int .i64 9, .bool true] := by simp [wrongItem, bads, errs, h1]
          have i2 : wrongItem h 2 = [.int .i64 3, .bool true] := by simp [wrongItem, bads, errs, h2, h3]
          simp (disch := first | omega | (simp only [List.length_append, List.length_cons, List.length_nil, List.length_set, List.length_map, List.length_take, List.length_drop]; omega)) only [stdh, goK_s2b, dgoK_s2b, isEff_s2b, isPure_s2b, goK_b2s, dgoK_b2s, isEff_b2s, isPure_b2s, evalOp_s2b, s2bR, goK_mark, dgoK_mark, isEff_mark, isPure_mark, evalOp_mark, markA_slc, markB, ↓reduceIte, Nat.reduceEqDiff, Int.reduceToNat, Int.reducePow, Nat.reduceAdd, Nat.reduceLeDiff, Nat.reduceMul, Nat.reduceBEq, reduceCtorEq, head_wrong_1, head_wrong_1.body, cellN, load_imm, encHd]
          have s0 := hI.step 0 fp H (by omega) hi
          rw [i0] at s0
          refine CallV.mono s0 fun av H1 hh => ?_
          obtain ⟨fp1, t1, hh⟩ := hh
          refine runL_V 200 ?_
          rcases hh with ⟨rfl, hi1⟩ | ⟨rfl, hi1⟩
          rotate_left
          · simp (disch := first | omega | (simp only [List.length_append, List.length_cons, List.length_nil, List.length_set, List.length_map, List.length_take, List.length_drop]; omega)) only [stdh, goK_s2b, dgoK_s2b, isEff_s2b, isPure_s2b, goK_b2s, dgoK_b2s, isEff_b2s, isPure_b2s, evalOp_s2b, s2bR, goK_mark, dgoK_mark, isEff_mark, isPure_mark, evalOp_mark, markA_slc, markB, ↓reduceIte, Nat.reduceEqDiff, Int.reduceToNat, Int.reducePow, Nat.reduceAdd, Nat.reduceLeDiff, Nat.reduceMul, Nat.reduceBEq, reduceCtorEq]
            refine run_fin rfl rfl trivial ?_
            exact ⟨false, 1, fp1, t1.le, t1.kept, (fun e => by cases e), hi1⟩
          simp (disch := first | omega | (simp only [List.length_append, List.length_cons, List.length_nil, List.length_set, List.length_map, List.length_take, List.length_drop]; omega)) only [stdh, goK_s2b, dgoK_s2b, isEff_s2b, isPure_s2b, goK_b2s, dgoK_b2s, isEff_b2s, isPure_b2s, evalOp_s2b, s2bR, goK_mark, dgoK_mark, isEff_mark, isPure_mark, evalOp_mark, markA_slc, markB, ↓reduceIte, Nat.reduceEqDiff, Int.reduceToNat, Int.reducePow, Nat.reduceAdd, Nat.reduceLeDiff, Nat.reduceMul, Nat.reduceBEq, reduceCtorEq, load_imm]
          have s1 := hI.step 1 fp1 H1 (by omega) hi1
          rw [i1] at s1
          refine CallV.mono s1 fun av H2 hh => ?_
          obtain ⟨fp2, t2, hh⟩ := hh
          replace t2 := t1.trans t2
          refine runL_V 200 ?_
          rcases hh with ⟨rfl, hi2⟩ | ⟨rfl, hi2⟩
          rotate_left
          · simp (disch := first | omega | (simp only [List.length_append, List.length_cons, List.length_nil, List.length_set, List.length_map, List.length_take, List.length_drop]; omega)) only [stdh, goK_s2b, dgoK_s2b, isEff_s2b, isPure_s2b, goK_b2s, dgoK_b2s, isEff_b2s, isPure_b2s, evalOp_s2b, s2bR, goK_mark, dgoK_mark, isEff_mark, isPure_mark, evalOp_mark, markA_slc, markB, ↓reduceIte, Nat.reduceEqDiff, Int.reduceToNat, Int.reducePow, Nat.reduceAdd, Nat.reduceLeDiff, Nat.reduceMul, Nat.reduceBEq, reduceCtorEq]
            refine run_fin rfl rfl trivial ?_
            exact ⟨false, 2, fp2, t2.le, t2.kept, (fun e => by cases e), hi2⟩
          simp (disch := first | omega | (simp only [List.length_append, List.length_cons, List.length_nil, List.length_set, List.length_map, List.length_take, List.length_drop]; omega)) only [stdh, goK_s2b, dgoK_s2b, isEff_s2b, isPure_s2b, goK_b2s, dgoK_b2s, isEff_b2s, isPure_b2s, evalOp_s2b, s2bR, goK_mark, dgoK_mark, isEff_mark, isPure_mark, evalOp_mark, markA_slc, markB, ↓reduceIte, Nat.reduceEqDiff, Int.reduceToNat, Int.reducePow, Nat.reduceAdd, Nat.reduceLeDiff, Nat.reduceMul, Nat.reduceBEq, reduceCtorEq, load_imm]
          have s2 := hI.step 2 fp2 H2 (by omega) hi2
          rw [i2] at s2
          refine CallV.mono s2 fun av H3 hh => ?_
          obtain ⟨fp3, t3, hh⟩ := hh
          replace t3 := t2.trans t3
          refine runL_V 200 ?_
          rcases hh with ⟨rfl, hi3⟩ | ⟨rfl, hi3⟩
          rotate_left
          · simp (disch := first | omega | (simp only [List.length_append, List.length_cons, List.length_nil, List.length_set, List.length_map, List.length_take, List.length_drop]; omega)) only [stdh, goK_s2b, dgoK_s2b, isEff_s2b, isPure_s2b, goK_b2s, dgoK_b2s, isEff_b2s, isPure_b2s, evalOp_s2b, s2bR, goK_mark, dgoK_mark, isEff_mark, isPure_mark, evalOp_mark, markA_slc, markB, ↓reduceIte, Nat.reduceEqDiff, Int.reduceToNat, Int.reducePow, Nat.reduceAdd, Nat.reduceLeDiff, Nat.reduceMul, Nat.reduceBEq, reduceCtorEq]
            refine run_fin rfl rfl trivial ?_
            exact ⟨false, 3, fp3, t3.le, t3.kept, (fun e => by cases e), hi3⟩
          simp (disch := first | omega | (simp only [List.length_append, List.length_cons, List.length_nil, List.length_set, List.length_map, List.length_take, List.length_drop]; omega)) only [stdh, goK_s2b, dgoK_s2b, isEff_s2b, isPure_s2b, goK_b2s, dgoK_b2s, isEff_b2s, isPure_b2s, evalOp_s2b, s2bR, goK_mark, dgoK_mark, isEff_mark, isPure_mark, evalOp_mark, markA_slc, markB, ↓reduceIte, Nat.reduceEqDiff, Int.reduceToNat, Int.reducePow, Nat.reduceAdd, Nat.reduceLeDiff, Nat.reduceMul, Nat.reduceBEq, reduceCtorEq]
          refine run_fin rfl rfl trivial ?_
          exact ⟨true, 3, fp3, t3.le, t3.kept, fun _ => rfl, hi3⟩
        · by_cases h4 : h.i < 0
          · skip
            have i0 : wrongItem h 0 = [.int .i64 10, .bool true] := by simp [wrongItem, bads, errs, h0]
            have i1 : wrongItem h 1 = [.int .i64 9, .bool true] := by simp [wrongItem, bads, errs, h1]
            have i2 : wrongItem h 2 = [.int .i64 3, .bool true] := by simp [wrongItem, bads, errs, h2, h3, h4]
            simp (disch := first | omega | (simp only [List.length_append, List.length_cons, List.length_nil, List.length_set, List.length_map, List.length_take, List.length_drop]; omega)) only [stdh, goK_s2b, dgoK_s2b, isEff_s2b, isPure_s2b, goK_b2s, dgoK_b2s, isEff_b2s, isPure_b2s, evalOp_s2b, s2bR, goK_mark, dgoK_mark, isEff_mark, isPure_mark, evalOp_mark, markA_slc, markB, ↓reduceIte, Nat.reduceEqDiff, Int.reduceToNat, Int.reducePow, Nat.reduceAdd, Nat.reduceLeDiff, Nat.reduceMul, Nat.reduceBEq, reduceCtorEq, head_wrong_1, head_wrong_1.body, cellN, load_imm, encHd]
            have s0 := hI.step 0 fp H (by omega) hi
            rw [i0] at s0
            refine CallV.mono s0 fun av H1 hh => ?_
            obtain ⟨fp1, t1, hh⟩ := hh
            refine runL_V 200 ?_
            rcases hh with ⟨rfl, hi1⟩ | ⟨rfl, hi1⟩
            rotate_left
            · simp (disch := first | omega | (simp only [List.length_append, List.length_cons, List.length_nil, List.length_set, List.length_map, List.length_take, List.length_drop]; omega)) only [stdh, goK_s2b, dgoK_s2b, isEff_s2b, isPure_s2b, goK_b2s, dgoK_b2s, isEff_b2s, isPure_b2s, evalOp_s2b, s2bR, goK_mark, dgoK_mark, isEff_mark, isPure_mark, evalOp_mark, markA_slc, markB, ↓reduceIte, Nat.reduceEqDiff, Int.reduceToNat, Int.reducePow, Nat.reduceAdd, Nat.reduceLeDiff, Nat.reduceMul, Nat.reduceBEq, reduceCtorEq]
              refine run_fin rfl rfl trivial ?_
              exact ⟨false, 1, fp1, t1.le, t1.kept, (fun e => by cases e), hi1⟩
            simp (disch := first | omega | (simp only [List.length_append, List.length_cons, List.length_nil, List.length_set, List.length_map, List.length_take, List.length_drop]; omega)) only [stdh, goK_s2b, dgoK_s2b, isEff_s2b, isPure_s2b, goK_b2s, dgoK_b2s, isEff_b2s, isPure_b2s, evalOp_s2b, s2bR, goK_mark, dgoK_mark, isEff_mark, isPure_mark, evalOp_mark, markA_slc, markB, ↓reduceIte, Nat.reduceEqDiff, Int.reduceToNat, Int.reducePow, Nat.reduceAdd, Nat.reduceLeDiff, Nat.reduceMul, Nat.reduceBEq, reduceCtorEq, load_imm]
            have s1 := hI.step 1 fp1 H1 (by omega) hi1
            rw [i1] at s1
            refine CallV.mono s1 fun av H2 hh => ?_
            obtain ⟨fp2, t2, hh⟩ := hh
            replace t2 := t1.trans t2
            refine runL_V 200 ?_
            rcases hh with ⟨rfl, hi2⟩ | ⟨rfl, hi2⟩
            rotate_left
            · simp (disch := first | omega | (simp only [List.length_append, List.length_cons, List.length_nil, List.length_set, List.length_map, List.length_take, List.length_drop]; omega)) only [stdh, goK_s2b, dgoK_s2b, isEff_s2b, isPure_s2b, goK_b2s, dgoK_b2s, isEff_b2s, isPure_b2s, evalOp_s2b, s2bR, goK_mark, dgoK_mark, isEff_mark, isPure_mark, evalOp_mark, markA_slc, markB, ↓reduceIte, Nat.reduceEqDiff, Int.reduceToNat, Int.reducePow, Nat.reduceAdd, Nat.reduceLeDiff, Nat.reduceMul, Nat.reduceBEq, reduceCtorEq]
              refine run_fin rfl rfl trivial ?_
              exact ⟨false, 2, fp2, t2.le, t2.kept, (fun e => by cases e), hi2⟩
            simp (disch := first | omega | (simp only [List.length_append, List.length_cons, List.length_nil, List.length_set, List.length_map, List.length_take, List.length_drop]; omega)) only [stdh, goK_s2b, dgoK_s2b, isEff_s2b, isPure_s2b, goK_b2s, dgoK_b2s, isEff_b2s, isPure_b2s, evalOp_s2b, s2bR, goK_mark, dgoK_mark, isEff_mark, isPure_mark, evalOp_mark, markA_slc, markB, ↓reduceIte, Nat.reduceEqDiff, Int.reduceToNat, Int.reducePow, Nat.reduceAdd, Nat.reduceLeDiff, Nat.reduceMul, Nat.reduceBEq, reduceCtorEq, load_imm]
            have s2 := hI.step 2 fp2 H2 (by omega) hi2
            rw [i2] at s2
            refine CallV.mono s2 fun av H3 hh => ?_
            obtain ⟨fp3, t3, hh⟩ := hh
            replace t3 := t2.trans t3
            refine runL_V 200 ?_
            rcases hh with ⟨rfl, hi3⟩ | ⟨rfl, hi3⟩
            rotate_left
            · simp (disch := first | omega | (simp only [List.length_append, List.length_cons, List.length_nil, List.length_set, List.length_map, List.length_take, List.length_drop]; omega)) only [stdh, goK_s2b, dgoK_s2b, isEff_s2b, isPure_s2b, goK_b2s, dgoK_b2s, isEff_b2s, isPure_b2s, evalOp_s2b, s2bR, goK_mark, dgoK_mark, isEff_mark, isPure_mark, evalOp_mark, markA_slc, markB, ↓reduceIte, Nat.reduceEqDiff, Int.reduceToNat, Int.reducePow, Nat.reduceAdd, Nat.reduceLeDiff, Nat.reduceMul, Nat.reduceBEq, reduceCtorEq]
              refine run_fin rfl rfl trivial ?_
              exact ⟨false, 3, fp3, t3.le, t3.kept, (fun e => by cases e), hi3⟩
            simp (disch := first | omega | (simp only [List.length_append, List.length_cons, List.length_nil, List.length_set, List.length_map, List.length_take, List.length_drop]; omega)) only [stdh, goK_s2b, dgoK_s2b, isEff_s2b, isPure_s2b, goK_b2s, dgoK_b2s, isEff_b2s, isPure_b2s, evalOp_s2b, s2bR, goK_mark, dgoK_mark, isEff_mark, isPure_mark, evalOp_mark, markA_slc, markB, ↓reduceIte, Nat.reduceEqDiff, Int.reduceToNat, Int.reducePow, Nat.reduceAdd, Nat.reduceLeDiff, Nat.reduceMul, Nat.reduceBEq, reduceCtorEq]
            refine run_fin rfl rfl trivial ?_
            exact ⟨true, 3, fp3, t3.le, t3.kept, fun _ => rfl, hi3⟩
          · skip
            have i0 : wrongItem h 0 = [.int .i64 10, .bool true] := by simp [wrongItem, bads, errs, h0]
            have i1 : wrongItem h 1 = [.int .i64 9, .bool true] := by simp [wrongItem, bads, errs, h1]
            have i2 : wrongItem h 2 = [.int .i64 3, .bool (decide (h.c ≤ h.i))] := by simp [wrongItem, bads, errs, h2, h3, h4]
            simp (disch := first | omega | (simp only [List.length_append, List.length_cons, List.length_nil, List.length_set, List.length_map, List.length_take, List.length_drop]; omega)) only [stdh, goK_s2b, dgoK_s2b, isEff_s2b, isPure_s2b, goK_b2s, dgoK_b2s, isEff_b2s, isPure_b2s, evalOp_s2b, s2bR, goK_mark, dgoK_mark, isEff_mark, isPure_mark, evalOp_mark, markA_slc, markB, ↓reduceIte, Nat.reduceEqDiff, Int.reduceToNat, Int.reducePow, Nat.reduceAdd, Nat.reduceLeDiff, Nat.reduceMul, Nat.reduceBEq, reduceCtorEq, head_wrong_1, head_wrong_1.body, cellN, load_imm, encHd]
            have s0 := hI.step 0 fp H (by omega) hi
            rw [i0] at s0
            refine CallV.mono s0 fun av H1 hh => ?_
            obtain ⟨fp1, t1, hh⟩ := hh
            refine runL_V 200 ?_
            rcases hh with ⟨rfl, hi1⟩ | ⟨rfl, hi1⟩
            rotate_left
            · simp (disch := first | omega | (simp only [List.length_append, List.length_cons, List.length_nil, List.length_set, List.length_map, List.length_take, List.length_drop]; omega)) only [stdh, goK_s2b, dgoK_s2b, isEff_s2b, isPure_s2b, goK_b2s, dgoK_b2s, isEff_b2s, isPure_b2s, evalOp_s2b, s2bR, goK_mark, dgoK_mark, isEff_mark, isPure_mark, evalOp_mark, markA_slc, markB, ↓reduceIte, Nat.reduceEqDiff, Int.reduceToNat, Int.reducePow, Nat.reduceAdd, Nat.reduceLeDiff, Nat.reduceMul, Nat.reduceBEq, reduceCtorEq]
              refine run_fin rfl rfl trivial ?_
              exact ⟨false, 1, fp1, t1.le, t1.kept, (fun e => by cases e), hi1⟩
            simp (disch := first | omega | (simp only [List.length_append, List.length_cons, List.length_nil, List.length_set, List.length_map, List.length_take, List.length_drop]; omega)) only [stdh, goK_s2b, dgoK_s2b, isEff_s2b, isPure_s2b, goK_b2s, dgoK_b2s, isEff_b2s, isPure_b2s, evalOp_s2b, s2bR, goK_mark, dgoK_mark, isEff_mark, isPure_mark, evalOp_mark, markA_slc, markB, ↓reduceIte, Nat.reduceEqDiff, Int.reduceToNat, Int.reducePow, Nat.reduceAdd, Nat.reduceLeDiff, Nat.reduceMul, Nat.reduceBEq, reduceCtorEq, load_imm]
            have s1 := hI.step 1 fp1 H1 (by omega) hi1
            rw [i1] at s1
            refine CallV.mono s1 fun av H2 hh => ?_
            obtain ⟨fp2, t2, hh⟩ := hh
            replace t2 := t1.trans t2
            refine runL_V 200 ?_
            rcases hh with ⟨rfl, hi2⟩ | ⟨rfl, hi2⟩
            rotate_left
            · simp (disch := first | omega | (simp only [List.length_append, List.length_cons, List.length_nil, List.length_set, List.length_map, List.length_take, List.length_drop]; omega)) only [stdh, goK_s2b, dgoK_s2b, isEff_s2b, isPure_s2b, goK_b2s, dgoK_b2s, isEff_b2s, isPure_b2s, evalOp_s2b, s2bR, goK_mark, dgoK_mark, isEff_mark, isPure_mark, evalOp_mark, markA_slc, markB, ↓reduceIte, Nat.reduceEqDiff, Int.reduceToNat, Int.reducePow, Nat.reduceAdd, Nat.reduceLeDiff, Nat.reduceMul, Nat.reduceBEq, reduceCtorEq]
              refine run_fin rfl rfl trivial ?_
              exact ⟨false, 2, fp2, t2.le, t2.kept, (fun e => by cases e), hi2⟩
            simp (disch := first | omega | (simp only [List.length_append, List.length_cons, List.length_nil, List.length_set, List.length_map, List.length_take, List.length_drop]; omega)) only [stdh, goK_s2b, dgoK_s2b, isEff_s2b, isPure_s2b, goK_b2s, dgoK_b2s, isEff_b2s, isPure_b2s, evalOp_s2b, s2bR, goK_mark, dgoK_mark, isEff_mark, isPure_mark, evalOp_mark, markA_slc, markB, ↓reduceIte, Nat.reduceEqDiff, Int.reduceToNat, Int.reducePow, Nat.reduceAdd, Nat.reduceLeDiff, Nat.reduceMul, Nat.reduceBEq, reduceCtorEq, load_imm]
            have s2 := hI.step 2 fp2 H2 (by omega) hi2
            rw [i2] at s2
            refine CallV.mono s2 fun av H3 hh => ?_
            obtain ⟨fp3, t3, hh⟩ := hh
            replace t3 := t2.trans t3
            refine runL_V 200 ?_
            rcases hh with ⟨rfl, hi3⟩ | ⟨rfl, hi3⟩
            rotate_left
            · simp (disch := first | omega | (simp only [List.length_append, List.length_cons, List.length_nil, List.length_set, List.length_map, List.length_take, List.length_drop]; omega)) only [stdh, goK_s2b, dgoK_s2b, isEff_s2b, isPure_s2b, goK_b2s, dgoK_b2s, isEff_b2s, isPure_b2s, evalOp_s2b, s2bR, goK_mark, dgoK_mark, isEff_mark, isPure_mark, evalOp_mark, markA_slc, markB, ↓reduceIte, Nat.reduceEqDiff, Int.reduceToNat, Int.reducePow, Nat.reduceAdd, Nat.reduceLeDiff, Nat.reduceMul, Nat.reduceBEq, reduceCtorEq]
              refine run_fin rfl rfl trivial ?_
              exact ⟨false, 3, fp3, t3.le, t3.kept, (fun e => by cases e), hi3⟩
            simp (disch := first | omega | (simp only [List.length_append, List.length_cons, List.length_nil, List.length_set, List.length_map, List.length_take, List.length_drop]; omega)) only [stdh, goK_s2b, dgoK_s2b, isEff_s2b, isPure_s2b, goK_b2s, dgoK_b2s, isEff_b2s, isPure_b2s, evalOp_s2b, s2bR, goK_mark, dgoK_mark, isEff_mark, isPure_mark, evalOp_mark, markA_slc, markB, ↓reduceIte, Nat.reduceEqDiff, Int.reduceToNat, Int.reducePow, Nat.reduceAdd, Nat.reduceLeDiff, Nat.reduceMul, Nat.reduceBEq, reduceCtorEq]
            refine run_fin rfl rfl trivial ?_
            exact ⟨true, 3, fp3, t3.le, t3.kept, fun _ => rfl, hi3⟩
    · skip
      by_cases h2 : h.c < 1
      · skip
        have i0 : wrongItem h 0 = [.int .i64 10, .bool true] := by simp [wrongItem, bads, errs, h0]
        have i1 : wrongItem h 1 = [.int .i64 9, .bool (decide (5 < h.k))] := by simp [wrongItem, bads, errs, h1]
        have i2 : wrongItem h 2 = [.int .i64 3, .bool true] := by simp [wrongItem, bads, errs, h2]
        simp (disch := first | omega | (simp only [List.length_append, List.length_cons, List.length_nil, List.length_set, List.length_map, List.length_take, List.length_drop]; omega)) only [stdh, goK_s2b, dgoK_s2b, isEff_s2b, isPure_s2b, goK_b2s, dgoK_b2s, isEff_b2s, isPure_b2s, evalOp_s2b, s2bR, goK_mark, dgoK_mark, isEff_mark, isPure_mark, evalOp_mark, markA_slc, markB, ↓reduceIte, Nat.reduceEqDiff, Int.reduceToNat, Int.reducePow, Nat.reduceAdd, Nat.reduceLeDiff, Nat.reduceMul, Nat.reduceBEq, reduceCtorEq, head_wrong_1, head_wrong_1.body, cellN, load_imm, encHd]
        have s0 := hI.step 0 fp H (by omega) hi
        rw [i0] at s0
        refine CallV.mono s0 fun av H1 hh => ?_
        obtain ⟨fp1, t1, hh⟩ := hh
        refine runL_V 200 ?_
        rcases hh with ⟨rfl, hi1⟩ | ⟨rfl, hi1⟩
        rotate_left
        · simp (disch := first | omega | (simp only [List.length_append, List.length_cons, List.length_nil, List.length_set, List.length_map, List.length_take, List.length_drop]; omega)) only [stdh, goK_s2b, dgoK_s2b, isEff_s2b, isPure_s2b, goK_b2s, dgoK_b2s, isEff_b2s, isPure_b2s, evalOp_s2b, s2bR, goK_mark, dgoK_mark, isEff_mark, isPure_mark, evalOp_mark, markA_slc, markB, ↓reduceIte, Nat.reduceEqDiff, Int.reduceToNat, Int.reducePow, Nat.reduceAdd, Nat.reduceLeDiff, Nat.reduceMul, Nat.reduceBEq, reduceCtorEq]
          refine run_fin rfl rfl trivial ?_
          exact ⟨false, 1, fp1, t1.le, t1.kept, (fun e => by cases e), hi1⟩
        simp (disch := first | omega | (simp only [List.length_append, List.length_cons, List.length_nil, List.length_set, List.length_map, List.length_take, List.length_drop]; omega)) only [stdh, goK_s2b, dgoK_s2b, isEff_s2b, isPure_s2b, goK_b2s, dgoK_b2s, isEff_b2s, isPure_b2s, evalOp_s2b, s2bR, goK_mark, dgoK_mark, isEff_mark, isPure_mark, evalOp_mark, markA_slc, markB, ↓reduceIte, Nat.reduceEqDiff, Int.reduceToNat, Int.reducePow, Nat.reduceAdd, Nat.reduceLeDiff, Nat.reduceMul, Nat.reduceBEq, reduceCtorEq, load_imm]
        have s1 := hI.step 1 fp1 H1 (by omega) hi1
        rw [i1] at s1
        refine CallV.mono s1 fun av H2 hh => ?_
        obtain ⟨fp2, t2, hh⟩ := hh
        replace t2 := t1.trans t2
        refine runL_V 200 ?_
        rcases hh with ⟨rfl, hi2⟩ | ⟨rfl, hi2⟩
        rotate_left
        · simp (disch := first | omega | (simp only [List.length_append, List.length_cons, List.length_nil, List.length_set, List.length_map, List.length_take, List.length_drop]; omega)) only [stdh, goK_s2b, dgoK_s2b, isEff_s2b, isPure_s2b, goK_b2s, dgoK_b2s, isEff_b2s, isPure_b2s, evalOp_s2b, s2bR, goK_mark, dgoK_mark, isEff_mark, isPure_mark, evalOp_mark, markA_slc, markB, ↓reduceIte, Nat.reduceEqDiff, Int.reduceToNat, Int.reducePow, Nat.reduceAdd, Nat.reduceLeDiff, Nat.reduceMul, Nat.reduceBEq, reduceCtorEq]
          refine run_fin rfl rfl trivial ?_
          exact ⟨false, 2, fp2, t2.le, t2.kept, (fun e => by cases e), hi2⟩
        simp (disch := first | omega | (simp only [List.length_append, List.length_cons, List.length_nil, List.length_set, List.length_map, List.length_take, List.length_drop]; omega)) only [stdh, goK_s2b, dgoK_s2b, isEff_s2b, isPure_s2b, goK_b2s, dgoK_b2s, isEff_b2s, isPure_b2s, evalOp_s2b, s2bR, goK_mark, dgoK_mark, isEff_mark, isPure_mark, evalOp_mark, markA_slc, markB, ↓reduceIte, Nat.reduceEqDiff, Int.reduceToNat, Int.reducePow, Nat.reduceAdd, Nat.reduceLeDiff, Nat.reduceMul, Nat.reduceBEq, reduceCtorEq, load_imm]
        have s2 := hI.step 2 fp2 H2 (by omega) hi2
        rw [i2] at s2
        refine CallV.mono s2 fun av H3 hh => ?_
        obtain ⟨fp3, t3, hh⟩ := hh
        replace t3 := t2.trans t3
        refine runL_V 200 ?_
        rcases hh with ⟨rfl, hi3⟩ | ⟨rfl, hi3⟩
        rotate_left
        · simp (disch := first | omega | (simp only [List.length_append, List.length_cons, List.length_nil, List.length_set, List.length_map, List.length_take, List.length_drop]; omega)) only [stdh, goK_s2b, dgoK_s2b, isEff_s2b, isPure_s2b, goK_b2s, dgoK_b2s, isEff_b2s, isPure_b2s, evalOp_s2b, s2bR, goK_mark, dgoK_mark, isEff_mark, isPure_mark, evalOp_mark, markA_slc, markB, ↓reduceIte, Nat.reduceEqDiff, Int.reduceToNat, Int.reducePow, Nat.reduceAdd, Nat.reduceLeDiff, Nat.reduceMul, Nat.reduceBEq, reduceCtorEq]
          refine run_fin rfl rfl trivial ?_
          exact ⟨false, 3, fp3, t3.le, t3.kept, (fun e => by cases e), hi3⟩
        simp (disch := first | omega | (simp only [List.length_append, List.length_cons, List.length_nil, List.length_set, List.length_map, List.length_take, List.length_drop]; omega)) only [stdh, goK_s2b, dgoK_s2b, isEff_s2b, isPure_s2b, goK_b2s, dgoK_b2s, isEff_b2s, isPure_b2s, evalOp_s2b, s2bR, goK_mark, dgoK_mark, isEff_mark, isPure_mark, evalOp_mark, markA_slc, markB, ↓reduceIte, Nat.reduceEqDiff, Int.reduceToNat, Int.reducePow, Nat.reduceAdd, Nat.reduceLeDiff, Nat.reduceMul, Nat.reduceBEq, reduceCtorEq]
        refine run_fin rfl rfl trivial ?_
        exact ⟨true, 3, fp3, t3.le, t3.kept, fun _ => rfl, hi3⟩
      · by_cases h3 : 255 < h.c
        · skip
          have i0 : wrongItem h 0 = [.int .i64 10, .bool true] := by simp [wrongItem, bads, errs, h0]
          have i1 : wrongItem h 1 = [.int .i64 9, .bool (decide (5 < h.k))] := by simp [wrongItem, bads, errs, h1]
          have i2 : wrongItem h 2 = [.int .i64 3, .bool true] := by simp [wrongItem, bads, errs, h2, h3]
          simp (disch := first | omega | (simp only [List.length_append, List.length_cons, List.length_nil, List.length_set, List.length_map, List.length_take, List.length_drop]; omega)) only [stdh, goK_s2b, dgoK_s2b, isEff_s2b, isPure_s2b, goK_b2s, dgoK_b2s, isEff_b2s, isPure_b2s, evalOp_s2b, s2bR, goK_mark, dgoK_mark, isEff_mark, isPure_mark, evalOp_mark, markA_slc, markB, ↓reduceIte, Nat.reduceEqDiff, Int.reduceToNat, Int.reducePow, Nat.reduceAdd, Nat.reduceLeDiff, Nat.reduceMul, Nat.reduceBEq, reduceCtorEq, head_wrong_1, head_wrong_1.body, cellN, load_imm, encHd]
          have s0 := hI.step 0 fp H (by omega) hi
          rw [i0] at s0
          refine CallV.mono s0 fun av H1 hh => ?_
          obtain ⟨fp1, t1, hh⟩ := hh
          refine runL_V 200 ?_
          rcases hh with ⟨rfl, hi1⟩ | ⟨rfl, hi1⟩
          rotate_left
          · simp (disch := first | omega | (simp only [List.length_append, List.length_cons, List.length_nil, List.length_set, List.length_map, List.length_take, List.length_drop]; omega)) only [stdh, goK_s2b, dgoK_s2b, isEff_s2b, isPure_s2b, goK_b2s, dgoK_b2s, isEff_b2s, isPure_b2s, evalOp_s2b, s2bR, goK_mark, dgoK_mark, isEff_mark, isPure_mark, evalOp_mark, markA_slc, markB, ↓reduceIte, Nat.reduceEqDiff, Int.reduceToNat, Int.reducePow, Nat.reduceAdd, Nat.reduceLeDiff, Nat.reduceMul, Nat.reduceBEq, reduceCtorEq]
            refine run_fin rfl rfl trivial ?_
            exact ⟨false, 1, fp1, t1.le, t1.kept, (fun e => by cases e), hi1⟩
          simp (disch := first | omega | (simp only [List.length_append, List.length_cons, List.length_nil, List.length_set, List.length_map, List.length_take, List.length_drop]; omega)) only [stdh, goK_s2b, dgoK_s2b, isEff_s2b, isPure_s2b, goK_b2s, dgoK_b2s, isEff_b2s, isPure_b2s, evalOp_s2b, s2bR, goK_mark, dgoK_mark, isEff_mark, isPure_mark, evalOp_mark, markA_slc, markB, ↓reduceIte, Nat.reduceEqDiff, Int.reduceToNat, Int.reducePow, Nat.reduceAdd, Nat.reduceLeDiff, Nat.reduceMul, Nat.reduceBEq, reduceCtorEq, load_imm]
          have s1 := hI.step 1 fp1 H1 (by omega) hi1
          rw [i1] at s1
          refine CallV.mono s1 fun av H2 hh => ?_
          obtain ⟨fp2, t2, hh⟩ := hh
          replace t2 := t1.trans t2
          refine runL_V 200 ?_
          rcases hh with ⟨rfl, hi2⟩ | ⟨rfl, hi2⟩
          rotate_left
          · simp (disch := first | omega | (simp only [List.length_append, List.length_cons, List.length_nil, List.length_set, List.length_map, List.length_take, List.length_drop]; omega)) only [stdh, goK_s2b, dgoK_s2b, isEff_s2b, isPure_s2b, goK_b2s, dgoK_b2s, isEff_b2s, isPure_b2s, evalOp_s2b, s2bR, goK_mark, dgoK_mark, isEff_mark, isPure_mark, evalOp_mark, markA_slc, markB, ↓reduceIte, Nat.reduceEqDiff, Int.reduceToNat, Int.reducePow, Nat.reduceAdd, Nat.reduceLeDiff, Nat.reduceMul, Nat.reduceBEq, reduceCtorEq]
            refine run_fin rfl rfl trivial ?_
            exact ⟨false, 2, fp2, t2.le, t2.kept, (fun e => by cases e), hi2⟩
          simp (disch := first | omega | (simp only [List.length_append, List.length_cons, List.length_nil, List.length_set, List.length_map, List.length_take, List.length_drop]; omega)) only [stdh, goK_s2b, dgoK_s2b, isEff_s2b, isPure_s2b, goK_b2s, dgoK_b2s, isEff_b2s, isPure_b2s, evalOp_s2b, s2bR, goK_mark, dgoK_mark, isEff_mark, isPure_mark, evalOp_mark, markA_slc, markB, ↓reduceIte, Nat.reduceEqDiff, Int.reduceToNat, Int.reducePow, Nat.reduceAdd, Nat.reduceLeDiff, Nat.reduceMul, Nat.reduceBEq, reduceCtorEq, load_imm]
          have s2 := hI.step 2 fp2 H2 (by omega) hi2
          rw [i2] at s2
          refine CallV.mono s2 fun av H3 hh => ?_
          obtain ⟨fp3, t3, hh⟩ := hh
          replace t3 := t2.trans t3
          refine runL_V 200 ?_
          rcases hh with ⟨rfl, hi3⟩ | ⟨rfl, hi3⟩
          rotate_left
          · simp (disch := first | omega | (simp only [List.length_append, List.length_cons, List.length_nil, List.length_set, List.length_map, List.length_take, List.length_drop]; omega)) only [stdh, goK_s2b, dgoK_s2b, isEff_s2b, isPure_s2b, goK_b2s, dgoK_b2s, isEff_b2s, isPure_b2s, evalOp_s2b, s2bR, goK_mark, dgoK_mark, isEff_mark, isPure_mark, evalOp_mark, markA_slc, markB, ↓reduceIte, Nat.reduceEqDiff, Int.reduceToNat, Int.reducePow, Nat.reduceAdd, Nat.reduceLeDiff, Nat.reduceMul, Nat.reduceBEq, reduceCtorEq]
            refine run_fin rfl rfl trivial ?_
            exact ⟨false, 3, fp3, t3.le, t3.kept, (fun e => by cases e), hi3⟩
          simp (disch := first | omega | (simp only [List.length_append, List.length_cons, List.length_nil, List.length_set, List.length_map, List.length_take, List.length_drop]; omega)) only [stdh, goK_s2b, dgoK_s2b, isEff_s2b, isPure_s2b, goK_b2s, dgoK_b2s, isEff_b2s, isPure_b2s, evalOp_s2b, s2bR, goK_mark, dgoK_mark, isEff_mark, isPure_mark, evalOp_mark, markA_slc, markB, ↓reduceIte, Nat.reduceEqDiff, Int.reduceToNat, Int.reducePow, Nat.reduceAdd, Nat.reduceLeDiff, Nat.reduceMul, Nat.reduceBEq, reduceCtorEq]
          refine run_fin rfl rfl trivial ?_
          exact ⟨true, 3, fp3, t3.le, t3.kept, fun _ => rfl, hi3⟩
        · by_cases h4 : h.i < 0
          · skip
            have i0 : wrongItem h 0 = [.int .i64 10, .bool true] := by simp [wrongItem, bads, errs, h0]
            have i1 : wrongItem h 1 = [.int .i64 9, .bool (decide (5 < h.k))] := by simp [wrongItem, bads, errs, h1]
            have i2 : wrongItem h 2 = [.int .i64 3, .bool true] := by simp [wrongItem, bads, errs, h2, h3, h4]
            simp (disch := first | omega | (simp only [List.length_append, List.length_cons, List.length_nil, List.length_set, List.length_map, List.length_take, List.length_drop]; omega)) only [stdh, goK_s2b, dgoK_s2b, isEff_s2b, isPure_s2b, goK_b2s, dgoK_b2s, isEff_b2s, isPure_b2s, evalOp_s2b, s2bR, goK_mark, dgoK_mark, isEff_mark, isPure_mark, evalOp_mark, markA_slc, markB, ↓reduceIte, Nat.reduceEqDiff, Int.reduceToNat, Int.reducePow, Nat.reduceAdd, Nat.reduceLeDiff, Nat.reduceMul, Nat.reduceBEq, reduceCtorEq, head_wrong_1, head_wrong_1.body, cellN, load_imm, encHd]
            have s0 := hI.step 0 fp H (by omega) hi
            rw [i0] at s0
            refine CallV.mono s0 fun av H1 hh => ?_
            obtain ⟨fp1, t1, hh⟩ := hh
            refine runL_V 200 ?_
            rcases hh with ⟨rfl, hi1⟩ | ⟨rfl, hi1⟩
            rotate_left
            · simp (disch := first | omega | (simp only [List.length_append, List.length_cons, List.length_nil, List.length_set, List.length_map, List.length_take, List.length_drop]; omega)) only [stdh, goK_s2b, dgoK_s2b, isEff_s2b, isPure_s2b, goK_b2s, dgoK_b2s, isEff_b2s, isPure_b2s, evalOp_s2b, s2bR, goK_mark, dgoK_mark, isEff_mark, isPure_mark, evalOp_mark, markA_slc, markB, ↓reduceIte, Nat.reduceEqDiff, Int.reduceToNat, Int.reducePow, Nat.reduceAdd, Nat.reduceLeDiff, Nat.reduceMul, Nat.reduceBEq, reduceCtorEq]
              refine run_fin rfl rfl trivial ?_
              exact ⟨false, 1, fp1, t1.le, t1.kept, (fun e => by cases e), hi1⟩
            simp (disch := first | omega | (simp only [List.length_append, List.length_cons, List.length_nil, List.length_set, List.length_map, List.length_take, List.length_drop]; omega)) only [stdh, goK_s2b, dgoK_s2b, isEff_s2b, isPure_s2b, goK_b2s, dgoK_b2s, isEff_b2s, isPure_b2s, evalOp_s2b, s2bR, goK_mark, dgoK_mark, isEff_mark, isPure_mark, evalOp_mark, markA_slc, markB, ↓reduceIte, Nat.reduceEqDiff, Int.reduceToNat, Int.reducePow, Nat.reduceAdd, Nat.reduceLeDiff, Nat.reduceMul, Nat.reduceBEq, reduceCtorEq, load_imm]
            have s1 := hI.step 1 fp1 H1 (by omega) hi1
            rw [i1] at s1
            refine CallV.mono s1 fun av H2 hh => ?_
            obtain ⟨fp2, t2, hh⟩ := hh
            replace t2 := t1.trans t2
            refine runL_V 200 ?_
            rcases hh with ⟨rfl, hi2⟩ | ⟨rfl, hi2⟩
            rotate_left
            · simp (disch := first | omega | (simp only [List.length_append, List.length_cons, List.length_nil, List.length_set, List.length_map, List.length_take, List.length_drop]; omega)) only [stdh, goK_s2b, dgoK_s2b, isEff_s2b, isPure_s2b, goK_b2s, dgoK_b2s, isEff_b2s, isPure_b2s, evalOp_s2b, s2bR, goK_mark, dgoK_mark, isEff_mark, isPure_mark, evalOp_mark, markA_slc, markB, ↓reduceIte, Nat.reduceEqDiff, Int.reduceToNat, Int.reducePow, Nat.reduceAdd, Nat.reduceLeDiff, Nat.reduceMul, Nat.reduceBEq, reduceCtorEq]
              refine run_fin rfl rfl trivial ?_
              exact ⟨false, 2, fp2, t2.le, t2.kept, (fun e => by cases e), hi2⟩
            simp (disch := first | omega | (simp only [List.length_append, List.length_cons, List.length_nil, List.length_set, List.length_map, List.length_take, List.length_drop]; omega)) only [stdh, goK_s2b, dgoK_s2b, isEff_s2b, isPure_s2b, goK_b2s, dgoK_b2s, isEff_b2s, isPure_b2s, evalOp_s2b, s2bR, goK_mark, dgoK_mark, isEff_mark, isPure_mark, evalOp_mark, markA_slc, markB, ↓reduceIte, Nat.reduceEqDiff, Int.reduceToNat, Int.reducePow, Nat.reduceAdd, Nat.reduceLeDiff, Nat.reduceMul, Nat.reduceBEq, reduceCtorEq, load_imm]
            have s2 := hI.step 2 fp2 H2 (by omega) hi2
            rw [i2] at s2
            refine CallV.mono s2 fun av H3 hh => ?_
            obtain ⟨fp3, t3, hh⟩ := hh
            replace t3 := t2.trans t3
            refine runL_V 200 ?_
            rcases hh with ⟨rfl, hi3⟩ | ⟨rfl, hi3⟩
            rotate_left
            · simp (disch := first | omega | (simp only [List.length_append, List.length_cons, List.length_nil, List.length_set, List.length_map, List.length_take, List.length_drop]; omega)) only [stdh, goK_s2b, dgoK_s2b, isEff_s2b, isPure_s2b, goK_b2s, dgoK_b2s, isEff_b2s, isPure_b2s, evalOp_s2b, s2bR, goK_mark, dgoK_mark, isEff_mark, isPure_mark, evalOp_mark, markA_slc, markB, ↓reduceIte, Nat.reduceEqDiff, Int.reduceToNat, Int.reducePow, Nat.reduceAdd, Nat.reduceLeDiff, Nat.reduceMul, Nat.reduceBEq, reduceCtorEq]
              refine run_fin rfl rfl trivial ?_
              exact ⟨false, 3, fp3, t3.le, t3.kept, (fun e => by cases e), hi3⟩
            simp (disch := first | omega | (simp only [List.length_append, List.length_cons, List.length_nil, List.length_set, List.length_map, List.length_take, List.length_drop]; omega)) only [stdh, goK_s2b, dgoK_s2b, isEff_s2b, isPure_s2b, goK_b2s, dgoK_b2s, isEff_b2s, isPure_b2s, evalOp_s2b, s2bR, goK_mark, dgoK_mark, isEff_mark, isPure_mark, evalOp_mark, markA_slc, markB, ↓reduceIte, Nat.reduceEqDiff, Int.reduceToNat, Int.reducePow, Nat.reduceAdd, Nat.reduceLeDiff, Nat.reduceMul, Nat.reduceBEq, reduceCtorEq]
            refine run_fin rfl rfl trivial ?_
            exact ⟨true, 3, fp3, t3.le, t3.kept, fun _ => rfl, hi3⟩
          · skip
            have i0 : wrongItem h 0 = [.int .i64 10, .bool true] := by simp [wrongItem, bads, errs, h0]
            have i1 : wrongItem h 1 = [.int .i64 9, .bool (decide (5 < h.k))] := by simp [wrongItem, bads, errs, h1]
            have i2 : wrongItem h 2 = [.int .i64 3, .bool (decide (h.c ≤ h.i))] := by simp [wrongItem, bads, errs, h2, h3, h4]
            simp (disch := first | omega | (simp only [List.length_append, List.length_cons, List.length_nil, List.length_set, List.length_map, List.length_take, List.length_drop]; omega)) only [stdh, goK_s2b, dgoK_s2b, isEff_s2b, isPure_s2b, goK_b2s, dgoK_b2s, isEff_b2s, isPure_b2s, evalOp_s2b, s2bR, goK_mark, dgoK_mark, isEff_mark, isPure_mark, evalOp_mark, markA_slc, markB, ↓reduceIte, Nat.reduceEqDiff, Int.reduceToNat, Int.reducePow, Nat.reduceAdd, Nat.reduceLeDiff, Nat.reduceMul, Nat.reduceBEq, reduceCtorEq, head_wrong_1, head_wrong_1.body, cellN, load_imm, encHd]
            have s0 := hI.step 0 fp H (by omega) hi
            rw [i0] at s0
            refine CallV.mono s0 fun av H1 hh => ?_
            obtain ⟨fp1, t1, hh⟩ := hh
            refine runL_V 200 ?_
            rcases hh with ⟨rfl, hi1⟩ | ⟨rfl, hi1⟩
            rotate_left
            · simp (disch := first | omega | (simp only [List.length_append, List.length_cons, List.length_nil, List.length_set, List.length_map, List.length_take, List.length_drop]; omega)) only [stdh, goK_s2b, dgoK_s2b, isEff_s2b, isPure_s2b, goK_b2s, dgoK_b2s, isEff_b2s, isPure_b2s, evalOp_s2b, s2bR, goK_mark, dgoK_mark, isEff_mark, isPure_mark, evalOp_mark, markA_slc, markB, ↓reduceIte, Nat.reduceEqDiff, Int.reduceToNat, Int.reducePow, Nat.reduceAdd, Nat.reduceLeDiff, Nat.reduceMul, Nat.reduceBEq, reduceCtorEq]
              refine run_fin rfl rfl trivial ?_
              exact ⟨false, 1, fp1, t1.le, t1.kept, (fun e => by cases e), hi1⟩
            simp (disch := first | omega | (simp only [List.length_append, List.length_cons, List.length_nil, List.length_set, List.length_map, List.length_take, List.length_drop]; omega)) only [stdh, goK_s2b, dgoK_s2b, isEff_s2b, isPure_s2b, goK_b2s, dgoK_b2s, isEff_b2s, isPure_b2s, evalOp_s2b, s2bR, goK_mark, dgoK_mark, isEff_mark, isPure_mark, evalOp_mark, markA_slc, markB, ↓reduceIte, Nat.reduceEqDiff, Int.reduceToNat, Int.reducePow, Nat.reduceAdd, Nat.reduceLeDiff, Nat.reduceMul, Nat.reduceBEq, reduceCtorEq, load_imm]
            have s1 := hI.step 1 fp1 H1 (by omega) hi1
            rw [i1] at s1
            refine CallV.mono s1 fun av H2 hh => ?_
            obtain ⟨fp2, t2, hh⟩ := hh
            replace t2 := t1.trans t2
            refine runL_V 200 ?_
            rcases hh with ⟨rfl, hi2⟩ | ⟨rfl, hi2⟩
            rotate_left
            · simp (disch := first | omega | (simp only [List.length_append, List.length_cons, List.length_nil, List.length_set, List.length_map, List.length_take, List.length_drop]; omega)) only [stdh, goK_s2b, dgoK_s2b, isEff_s2b, isPure_s2b, goK_b2s, dgoK_b2s, isEff_b2s, isPure_b2s, evalOp_s2b, s2bR, goK_mark, dgoK_mark, isEff_mark, isPure_mark, evalOp_mark, markA_slc, markB, ↓reduceIte, Nat.reduceEqDiff, Int.reduceToNat, Int.reducePow, Nat.reduceAdd, Nat.reduceLeDiff, Nat.reduceMul, Nat.reduceBEq, reduceCtorEq]
              refine run_fin rfl rfl trivial ?_
              exact ⟨false, 2, fp2, t2.le, t2.kept, (fun e => by cases e), hi2⟩
            simp (disch := first | omega | (simp only [List.length_append, List.length_cons, List.length_nil, List.length_set, List.length_map, List.length_take, List.length_drop]; omega)) only [stdh, goK_s2b, dgoK_s2b, isEff_s2b, isPure_s2b, goK_b2s, dgoK_b2s, isEff_b2s, isPure_b2s, evalOp_s2b, s2bR, goK_mark, dgoK_mark, isEff_mark, isPure_mark, evalOp_mark, markA_slc, markB, ↓reduceIte, Nat.reduceEqDiff, Int.reduceToNat, Int.reducePow, Nat.reduceAdd, Nat.reduceLeDiff, Nat.reduceMul, Nat.reduceBEq, reduceCtorEq, load_imm]
            have s2 := hI.step 2 fp2 H2 (by omega) hi2
            rw [i2] at s2
            refine CallV.mono s2 fun av H3 hh => ?_
            obtain ⟨fp3, t3, hh⟩ := hh
            replace t3 := t2.trans t3
            refine runL_V 200 ?_
            rcases hh with ⟨rfl, hi3⟩ | ⟨rfl, hi3⟩
            rotate_left
            · simp (disch := first | omega | (simp only [List.length_append, List.length_cons, List.length_nil, List.length_set, List.length_map, List.length_take, List.length_drop]; omega)) only [stdh, goK_s2b, dgoK_s2b, isEff_s2b, isPure_s2b, goK_b2s, dgoK_b2s, isEff_b2s, isPure_b2s, evalOp_s2b, s2bR, goK_mark, dgoK_mark, isEff_mark, isPure_mark, evalOp_mark, markA_slc, markB, ↓reduceIte, Nat.reduceEqDiff, Int.reduceToNat, Int.reducePow, Nat.reduceAdd, Nat.reduceLeDiff, Nat.reduceMul, Nat.reduceBEq, reduceCtorEq]
              refine run_fin rfl rfl trivial ?_
              exact ⟨false, 3, fp3, t3.le, t3.kept, (fun e => by cases e), hi3⟩
            simp (disch := first | omega | (simp only [List.length_append, List.length_cons, List.length_nil, List.length_set, List.length_map, List.length_take, List.length_drop]; omega)) only [stdh, goK_s2b, dgoK_s2b, isEff_s2b, isPure_s2b, goK_b2s, dgoK_b2s, isEff_b2s, isPure_b2s, evalOp_s2b, s2bR, goK_mark, dgoK_mark, isEff_mark, isPure_mark, evalOp_mark, markA_slc, markB, ↓reduceIte, Nat.reduceEqDiff, Int.reduceToNat, Int.reducePow, Nat.reduceAdd, Nat.reduceLeDiff, Nat.reduceMul, Nat.reduceBEq, reduceCtorEq]
            refine run_fin rfl rfl trivial ?_
            exact ⟨true, 3, fp3, t3.le, t3.kept, fun _ => rfl, hi3⟩
  · by_cases h1 : h.k < 1
    · skip
      by_cases h2 : h.c < 1
      · skip
        have i0 : wrongItem h 0 = [.int .i64 10, .bool (decide (2 < h.v))] := by simp [wrongItem, bads, errs, h0]
        have i1 : wrongItem h 1 = [.int .i64 9, .bool true] := by simp [wrongItem, bads, errs, h1]
        have i2 : wrongItem h 2 = [.int .i64 3, .bool true] := by simp [wrongItem, bads, errs, h2]
        simp (disch := first | omega | (simp only [List.length_append, List.length_cons, List.length_nil, List.length_set, List.length_map, List.length_take, List.length_drop]; omega)) only [stdh, goK_s2b, dgoK_s2b, isEff_s2b, isPure_s2b, goK_b2s, dgoK_b2s, isEff_b2s, isPure_b2s, evalOp_s2b, s2bR, goK_mark, dgoK_mark, isEff_mark, isPure_mark, evalOp_mark, markA_slc, markB, ↓reduceIte, Nat.reduceEqDiff, Int.reduceToNat, Int.reducePow, Nat.reduceAdd, Nat.reduceLeDiff, Nat.reduceMul, Nat.reduceBEq, reduceCtorEq, head_wrong_1, head_wrong_1.body, cellN, load_imm, encHd]
        have s0 := hI.step 0 fp H (by omega) hi
        rw [i0] at s0
        refine CallV.mono s0 fun av H1 hh => ?_
        obtain ⟨fp1, t1, hh⟩ := hh
        refine runL_V 200 ?_
        rcases hh with ⟨rfl, hi1⟩ | ⟨rfl, hi1⟩
        rotate_left
        · simp (disch := first | omega | (simp only [List.length_append, List.length_cons, List.length_nil, List.length_set, List.length_map, List.length_take, List.length_drop]; omega)) only [stdh, goK_s2b, dgoK_s2b, isEff_s2b, isPure_s2b, goK_b2s, dgoK_b2s, isEff_b2s, isPure_b2s, evalOp_s2b, s2bR, goK_mark, dgoK_mark, isEff_mark, isPure_mark, evalOp_mark, markA_slc, markB, ↓reduceIte, Nat.reduceEqDiff, Int.reduceToNat, Int.reducePow, Nat.reduceAdd, Nat.reduceLeDiff, Nat.reduceMul, Nat.reduceBEq, reduceCtorEq]
          refine run_fin rfl rfl trivial ?_
          exact ⟨false, 1, fp1, t1.le, t1.kept, (fun e => by cases e), hi1⟩
        simp (disch := first | omega | (simp only [List.length_append, List.length_cons, List.length_nil, List.length_set, List.length_map, List.length_take, List.length_drop]; omega)) only [stdh, goK_s2b, dgoK_s2b, isEff_s2b, isPure_s2b, goK_b2s, dgoK_b2s, isEff_b2s, isPure_b2s, evalOp_s2b, s2bR, goK_mark, dgoK_mark, isEff_mark, isPure_mark, evalOp_mark, markA_slc, markB, ↓reduceIte, Nat.reduceEqDiff, Int.reduceToNat, Int.reducePow, Nat.reduceAdd, Nat.reduceLeDiff, Nat.reduceMul, Nat.reduceBEq, reduceCtorEq, load_imm]
        have s1 := hI.step 1 fp1 H1 (by omega) hi1
        rw [i1] at s1
        refine CallV.mono s1 fun av H2 hh => ?_
        obtain ⟨fp2, t2, hh⟩ := hh
        replace t2 := t1.trans t2
        refine runL_V 200 ?_
        rcases hh with ⟨rfl, hi2⟩ | ⟨rfl, hi2⟩
        rotate_left
        · simp (disch := first | omega | (simp only [List.length_append, List.length_cons, List.length_nil, List.length_set, List.length_map, List.length_take, List.length_drop]; omega)) only [stdh, goK_s2b, dgoK_s2b, isEff_s2b, isPure_s2b, goK_b2s, dgoK_b2s, isEff_b2s, isPure_b2s, evalOp_s2b, s2bR, goK_mark, dgoK_mark, isEff_mark, isPure_mark, evalOp_mark, markA_slc, markB, ↓reduceIte, Nat.reduceEqDiff, Int.reduceToNat, Int.reducePow, Nat.reduceAdd, Nat.reduceLeDiff, Nat.reduceMul, Nat.reduceBEq, reduceCtorEq]
          refine run_fin rfl rfl trivial ?_
          exact ⟨false, 2, fp2, t2.le, t2.kept, (fun e => by cases e), hi2⟩
        simp (disch := first | omega | (simp only [List.length_append, List.length_cons, List.length_nil, List.length_set, List.length_map, List.length_take, List.length_drop]; omega)) only [stdh, goK_s2b, dgoK_s2b, isEff_s2b, isPure_s2b, goK_b2s, dgoK_b2s, isEff_b2s, isPure_b2s, evalOp_s2b, s2bR, goK_mark, dgoK_mark, isEff_mark, isPure_mark, evalOp_mark, markA_slc, markB, ↓reduceIte, Nat.reduceEqDiff, Int.reduceToNat, Int.reducePow, Nat.reduceAdd, Nat.reduceLeDiff, Nat.reduceMul, Nat.reduceBEq, reduceCtorEq, load_imm]
        have s2 := hI.step 2 fp2 H2 (by omega) hi2
        rw [i2] at s2
        refine CallV.mono s2 fun av H3 hh => ?_
        obtain ⟨fp3, t3, hh⟩ := hh
        replace t3 := t2.trans t3
        refine runL_V 200 ?_
        rcases hh with ⟨rfl, hi3⟩ | ⟨rfl, hi3⟩
        rotate_left
        · simp (disch := first | omega | (simp only [List.length_append, List.length_cons, List.length_nil, List.length_set, List.length_map, List.length_take, List.length_drop]; omega)) only [stdh, goK_s2b, dgoK_s2b, isEff_s2b, isPure_s2b, goK_b2s, dgoK_b2s, isEff_b2s, isPure_b2s, evalOp_s2b, s2bR, goK_mark, dgoK_mark, isEff_mark, isPure_mark, evalOp_mark, markA_slc, markB, ↓reduceIte, Nat.reduceEqDiff, Int.reduceToNat, Int.reducePow, Nat.reduceAdd, Nat.reduceLeDiff, Nat.reduceMul, Nat.reduceBEq, reduceCtorEq]
          refine run_fin rfl rfl trivial ?_
          exact ⟨false, 3, fp3, t3.le, t3.kept, (fun e => by cases e), hi3⟩
        simp (disch := first | omega | (simp only [List.length_append, List.length_cons, List.length_nil, List.length_set, List.length_map, List.length_take, List.length_drop]; omega)) only [stdh, goK_s2b, dgoK_s2b, isEff_s2b, isPure_s2b, goK_b2s, dgoK_b2s, isEff_b2s, isPure_b2s, evalOp_s2b, s2bR, goK_mark, dgoK_mark, isEff_mark, isPure_mark, evalOp_mark, markA_slc, markB, ↓reduceIte, Nat.reduceEqDiff, Int.reduceToNat, Int.reducePow, Nat.reduceAdd, Nat.reduceLeDiff, Nat.reduceMul, Nat.reduceBEq, reduceCtorEq]
        refine run_fin rfl rfl trivial ?_
        exact ⟨true, 3, fp3, t3.le, t3.kept, fun _ => rfl, hi3⟩
      · by_cases h3 : 255 < h.c
        · skip
          have i0 : wrongItem h 0 = [.int .i64 10, .bool (decide (2 < h.v))] := by simp [wrongItem, bads, errs, h0]
          have i1 : wrongItem h 1 = [.int .i64 9, .bool true] := by simp [wrongItem, bads, errs, h1]
          have i2 : wrongItem h 2 = [.int .i64 3, .bool true] := by simp [wrongItem, bads, errs, h2, h3]
          simp (disch := first | omega | (simp only [List.length_append, List.length_cons, List.length_nil, List.length_set, List.length_map, List.length_take, List.length_drop]; omega)) only [stdh, goK_s2b, dgoK_s2b, isEff_s2b, isPure_s2b, goK_b2s, dgoK_b2s, isEff_b2s, isPure_b2s, evalOp_s2b, s2bR, goK_mark, dgoK_mark, isEff_mark, isPure_mark, evalOp_mark, markA_slc, markB, ↓reduceIte, Nat.reduceEqDiff, Int.reduceToNat, Int.reducePow, Nat.reduceAdd, Nat.reduceLeDiff, Nat.reduceMul, Nat.reduceBEq, reduceCtorEq, head_wrong_1, head_wrong_1.body, cellN, load_imm, encHd]
          have s0 := hI.step 0 fp H (by omega) hi
          rw [i0] at s0
          refine CallV.mono s0 fun av H1 hh => ?_
          obtain ⟨fp1, t1, hh⟩ := hh
          refine runL_V 200 ?_
          rcases hh with ⟨rfl, hi1⟩ | ⟨rfl, hi1⟩
          rotate_left
          · simp (disch := first | omega | (simp only [List.length_append, List.length_cons, List.length_nil, List.length_set, List.length_map, List.length_take, List.length_drop]; omega)) only [stdh, goK_s2b, dgoK_s2b, isEff_s2b, isPure_s2b, goK_b2s, dgoK_b2s, isEff_b2s, isPure_b2s, evalOp_s2b, s2bR, goK_mark, dgoK_mark, isEff_mark, isPure_mark, evalOp_mark, markA_slc, markB, ↓reduceIte, Nat.reduceEqDiff, Int.reduceToNat, Int.reducePow, Nat.reduceAdd, Nat.reduceLeDiff, Nat.reduceMul, Nat.reduceBEq, reduceCtorEq]
            refine run_fin rfl rfl trivial ?_
            exact ⟨false, 1, fp1, t1.le, t1.kept, (fun e => by cases e), hi1⟩
          simp (disch := first | omega | (simp only [List.length_append, List.length_cons, List.length_nil, List.length_set, List.length_map, List.length_take, List.length_drop]; omega)) only [stdh, goK_s2b, dgoK_s2b, isEff_s2b, isPure_s2b, goK_b2s, dgoK_b2s, isEff_b2s, isPure_b2s, evalOp_s2b, s2bR, goK_mark, dgoK_mark, isEff_mark, isPure_mark, evalOp_mark, markA_slc, markB, ↓reduceIte, Nat.reduceEqDiff, Int.reduceToNat, Int.reducePow, Nat.reduceAdd, Nat.reduceLeDiff, Nat.reduceMul, Nat.reduceBEq, reduceCtorEq, load_imm]
          have s1 := hI.step 1 fp1 H1 (by omega) hi1
          rw [i1] at s1
          refine CallV.mono s1 fun av H2 hh => ?_
          obtain ⟨fp2, t2, hh⟩ := hh
          replace t2 := t1.trans t2
          refine runL_V 200 ?_
          rcases hh with ⟨rfl, hi2⟩ | ⟨rfl, hi2⟩
          rotate_left
          · simp (disch := first | omega | (simp only [List.length_append, List.length_cons, List.length_nil, List.length_set, List.length_map, List.length_take, List.length_drop]; omega)) only [stdh, goK_s2b, dgoK_s2b, isEff_s2b, isPure_s2b, goK_b2s, dgoK_b2s, isEff_b2s, isPure_b2s, evalOp_s2b, s2bR, goK_mark, dgoK_mark, isEff_mark, isPure_mark, evalOp_mark, markA_slc, markB, ↓reduceIte, Nat.reduceEqDiff, Int.reduceToNat, Int.reducePow, Nat.reduceAdd, Nat.reduceLeDiff, Nat.reduceMul, Nat.reduceBEq, reduceCtorEq]
            refine run_fin rfl rfl trivial ?_
            exact ⟨false, 2, fp2, t2.le, t2.kept, (fun e => by cases e), hi2⟩
          simp (disch := first | omega | (simp only [List.length_append, List.length_cons, List.length_nil, List.length_set, List.length_map, List.length_take, List.length_drop]; omega)) only [stdh, goK_s2b, dgoK_s2b, isEff_s2b, isPure_s2b, goK_b2s, dgoK_b2s, isEff_b2s, isPure_b2s, evalOp_s2b, s2bR, goK_mark, dgoK_mark, isEff_mark, isPure_mark, evalOp_mark, markA_slc, markB, ↓reduceIte, Nat.reduceEqDiff, Int.reduceToNat, Int.reducePow, Nat.reduceAdd, Nat.reduceLeDiff, Nat.reduceMul, Nat.reduceBEq, reduceCtorEq, load_imm]
          have s2 := hI.step 2 fp2 H2 (by omega) hi2
          rw [i2] at s2
          refine CallV.mono s2 fun av H3 hh => ?_
          obtain ⟨fp3, t3, hh⟩ := hh
          replace t3 := t2.trans t3
          refine runL_V 200 ?_
          rcases hh with ⟨rfl, hi3⟩ | ⟨rfl, hi3⟩
          rotate_left
          · simp (disch := first | omega | (simp only [List.length_append, List.length_cons, List.length_nil, List.length_set, List.length_map, List.length_take, List.length_drop]; omega)) only [stdh, goK_s2b, dgoK_s2b, isEff_s2b, isPure_s2b, goK_b2s, dgoK_b2s, isEff_b2s, isPure_b2s, evalOp_s2b, s2bR, goK_mark, dgoK_mark, isEff_mark, isPure_mark, evalOp_mark, markA_slc, markB, ↓reduceIte, Nat.reduceEqDiff, Int.reduceToNat, Int.reducePow, Nat.reduceAdd, Nat.reduceLeDiff, Nat.reduceMul, Nat.reduceBEq, reduceCtorEq]
            refine run_fin rfl rfl trivial ?_
            exact ⟨false, 3, fp3, t3.le, t3.kept, (fun e => by cases e), hi3⟩
          simp (disch := first | omega | (simp only [List.length_append, List.length_cons, List.length_nil, List.length_set, List.length_map, List.length_take, List.length_drop]; omega)) only [stdh, goK_s2b, dgoK_s2b, isEff_s2b, isPure_s2b, goK_b2s, dgoK_b2s, isEff_b2s, isPure_b2s, evalOp_s2b, s2bR, goK_mark, dgoK_mark, isEff_mark, isPure_mark, evalOp_mark, markA_slc, markB, ↓reduceIte, Nat.reduceEqDiff, Int.reduceToNat, Int.reducePow, Nat.reduceAdd, Nat.reduceLeDiff, Nat.reduceMul, Nat.reduceBEq, reduceCtorEq]
          refine run_fin rfl rfl trivial ?_
          exact ⟨true, 3, fp3, t3.le, t3.kept, fun _ => rfl, hi3⟩
        · by_cases h4 : h.i < 0
          · skip
            have i0 : wrongItem h 0 = [.int .i64 10, .bool (decide (2 < h.v))] := by simp [wrongItem, bads, errs, h0]
            have i1 : wrongItem h 1 = [.int .i64 9, .bool true] := by simp [wrongItem, bads, errs, h1]
            have i2 : wrongItem h 2 = [.int .i64 3, .bool true] := by simp [wrongItem, bads, errs, h2, h3, h4]
            simp (disch := first | omega | (simp only [List.length_append, List.length_cons, List.length_nil, List.length_set, List.length_map, List.length_take, List.length_drop]; omega)) only [stdh, goK_s2b, dgoK_s2b, isEff_s2b, isPure_s2b, goK_b2s, dgoK_b2s, isEff_b2s, isPure_b2s, evalOp_s2b, s2bR, goK_mark, dgoK_mark, isEff_mark, isPure_mark, evalOp_mark, markA_slc, markB, ↓reduceIte, Nat.reduceEqDiff, Int.reduceToNat, Int.reducePow, Nat.reduceAdd, Nat.reduceLeDiff, Nat.reduceMul, Nat.reduceBEq, reduceCtorEq, head_wrong_1, head_wrong_1.body, cellN, load_imm, encHd]
            have s0 := hI.step 0 fp H (by omega) hi
            rw [i0] at s0
            refine CallV.mono s0 fun av H1 hh => ?_
            obtain ⟨fp1, t1, hh⟩ := hh
            refine runL_V 200 ?_
            rcases hh with ⟨rfl, hi1⟩ | ⟨rfl, hi1⟩
            rotate_left
            · simp (disch := first | omega | (simp only [List.length_append, List.length_cons, List.length_nil, List.length_set, List.length_map, List.length_take, List.length_drop]; omega)) only [stdh, goK_s2b, dgoK_s2b, isEff_s2b, isPure_s2b, goK_b2s, dgoK_b2s, isEff_b2s, isPure_b2s, evalOp_s2b, s2bR, goK_mark, dgoK_mark, isEff_mark, isPure_mark, evalOp_mark, markA_slc, markB, ↓reduceIte, Nat.reduceEqDiff, Int.reduceToNat, Int.reducePow, Nat.reduceAdd, Nat.reduceLeDiff, Nat.reduceMul, Nat.reduceBEq, reduceCtorEq]
              refine run_fin rfl rfl trivial ?_
              exact ⟨false, 1, fp1, t1.le, t1.kept, (fun e => by cases e), hi1⟩
            simp (disch := first | omega | (simp only [List.length_append, List.length_cons, List.length_nil, List.length_set, List.length_map, List.length_take, List.length_drop]; omega)) only [stdh, goK_s2b, dgoK_s2b, isEff_s2b, isPure_s2b, goK_b2s, dgoK_b2s, isEff_b2s, isPure_b2s, evalOp_s2b, s2bR, goK_mark, dgoK_mark, isEff_mark, isPure_mark, evalOp_mark, markA_slc, markB, ↓reduceIte, Nat.reduceEqDiff, Int.reduceToNat, Int.reducePow, Nat.reduceAdd, Nat.reduceLeDiff, Nat.reduceMul, Nat.reduceBEq, reduceCtorEq, load_imm]
            have s1 := hI.step 1 fp1 H1 (by omega) hi1
            rw [i1] at s1
            refine CallV.mono s1 fun av H2 hh => ?_
            obtain ⟨fp2, t2, hh⟩ := hh
            replace t2 := t1.trans t2
            refine runL_V 200 ?_
            rcases hh with ⟨rfl, hi2⟩ | ⟨rfl, hi2⟩
            rotate_left
            · simp (disch := first | omega | (simp only [List.length_append, List.length_cons, List.length_nil, List.length_set, List.length_map, List.length_take, List.length_drop]; omega)) only [stdh, goK_s2b, dgoK_s2b, isEff_s2b, isPure_s2b, goK_b2s, dgoK_b2s, isEff_b2s, isPure_b2s, evalOp_s2b, s2bR, goK_mark, dgoK_mark, isEff_mark, isPure_mark, evalOp_mark, markA_slc, markB, ↓reduceIte, Nat.reduceEqDiff, Int.reduceToNat, Int.reducePow, Nat.reduceAdd, Nat.reduceLeDiff, Nat.reduceMul, Nat.reduceBEq, reduceCtorEq]
              refine run_fin rfl rfl trivial ?_
              exact ⟨false, 2, fp2, t2.le, t2.kept, (fun e => by cases e), hi2⟩
            simp (disch := first | omega | (simp only [List.length_append, List.length_cons, List.length_nil, List.length_set, List.length_map, List.length_take, List.length_drop]; omega)) only [stdh, goK_s2b, dgoK_s2b, isEff_s2b, isPure_s2b, goK_b2s, dgoK_b2s, isEff_b2s, isPure_b2s, evalOp_s2b, s2bR, goK_mark, dgoK_mark, isEff_mark, isPure_mark, evalOp_mark, markA_slc, markB, ↓reduceIte, Nat.reduceEqDiff, Int.reduceToNat, Int.reducePow, Nat.reduceAdd, Nat.reduceLeDiff, Nat.reduceMul, Nat.reduceBEq, reduceCtorEq, load_imm]
            have s2 := hI.step 2 fp2 H2 (by omega) hi2
            rw [i2] at s2
            refine CallV.mono s2 fun av H3 hh => ?_
            obtain ⟨fp3, t3, hh⟩ := hh
            replace t3 := t2.trans t3
            refine runL_V 200 ?_
            rcases hh with ⟨rfl, hi3⟩ | ⟨rfl, hi3⟩
            rotate_left
            · simp (disch := first | omega | (simp only [List.length_append, List.length_cons, List.length_nil, List.length_set, List.length_map, List.length_take, List.length_drop]; omega)) only [stdh, goK_s2b, dgoK_s2b, isEff_s2b, isPure_s2b, goK_b2s, dgoK_b2s, isEff_b2s, isPure_b2s, evalOp_s2b, s2bR, goK_mark, dgoK_mark, isEff_mark, isPure_mark, evalOp_mark, markA_slc, markB, ↓reduceIte, Nat.reduceEqDiff, Int.reduceToNat, Int.reducePow, Nat.reduceAdd, Nat.reduceLeDiff, Nat.reduceMul, Nat.reduceBEq, reduceCtorEq]
              refine run_fin rfl rfl trivial ?_
              exact ⟨false, 3, fp3, t3.le, t3.kept, (fun e => by cases e), hi3⟩
            simp (disch := first | omega | (simp only [List.length_append, List.length_cons, List.length_nil, List.length_set, List.length_map, List.length_take, List.length_drop]; omega)) only [stdh, goK_s2b, dgoK_s2b, isEff_s2b, isPure_s2b, goK_b2s, dgoK_b2s, isEff_b2s, isPure_b2s, evalOp_s2b, s2bR, goK_mark, dgoK_mark, isEff_mark, isPure_mark, evalOp_mark, markA_slc, markB, ↓reduceIte, Nat.reduceEqDiff, Int.reduceToNat, Int.reducePow, Nat.reduceAdd, Nat.reduceLeDiff, Nat.reduceMul, Nat.reduceBEq, reduceCtorEq]
            refine run_fin rfl rfl trivial ?_
            exact ⟨true, 3, fp3, t3.le, t3.kept, fun _ => rfl, hi3⟩
          · skip
            have i0 : wrongItem h 0 = [.int .i64 10, .bool (decide (2 < h.v))] := by simp [wrongItem, bads, errs, h0]
            have i1 : wrongItem h 1 = [.int .i64 9, .bool true] := by simp [wrongItem, bads, errs, h1]
            have i2 : wrongItem h 2 = [.int .i64 3, .bool (decide (h.c ≤ h.i))] := by simp [wrongItem, bads, errs, h2, h3, h4]
            simp (disch := first | omega | (simp only [List.length_append, List.length_cons, List.length_nil, List.length_set, List.length_map, List.length_take, List.length_drop]; omega)) only [stdh, goK_s2b, dgoK_s2b, isEff_s2b, isPure_s2b, goK_b2s, dgoK_b2s, isEff_b2s, isPure_b2s, evalOp_s2b, s2bR, goK_mark, dgoK_mark, isEff_mark, isPure_mark, evalOp_mark, markA_slc, markB, ↓reduceIte, Nat.reduceEqDiff, Int.reduceToNat, Int.reducePow, Nat.reduceAdd, Nat.reduceLeDiff, Nat.reduceMul, Nat.reduceBEq, reduceCtorEq, head_wrong_1, head_wrong_1.body, cellN, load_imm, encHd]
            have s0 := hI.step 0 fp H (by omega) hi
            rw [i0] at s0
            refine CallV.mono s0 fun av H1 hh => ?_
            obtain ⟨fp1, t1, hh⟩ := hh
            refine runL_V 200 ?_
            rcases hh with ⟨rfl, hi1⟩ | ⟨rfl, hi1⟩
            rotate_left
            · simp (disch := first | omega | (simp only [List.length_append, List.length_cons, List.length_nil, List.length_set, List.length_map, List.length_take, List.length_drop]; omega)) only [stdh, goK_s2b, dgoK_s2b, isEff_s2b, isPure_s2b, goK_b2s, dgoK_b2s, isEff_b2s, isPure_b2s, evalOp_s2b, s2bR, goK_mark, dgoK_mark, isEff_mark, isPure_mark, evalOp_mark, markA_slc, markB, ↓reduceIte, Nat.reduceEqDiff, Int.reduceToNat, Int.reducePow, Nat.reduceAdd, Nat.reduceLeDiff, Nat.reduceMul, Nat.reduceBEq, reduceCtorEq]
              refine run_fin rfl rfl trivial ?_
              exact ⟨false, 1, fp1, t1.le, t1.kept, (fun e => by cases e), hi1⟩
            simp (disch := first | omega | (simp only [List.length_append, List.length_cons, List.length_nil, List.length_set, List.length_map, List.length_take, List.length_drop]; omega)) only [stdh, goK_s2b, dgoK_s2b, isEff_s2b, isPure_s2b, goK_b2s, dgoK_b2s, isEff_b2s, isPure_b2s, evalOp_s2b, s2bR, goK_mark, dgoK_mark, isEff_mark, isPure_mark, evalOp_mark, markA_slc, markB, ↓reduceIte, Nat.reduceEqDiff, Int.reduceToNat, Int.reducePow, Nat.reduceAdd, Nat.reduceLeDiff, Nat.reduceMul, Nat.reduceBEq, reduceCtorEq, load_imm]
            have s1 := hI.step 1 fp1 H1 (by omega) hi1
            rw [i1] at s1
            refine CallV.mono s1 fun av H2 hh => ?_
            obtain ⟨fp2, t2, hh⟩ := hh
            replace t2 := t1.trans t2
            refine runL_V 200 ?_
            rcases hh with ⟨rfl, hi2⟩ | ⟨rfl, hi2⟩
            rotate_left
            · simp (disch := first | omega | (simp only [List.length_append, List.length_cons, List.length_nil, List.length_set, List.length_map, List.length_take, List.length_drop]; omega)) only [stdh, goK_s2b, dgoK_s2b, isEff_s2b, isPure_s2b, goK_b2s, dgoK_b2s, isEff_b2s, isPure_b2s, evalOp_s2b, s2bR, goK_mark, dgoK_mark, isEff_mark, isPure_mark, evalOp_mark, markA_slc, markB, ↓reduceIte, Nat.reduceEqDiff, Int.reduceToNat, Int.reducePow, Nat.reduceAdd, Nat.reduceLeDiff, Nat.reduceMul, Nat.reduceBEq, reduceCtorEq]
              refine run_fin rfl rfl trivial ?_
              exact ⟨false, 2, fp2, t2.le, t2.kept, (fun e => by cases e), hi2⟩
            simp (disch := first | omega | (simp only [List.length_append, List.length_cons, List.length_nil, List.length_set, List.length_map, List.length_take, List.length_drop]; omega)) only [stdh, goK_s2b, dgoK_s2b, isEff_s2b, isPure_s2b, goK_b2s, dgoK_b2s, isEff_b2s, isPure_b2s, evalOp_s2b, s2bR, goK_mark, dgoK_mark, isEff_mark, isPure_mark, evalOp_mark, markA_slc, markB, ↓reduceIte, Nat.reduceEqDiff, Int.reduceToNat, Int.reducePow, Nat.reduceAdd, Nat.reduceLeDiff, Nat.reduceMul, Nat.reduceBEq, reduceCtorEq, load_imm]
            have s2 := hI.step 2 fp2 H2 (by omega) hi2
            rw [i2] at s2
            refine CallV.mono s2 fun av H3 hh => ?_
            obtain ⟨fp3, t3, hh⟩ := hh
            replace t3 := t2.trans t3
            refine runL_V 200 ?_
            rcases hh with ⟨rfl, hi3⟩ | ⟨rfl, hi3⟩
            rotate_left
            · simp (disch := first | omega | (simp only [List.length_append, List.length_cons, List.length_nil, List.length_set, List.length_map, List.length_take, List.length_drop]; omega)) only [stdh, goK_s2b, dgoK_s2b, isEff_s2b, isPure_s2b, goK_b2s, dgoK_b2s, isEff_b2s, isPure_b2s, evalOp_s2b, s2bR, goK_mark, dgoK_mark, isEff_mark, isPure_mark, evalOp_mark, markA_slc, markB, ↓reduceIte, Nat.reduceEqDiff, Int.reduceToNat, Int.reducePow, Nat.reduceAdd, Nat.reduceLeDiff, Nat.reduceMul, Nat.reduceBEq, reduceCtorEq]
              refine run_fin rfl rfl trivial ?_
              exact ⟨false, 3, fp3, t3.le, t3.kept, (fun e => by cases e), hi3⟩
            simp (disch := first | omega | (simp only [List.length_append, List.length_cons, List.length_nil, List.length_set, List.length_map, List.length_take, List.length_drop]; omega)) only [stdh, goK_s2b, dgoK_s2b, isEff_s2b, isPure_s2b, goK_b2s, dgoK_b2s, isEff_b2s, isPure_b2s, evalOp_s2b, s2bR, goK_mark, dgoK_mark, isEff_mark, isPure_mark, evalOp_mark, markA_slc, markB, ↓reduceIte, Nat.reduceEqDiff, Int.reduceToNat, Int.reducePow, Nat.reduceAdd, Nat.reduceLeDiff, Nat.reduceMul, Nat.reduceBEq, reduceCtorEq]
            refine run_fin rfl rfl trivial ?_
            exact ⟨true, 3, fp3, t3.le, t3.kept, fun _ => rfl, hi3⟩
    · skip
      by_cases h2 : h.c < 1
      · skip
        have i0 : wrongItem h 0 = [.int .i64 10, .bool (decide (2 < h.v))] := by simp [wrongItem, bads, errs, h0]
        have i1 : wrongItem h 1 = [.int .i64 9, .bool (decide (5 < h.k))] := by simp [wrongItem, bads, errs, h1]
        have i2 : wrongItem h 2 = [.int .i64 3, .bool true] := by simp [wrongItem, bads, errs, h2]
        simp (disch := first | omega | (simp only [List.length_append, List.length_cons, List.length_nil, List.length_set, List.length_map, List.length_take, List.length_drop]; omega)) only [stdh, goK_s2b, dgoK_s2b, isEff_s2b, isPure_s2b, goK_b2s, dgoK_b2s, isEff_b2s, isPure_b2s, evalOp_s2b, s2bR, goK_mark, dgoK_mark, isEff_mark, isPure_mark, evalOp_mark, markA_slc, markB, ↓reduceIte, Nat.reduceEqDiff, Int.reduceToNat, Int.reducePow, Nat.reduceAdd, Nat.reduceLeDiff, Nat.reduceMul, Nat.reduceBEq, reduceCtorEq, head_wrong_1, head_wrong_1.body, cellN, load_imm, encHd]
        have s0 := hI.step 0 fp H (by omega) hi
        rw [i0] at s0
        refine CallV.mono s0 fun av H1 hh => ?_
        obtain ⟨fp1, t1, hh⟩ := hh
        refine runL_V 200 ?_
        rcases hh with ⟨rfl, hi1⟩ | ⟨rfl, hi1⟩
        rotate_left
        · simp (disch := first | omega | (simp only [List.length_append, List.length_cons, List.length_nil, List.length_set, List.length_map, List.length_take, List.length_drop]; omega)) only [stdh, goK_s2b, dgoK_s2b, isEff_s2b, isPure_s2b, goK_b2s, dgoK_b2s, isEff_b2s, isPure_b2s, evalOp_s2b, s2bR, goK_mark, dgoK_mark, isEff_mark, isPure_mark, evalOp_mark, markA_slc, markB, ↓reduceIte, Nat.reduceEqDiff, Int.reduceToNat, Int.reducePow, Nat.reduceAdd, Nat.reduceLeDiff, Nat.reduceMul, Nat.reduceBEq, reduceCtorEq]
          refine run_fin rfl rfl trivial ?_
          exact ⟨false, 1, fp1, t1.le, t1.kept, (fun e => by cases e), hi1⟩
        simp (disch := first | omega | (simp only [List.length_append, List.length_cons, List.length_nil, List.length_set, List.length_map, List.length_take, List.length_drop]; omega)) only [stdh, goK_s2b, dgoK_s2b, isEff_s2b, isPure_s2b, goK_b2s, dgoK_b2s, isEff_b2s, isPure_b2s, evalOp_s2b, s2bR, goK_mark, dgoK_mark, isEff_mark, isPure_mark, evalOp_mark, markA_slc, markB, ↓reduceIte, Nat.reduceEqDiff, Int.reduceToNat, Int.reducePow, Nat.reduceAdd, Nat.reduceLeDiff, Nat.reduceMul, Nat.reduceBEq, reduceCtorEq, load_imm]
        have s1 := hI.step 1 fp1 H1 (by omega) hi1
        rw [i1] at s1
        refine CallV.mono s1 fun av H2 hh => ?_
        obtain ⟨fp2, t2, hh⟩ := hh
        replace t2 := t1.trans t2
        refine runL_V 200 ?_
        rcases hh with ⟨rfl, hi2⟩ | ⟨rfl, hi2⟩
        rotate_left
        · simp (disch := first | omega | (simp only [List.length_append, List.length_cons, List.length_nil, List.length_set, List.length_map, List.length_take, List.length_drop]; omega)) only [stdh, goK_s2b, dgoK_s2b, isEff_s2b, isPure_s2b, goK_b2s, dgoK_b2s, isEff_b2s, isPure_b2s, evalOp_s2b, s2bR, goK_mark, dgoK_mark, isEff_mark, isPure_mark, evalOp_mark, markA_slc, markB, ↓reduceIte, Nat.reduceEqDiff, Int.reduceToNat, Int.reducePow, Nat.reduceAdd, Nat.reduceLeDiff, Nat.reduceMul, Nat.reduceBEq, reduceCtorEq]
          refine run_fin rfl rfl trivial ?_
          exact ⟨false, 2, fp2, t2.le, t2.kept, (fun e => by cases e), hi2⟩
        simp (disch := first | omega | (simp only [List.length_append, List.length_cons, List.length_nil, List.length_set, List.length_map, List.length_take, List.length_drop]; omega)) only [stdh, goK_s2b, dgoK_s2b, isEff_s2b, isPure_s2b, goK_b2s, dgoK_b2s, isEff_b2s, isPure_b2s, evalOp_s2b, s2bR, goK_mark, dgoK_mark, isEff_mark, isPure_mark, evalOp_mark, markA_slc, markB, ↓reduceIte, Nat.reduceEqDiff, Int.reduceToNat, Int.reducePow, Nat.reduceAdd, Nat.reduceLeDiff, Nat.reduceMul, Nat.reduceBEq, reduceCtorEq, load_imm]
        have s2 := hI.step 2 fp2 H2 (by omega) hi2
        rw [i2] at s2
        refine CallV.mono s2 fun av H3 hh => ?_
        obtain ⟨fp3, t3, hh⟩ := hh
        replace t3 := t2.trans t3
        refine runL_V 200 ?_
        rcases hh with ⟨rfl, hi3⟩ | ⟨rfl, hi3⟩
        rotate_left
        · simp (disch := first | omega | (simp only [List.length_append, List.length_cons, List.length_nil, List.length_set, List.length_map, List.length_take, List.length_drop]; omega)) only [stdh, goK_s2b, dgoK_s2b, isEff_s2b, isPure_s2b, goK_b2s, dgoK_b2s, isEff_b2s, isPure_b2s, evalOp_s2b, s2bR, goK_mark, dgoK_mark, isEff_mark, isPure_mark, evalOp_mark, markA_slc, markB, ↓reduceIte, Nat.reduceEqDiff, Int.reduceToNat, Int.reducePow, Nat.reduceAdd, Nat.reduceLeDiff, Nat.reduceMul, Nat.reduceBEq, reduceCtorEq]
          refine run_fin rfl rfl trivial ?_
          exact ⟨false, 3, fp3, t3.le, t3.kept, (fun e => by cases e), hi3⟩
        simp (disch := first | omega | (simp only [List.length_append, List.length_cons, List.length_nil, List.length_set, List.length_map, List.length_take, List.length_drop]; omega)) only [stdh, goK_s2b, dgoK_s2b, isEff_s2b, isPure_s2b, goK_b2s, dgoK_b2s, isEff_b2s, isPure_b2s, evalOp_s2b, s2bR, goK_mark, dgoK_mark, isEff_mark, isPure_mark, evalOp_mark, markA_slc, markB, ↓reduceIte, Nat.reduceEqDiff, Int.reduceToNat, Int.reducePow, Nat.reduceAdd, Nat.reduceLeDiff, Nat.reduceMul, Nat.reduceBEq, reduceCtorEq]
        refine run_fin rfl rfl trivial ?_
        exact ⟨true, 3, fp3, t3.le, t3.kept, fun _ => rfl, hi3⟩
      · by_cases h3 : 255 < h.c
        · skip
          have i0 : wrongItem h 0 = [.int .i64 10, .bool (decide (2 < h.v))] := by simp [wrongItem, bads, errs, h0]
          have i1 : wrongItem h 1 = [.int .i64 9, .bool (decide (5 < h.k))] := by simp [wrongItem, bads, errs, h1]
          have i2 : wrongItem h 2 = [.int .i64 3, .bool true] := by simp [wrongItem, bads, errs, h2, h3]
          simp (disch := first | omega | (simp only [List.length_append, List.length_cons, List.length_nil, List.length_set, List.length_map, List.length_take, List.length_drop]; omega)) only [stdh, goK_s2b, dgoK_s2b, isEff_s2b, isPure_s2b, goK_b2s, dgoK_b2s, isEff_b2s, isPure_b2s, evalOp_s2b, s2bR, goK_mark, dgoK_mark, isEff_mark, isPure_mark, evalOp_mark, markA_slc, markB, ↓reduceIte, Nat.reduceEqDiff, Int.reduceToNat, Int.reducePow, Nat.reduceAdd, Nat.reduceLeDiff, Nat.reduceMul, Nat.reduceBEq, reduceCtorEq, head_wrong_1, head_wrong_1.body, cellN, load_imm, encHd]
          have s0 := hI.step 0 fp H (by omega) hi
          rw [i0] at s0
          refine CallV.mono s0 fun av H1 hh => ?_
          obtain ⟨fp1, t1, hh⟩ := hh
          refine runL_V 200 ?_
          rcases hh with ⟨rfl, hi1⟩ | ⟨rfl, hi1⟩
          rotate_left
          · simp (disch := first | omega | (simp only [List.length_append, List.length_cons, List.length_nil, List.length_set, List.length_map, List.length_take, List.length_drop]; omega)) only [stdh, goK_s2b, dgoK_s2b, isEff_s2b, isPure_s2b, goK_b2s, dgoK_b2s, isEff_b2s, isPure_b2s, evalOp_s2b, s2bR, goK_mark, dgoK_mark, isEff_mark, isPure_mark, evalOp_mark, markA_slc, markB, ↓reduceIte, Nat.reduceEqDiff, Int.reduceToNat, Int.reducePow, Nat.reduceAdd, Nat.reduceLeDiff, Nat.reduceMul, Nat.reduceBEq, reduceCtorEq]
            refine run_fin rfl rfl trivial ?_
            exact ⟨false, 1, fp1, t1.le, t1.kept, (fun e => by cases e), hi1⟩
          simp (disch := first | omega | (simp only [List.length_append, List.length_cons, List.length_nil, List.length_set, List.length_map, List.length_take, List.length_drop]; omega)) only [stdh, goK_s2b, dgoK_s2b, isEff_s2b, isPure_s2b, goK_b2s, dgoK_b2s, isEff_b2s, isPure_b2s, evalOp_s2b, s2bR, goK_mark, dgoK_mark, isEff_mark, isPure_mark, evalOp_mark, markA_slc, markB, ↓reduceIte, Nat.reduceEqDiff, Int.reduceToNat, Int.reducePow, Nat.reduceAdd, Nat.reduceLeDiff, Nat.reduceMul, Nat.reduceBEq, reduceCtorEq, load_imm]
          have s1 := hI.step 1 fp1 H1 (by omega) hi1
          rw [i1] at s1
          refine CallV.mono s1 fun av H2 hh => ?_
          obtain ⟨fp2, t2, hh⟩ := hh
          replace t2 := t1.trans t2
          refine runL_V 200 ?_
          rcases hh with ⟨rfl, hi2⟩ | ⟨rfl, hi2⟩
          rotate_left
          · simp (disch := first | omega | (simp only [List.length_append, List.length_cons, List.length_nil, List.length_set, List.length_map, List.length_take, List.length_drop]; omega)) only [stdh, goK_s2b, dgoK_s2b, isEff_s2b, isPure_s2b, goK_b2s, dgoK_b2s, isEff_b2s, isPure_b2s, evalOp_s2b, s2bR, goK_mark, dgoK_mark, isEff_mark, isPure_mark, evalOp_mark, markA_slc, markB, ↓reduceIte, Nat.reduceEqDiff, Int.reduceToNat, Int.reducePow, Nat.reduceAdd, Nat.reduceLeDiff, Nat.reduceMul, Nat.reduceBEq, reduceCtorEq]
            refine run_fin rfl rfl trivial ?_
            exact ⟨false, 2, fp2, t2.le, t2.kept, (fun e => by cases e), hi2⟩
          simp (disch := first | omega | (simp only [List.length_append, List.length_cons, List.length_nil, List.length_set, List.length_map, List.length_take, List.length_drop]; omega)) only [stdh, goK_s2b, dgoK_s2b, isEff_s2b, isPure_s2b, goK_b2s, dgoK_b2s, isEff_b2s, isPure_b2s, evalOp_s2b, s2bR, goK_mark, dgoK_mark, isEff_mark, isPure_mark, evalOp_mark, markA_slc, markB, ↓reduceIte, Nat.reduceEqDiff, Int.reduceToNat, Int.reducePow, Nat.reduceAdd, Nat.reduceLeDiff, Nat.reduceMul, Nat.reduceBEq, reduceCtorEq, load_imm]
          have s2 := hI.step 2 fp2 H2 (by omega) hi2
          rw [i2] at s2
          refine CallV.mono s2 fun av H3 hh => ?_
          obtain ⟨fp3, t3, hh⟩ := hh
          replace t3 := t2.trans t3
          refine runL_V 200 ?_
          rcases hh with ⟨rfl, hi3⟩ | ⟨rfl, hi3⟩
          rotate_left
          · simp (disch := first | omega | (simp only [List.length_append, List.length_cons, List.length_nil, List.length_set, List.length_map, List.length_take, List.length_drop]; omega)) only [stdh, goK_s2b, dgoK_s2b, isEff_s2b, isPure_s2b, goK_b2s, dgoK_b2s, isEff_b2s, isPure_b2s, evalOp_s2b, s2bR, goK_mark, dgoK_mark, isEff_mark, isPure_mark, evalOp_mark, markA_slc, markB, ↓reduceIte, Nat.reduceEqDiff, Int.reduceToNat, Int.reducePow, Nat.reduceAdd, Nat.reduceLeDiff, Nat.reduceMul, Nat.reduceBEq, reduceCtorEq]
            refine run_fin rfl rfl trivial ?_
            exact ⟨false, 3, fp3, t3.le, t3.kept, (fun e => by cases e), hi3⟩
          simp (disch := first | omega | (simp only [List.length_append, List.length_cons, List.length_nil, List.length_set, List.length_map, List.length_take, List.length_drop]; omega)) only [stdh, goK_s2b, dgoK_s2b, isEff_s2b, isPure_s2b, goK_b2s, dgoK_b2s, isEff_b2s, isPure_b2s, evalOp_s2b, s2bR, goK_mark, dgoK_mark, isEff_mark, isPure_mark, evalOp_mark, markA_slc, markB, ↓reduceIte, Nat.reduceEqDiff, Int.reduceToNat, Int.reducePow, Nat.reduceAdd, Nat.reduceLeDiff, Nat.reduceMul, Nat.reduceBEq, reduceCtorEq]
          refine run_fin rfl rfl trivial ?_
          exact ⟨true, 3, fp3, t3.le, t3.kept, fun _ => rfl, hi3⟩
        · by_cases h4 : h.i < 0
          · skip
            have i0 : wrongItem h 0 = [.int .i64 10, .bool (decide (2 < h.v))] := by simp [wrongItem, bads, errs, h0]
            have i1 : wrongItem h 1 = [.int .i64 9, .bool (decide (5 < h.k))] := by simp [wrongItem, bads, errs, h1]
            have i2 : wrongItem h 2 = [.int .i64 3, .bool true] := by simp [wrongItem, bads, errs, h2, h3, h4]
            simp (disch := first | omega | (simp only [List.length_append, List.length_cons, List.length_nil, List.length_set, List.length_map, List.length_take, List.length_drop]; omega)) only [stdh, goK_s2b, dgoK_s2b, isEff_s2b, isPure_s2b, goK_b2s, dgoK_b2s, isEff_b2s, isPure_b2s, evalOp_s2b, s2bR, goK_mark, dgoK_mark, isEff_mark, isPure_mark, evalOp_mark, markA_slc, markB, ↓reduceIte, Nat.reduceEqDiff, Int.reduceToNat, Int.reducePow, Nat.reduceAdd, Nat.reduceLeDiff, Nat.reduceMul, Nat.reduceBEq, reduceCtorEq, head_wrong_1, head_wrong_1.body, cellN, load_imm, encHd]
            have s0 := hI.step 0 fp H (by omega) hi
            rw [i0] at s0
            refine CallV.mono s0 fun av H1 hh => ?_
            obtain ⟨fp1, t1, hh⟩ := hh
            refine runL_V 200 ?_
            rcases hh with ⟨rfl, hi1⟩ | ⟨rfl, hi1⟩
            rotate_left
            · simp (disch := first | omega | (simp only [List.length_append, List.length_cons, List.length_nil, List.length_set, List.length_map, List.length_take, List.length_drop]; omega)) only [stdh, goK_s2b, dgoK_s2b, isEff_s2b, isPure_s2b, goK_b2s, dgoK_b2s, isEff_b2s, isPure_b2s, evalOp_s2b, s2bR, goK_mark, dgoK_mark, isEff_mark, isPure_mark, evalOp_mark, markA_slc, markB, ↓reduceIte, Nat.reduceEqDiff, Int.reduceToNat, Int.reducePow, Nat.reduceAdd, Nat.reduceLeDiff, Nat.reduceMul, Nat.reduceBEq, reduceCtorEq]
              refine run_fin rfl rfl trivial ?_
              exact ⟨false, 1, fp1, t1.le, t1.kept, (fun e => by cases e), hi1⟩
            simp (disch := first | omega | (simp only [List.length_append, List.length_cons, List.length_nil, List.length_set, List.length_map, List.length_take, List.length_drop]; omega)) only [stdh, goK_s2b, dgoK_s2b, isEff_s2b, isPure_s2b, goK_b2s, dgoK_b2s, isEff_b2s, isPure_b2s, evalOp_s2b, s2bR, goK_mark, dgoK_mark, isEff_mark, isPure_mark, evalOp_mark, markA_slc, markB, ↓reduceIte, Nat.reduceEqDiff, Int.reduceToNat, Int.reducePow, Nat.reduceAdd, Nat.reduceLeDiff, Nat.reduceMul, Nat.reduceBEq, reduceCtorEq, load_imm]
            have s1 := hI.step 1 fp1 H1 (by omega) hi1
            rw [i1] at s1
            refine CallV.mono s1 fun av H2 hh => ?_
            obtain ⟨fp2, t2, hh⟩ := hh
            replace t2 := t1.trans t2
            refine runL_V 200 ?_
            rcases hh with ⟨rfl, hi2⟩ | ⟨rfl, hi2⟩
            rotate_left
            · simp (disch := first | omega | (simp only [List.length_append, List.length_cons, List.length_nil, List.length_set, List.length_map, List.length_take, List.length_drop]; omega)) only [stdh, goK_s2b, dgoK_s2b, isEff_s2b, isPure_s2b, goK_b2s, dgoK_b2s, isEff_b2s, isPure_b2s, evalOp_s2b, s2bR, goK_mark, dgoK_mark, isEff_mark, isPure_mark, evalOp_mark, markA_slc, markB, ↓reduceIte, Nat.reduceEqDiff, Int.reduceToNat, Int.reducePow, Nat.reduceAdd, Nat.reduceLeDiff, Nat.reduceMul, Nat.reduceBEq, reduceCtorEq]
              refine run_fin rfl rfl trivial ?_
              exact ⟨false, 2, fp2, t2.le, t2.kept, (fun e => by cases e), hi2⟩
            simp (disch := first | omega | (simp only [List.length_append, List.length_cons, List.length_nil, List.length_set, List.length_map, List.length_take, List.length_drop]; omega)) only [stdh, goK_s2b, dgoK_s2b, isEff_s2b, isPure_s2b, goK_b2s, dgoK_b2s, isEff_b2s, isPure_b2s, evalOp_s2b, s2bR, goK_mark, dgoK_mark, isEff_mark, isPure_mark, evalOp_mark, markA_slc, markB, ↓reduceIte, Nat.reduceEqDiff, Int.reduceToNat, Int.reducePow, Nat.reduceAdd, Nat.reduceLeDiff, Nat.reduceMul, Nat.reduceBEq, reduceCtorEq, load_imm]
            have s2 := hI.step 2 fp2 H2 (by omega) hi2
            rw [i2] at s2
            refine CallV.mono s2 fun av H3 hh => ?_
            obtain ⟨fp3, t3, hh⟩ := hh
            replace t3 := t2.trans t3
            refine runL_V 200 ?_
            rcases hh with ⟨rfl, hi3⟩ | ⟨rfl, hi3⟩
            rotate_left
            · simp (disch := first | omega | (simp only [List.length_append, List.length_cons, List.length_nil, List.length_set, List.length_map, List.length_take, List.length_drop]; omega)) only [stdh, goK_s2b, dgoK_s2b, isEff_s2b, isPure_s2b, goK_b2s, dgoK_b2s, isEff_b2s, isPure_b2s, evalOp_s2b, s2bR, goK_mark, dgoK_mark, isEff_mark, isPure_mark, evalOp_mark, markA_slc, markB, ↓reduceIte, Nat.reduceEqDiff, Int.reduceToNat, Int.reducePow, Nat.reduceAdd, Nat.reduceLeDiff, Nat.reduceMul, Nat.reduceBEq, reduceCtorEq]
              refine run_fin rfl rfl trivial ?_
              exact ⟨false, 3, fp3, t3.le, t3.kept, (fun e => by cases e), hi3⟩
            simp (disch := first | omega | (simp only [List.length_append, List.length_cons, List.length_nil, List.length_set, List.length_map, List.length_take, List.length_drop]; omega)) only [stdh, goK_s2b, dgoK_s2b, isEff_s2b, isPure_s2b, goK_b2s, dgoK_b2s, isEff_b2s, isPure_b2s, evalOp_s2b, s2bR, goK_mark, dgoK_mark, isEff_mark, isPure_mark, evalOp_mark, markA_slc, markB, ↓reduceIte, Nat.reduceEqDiff, Int.reduceToNat, Int.reducePow, Nat.reduceAdd, Nat.reduceLeDiff, Nat.reduceMul, Nat.reduceBEq, reduceCtorEq]
            refine run_fin rfl rfl trivial ?_
            exact ⟨true, 3, fp3, t3.le, t3.kept, fun _ => rfl, hi3⟩
          · skip
            have i0 : wrongItem h 0 = [.int .i64 10, .bool (decide (2 < h.v))] := by simp [wrongItem, bads, errs, h0]
            have i1 : wrongItem h 1 = [.int .i64 9, .bool (decide (5 < h.k))] := by simp [wrongItem, bads, errs, h1]
            have i2 : wrongItem h 2 = [.int .i64 3, .bool (decide (h.c ≤ h.i))] := by simp [wrongItem, bads, errs, h2, h3, h4]
            simp (disch := first | omega | (simp only [List.length_append, List.length_cons, List.length_nil, List.length_set, List.length_map, List.length_take, List.length_drop]; omega)) only [stdh, goK_s2b, dgoK_s2b, isEff_s2b, isPure_s2b, goK_b2s, dgoK_b2s, isEff_b2s, isPure_b2s, evalOp_s2b, s2bR, goK_mark, dgoK_mark, isEff_mark, isPure_mark, evalOp_mark, markA_slc, markB, ↓reduceIte, Nat.reduceEqDiff, Int.reduceToNat, Int.reducePow, Nat.reduceAdd, Nat.reduceLeDiff, Nat.reduceMul, Nat.reduceBEq, reduceCtorEq, head_wrong_1, head_wrong_1.body, cellN, load_imm, encHd]
            have s0 := hI.step 0 fp H (by omega) hi
            rw [i0] at s0
            refine CallV.mono s0 fun av H1 hh => ?_
            obtain ⟨fp1, t1, hh⟩ := hh
            refine runL_V 200 ?_
            rcases hh with ⟨rfl, hi1⟩ | ⟨rfl, hi1⟩
            rotate_left
            · simp (disch := first | omega | (simp only [List.length_append, List.length_cons, List.length_nil, List.length_set, List.length_map, List.length_take, List.length_drop]; omega)) only [stdh, goK_s2b, dgoK_s2b, isEff_s2b, isPure_s2b, goK_b2s, dgoK_b2s, isEff_b2s, isPure_b2s, evalOp_s2b, s2bR, goK_mark, dgoK_mark, isEff_mark, isPure_mark, evalOp_mark, markA_slc, markB, ↓reduceIte, Nat.reduceEqDiff, Int.reduceToNat, Int.reducePow, Nat.reduceAdd, Nat.reduceLeDiff, Nat.reduceMul, Nat.reduceBEq, reduceCtorEq]
              refine run_fin rfl rfl trivial ?_
              exact ⟨false, 1, fp1, t1.le, t1.kept, (fun e => by cases e), hi1⟩
            simp (disch := first | omega | (simp only [List.length_append, List.length_cons, List.length_nil, List.length_set, List.length_map, List.length_take, List.length_drop]; omega)) only [stdh, goK_s2b, dgoK_s2b, isEff_s2b, isPure_s2b, goK_b2s, dgoK_b2s, isEff_b2s, isPure_b2s, evalOp_s2b, s2bR, goK_mark, dgoK_mark, isEff_mark, isPure_mark, evalOp_mark, markA_slc, markB, ↓reduceIte, Nat.reduceEqDiff, Int.reduceToNat, Int.reducePow, Nat.reduceAdd, Nat.reduceLeDiff, Nat.reduceMul, Nat.reduceBEq, reduceCtorEq, load_imm]
            have s1 := hI.step 1 fp1 H1 (by omega) hi1
            rw [i1] at s1
            refine CallV.mono s1 fun av H2 hh => ?_
            obtain ⟨fp2, t2, hh⟩ := hh
            replace t2 := t1.trans t2
            refine runL_V 200 ?_
            rcases hh with ⟨rfl, hi2⟩ | ⟨rfl, hi2⟩
            rotate_left
            · simp (disch := first | omega | (simp only [List.length_append, List.length_cons, List.length_nil, List.length_set, List.length_map, List.length_take, List.length_drop]; omega)) only [stdh, goK_s2b, dgoK_s2b, isEff_s2b, isPure_s2b, goK_b2s, dgoK_b2s, isEff_b2s, isPure_b2s, evalOp_s2b, s2bR, goK_mark, dgoK_mark, isEff_mark, isPure_mark, evalOp_mark, markA_slc, markB, ↓reduceIte, Nat.reduceEqDiff, Int.reduceToNat, Int.reducePow, Nat.reduceAdd, Nat.reduceLeDiff, Nat.reduceMul, Nat.reduceBEq, reduceCtorEq]
              refine run_fin rfl rfl trivial ?_
              exact ⟨false, 2, fp2, t2.le, t2.kept, (fun e => by cases e), hi2⟩
            simp (disch := first | omega | (simp only [List.length_append, List.length_cons, List.length_nil, List.length_set, List.length_map, List.length_take, List.length_drop]; omega)) only [stdh, goK_s2b, dgoK_s2b, isEff_s2b, isPure_s2b, goK_b2s, dgoK_b2s, isEff_b2s, isPure_b2s, evalOp_s2b, s2bR, goK_mark, dgoK_mark, isEff_mark, isPure_mark, evalOp_mark, markA_slc, markB, ↓reduceIte, Nat.reduceEqDiff, Int.reduceToNat, Int.reducePow, Nat.reduceAdd, Nat.reduceLeDiff, Nat.reduceMul, Nat.reduceBEq, reduceCtorEq, load_imm]
            have s2 := hI.step 2 fp2 H2 (by omega) hi2
            rw [i2] at s2
            refine CallV.mono s2 fun av H3 hh => ?_
            obtain ⟨fp3, t3, hh⟩ := hh
            replace t3 := t2.trans t3
            refine runL_V 200 ?_
            rcases hh with ⟨rfl, hi3⟩ | ⟨rfl, hi3⟩
            rotate_left
            · simp (disch := first | omega | (simp only [List.length_append, List.length_cons, List.length_nil, List.length_set, List.length_map, List.length_take, List.length_drop]; omega)) only [stdh, goK_s2b, dgoK_s2b, isEff_s2b, isPure_s2b, goK_b2s, dgoK_b2s, isEff_b2s, isPure_b2s, evalOp_s2b, s2bR, goK_mark, dgoK_mark, isEff_mark, isPure_mark, evalOp_mark, markA_slc, markB, ↓reduceIte, Nat.reduceEqDiff, Int.reduceToNat, Int.reducePow, Nat.reduceAdd, Nat.reduceLeDiff, Nat.reduceMul, Nat.reduceBEq, reduceCtorEq]
              refine run_fin rfl rfl trivial ?_
              exact ⟨false, 3, fp3, t3.le, t3.kept, (fun e => by cases e), hi3⟩
            simp (disch := first | omega | (simp only [List.length_append, List.length_cons, List.length_nil, List.length_set, List.length_map, List.length_take, List.length_drop]; omega)) only [stdh, goK_s2b, dgoK_s2b, isEff_s2b, isPure_s2b, goK_b2s, dgoK_b2s, isEff_b2s, isPure_b2s, evalOp_s2b, s2bR, goK_mark, dgoK_mark, isEff_mark, isPure_mark, evalOp_mark, markA_slc, markB, ↓reduceIte, Nat.reduceEqDiff, Int.reduceToNat, Int.reducePow, Nat.reduceAdd, Nat.reduceLeDiff, Nat.reduceMul, Nat.reduceBEq, reduceCtorEq]
            refine run_fin rfl rfl trivial ?_
            exact ⟨true, 3, fp3, t3.le, t3.kept, fun _ => rfl, hi3⟩


theorem wrong_ok (H : AHeap) (h : Hd) (Q : AVal → AHeap → Prop) (hq : Q (.fn F.head_wrong_1 [] [cellN (encHd h)]) H) : FunOK Try.prog F.head_wrong [.agg (encHd h)] H Q := by
  refine fun_iced head_wrong_code fun _ => ?_
  refine fun_V 60 head_wrong_code rfl ?_
  have hce : (encHd h).all AVal.cellish = true := rfl
  simp (disch := first | omega | (simp only [List.length_append, List.length_cons, List.length_nil, List.length_set, List.length_map, List.length_take, List.length_drop]; omega)) only [stdh, goK_s2b, dgoK_s2b, isEff_s2b, isPure_s2b, goK_b2s, dgoK_b2s, isEff_b2s, isPure_b2s, evalOp_s2b, s2bR, goK_mark, dgoK_mark, isEff_mark, isPure_mark, evalOp_mark, markA_slc, markB, ↓reduceIte, Nat.reduceEqDiff, Int.reduceToNat, Int.reducePow, Nat.reduceAdd, Nat.reduceLeDiff, Nat.reduceMul, Nat.reduceBEq, reduceCtorEq, head_wrong, head_wrong.body, hce]
  exact ice_cloN (by simp [encHd, closeds, closed]) hq

def cStop (h : Hd) (j : Nat) : Option AJump := if bads h j then some (.exit 0) else none
def cVal (h : Hd) (j : Nat) : AVal := .int .i64 ((if 0 < j ∧ bads h (j - 1) then errs (j - 1) else 0 : Nat) : Int)

theorem check_ok (H : AHeap) (h : Hd) (Q : AVal → AHeap → Prop) (hq : Q (.int .i64 (checkOf h : Nat)) H) : FunOK Try.prog F.head_Check [.agg (encHd h)] H Q := by
  refine fun_iced head_Check_code fun _ => ?_
  refine fun_V 60 head_Check_code rfl ?_
  have hce : (encHd h).all AVal.cellish = true := rfl
  have hel : (encHd h).length = 5 := rfl
  have het : (encHd h).take 5 = encHd h := rfl
  simp (disch := first | omega | (simp only [List.length_append, List.length_cons, List.length_nil, List.length_set, List.length_map, List.length_take, List.length_drop]; omega)) only [stdh, goK_s2b, dgoK_s2b, isEff_s2b, isPure_s2b, goK_b2s, dgoK_b2s, isEff_b2s, isPure_b2s, evalOp_s2b, s2bR, goK_mark, dgoK_mark, isEff_mark, isPure_mark, evalOp_mark, markA_slc, markB, ↓reduceIte, Nat.reduceEqDiff, Int.reduceToNat, Int.reducePow, Nat.reduceAdd, Nat.reduceLeDiff, Nat.reduceMul, Nat.reduceBEq, reduceCtorEq, head_Check, head_Check.body, hce, hel, het]
  refine callK_fn (wrong_ok _ h _ ?_)
  refine runL_V 60 ?_
  simp (disch := first | omega | (simp only [List.length_append, List.length_cons, List.length_nil, List.length_set, List.length_map, List.length_take, List.length_drop]; omega)) only [stdh, goK_s2b, dgoK_s2b, isEff_s2b, isPure_s2b, goK_b2s, dgoK_b2s, isEff_b2s, isPure_b2s, evalOp_s2b, s2bR, goK_mark, dgoK_mark, isEff_mark, isPure_mark, evalOp_mark, markA_slc, markB, ↓reduceIte, Nat.reduceEqDiff, Int.reduceToNat, Int.reducePow, Nat.reduceAdd, Nat.reduceLeDiff, Nat.reduceMul, Nat.reduceBEq, reduceCtorEq]
  have g1 : (H ++ [ABlk.cells (encHd h) T.head_Head, ABlk.cells [AVal.int IntKind.i64 0] T.api_Errno])[H.length + 1]? = some (.cells [cVal h 0] T.api_Errno) := at_k
  have hk := keeps_append H [ABlk.cells (encHd h) T.head_Head, ABlk.cells [AVal.int IntKind.i64 0] T.api_Errno]
  have hl2 : (H ++ [ABlk.cells (encHd h) T.head_Head, ABlk.cells [AVal.int IntKind.i64 0] T.api_Errno]).length = H.length + 2 := by simp
  generalize H ++ [ABlk.cells (encHd h) T.head_Head, ABlk.cells [AVal.int IntKind.i64 0] T.api_Errno] = H2 at *
  refine range_vars (g := F.head_wrong_1) (first := []) (captured := [cellN (encHd h)]) rfl (by intro n hn; cases hn) (item := wrongItem h) (len := 3) (fun j => rfl) [(H.length + 1, T.api_Errno, cVal h)] (cStop h) (vars_cons g1 vars_nil) ?_ (fun _ _ _ => wrong_iter h) ?_ ?_
  · intro a' b' j H1 hj hst hl hkp hrec hv
    have q1 := hv.get (c := H.length + 1) (T := T.api_Errno) (f := cVal h) (by simp)
    have hkv : cVal h j = .int .i64 0 := by
      cases j with
      | zero => rfl
      | succ j =>
        have := hst j (by omega)
        unfold cStop at this
        split at this
        · cases this
        · rename_i hne
          simp only [cVal, Nat.add_sub_cancel]
          rw [if_neg (fun hh => hne hh.2)]; rfl
    refine run_V0 60 ?_
    cases hw : bads h j with
    | true =>
      have hs : cStop h j = some (.exit 0) := by simp only [cStop, hw, if_true]
      rw [hs]
      simp (disch := first | omega | (simp only [List.length_append, List.length_cons, List.length_nil, List.length_set, List.length_map, List.length_take, List.length_drop]; omega)) only [stdh, goK_s2b, dgoK_s2b, isEff_s2b, isPure_s2b, goK_b2s, dgoK_b2s, isEff_b2s, isPure_b2s, evalOp_s2b, s2bR, goK_mark, dgoK_mark, isEff_mark, isPure_mark, evalOp_mark, markA_slc, markB, ↓reduceIte, Nat.reduceEqDiff, Int.reduceToNat, Int.reducePow, Nat.reduceAdd, Nat.reduceLeDiff, Nat.reduceMul, Nat.reduceBEq, reduceCtorEq, head_Check.a0, head_Check.b0, hrec, q1, hkv, wrongItem, List.zip_cons_cons, List.zip_nil_left, List.reverse_cons, List.reverse_nil, List.getElem?_set_self, List.getElem?_set_ne, hw]
      refine .inr ⟨rfl, H2.length, _, rfl, by simp (disch := first | omega | (simp only [List.length_append, List.length_cons, List.length_nil, List.length_set, List.length_map, List.length_take, List.length_drop]; omega)) only [List.getElem?_set_ne, List.getElem?_set_self, List.length_set, ne_eq, not_false_eq_true]; rfl, ?_⟩
      refine varsQ_mk rfl (by (first | omega | (simp only [List.length_append, List.length_cons, List.length_nil, List.length_set, List.length_map, List.length_take, List.length_drop]; omega))) (fun m m1 m2 m3 => ?_) (vars_cons ?_ vars_nil) (by simp (disch := first | omega | (simp only [List.length_append, List.length_cons, List.length_nil, List.length_set, List.length_map, List.length_take, List.length_drop]; omega)) only [List.getElem?_set_ne, List.getElem?_set_self, List.length_set, ne_eq, not_false_eq_true]; rfl)
      · simp only [List.map_cons, List.map_nil, List.mem_cons, List.not_mem_nil, or_false] at m3
        simp (disch := first | omega | (simp only [List.length_append, List.length_cons, List.length_nil, List.length_set, List.length_map, List.length_take, List.length_drop]; omega)) only [List.getElem?_set_ne, List.getElem?_set_self, List.length_set, ne_eq, not_false_eq_true]
      · show _ = some (ABlk.cells [cVal h (j + 1)] T.api_Errno)
        have : cVal h (j + 1) = .int .i64 (errs j : Nat) := by
          simp only [cVal, Nat.add_sub_cancel]; rw [if_pos ⟨by omega, hw⟩]
        rw [this]; simp (disch := first | omega | (simp only [List.length_append, List.length_cons, List.length_nil, List.length_set, List.length_map, List.length_take, List.length_drop]; omega)) only [List.getElem?_set_ne, List.getElem?_set_self, List.length_set, ne_eq, not_false_eq_true]
    | false =>
      have hs : cStop h j = none := by simp [cStop, hw]
      rw [hs]
      simp (disch := first | omega | (simp only [List.length_append, List.length_cons, List.length_nil, List.length_set, List.length_map, List.length_take, List.length_drop]; omega)) only [stdh, goK_s2b, dgoK_s2b, isEff_s2b, isPure_s2b, goK_b2s, dgoK_b2s, isEff_b2s, isPure_b2s, evalOp_s2b, s2bR, goK_mark, dgoK_mark, isEff_mark, isPure_mark, evalOp_mark, markA_slc, markB, ↓reduceIte, Nat.reduceEqDiff, Int.reduceToNat, Int.reducePow, Nat.reduceAdd, Nat.reduceLeDiff, Nat.reduceMul, Nat.reduceBEq, reduceCtorEq, head_Check.a0, head_Check.b0, hrec, q1, hkv, wrongItem, List.zip_cons_cons, List.zip_nil_left, List.reverse_cons, List.reverse_nil, List.getElem?_set_self, List.getElem?_set_ne, hw]
      refine round_fin (n := H2.length) (L := lrec _ _ _ a' b' .busy none) rfl (by simp (disch := first | omega | (simp only [List.length_append, List.length_cons, List.length_nil, List.length_set, List.length_map, List.length_take, List.length_drop]; omega)) only [List.getElem?_set_ne, List.getElem?_set_self, List.length_set, ne_eq, not_false_eq_true]; rfl) ?_
      refine varsQ_mk rfl (by (first | omega | (simp only [List.length_append, List.length_cons, List.length_nil, List.length_set, List.length_map, List.length_take, List.length_drop]; omega))) (fun m m1 m2 m3 => ?_) (vars_cons ?_ vars_nil) (by simp (disch := first | omega | (simp only [List.length_append, List.length_cons, List.length_nil, List.length_set, List.length_map, List.length_take, List.length_drop]; omega)) only [List.getElem?_set_ne, List.getElem?_set_self, List.length_set, ne_eq, not_false_eq_true]; rfl)
      · simp only [List.map_cons, List.map_nil, List.mem_cons, List.not_mem_nil, or_false] at m3
        simp (disch := first | omega | (simp only [List.length_append, List.length_cons, List.length_nil, List.length_set, List.length_map, List.length_take, List.length_drop]; omega)) only [List.getElem?_set_ne, List.getElem?_set_self, List.length_set, ne_eq, not_false_eq_true]
      · show _ = some (ABlk.cells [cVal h (j + 1)] T.api_Errno)
        have : cVal h (j + 1) = .int .i64 0 := by
          simp [cVal, hw]
        rw [this, ← hkv]; simp (disch := first | omega | (simp only [List.length_append, List.length_cons, List.length_nil, List.length_set, List.length_map, List.length_take, List.length_drop]; omega)) only [List.getElem?_set_ne, List.getElem?_set_self, List.length_set, ne_eq, not_false_eq_true]; exact q1
  · intro H' hl hkp hst hv
    have q1 := hv.get (c := H.length + 1) (T := T.api_Errno) (f := cVal h) (by simp)
    have hb : ∀ j, j < 3 → bads h j = false := fun j hj => by
      have := hst j hj
      unfold cStop at this
      split at this
      · cases this
      · rename_i hne; simpa using hne
    have h0 : checkOf h = 0 := by simp [checkOf, hb 0 (by omega), hb 1 (by omega), hb 2 (by omega)]
    have hc : cVal h 3 = .int .i64 0 := by simp [cVal, hb 2 (by omega)]
    rw [h0] at hq
    rw [hc] at q1
    refine run_V0 60 ?_
    simp (disch := first | omega | (simp only [List.length_append, List.length_cons, List.length_nil, List.length_set, List.length_map, List.length_take, List.length_drop]; omega)) only [stdh, goK_s2b, dgoK_s2b, isEff_s2b, isPure_s2b, goK_b2s, dgoK_b2s, isEff_b2s, isPure_b2s, evalOp_s2b, s2bR, goK_mark, dgoK_mark, isEff_mark, isPure_mark, evalOp_mark, markA_slc, markB, ↓reduceIte, Nat.reduceEqDiff, Int.reduceToNat, Int.reducePow, Nat.reduceAdd, Nat.reduceLeDiff, Nat.reduceMul, Nat.reduceBEq, reduceCtorEq, q1]
    have hkH : Keeps H H' := ⟨by omega, fun m hm => by rw [hkp m (by omega) (by simp; omega), hk.at_ m hm]⟩
    exact ice_keeps hkH trivial hq
  · intro ap j H' hl hkp hj hs hst hv
    have q1 := hv.get (c := H.length + 1) (T := T.api_Errno) (f := cVal h) (by simp)
    have hw : bads h j = true := by
      refine Classical.byContradiction fun hn => ?_
      simp only [cStop, if_neg hn] at hs
      cases hs
    simp only [cStop, hw, if_true] at hs
    cases hs
    have e1 : cVal h (j + 1) = .int .i64 (errs j : Nat) := by
      simp only [cVal, Nat.add_sub_cancel]; rw [if_pos ⟨by omega, hw⟩]
    have hb : ∀ i, i < j → bads h i = false := fun i hi => by
      have := hst i hi
      unfold cStop at this
      split at this
      · cases this
      · rename_i hne; simpa using hne
    have hc : checkOf h = errs j := by
      have h3 : j = 0 ∨ j = 1 ∨ j = 2 := by omega
      rcases h3 with rfl | rfl | rfl
      · simp [checkOf, hw, errs]
      · simp [checkOf, hb 0 (by omega), hw, errs]
      · simp [checkOf, hb 0 (by omega), hb 1 (by omega), hw, errs]
    rw [e1, ← hc] at q1
    refine run_V0 60 ?_
    simp (disch := first | omega | (simp only [List.length_append, List.length_cons, List.length_nil, List.length_set, List.length_map, List.length_take, List.length_drop]; omega)) only [stdh, goK_s2b, dgoK_s2b, isEff_s2b, isPure_s2b, goK_b2s, dgoK_b2s, isEff_b2s, isPure_b2s, evalOp_s2b, s2bR, goK_mark, dgoK_mark, isEff_mark, isPure_mark, evalOp_mark, markA_slc, markB, ↓reduceIte, Nat.reduceEqDiff, Int.reduceToNat, Int.reducePow, Nat.reduceAdd, Nat.reduceLeDiff, Nat.reduceMul, Nat.reduceBEq, reduceCtorEq, jumpItems, q1]
    have hkH : Keeps H H' := ⟨by omega, fun m hm => by rw [hkp m (by omega) (by simp; omega), hk.at_ m hm]⟩
    exact ice_keeps hkH trivial hq
end Go.Proofs.Ytncipoapdpenfaa
