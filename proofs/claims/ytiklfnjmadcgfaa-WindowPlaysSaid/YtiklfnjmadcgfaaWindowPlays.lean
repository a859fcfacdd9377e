/-
  WindowPlaysSaid: whatever the two numbers and the list, the law WindowPlays returns true. No condition. By an AI agent. No person has read it.
-/
import Derived.Test.YtiklfnjmadcgfaaCOME
import Derived.Test.YtiklfnjmadcgfaaAm6
import Derived.OpenShut
import Derived.Test.YtiklfnjmadcgfaaRows

namespace Go.Proofs.Ytiklfnjmadcgfaa
open Go Go.Am
set_option linter.unusedSimpArgs false
set_option linter.unusedVariables false

abbrev plC : Ctx := ⟨F.cuneiformlaw11_WindowPlays, 89, [.tmp 6], none⟩

theorem plays_loop (K : List AItem) (Q : AVal → AHeap → Prop) {t : Bool} {xs : List Nat} {ask : Nat} (hx : ∀ x ∈ xs, x < 4294967296) (hask : ask < 4294967296) (hlen : xs.length ≤ 9223372036854775807)
    (hQ : ∀ r' H', Run Try.prog plC K r' H' Q) :
    ∀ (m i : Nat) (H : AHeap) (top bts : Nat), 100 - i = m → i ≤ 100 → WinAt H 0 top bts → H[1]? = some (.cells (wc top fun j => bts.testBit j) T.cuneiformref11_W) →
    Rounds Try.prog plC cuneiformlaw11_WindowPlays.b2 [.inBlock 0] K [(1, nums .u32 t xs), (2, .int .u32 (ask : Nat)), (7, .ptr 0 0), (8, .ptr 1 0), (9, .int .i64 (i : Nat))] H Q := by
  intro m
  induction m using Nat.strongRecOn with
  | _ m ih =>
    intro i H top bts h1 h2 hw hm
    refine loop_V 100 cuneiformlaw11_WindowPlays.b2.eq_1 ?_
    by_cases hi : i < xs.length
    · by_cases hi2 : i < 100
      · have hxx : xs.getD i 0 < 4294967296 := by
          rw [List.getD_eq_getElem?_getD]; simp [hi]; exact hx _ (List.getElem_mem hi)
        have hld : ∀ H, loadA H none (.sptr (nums .u32 t xs) i) = some (True, .int .u32 ((xs.getD i 0 : Nat) : Int)) := fun H => load_nums hi
        generalize xs.getD i 0 = x at *
        have hl0 : 1 < H.length := (List.getElem?_eq_some_iff.1 hm).1
        simp (disch := first | omega | (simp only [List.length_append, List.length_cons, List.length_nil, List.length_set, List.length_map, List.length_take, List.length_drop]; omega)) only [stdh, goK_s2b, dgoK_s2b, isEff_s2b, isPure_s2b, goK_b2s, dgoK_b2s, isEff_b2s, isPure_b2s, evalOp_s2b, s2bR, goK_mark, dgoK_mark, isEff_mark, isPure_mark, evalOp_mark, markA_slc, markB, ↓reduceIte, Nat.reduceEqDiff, Int.reduceToNat, Int.reducePow, Nat.reduceAdd, Nat.reduceLeDiff, Nat.reduceMul, Nat.reduceBEq, reduceCtorEq]
        refine callK_fn (copy_ok _ hw _ ?_)
        refine runL_V 60 ?_
        simp (disch := first | omega | (simp only [List.length_append, List.length_cons, List.length_nil, List.length_set, List.length_map, List.length_take, List.length_drop]; omega)) only [stdh, goK_s2b, dgoK_s2b, isEff_s2b, isPure_s2b, goK_b2s, dgoK_b2s, isEff_b2s, isPure_b2s, evalOp_s2b, s2bR, goK_mark, dgoK_mark, isEff_mark, isPure_mark, evalOp_mark, markA_slc, markB, ↓reduceIte, Nat.reduceEqDiff, Int.reduceToNat, Int.reducePow, Nat.reduceAdd, Nat.reduceLeDiff, Nat.reduceMul, Nat.reduceBEq, reduceCtorEq, cuneiformlaw11_WindowPlays.d0, false64, wc_zero, at_low, hm, wc_len, wc_take, hld]
        have hw1 : ∀ L, WinAt (H ++ L) 0 top bts := fun L => ⟨(at_low (by omega)).trans hw.1, hw.2⟩
        refine ⟨?_, ?_⟩
        all_goals
          refine callD_fn (rmark_ok _ hw.2.1 hxx _ ?_)
          refine ⟨by simp (disch := first | omega | (simp only [List.length_append, List.length_cons, List.length_nil, List.length_set, List.length_map, List.length_take, List.length_drop]; omega)) only [stdh, goK_s2b, dgoK_s2b, isEff_s2b, isPure_s2b, goK_b2s, dgoK_b2s, isEff_b2s, isPure_b2s, evalOp_s2b, s2bR, goK_mark, dgoK_mark, isEff_mark, isPure_mark, evalOp_mark, markA_slc, markB, ↓reduceIte, Nat.reduceEqDiff, Int.reduceToNat, Int.reducePow, Nat.reduceAdd, Nat.reduceLeDiff, Nat.reduceMul, Nat.reduceBEq, reduceCtorEq, at_low, hm, wc_len, wc_take, hld], ?_⟩
          refine runD_V 60 ?_
          simp (disch := first | omega | (simp only [List.length_append, List.length_cons, List.length_nil, List.length_set, List.length_map, List.length_take, List.length_drop]; omega)) only [stdh, goK_s2b, dgoK_s2b, isEff_s2b, isPure_s2b, goK_b2s, dgoK_b2s, isEff_b2s, isPure_b2s, evalOp_s2b, s2bR, goK_mark, dgoK_mark, isEff_mark, isPure_mark, evalOp_mark, markA_slc, markB, ↓reduceIte, Nat.reduceEqDiff, Int.reduceToNat, Int.reducePow, Nat.reduceAdd, Nat.reduceLeDiff, Nat.reduceMul, Nat.reduceBEq, reduceCtorEq, cuneiformlaw11_WindowPlays.d1, false64, wc_zero, at_low, hm, wc_len, wc_take, wc_fill, wc_cellish, hld, eqA]
          refine callD_fn (wlook_ok _ (hw1 _) _ hxx _ ?_)
          refine ⟨by simp (disch := first | omega | (simp only [List.length_append, List.length_cons, List.length_nil, List.length_set, List.length_map, List.length_take, List.length_drop]; omega)) only [stdh, goK_s2b, dgoK_s2b, isEff_s2b, isPure_s2b, goK_b2s, dgoK_b2s, isEff_b2s, isPure_b2s, evalOp_s2b, s2bR, goK_mark, dgoK_mark, isEff_mark, isPure_mark, evalOp_mark, markA_slc, markB, ↓reduceIte, Nat.reduceEqDiff, Int.reduceToNat, Int.reducePow, Nat.reduceAdd, Nat.reduceLeDiff, Nat.reduceMul, Nat.reduceBEq, reduceCtorEq, at_low, hm, wc_len, wc_take, hld], ?_⟩
          refine runD_V 60 ?_
          simp (disch := first | omega | (simp only [List.length_append, List.length_cons, List.length_nil, List.length_set, List.length_map, List.length_take, List.length_drop]; omega)) only [stdh, goK_s2b, dgoK_s2b, isEff_s2b, isPure_s2b, goK_b2s, dgoK_b2s, isEff_b2s, isPure_b2s, evalOp_s2b, s2bR, goK_mark, dgoK_mark, isEff_mark, isPure_mark, evalOp_mark, markA_slc, markB, ↓reduceIte, Nat.reduceEqDiff, Int.reduceToNat, Int.reducePow, Nat.reduceAdd, Nat.reduceLeDiff, Nat.reduceMul, Nat.reduceBEq, reduceCtorEq, hld]
          refine callD_fn (wmark_ok _ (hw1 _) _ hxx _ ?_)
          refine ⟨by simp (disch := first | omega | (simp only [List.length_append, List.length_cons, List.length_nil, List.length_set, List.length_map, List.length_take, List.length_drop]; omega)) only [stdh, goK_s2b, dgoK_s2b, isEff_s2b, isPure_s2b, goK_b2s, dgoK_b2s, isEff_b2s, isPure_b2s, evalOp_s2b, s2bR, goK_mark, dgoK_mark, isEff_mark, isPure_mark, evalOp_mark, markA_slc, markB, ↓reduceIte, Nat.reduceEqDiff, Int.reduceToNat, Int.reducePow, Nat.reduceAdd, Nat.reduceLeDiff, Nat.reduceMul, Nat.reduceBEq, reduceCtorEq, at_low, hm, wc_len, wc_take, hld], ?_⟩
          refine runD_V 60 ?_
          have p0 : WinAt (List.set (H ++ [ABlk.cells [AVal.int IntKind.u32 ↑top, AVal.int IntKind.u64 ↑bts] T.window_Window, ABlk.cells (wc (markW top bts x).fst fun j => (markW top bts x).snd.testBit j) T.cuneiformref11_W]) 0 (ABlk.cells [AVal.int IntKind.u32 ↑(markW top bts x).fst, AVal.int IntKind.u64 ↑(markW top bts x).snd] T.window_Window)) 0 (markW top bts x).1 (markW top bts x).2 := ⟨List.getElem?_set_self (by (first | omega | (simp only [List.length_append, List.length_cons, List.length_nil, List.length_set, List.length_map, List.length_take, List.length_drop]; omega))), mark_lt hw.2.1 hw.2.2 hxx⟩
          have pC : WinAt (List.set (H ++ [ABlk.cells [AVal.int IntKind.u32 ↑top, AVal.int IntKind.u64 ↑bts] T.window_Window, ABlk.cells (wc (markW top bts x).fst fun j => (markW top bts x).snd.testBit j) T.cuneiformref11_W]) 0 (ABlk.cells [AVal.int IntKind.u32 ↑(markW top bts x).fst, AVal.int IntKind.u64 ↑(markW top bts x).snd] T.window_Window)) H.length top bts := ⟨by rw [List.getElem?_set_ne (by omega)]; exact at_0, hw.2⟩
          have p1 : (List.set (H ++ [ABlk.cells [AVal.int IntKind.u32 ↑top, AVal.int IntKind.u64 ↑bts] T.window_Window, ABlk.cells (wc (markW top bts x).fst fun j => (markW top bts x).snd.testBit j) T.cuneiformref11_W]) 0 (ABlk.cells [AVal.int IntKind.u32 ↑(markW top bts x).fst, AVal.int IntKind.u64 ↑(markW top bts x).snd] T.window_Window))[1]? = some (.cells (wc top fun j => bts.testBit j) T.cuneiformref11_W) := by
            rw [List.getElem?_set_ne (by omega), at_low (by omega)]; exact hm
          have p11 : (List.set (H ++ [ABlk.cells [AVal.int IntKind.u32 ↑top, AVal.int IntKind.u64 ↑bts] T.window_Window, ABlk.cells (wc (markW top bts x).fst fun j => (markW top bts x).snd.testBit j) T.cuneiformref11_W]) 0 (ABlk.cells [AVal.int IntKind.u32 ↑(markW top bts x).fst, AVal.int IntKind.u64 ↑(markW top bts x).snd] T.window_Window))[H.length + 1]? = some (.cells (wc (markW top bts x).fst fun j => (markW top bts x).snd.testBit j) T.cuneiformref11_W) := by
            rw [List.getElem?_set_ne (by omega)]; exact at_k
          have pl : (List.set (H ++ [ABlk.cells [AVal.int IntKind.u32 ↑top, AVal.int IntKind.u64 ↑bts] T.window_Window, ABlk.cells (wc (markW top bts x).fst fun j => (markW top bts x).snd.testBit j) T.cuneiformref11_W]) 0 (ABlk.cells [AVal.int IntKind.u32 ↑(markW top bts x).fst, AVal.int IntKind.u64 ↑(markW top bts x).snd] T.window_Window)).length = H.length + 2 := by simp
          generalize (List.set (H ++ [ABlk.cells [AVal.int IntKind.u32 ↑top, AVal.int IntKind.u64 ↑bts] T.window_Window, ABlk.cells (wc (markW top bts x).fst fun j => (markW top bts x).snd.testBit j) T.cuneiformref11_W]) 0 (ABlk.cells [AVal.int IntKind.u32 ↑(markW top bts x).fst, AVal.int IntKind.u64 ↑(markW top bts x).snd] T.window_Window)) = G at *
          generalize (markW top bts x).1 = top' at *
          generalize (markW top bts x).2 = bts' at *
          simp (disch := first | omega | (simp only [List.length_append, List.length_cons, List.length_nil, List.length_set, List.length_map, List.length_take, List.length_drop]; omega)) only [stdh, goK_s2b, dgoK_s2b, isEff_s2b, isPure_s2b, goK_b2s, dgoK_b2s, isEff_b2s, isPure_b2s, evalOp_s2b, s2bR, goK_mark, dgoK_mark, isEff_mark, isPure_mark, evalOp_mark, markA_slc, markB, ↓reduceIte, Nat.reduceEqDiff, Int.reduceToNat, Int.reducePow, Nat.reduceAdd, Nat.reduceLeDiff, Nat.reduceMul, Nat.reduceBEq, reduceCtorEq, p1, p11, wc_len, wc_take]
          refine callD_fn (alike_ok _ pC _ ?_)
          refine ⟨by simp (disch := first | omega | (simp only [List.length_append, List.length_cons, List.length_nil, List.length_set, List.length_map, List.length_take, List.length_drop]; omega)) only [stdh, goK_s2b, dgoK_s2b, isEff_s2b, isPure_s2b, goK_b2s, dgoK_b2s, isEff_b2s, isPure_b2s, evalOp_s2b, s2bR, goK_mark, dgoK_mark, isEff_mark, isPure_mark, evalOp_mark, markA_slc, markB, ↓reduceIte, Nat.reduceEqDiff, Int.reduceToNat, Int.reducePow, Nat.reduceAdd, Nat.reduceLeDiff, Nat.reduceMul, Nat.reduceBEq, reduceCtorEq, p1, p11, wc_len, wc_take], ?_⟩
          refine runD_V 60 ?_
          simp (disch := first | omega | (simp only [List.length_append, List.length_cons, List.length_nil, List.length_set, List.length_map, List.length_take, List.length_drop]; omega)) only [stdh, goK_s2b, dgoK_s2b, isEff_s2b, isPure_s2b, goK_b2s, dgoK_b2s, isEff_b2s, isPure_b2s, evalOp_s2b, s2bR, goK_mark, dgoK_mark, isEff_mark, isPure_mark, evalOp_mark, markA_slc, markB, ↓reduceIte, Nat.reduceEqDiff, Int.reduceToNat, Int.reducePow, Nat.reduceAdd, Nat.reduceLeDiff, Nat.reduceMul, Nat.reduceBEq, reduceCtorEq, p1, p11, wc_len, wc_take]
          refine callD_fn (wlook_ok _ pC _ hask _ ?_)
          refine ⟨by simp (disch := first | omega | (simp only [List.length_append, List.length_cons, List.length_nil, List.length_set, List.length_map, List.length_take, List.length_drop]; omega)) only [stdh, goK_s2b, dgoK_s2b, isEff_s2b, isPure_s2b, goK_b2s, dgoK_b2s, isEff_b2s, isPure_b2s, evalOp_s2b, s2bR, goK_mark, dgoK_mark, isEff_mark, isPure_mark, evalOp_mark, markA_slc, markB, ↓reduceIte, Nat.reduceEqDiff, Int.reduceToNat, Int.reducePow, Nat.reduceAdd, Nat.reduceLeDiff, Nat.reduceMul, Nat.reduceBEq, reduceCtorEq, p1, p11, wc_len, wc_take], ?_⟩
          refine runD_V 60 ?_
          simp (disch := first | omega | (simp only [List.length_append, List.length_cons, List.length_nil, List.length_set, List.length_map, List.length_take, List.length_drop]; omega)) only [stdh, goK_s2b, dgoK_s2b, isEff_s2b, isPure_s2b, goK_b2s, dgoK_b2s, isEff_b2s, isPure_b2s, evalOp_s2b, s2bR, goK_mark, dgoK_mark, isEff_mark, isPure_mark, evalOp_mark, markA_slc, markB, ↓reduceIte, Nat.reduceEqDiff, Int.reduceToNat, Int.reducePow, Nat.reduceAdd, Nat.reduceLeDiff, Nat.reduceMul, Nat.reduceBEq, reduceCtorEq, p1, p11, wc_len, wc_take]
          refine callD_fn (rlook_ok _ hw.2.1 hask _ ?_)
          refine ⟨by simp (disch := first | omega | (simp only [List.length_append, List.length_cons, List.length_nil, List.length_set, List.length_map, List.length_take, List.length_drop]; omega)) only [stdh, goK_s2b, dgoK_s2b, isEff_s2b, isPure_s2b, goK_b2s, dgoK_b2s, isEff_b2s, isPure_b2s, evalOp_s2b, s2bR, goK_mark, dgoK_mark, isEff_mark, isPure_mark, evalOp_mark, markA_slc, markB, ↓reduceIte, Nat.reduceEqDiff, Int.reduceToNat, Int.reducePow, Nat.reduceAdd, Nat.reduceLeDiff, Nat.reduceMul, Nat.reduceBEq, reduceCtorEq, p1, p11, wc_len, wc_take], ?_⟩
          refine runD_V 60 ?_
          simp (disch := first | omega | (simp only [List.length_append, List.length_cons, List.length_nil, List.length_set, List.length_map, List.length_take, List.length_drop]; omega)) only [stdh, goK_s2b, dgoK_s2b, isEff_s2b, isPure_s2b, goK_b2s, dgoK_b2s, isEff_b2s, isPure_b2s, evalOp_s2b, s2bR, goK_mark, dgoK_mark, isEff_mark, isPure_mark, evalOp_mark, markA_slc, markB, ↓reduceIte, Nat.reduceEqDiff, Int.reduceToNat, Int.reducePow, Nat.reduceAdd, Nat.reduceLeDiff, Nat.reduceMul, Nat.reduceBEq, reduceCtorEq, p1, p11, wc_len, wc_take, wc_fill, wc_cellish]
          have pw : WinAt (G.set 1 (.cells (wc top' fun j => bts'.testBit j) T.cuneiformref11_W)) 0 top' bts' := ⟨by rw [List.getElem?_set_ne (by omega)]; exact p0.1, p0.2⟩
          have pm : (G.set 1 (.cells (wc top' fun j => bts'.testBit j) T.cuneiformref11_W))[1]? = some (.cells (wc top' fun j => bts'.testBit j) T.cuneiformref11_W) := List.getElem?_set_self (by omega)
          generalize G.set 1 (.cells (wc top' fun j => bts'.testBit j) T.cuneiformref11_W) = G2 at *
          simp (disch := first | omega | (simp only [List.length_append, List.length_cons, List.length_nil, List.length_set, List.length_map, List.length_take, List.length_drop]; omega)) only [stdh, goK_s2b, dgoK_s2b, isEff_s2b, isPure_s2b, goK_b2s, dgoK_b2s, isEff_b2s, isPure_b2s, evalOp_s2b, s2bR, goK_mark, dgoK_mark, isEff_mark, isPure_mark, evalOp_mark, markA_slc, markB, ↓reduceIte, Nat.reduceEqDiff, Int.reduceToNat, Int.reducePow, Nat.reduceAdd, Nat.reduceLeDiff, Nat.reduceMul, Nat.reduceBEq, reduceCtorEq, pm, wc_len, wc_take]
          refine callK_fn (alike_ok _ pw _ ?_)
          refine runL_V 60 ?_
          simp (disch := first | omega | (simp only [List.length_append, List.length_cons, List.length_nil, List.length_set, List.length_map, List.length_take, List.length_drop]; omega)) only [stdh, goK_s2b, dgoK_s2b, isEff_s2b, isPure_s2b, goK_b2s, dgoK_b2s, isEff_b2s, isPure_b2s, evalOp_s2b, s2bR, goK_mark, dgoK_mark, isEff_mark, isPure_mark, evalOp_mark, markA_slc, markB, ↓reduceIte, Nat.reduceEqDiff, Int.reduceToNat, Int.reducePow, Nat.reduceAdd, Nat.reduceLeDiff, Nat.reduceMul, Nat.reduceBEq, reduceCtorEq]
          rw [show (i : Int) + 1 = ((i + 1 : Nat) : Int) by omega]
          exact ih (100 - (i + 1)) (by omega) (i + 1) G2 top' bts' rfl (by omega) pw pm
      · simp (disch := first | omega | (simp only [List.length_append, List.length_cons, List.length_nil, List.length_set, List.length_map, List.length_take, List.length_drop]; omega)) only [stdh, goK_s2b, dgoK_s2b, isEff_s2b, isPure_s2b, goK_b2s, dgoK_b2s, isEff_b2s, isPure_b2s, evalOp_s2b, s2bR, goK_mark, dgoK_mark, isEff_mark, isPure_mark, evalOp_mark, markA_slc, markB, ↓reduceIte, Nat.reduceEqDiff, Int.reduceToNat, Int.reducePow, Nat.reduceAdd, Nat.reduceLeDiff, Nat.reduceMul, Nat.reduceBEq, reduceCtorEq]
        exact hQ _ _
    · simp (disch := first | omega | (simp only [List.length_append, List.length_cons, List.length_nil, List.length_set, List.length_map, List.length_take, List.length_drop]; omega)) only [stdh, goK_s2b, dgoK_s2b, isEff_s2b, isPure_s2b, goK_b2s, dgoK_b2s, isEff_b2s, isPure_b2s, evalOp_s2b, s2bR, goK_mark, dgoK_mark, isEff_mark, isPure_mark, evalOp_mark, markA_slc, markB, ↓reduceIte, Nat.reduceEqDiff, Int.reduceToNat, Int.reducePow, Nat.reduceAdd, Nat.reduceLeDiff, Nat.reduceMul, Nat.reduceBEq, reduceCtorEq]
      exact hQ _ _

theorem wc_full (t : Nat) : wc t (fun _ => true) = wc t fun j => Nat.testBit 18446744073709551615 j := wc_congr fun j hj => by
  have : (18446744073709551615 : Nat) = 2 ^ 64 - 1 := by decide
  rw [this, Nat.testBit_two_pow_sub_one]
  simp [hj]

theorem plays_ok {s ask : Nat} {t : Bool} {xs : List Nat} (hs : s < 4294967296) (hask : ask < 4294967296) (hx : ∀ x ∈ xs, x < 4294967296) (hlen : xs.length ≤ 9223372036854775807) :
    FunOK Try.prog F.cuneiformlaw11_WindowPlays [.int .u32 (s : Nat), nums .u32 t xs, .int .u32 (ask : Nat)] [] fun av _ => av = .bool true := by
  refine fun_V 60 cuneiformlaw11_WindowPlays_code rfl ?_
  simp (disch := first | omega | (simp only [List.length_append, List.length_cons, List.length_nil, List.length_set, List.length_map, List.length_take, List.length_drop]; omega)) only [stdh, goK_s2b, dgoK_s2b, isEff_s2b, isPure_s2b, goK_b2s, dgoK_b2s, isEff_b2s, isPure_b2s, evalOp_s2b, s2bR, goK_mark, dgoK_mark, isEff_mark, isPure_mark, evalOp_mark, markA_slc, markB, ↓reduceIte, Nat.reduceEqDiff, Int.reduceToNat, Int.reducePow, Nat.reduceAdd, Nat.reduceLeDiff, Nat.reduceMul, Nat.reduceBEq, reduceCtorEq, cuneiformlaw11_WindowPlays, cuneiformlaw11_WindowPlays.body, false64, wc_zero]
  refine callK_fn (wnew_ok _ _ _ ?_)
  refine runL_V 60 ?_
  simp (disch := first | omega | (simp only [List.length_append, List.length_cons, List.length_nil, List.length_set, List.length_map, List.length_take, List.length_drop]; omega)) only [stdh, goK_s2b, dgoK_s2b, isEff_s2b, isPure_s2b, goK_b2s, dgoK_b2s, isEff_b2s, isPure_b2s, evalOp_s2b, s2bR, goK_mark, dgoK_mark, isEff_mark, isPure_mark, evalOp_mark, markA_slc, markB, ↓reduceIte, Nat.reduceEqDiff, Int.reduceToNat, Int.reducePow, Nat.reduceAdd, Nat.reduceLeDiff, Nat.reduceMul, Nat.reduceBEq, reduceCtorEq]
  refine callK_fn (rnew_ok _ _ hs _ ?_)
  refine runL_V 60 ?_
  rw [wc_full]
  have hw : ∀ L, WinAt (.cells [.int .u32 (addN s (-1) : Nat), .int .u64 (18446744073709551615 : Nat)] T.window_Window :: L) 0 (addN s (-1)) 18446744073709551615 := fun L => ⟨rfl, addN_lt _ _, by omega⟩
  simp (disch := first | omega | (simp only [List.length_append, List.length_cons, List.length_nil, List.length_set, List.length_map, List.length_take, List.length_drop]; omega)) only [stdh, goK_s2b, dgoK_s2b, isEff_s2b, isPure_s2b, goK_b2s, dgoK_b2s, isEff_b2s, isPure_b2s, evalOp_s2b, s2bR, goK_mark, dgoK_mark, isEff_mark, isPure_mark, evalOp_mark, markA_slc, markB, ↓reduceIte, Nat.reduceEqDiff, Int.reduceToNat, Int.reducePow, Nat.reduceAdd, Nat.reduceLeDiff, Nat.reduceMul, Nat.reduceBEq, reduceCtorEq, false64, wc_zero, wc_len, wc_take, wc_fill, wc_cellish, eqA, List.nil_append, List.cons_append, List.length_nil]
  refine callK_fn (alike_ok _ (hw _) _ ?_)
  refine runL_V 60 ?_
  simp (disch := first | omega | (simp only [List.length_append, List.length_cons, List.length_nil, List.length_set, List.length_map, List.length_take, List.length_drop]; omega)) only [stdh, goK_s2b, dgoK_s2b, isEff_s2b, isPure_s2b, goK_b2s, dgoK_b2s, isEff_b2s, isPure_b2s, evalOp_s2b, s2bR, goK_mark, dgoK_mark, isEff_mark, isPure_mark, evalOp_mark, markA_slc, markB, ↓reduceIte, Nat.reduceEqDiff, Int.reduceToNat, Int.reducePow, Nat.reduceAdd, Nat.reduceLeDiff, Nat.reduceMul, Nat.reduceBEq, reduceCtorEq]
  refine plays_loop _ _ hx hask hlen ?_ _ 0 _ _ _ rfl (by omega) (hw _) rfl
  intro r' H'
  refine run_V0 60 ?_
  simp (disch := first | omega | (simp only [List.length_append, List.length_cons, List.length_nil, List.length_set, List.length_map, List.length_take, List.length_drop]; omega)) only [stdh, goK_s2b, dgoK_s2b, isEff_s2b, isPure_s2b, goK_b2s, dgoK_b2s, isEff_b2s, isPure_b2s, evalOp_s2b, s2bR, goK_mark, dgoK_mark, isEff_mark, isPure_mark, evalOp_mark, markA_slc, markB, ↓reduceIte, Nat.reduceEqDiff, Int.reduceToNat, Int.reducePow, Nat.reduceAdd, Nat.reduceLeDiff, Nat.reduceMul, Nat.reduceBEq, reduceCtorEq]
  refine callK_fn (known11_ok _ _ ?_)
  refine runL_V 60 ?_
  simp (disch := first | omega | (simp only [List.length_append, List.length_cons, List.length_nil, List.length_set, List.length_map, List.length_take, List.length_drop]; omega)) only [stdh, goK_s2b, dgoK_s2b, isEff_s2b, isPure_s2b, goK_b2s, dgoK_b2s, isEff_b2s, isPure_b2s, evalOp_s2b, s2bR, goK_mark, dgoK_mark, isEff_mark, isPure_mark, evalOp_mark, markA_slc, markB, ↓reduceIte, Nat.reduceEqDiff, Int.reduceToNat, Int.reducePow, Nat.reduceAdd, Nat.reduceLeDiff, Nat.reduceMul, Nat.reduceBEq, reduceCtorEq]
end Go.Proofs.Ytiklfnjmadcgfaa

namespace Go.Proofs.Ytiklfnjmadcgfaa.windowPlays
open Go Go.Am Go.ChangeShapes Go.WideShapes Go.ChangeAt Go.RowKit
set_option linter.unusedVariables false

theorem own : ownKnob Try.prog.godebug = none := by kernel_rfl
theorem laidOut : laidOutB Try.prog = true := by kernel_rfl

set_option maxRecDepth 100000 in
theorem lifted (os : Os) (started : os.Started) (H : Type) (enc : TypeId × Value → H) :
    ReturnsInHanded {} Try.checked os F.cuneiformlaw11_WindowPlays .any (Rows.windowPlaysSpec.pre6 enc Try.prog Try.f5 Rows.windowPlaysRow.domain false) (Rows.windowPlaysSpec.post enc Try.prog Try.f5 false true false false) := by
  refine returnsInHanded_of_change (C := Try.checked) own started (by kernel_rfl) Try.func5
    (ChangeSpec.witness6 (enc := enc) (C := Try.checked) false ⟨#[], #[.int .u32 5, .slice none 0 0, .int .u32 7], []⟩ 8 (by kernel_rfl) (by kernel_rfl) (by kernel_rfl) (by kernel_rfl)) ?_
  intro W base args ds gs before hval hW hcnd _
  refine law_calls (shs := [.int .u32, .slice (.int .u32), .int .u32]) (tb := 4) laidOut (by kernel_rfl) ?_ (by kernel_rfl) Try.underlying4 rfl ?_ ?_ hval hW
  · intro t ht
    have : ∀ t ∈ Try.f5.params.toList, (Try.prog.readableRec t && decide (t < Try.prog.types.size)) = true := List.all_eq_true.1 (by kernel_rfl)
    simpa using this t ht
  · intro H ds hd
    match ds, hd with
    | [d0, d1, d2], _ => exact ⟨rfl, rfl, rfl⟩
  · rintro xs ⟨a, r, rfl, ⟨s, hs, ws⟩, b, r2, rfl, hb, c, r', rfl, ⟨z, hz, wz⟩, rfl⟩
    cases hs
    cases hz
    obtain ⟨bs, h1, h2, h3⟩ := nums_fits rfl hb
    have h4 := bounds_u32 ws
    have h5 := bounds_u32 wz
    obtain ⟨s, rfl⟩ := Int.eq_ofNat_of_zero_le h4.1
    obtain ⟨z, rfl⟩ := Int.eq_ofNat_of_zero_le h5.1
    exact fun_sees (.cons (.refl _) (.cons h1 (.cons (.refl _) .nil))) (plays_ok (t := false) (by omega) (by omega) (fun b hb => by have := bounds_u32 (h2 b hb); omega) h3)

theorem proved : Rows.WindowPlaysSaid :=
  OpenClaim.holds_of_wide F.cuneiformlaw11_WindowPlays Try.f5 rfl rfl rfl rfl rfl rfl rfl ⟨rfl, rfl, rfl, rfl, rfl⟩ rfl rfl rfl rfl rfl (by kernel_rfl) Try.func5 (by kernel_rfl)
    (of_decide_eq_true (by kernel_rfl)) (by unfold Func.isWrapper; first | (rw [if_pos (by decide +kernel)]; kernel_rfl) | (rw [if_neg (by decide +kernel)]; exact ⟨rfl, rfl⟩))
    (fun os started H enc _ => lifted os started H enc)
end Go.Proofs.Ytiklfnjmadcgfaa.windowPlays
