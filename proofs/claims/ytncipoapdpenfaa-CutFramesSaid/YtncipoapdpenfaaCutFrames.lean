/-
  CutFramesSaid: whatever the head, the bytes and the room, the law CutFrames returns true, and the input reads as it did. No condition. By an AI agent. No person has read it.
-/
import Derived.Test.YtncipoapdpenfaaREF
import Derived.Test.YtncipoapdpenfaaLIB
import Derived.Test.YtncipoapdpenfaaAm6
import Derived.OpenShut
import Derived.Test.YtncipoapdpenfaaRows

namespace Go.Proofs.Ytncipoapdpenfaa
open Go Go.Am
set_option linter.unusedSimpArgs false
set_option linter.unusedVariables false

theorem eq_heads (a : Hd) : eqA (.cells [.int, .int, .int, .int, .int]) (.agg (encHd a)) (.agg (encHd a)) = some true := by
  simp [encHd, eqA, eqCells, eqCell]

theorem fsame_ok (H : AHeap) (f : Fr) (hb : f.b.length ≤ 1000000) (Q : AVal → AHeap → Prop) (h : Q (.bool true) H) : FunOK Try.prog F.cuneiformref08_Same [.agg (encFr f), .agg (encFr f)] H Q := by
  refine fun_iced cuneiformref08_Same_code fun _ => ?_
  refine fun_V 100 cuneiformref08_Same_code rfl ?_
  have hc := encFr_cellish f
  have e1 : ((encFr f).drop 0).take 5 = encHd f.h := rfl
  have e2 : (encFr f).take 5 = encHd f.h := rfl
  have e3 : (encFr f).getD 5 .junk = nums .u8 false f.b := rfl
  have el : (encFr f).length = 6 := rfl
  have he := eq_heads f.h
  simp (disch := first | omega | (simp only [List.length_append, List.length_cons, List.length_nil, List.length_set, List.length_map, List.length_take, List.length_drop]; omega)) only [stdh, goK_s2b, dgoK_s2b, isEff_s2b, isPure_s2b, goK_b2s, dgoK_b2s, isEff_b2s, isPure_b2s, evalOp_s2b, s2bR, goK_mark, dgoK_mark, isEff_mark, isPure_mark, evalOp_mark, markA_slc, markB, ↓reduceIte, Nat.reduceEqDiff, Int.reduceToNat, Int.reducePow, Nat.reduceAdd, Nat.reduceLeDiff, Nat.reduceMul, Nat.reduceBEq, reduceCtorEq, cuneiformref08_Same, cuneiformref08_Same.body, hc, e1, e2, e3, el, he]
  refine callK_fn (same_ok _ (nums_nats _ _ _ _) (nums_nats _ _ _ _) (by omega) _ ?_)
  rw [show decide (f.b = f.b) = true by simp]
  refine runL_V 60 ?_
  simp (disch := first | omega | (simp only [List.length_append, List.length_cons, List.length_nil, List.length_set, List.length_map, List.length_take, List.length_drop]; omega)) only [stdh, goK_s2b, dgoK_s2b, isEff_s2b, isPure_s2b, goK_b2s, dgoK_b2s, isEff_b2s, isPure_b2s, evalOp_s2b, s2bR, goK_mark, dgoK_mark, isEff_mark, isPure_mark, evalOp_mark, markA_slc, markB, ↓reduceIte, Nat.reduceEqDiff, Int.reduceToNat, Int.reducePow, Nat.reduceAdd, Nat.reduceLeDiff, Nat.reduceMul, Nat.reduceBEq, reduceCtorEq]
  exact ice_none trivial h

abbrev lsC : Ctx := ⟨F.cuneiformlaw12_Same, 28, [.tmp 4], none⟩

theorem ls_loop (K : List AItem) (H : AHeap) (Q : AVal → AHeap → Prop) {t t' : Bool} {fs : List Fr} (hlen : fs.length ≤ 1000000) (hb : ∀ f ∈ fs, f.b.length ≤ 1000000) (hK : ∀ r', Run Try.prog lsC K r' H Q) :
    ∀ (m j : Nat), j + m = fs.length → Rounds Try.prog lsC cuneiformlaw12_Same.b1 [.inBlock 0] K [(0, recs encFr t fs), (1, recs encFr t' fs), (5, .int .i64 (j : Nat))] H Q
  | 0, j, h1 => by
    refine loop_V 100 cuneiformlaw12_Same.b1.eq_1 ?_
    simp (disch := first | omega | (simp only [List.length_append, List.length_cons, List.length_nil, List.length_set, List.length_map, List.length_take, List.length_drop]; omega)) only [stdh, goK_s2b, dgoK_s2b, isEff_s2b, isPure_s2b, goK_b2s, dgoK_b2s, isEff_b2s, isPure_b2s, evalOp_s2b, s2bR, goK_mark, dgoK_mark, isEff_mark, isPure_mark, evalOp_mark, markA_slc, markB, ↓reduceIte, Nat.reduceEqDiff, Int.reduceToNat, Int.reducePow, Nat.reduceAdd, Nat.reduceLeDiff, Nat.reduceMul, Nat.reduceBEq, reduceCtorEq]
    exact hK _
  | m + 1, j, h1 => by
    refine loop_V 100 cuneiformlaw12_Same.b1.eq_1 ?_
    have hj : j < fs.length := by omega
    have hld : ∀ (H' : AHeap) (t : Bool), loadA H' (some 6) (.sptr (recs encFr t fs) (j * 6)) = some (True, .agg (encFr (fs.getD j default))) := fun H' t => frs_recs.loadN (o := 0) (n := 6) hj (by omega)
    have hbj : (fs.getD j default).b.length ≤ 1000000 := by
      rw [List.getD_eq_getElem?_getD, List.getElem?_eq_getElem hj]; exact hb _ (List.getElem_mem hj)
    generalize fs.getD j default = f at *
    simp (disch := first | omega | (simp only [List.length_append, List.length_cons, List.length_nil, List.length_set, List.length_map, List.length_take, List.length_drop]; omega)) only [stdh, goK_s2b, dgoK_s2b, isEff_s2b, isPure_s2b, goK_b2s, dgoK_b2s, isEff_b2s, isPure_b2s, evalOp_s2b, s2bR, goK_mark, dgoK_mark, isEff_mark, isPure_mark, evalOp_mark, markA_slc, markB, ↓reduceIte, Nat.reduceEqDiff, Int.reduceToNat, Int.reducePow, Nat.reduceAdd, Nat.reduceLeDiff, Nat.reduceMul, Nat.reduceBEq, reduceCtorEq, cuneiformlaw12_Same.d0, hld]
    refine callD_fn (of_ok _ f _ ?_)
    refine ⟨by simp (disch := first | omega | (simp only [List.length_append, List.length_cons, List.length_nil, List.length_set, List.length_map, List.length_take, List.length_drop]; omega)) only [stdh, goK_s2b, dgoK_s2b, isEff_s2b, isPure_s2b, goK_b2s, dgoK_b2s, isEff_b2s, isPure_b2s, evalOp_s2b, s2bR, goK_mark, dgoK_mark, isEff_mark, isPure_mark, evalOp_mark, markA_slc, markB, ↓reduceIte, Nat.reduceEqDiff, Int.reduceToNat, Int.reducePow, Nat.reduceAdd, Nat.reduceLeDiff, Nat.reduceMul, Nat.reduceBEq, reduceCtorEq, hld], ?_⟩
    refine runD_V 60 ?_
    simp (disch := first | omega | (simp only [List.length_append, List.length_cons, List.length_nil, List.length_set, List.length_map, List.length_take, List.length_drop]; omega)) only [stdh, goK_s2b, dgoK_s2b, isEff_s2b, isPure_s2b, goK_b2s, dgoK_b2s, isEff_b2s, isPure_b2s, evalOp_s2b, s2bR, goK_mark, dgoK_mark, isEff_mark, isPure_mark, evalOp_mark, markA_slc, markB, ↓reduceIte, Nat.reduceEqDiff, Int.reduceToNat, Int.reducePow, Nat.reduceAdd, Nat.reduceLeDiff, Nat.reduceMul, Nat.reduceBEq, reduceCtorEq, hld]
    refine callD_fn (fsame_ok _ f hbj _ ?_)
    refine ⟨by simp (disch := first | omega | (simp only [List.length_append, List.length_cons, List.length_nil, List.length_set, List.length_map, List.length_take, List.length_drop]; omega)) only [stdh, goK_s2b, dgoK_s2b, isEff_s2b, isPure_s2b, goK_b2s, dgoK_b2s, isEff_b2s, isPure_b2s, evalOp_s2b, s2bR, goK_mark, dgoK_mark, isEff_mark, isPure_mark, evalOp_mark, markA_slc, markB, ↓reduceIte, Nat.reduceEqDiff, Int.reduceToNat, Int.reducePow, Nat.reduceAdd, Nat.reduceLeDiff, Nat.reduceMul, Nat.reduceBEq, reduceCtorEq], ?_⟩
    refine runD_V 60 ?_
    simp (disch := first | omega | (simp only [List.length_append, List.length_cons, List.length_nil, List.length_set, List.length_map, List.length_take, List.length_drop]; omega)) only [stdh, goK_s2b, dgoK_s2b, isEff_s2b, isPure_s2b, goK_b2s, dgoK_b2s, isEff_b2s, isPure_b2s, evalOp_s2b, s2bR, goK_mark, dgoK_mark, isEff_mark, isPure_mark, evalOp_mark, markA_slc, markB, ↓reduceIte, Nat.reduceEqDiff, Int.reduceToNat, Int.reducePow, Nat.reduceAdd, Nat.reduceLeDiff, Nat.reduceMul, Nat.reduceBEq, reduceCtorEq]
    exact ls_loop K H Q hlen hb hK m (j + 1) (by omega)

theorem lsame_ok (H : AHeap) {t t' : Bool} {fs : List Fr} (hlen : fs.length ≤ 1000000) (hb : ∀ f ∈ fs, f.b.length ≤ 1000000) (Q : AVal → AHeap → Prop) (h : Q (.bool true) H) :
    FunOK Try.prog F.cuneiformlaw12_Same [recs encFr t fs, recs encFr t' fs] H Q := by
  refine fun_V 100 cuneiformlaw12_Same_code rfl ?_
  simp (disch := first | omega | (simp only [List.length_append, List.length_cons, List.length_nil, List.length_set, List.length_map, List.length_take, List.length_drop]; omega)) only [stdh, goK_s2b, dgoK_s2b, isEff_s2b, isPure_s2b, goK_b2s, dgoK_b2s, isEff_b2s, isPure_b2s, evalOp_s2b, s2bR, goK_mark, dgoK_mark, isEff_mark, isPure_mark, evalOp_mark, markA_slc, markB, ↓reduceIte, Nat.reduceEqDiff, Int.reduceToNat, Int.reducePow, Nat.reduceAdd, Nat.reduceLeDiff, Nat.reduceMul, Nat.reduceBEq, reduceCtorEq, cuneiformlaw12_Same, cuneiformlaw12_Same.body]
  refine ls_loop _ H Q hlen hb ?_ fs.length 0 (by omega)
  intro r'
  refine run_V0 60 ?_
  simp (disch := first | omega | (simp only [List.length_append, List.length_cons, List.length_nil, List.length_set, List.length_map, List.length_take, List.length_drop]; omega)) only [stdh, goK_s2b, dgoK_s2b, isEff_s2b, isPure_s2b, goK_b2s, dgoK_b2s, isEff_b2s, isPure_b2s, evalOp_s2b, s2bR, goK_mark, dgoK_mark, isEff_mark, isPure_mark, evalOp_mark, markA_slc, markB, ↓reduceIte, Nat.reduceEqDiff, Int.reduceToNat, Int.reducePow, Nat.reduceAdd, Nat.reduceLeDiff, Nat.reduceMul, Nat.reduceBEq, reduceCtorEq]
  exact h

/-! ### What frames make -/

theorem framesN_wrong {h : Hd} {ys : List Nat} {r : Nat} : ∀ (m j : Nat) (fs : List Fr), fs = (List.range m).map (fun i => frAt h ys r (j + i)) → wrongOf (hdAt h 0 (cntP ys.length r : Nat)) j fs = 0
  | 0, j, fs, e => by subst e; rfl
  | m + 1, j, fs, e => by
    subst e
    rw [List.range_succ_eq_map, List.map_cons, wrongOf]
    have hm : mates (frAt h ys r (j + 0)).h (hdAt h 0 (cntP ys.length r : Nat)) = true := by simp [mates, frAt, hdAt]
    rw [hm, if_neg (by decide), if_neg (by simp [frAt, hdAt])]
    refine framesN_wrong m (j + 1) _ ?_
    rw [List.map_map]
    refine List.map_congr_left fun i _ => ?_
    simp only [Function.comp]
    congr 1; omega

theorem framesN_flat {h : Hd} {ys : List Nat} {r : Nat} (k : Nat) : (framesN h ys r k).flatMap Fr.b = (partsP r ys k).flatten := by
  simp [framesN, partsP, List.flatMap, frAt, Function.comp_def]

theorem mates_index {a b : Hd} (c : Hd) (h : a.v = b.v ∧ a.k = b.k ∧ a.s = b.s ∧ a.c = b.c) : mates c a = mates c b := by
  obtain ⟨h1, h2, h3, h4⟩ := h
  simp [mates, h1, h2, h3, h4]
theorem wrongOf_index {a b : Hd} (h : a.v = b.v ∧ a.k = b.k ∧ a.s = b.s ∧ a.c = b.c) : ∀ (fs : List Fr) (i : Nat), wrongOf a i fs = wrongOf b i fs
  | [], _ => rfl
  | f :: fs, i => by simp only [wrongOf, mates_index f.h h, wrongOf_index h fs]

theorem whole_frames {h : Hd} {ys : List Nat} {r : Nat} (hr : 0 < r) (hy : 0 < ys.length) : wholeOf (framesN h ys r (cntP ys.length r)) = (ys, 0) := by
  have hc := cntP_pos (n := ys.length) (r := r) hy
  have hfl : (framesN h ys r (cntP ys.length r)).flatMap Fr.b = ys := by rw [framesN_flat, partsP_whole hr]
  have hg : (framesN h ys r (cntP ys.length r)).getD 0 default = frAt h ys r 0 := by
    simp [framesN, List.getD_eq_getElem?_getD, List.getElem?_range (show 0 < cntP ys.length r by omega)]
  have hw : wrongOf (frAt h ys r 0).h 0 (framesN h ys r (cntP ys.length r)) = 0 := by
    rw [wrongOf_index (a := (frAt h ys r 0).h) (b := hdAt h 0 (cntP ys.length r : Nat)) ⟨rfl, rfl, rfl, rfl⟩]
    exact framesN_wrong (cntP ys.length r) 0 _ (by simp [framesN])
  have hl := framesN_len (h := h) (ys := ys) (r := r) (k := cntP ys.length r)
  have hne : framesN h ys r (cntP ys.length r) ≠ [] := fun e => by rw [e] at hl; simp at hl; omega
  have hcc : (frAt h ys r 0).h.c = ((cntP ys.length r : Nat) : Int) := rfl
  unfold wholeOf
  rw [hg, hw, hl, hcc, if_neg (by decide), if_neg (by simp only [not_or]; exact ⟨hne, by omega⟩), if_neg (by omega), hfl]

theorem framesOf_b {h : Hd} {ys : List Nat} {room : Int} (hy : ys.length ≤ 1000) : ∀ f ∈ framesOf h ys room, f.b.length ≤ 1000000 := by
  intro f hf
  unfold framesOf at hf
  split at hf
  · obtain ⟨j, _, rfl⟩ := List.mem_map.1 hf
    simp only [frAt, partP, List.length_take, List.length_drop]; omega
  · cases hf
theorem framesOf_len {h : Hd} {ys : List Nat} {room : Int} (hy : ys.length ≤ 1000) : (framesOf h ys room).length ≤ 1000 := by
  unfold framesOf
  split
  · rename_i he
    rw [framesN_len]
    unfold frameErr at he
    split at he
    · omega
    · split at he
      · omega
      · split at he
        · omega
        · exact Nat.le_trans (cntP_le (by omega)) hy
  · simp

/-- The room, where nothing is wrong. -/
theorem frameErr_zero {h : Hd} {ys : List Nat} {room : Int} (he : frameErr h ys room = 0) : 0 < ys.length ∧ ∃ r : Nat, room = (r : Int) ∧ 0 < r ∧ r ≤ 242 ∧ framesOf h ys room = framesN h ys r (cntP ys.length r) := by
  have he2 := he
  unfold frameErr at he
  split at he
  · omega
  · split at he
    · omega
    · split at he
      · omega
      · refine ⟨by omega, room.toNat, by omega, by omega, by omega, ?_⟩
        unfold framesOf; rw [if_pos he2]

theorem cutframes_ok {h : Hd} {bs : List Nat} {room : Int} (hroom : -9223372036854775808 ≤ room ∧ room < 9223372036854775808) :
    FunOK Try.prog F.cuneiformlaw12_CutFrames [.agg (encHd h), nums .u8 false bs, .int .i64 room] [] fun av _ => av = .bool true := by
  refine fun_V 100 cuneiformlaw12_CutFrames_code rfl ?_
  have min200 : ∀ n : Nat, (if 200 < (n : Int) then 200 else (n : Int)) = ((min n 200 : Nat) : Int) := fun n => by split <;> omega
  have hce : (encHd h).all AVal.cellish = true := rfl
  have hel : (encHd h).length = 5 := rfl
  have het : (encHd h).take 5 = encHd h := rfl
  simp (disch := first | omega | (simp only [List.length_append, List.length_cons, List.length_nil, List.length_set, List.length_map, List.length_take, List.length_drop]; omega)) only [stdh, goK_s2b, dgoK_s2b, isEff_s2b, isPure_s2b, goK_b2s, dgoK_b2s, isEff_b2s, isPure_b2s, evalOp_s2b, s2bR, goK_mark, dgoK_mark, isEff_mark, isPure_mark, evalOp_mark, markA_slc, markB, ↓reduceIte, Nat.reduceEqDiff, Int.reduceToNat, Int.reducePow, Nat.reduceAdd, Nat.reduceLeDiff, Nat.reduceMul, Nat.reduceBEq, reduceCtorEq, cuneiformlaw12_CutFrames, cuneiformlaw12_CutFrames.body, min200, hce, hel, het]
  have hzl : (bs.take (min bs.length 200)).length ≤ 200 := by rw [List.length_take]; omega
  generalize bs.take (min bs.length 200) = zs at *
  refine callK_fn (frames_ok _ h (by omega) hroom _ ?_)
  refine runL_V 60 ?_
  simp (disch := first | omega | (simp only [List.length_append, List.length_cons, List.length_nil, List.length_set, List.length_map, List.length_take, List.length_drop]; omega)) only [stdh, goK_s2b, dgoK_s2b, isEff_s2b, isPure_s2b, goK_b2s, dgoK_b2s, isEff_b2s, isPure_b2s, evalOp_s2b, s2bR, goK_mark, dgoK_mark, isEff_mark, isPure_mark, evalOp_mark, markA_slc, markB, ↓reduceIte, Nat.reduceEqDiff, Int.reduceToNat, Int.reducePow, Nat.reduceAdd, Nat.reduceLeDiff, Nat.reduceMul, Nat.reduceBEq, reduceCtorEq, hel, het]
  refine callK_fn (rframes_ok _ h (by omega) hroom _ ?_)
  refine runL_V 60 ?_
  simp (disch := first | omega | (simp only [List.length_append, List.length_cons, List.length_nil, List.length_set, List.length_map, List.length_take, List.length_drop]; omega)) only [stdh, goK_s2b, dgoK_s2b, isEff_s2b, isPure_s2b, goK_b2s, dgoK_b2s, isEff_b2s, isPure_b2s, evalOp_s2b, s2bR, goK_mark, dgoK_mark, isEff_mark, isPure_mark, evalOp_mark, markA_slc, markB, ↓reduceIte, Nat.reduceEqDiff, Int.reduceToNat, Int.reducePow, Nat.reduceAdd, Nat.reduceLeDiff, Nat.reduceMul, Nat.reduceBEq, reduceCtorEq]
  refine callK_fn (lsame_ok _ (by have := framesOf_len (h := h) (room := room) (show zs.length ≤ 1000 by omega); omega) (framesOf_b (by omega)) _ ?_)
  refine runL_V 60 ?_
  by_cases he : frameErr h zs room = 0
  · obtain ⟨hy, r, rfl, hr, hr2, hfo⟩ := frameErr_zero he
    have hfl : (framesN h zs r (cntP zs.length r)).flatMap Fr.b = zs := by rw [framesN_flat, partsP_whole hr]
    have hcl := cntP_le (n := zs.length) hr
    rw [he, hfo]
    simp (disch := first | omega | (simp only [List.length_append, List.length_cons, List.length_nil, List.length_set, List.length_map, List.length_take, List.length_drop]; omega)) only [stdh, goK_s2b, dgoK_s2b, isEff_s2b, isPure_s2b, goK_b2s, dgoK_b2s, isEff_b2s, isPure_b2s, evalOp_s2b, s2bR, goK_mark, dgoK_mark, isEff_mark, isPure_mark, evalOp_mark, markA_slc, markB, ↓reduceIte, Nat.reduceEqDiff, Int.reduceToNat, Int.reducePow, Nat.reduceAdd, Nat.reduceLeDiff, Nat.reduceMul, Nat.reduceBEq, reduceCtorEq]
    refine callK_fn (whole_ok _ frs_recs (by rw [hfl]; omega) (by rw [framesN_len]; omega) _ ?_)
    rw [whole_frames hr hy]
    refine runL_V 60 ?_
    simp (disch := first | omega | (simp only [List.length_append, List.length_cons, List.length_nil, List.length_set, List.length_map, List.length_take, List.length_drop]; omega)) only [stdh, goK_s2b, dgoK_s2b, isEff_s2b, isPure_s2b, goK_b2s, dgoK_b2s, isEff_b2s, isPure_b2s, evalOp_s2b, s2bR, goK_mark, dgoK_mark, isEff_mark, isPure_mark, evalOp_mark, markA_slc, markB, ↓reduceIte, Nat.reduceEqDiff, Int.reduceToNat, Int.reducePow, Nat.reduceAdd, Nat.reduceLeDiff, Nat.reduceMul, Nat.reduceBEq, reduceCtorEq]
    refine callK_fn (known12_ok _ _ ?_)
    refine runL_V 60 ?_
    simp (disch := first | omega | (simp only [List.length_append, List.length_cons, List.length_nil, List.length_set, List.length_map, List.length_take, List.length_drop]; omega)) only [stdh, goK_s2b, dgoK_s2b, isEff_s2b, isPure_s2b, goK_b2s, dgoK_b2s, isEff_b2s, isPure_b2s, evalOp_s2b, s2bR, goK_mark, dgoK_mark, isEff_mark, isPure_mark, evalOp_mark, markA_slc, markB, ↓reduceIte, Nat.reduceEqDiff, Int.reduceToNat, Int.reducePow, Nat.reduceAdd, Nat.reduceLeDiff, Nat.reduceMul, Nat.reduceBEq, reduceCtorEq]
    refine callK_fn (same_ok _ (nums_nats _ _ _ _) (nums_nats _ _ _ _) (by omega) _ ?_)
    rw [show decide (zs = zs) = true by simp]
    refine runL_V 60 ?_
    simp (disch := first | omega | (simp only [List.length_append, List.length_cons, List.length_nil, List.length_set, List.length_map, List.length_take, List.length_drop]; omega)) only [stdh, goK_s2b, dgoK_s2b, isEff_s2b, isPure_s2b, goK_b2s, dgoK_b2s, isEff_b2s, isPure_b2s, evalOp_s2b, s2bR, goK_mark, dgoK_mark, isEff_mark, isPure_mark, evalOp_mark, markA_slc, markB, ↓reduceIte, Nat.reduceEqDiff, Int.reduceToNat, Int.reducePow, Nat.reduceAdd, Nat.reduceLeDiff, Nat.reduceMul, Nat.reduceBEq, reduceCtorEq]
    refine callK_fn (count_ok _ hy hr (by omega) (by omega) _ ?_)
    refine runL_V 60 ?_
    simp (disch := first | omega | (simp only [List.length_append, List.length_cons, List.length_nil, List.length_set, List.length_map, List.length_take, List.length_drop]; omega)) only [stdh, goK_s2b, dgoK_s2b, isEff_s2b, isPure_s2b, goK_b2s, dgoK_b2s, isEff_b2s, isPure_b2s, evalOp_s2b, s2bR, goK_mark, dgoK_mark, isEff_mark, isPure_mark, evalOp_mark, markA_slc, markB, ↓reduceIte, Nat.reduceEqDiff, Int.reduceToNat, Int.reducePow, Nat.reduceAdd, Nat.reduceLeDiff, Nat.reduceMul, Nat.reduceBEq, reduceCtorEq, framesN_len]
  · simp (disch := first | omega | (simp only [List.length_append, List.length_cons, List.length_nil, List.length_set, List.length_map, List.length_take, List.length_drop]; omega)) only [stdh, goK_s2b, dgoK_s2b, isEff_s2b, isPure_s2b, goK_b2s, dgoK_b2s, isEff_b2s, isPure_b2s, evalOp_s2b, s2bR, goK_mark, dgoK_mark, isEff_mark, isPure_mark, evalOp_mark, markA_slc, markB, ↓reduceIte, Nat.reduceEqDiff, Int.reduceToNat, Int.reducePow, Nat.reduceAdd, Nat.reduceLeDiff, Nat.reduceMul, Nat.reduceBEq, reduceCtorEq]
    refine callK_fn (known12_ok _ _ ?_)
    refine runL_V 60 ?_
    simp (disch := first | omega | (simp only [List.length_append, List.length_cons, List.length_nil, List.length_set, List.length_map, List.length_take, List.length_drop]; omega)) only [stdh, goK_s2b, dgoK_s2b, isEff_s2b, isPure_s2b, goK_b2s, dgoK_b2s, isEff_b2s, isPure_b2s, evalOp_s2b, s2bR, goK_mark, dgoK_mark, isEff_mark, isPure_mark, evalOp_mark, markA_slc, markB, ↓reduceIte, Nat.reduceEqDiff, Int.reduceToNat, Int.reducePow, Nat.reduceAdd, Nat.reduceLeDiff, Nat.reduceMul, Nat.reduceBEq, reduceCtorEq]
end Go.Proofs.Ytncipoapdpenfaa

namespace Go.Proofs.Ytncipoapdpenfaa.cutFrames
open Go Go.Am Go.ChangeShapes Go.WideShapes Go.ChangeAt Go.RowKit
set_option linter.unusedVariables false

theorem own : ownKnob Try.prog.godebug = none := by kernel_rfl
theorem laidOut : laidOutB Try.prog = true := by kernel_rfl

set_option maxRecDepth 100000 in
theorem lifted (os : Os) (started : os.Started) (H : Type) (enc : TypeId × Value → H) :
    ReturnsInHanded {} Try.checked os F.cuneiformlaw12_CutFrames .any (Rows.cutFramesSpec.pre6 enc Try.prog Try.f3 Rows.cutFramesRow.domain false) (Rows.cutFramesSpec.post enc Try.prog Try.f3 false true false false) := by
  refine returnsInHanded_of_change (C := Try.checked) own started (by kernel_rfl) Try.func3
    (ChangeSpec.witness6 (enc := enc) (C := Try.checked) false ⟨#[], #[.agg #[.int .i64 0, .int .i64 0, .int .u32 0, .int .i64 0, .int .i64 0], .slice none 0 0, .int .i64 0], []⟩ 8 (by kernel_rfl) (by kernel_rfl) (by kernel_rfl) (by kernel_rfl)) ?_
  intro W base args ds gs before hval hW hcnd _
  refine law_calls (shs := [shHead, .slice (.int .u8), .int .i64]) (tb := 4) laidOut (by kernel_rfl) ?_ (by kernel_rfl) Try.underlying4 rfl ?_ ?_ hval hW
  · intro t ht
    have : ∀ t ∈ Try.f3.params.toList, (Try.prog.readableRec t && decide (t < Try.prog.types.size)) = true := List.all_eq_true.1 (by kernel_rfl)
    simpa using this t ht
  · intro H ds hd
    match ds, hd with
    | [d0, d1, d2], _ => exact ⟨rfl, rfl, rfl⟩
  · rintro xs ⟨a, r, rfl, ⟨l, rfl, h1⟩, b, r', rfl, hb, c, r'', rfl, ⟨z, hz, wz⟩, rfl⟩
    cases hz
    obtain ⟨_, _, rfl, ⟨v, rfl, b1⟩, h1⟩ := h1
    obtain ⟨_, _, rfl, ⟨k, rfl, b2⟩, h1⟩ := h1
    obtain ⟨_, _, rfl, ⟨s, rfl, b3⟩, h1⟩ := h1
    obtain ⟨_, _, rfl, ⟨i, rfl, b4⟩, h1⟩ := h1
    obtain ⟨_, _, rfl, ⟨n, rfl, b5⟩, h1⟩ := h1
    have h1' : _ = ([] : List AVal) := h1
    subst h1'
    obtain ⟨bs, q1, q2, q3⟩ := nums_fits (k := .u8) rfl hb
    have bnd : -9223372036854775808 ≤ z ∧ z < 9223372036854775808 := by
      simp only [Lit.wf, Bool.and_eq_true, decide_eq_true_eq, IntKind.min, IntKind.max, IntKind.signed, IntKind.bits] at wz
      simp at wz
      omega
    exact fun_sees (.cons (.refl _) (.cons q1 (.cons (.refl _) .nil))) (cutframes_ok (h := ⟨v, k, s, i, n⟩) bnd)

theorem proved : Rows.CutFramesSaid :=
  OpenClaim.holds_of_wide F.cuneiformlaw12_CutFrames Try.f3 rfl rfl rfl rfl rfl rfl rfl ⟨rfl, rfl, rfl, rfl, rfl⟩ rfl rfl rfl rfl rfl (by kernel_rfl) Try.func3 (by kernel_rfl)
    (of_decide_eq_true (by kernel_rfl)) (by unfold Func.isWrapper; first | (rw [if_pos (by decide +kernel)]; kernel_rfl) | (rw [if_neg (by decide +kernel)]; exact ⟨rfl, rfl⟩))
    (fun os started H enc _ => lifted os started H enc)
end Go.Proofs.Ytncipoapdpenfaa.cutFrames
