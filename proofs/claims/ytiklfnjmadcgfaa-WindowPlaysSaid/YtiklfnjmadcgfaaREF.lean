/-
  Lemmas on the way to the statements of this seat. By an AI agent. No person has read it.
-/
import Derived.Test.YtiklfnjmadcgfaaITER

namespace Go.Proofs.Ytiklfnjmadcgfaa
open Go Go.Am
set_option linter.unusedSimpArgs false
set_option linter.unusedVariables false

theorem rway_ok (H : AHeap) (a b : Nat) (ha : a < 4294967296) (hb : b < 4294967296) (Q : AVal → AHeap → Prop) (h : Q (.int .u32 (wy a b)) H) : FunOK Try.prog F.cuneiformref10_Way [.int .u32 a, .int .u32 b] H Q := by
  refine fun_V 40 cuneiformref10_Way_code rfl ?_
  have e : ((b : Int) + 4294967296 - (a : Int)).tmod 4294967296 = (wy a b : Nat) := by
    rw [Int.tmod_eq_emod_of_nonneg (by omega)]; unfold wy; omega
  have hl := wy_lt a b
  simp (disch := first | omega | (simp only [List.length_append, List.length_cons, List.length_nil, List.length_set, List.length_map, List.length_take, List.length_drop]; omega)) only [stdh, goK_s2b, dgoK_s2b, isEff_s2b, isPure_s2b, goK_b2s, dgoK_b2s, isEff_b2s, isPure_b2s, evalOp_s2b, s2bR, goK_mark, dgoK_mark, isEff_mark, isPure_mark, evalOp_mark, markA_slc, markB, ↓reduceIte, Nat.reduceEqDiff, Int.reduceToNat, Int.reducePow, Nat.reduceAdd, Nat.reduceLeDiff, Nat.reduceMul, Nat.reduceBEq, reduceCtorEq, cuneiformref10_Way, cuneiformref10_Way.body, e]
  exact h

theorem raft_ok (H : AHeap) (a b : Nat) (ha : a < 4294967296) (hb : b < 4294967296) (Q : AVal → AHeap → Prop) (h : Q (.bool (aft a b)) H) : FunOK Try.prog F.cuneiformref10_After [.int .u32 a, .int .u32 b] H Q := by
  refine fun_V 40 cuneiformref10_After_code rfl ?_
  simp (disch := first | omega | (simp only [List.length_append, List.length_cons, List.length_nil, List.length_set, List.length_map, List.length_take, List.length_drop]; omega)) only [stdh, goK_s2b, dgoK_s2b, isEff_s2b, isPure_s2b, goK_b2s, dgoK_b2s, isEff_b2s, isPure_b2s, evalOp_s2b, s2bR, goK_mark, dgoK_mark, isEff_mark, isPure_mark, evalOp_mark, markA_slc, markB, ↓reduceIte, Nat.reduceEqDiff, Int.reduceToNat, Int.reducePow, Nat.reduceAdd, Nat.reduceLeDiff, Nat.reduceMul, Nat.reduceBEq, reduceCtorEq, cuneiformref10_After, cuneiformref10_After.body]
  refine callK_fn (rway_ok _ _ _ hb ha _ ?_)
  refine runL_V 40 ?_
  by_cases h1 : 1 ≤ wy b a
  · have e : decide ((wy b a : Int) < 2147483648) = aft a b := by
      unfold aft
      rw [decide_eq_decide]
      omega
    simp (disch := first | omega | (simp only [List.length_append, List.length_cons, List.length_nil, List.length_set, List.length_map, List.length_take, List.length_drop]; omega)) only [stdh, goK_s2b, dgoK_s2b, isEff_s2b, isPure_s2b, goK_b2s, dgoK_b2s, isEff_b2s, isPure_b2s, evalOp_s2b, s2bR, goK_mark, dgoK_mark, isEff_mark, isPure_mark, evalOp_mark, markA_slc, markB, ↓reduceIte, Nat.reduceEqDiff, Int.reduceToNat, Int.reducePow, Nat.reduceAdd, Nat.reduceLeDiff, Nat.reduceMul, Nat.reduceBEq, reduceCtorEq]
    refine callK_fn (rway_ok _ _ _ hb ha _ ?_)
    refine runL_V 40 ?_
    simp (disch := first | omega | (simp only [List.length_append, List.length_cons, List.length_nil, List.length_set, List.length_map, List.length_take, List.length_drop]; omega)) only [stdh, goK_s2b, dgoK_s2b, isEff_s2b, isPure_s2b, goK_b2s, dgoK_b2s, isEff_b2s, isPure_b2s, evalOp_s2b, s2bR, goK_mark, dgoK_mark, isEff_mark, isPure_mark, evalOp_mark, markA_slc, markB, ↓reduceIte, Nat.reduceEqDiff, Int.reduceToNat, Int.reducePow, Nat.reduceAdd, Nat.reduceLeDiff, Nat.reduceMul, Nat.reduceBEq, reduceCtorEq, e]
    exact h
  · have e : aft a b = false := by unfold aft; rw [decide_eq_false_iff_not]; omega
    rw [e] at h
    simp (disch := first | omega | (simp only [List.length_append, List.length_cons, List.length_nil, List.length_set, List.length_map, List.length_take, List.length_drop]; omega)) only [stdh, goK_s2b, dgoK_s2b, isEff_s2b, isPure_s2b, goK_b2s, dgoK_b2s, isEff_b2s, isPure_b2s, evalOp_s2b, s2bR, goK_mark, dgoK_mark, isEff_mark, isPure_mark, evalOp_mark, markA_slc, markB, ↓reduceIte, Nat.reduceEqDiff, Int.reduceToNat, Int.reducePow, Nat.reduceAdd, Nat.reduceLeDiff, Nat.reduceMul, Nat.reduceBEq, reduceCtorEq]
    exact h

theorem radd_ok (H : AHeap) (a : Nat) (n : Int) (ha : a < 4294967296) (hn : -9223372036854775808 ≤ n ∧ n ≤ 9223372036854775807) (Q : AVal → AHeap → Prop) (h : Q (.int .u32 (addN a n)) H) : FunOK Try.prog F.cuneiformref10_Add [.int .u32 a, .int .i64 n] H Q := by
  refine fun_V 40 cuneiformref10_Add_code rfl ?_
  have hr : -4294967296 < n.tmod 4294967296 ∧ n.tmod 4294967296 < 4294967296 ∧ (n.tmod 4294967296 % 4294967296 = n % 4294967296) := by
    refine ⟨?_, ?_, ?_⟩
    · exact Int.lt_tmod_of_pos n (by omega)
    · exact Int.tmod_lt_of_pos n (by omega)
    · rw [Int.tmod_eq_emod]; split <;> simp <;> omega
  by_cases hk : n.tmod 4294967296 < 0
  · have e1 : ((a : Int) + (n.tmod 4294967296 + 4294967296)).tmod 4294967296 = ((addN a n : Nat) : Int) := by
      rw [Int.tmod_eq_emod_of_nonneg (by omega)]; unfold addN; omega
    have hl := addN_lt a n
    generalize hkk : n.tmod 4294967296 = k at *
    simp (disch := first | omega | (simp only [List.length_append, List.length_cons, List.length_nil, List.length_set, List.length_map, List.length_take, List.length_drop]; omega)) only [stdh, goK_s2b, dgoK_s2b, isEff_s2b, isPure_s2b, goK_b2s, dgoK_b2s, isEff_b2s, isPure_b2s, evalOp_s2b, s2bR, goK_mark, dgoK_mark, isEff_mark, isPure_mark, evalOp_mark, markA_slc, markB, ↓reduceIte, Nat.reduceEqDiff, Int.reduceToNat, Int.reducePow, Nat.reduceAdd, Nat.reduceLeDiff, Nat.reduceMul, Nat.reduceBEq, reduceCtorEq, cuneiformref10_Add, cuneiformref10_Add.body, hkk, e1]
    exact h
  · have e1 : ((a : Int) + n.tmod 4294967296).tmod 4294967296 = ((addN a n : Nat) : Int) := by
      rw [Int.tmod_eq_emod_of_nonneg (by omega)]; unfold addN; omega
    have hl := addN_lt a n
    generalize hkk : n.tmod 4294967296 = k at *
    simp (disch := first | omega | (simp only [List.length_append, List.length_cons, List.length_nil, List.length_set, List.length_map, List.length_take, List.length_drop]; omega)) only [stdh, goK_s2b, dgoK_s2b, isEff_s2b, isPure_s2b, goK_b2s, dgoK_b2s, isEff_b2s, isPure_b2s, evalOp_s2b, s2bR, goK_mark, dgoK_mark, isEff_mark, isPure_mark, evalOp_mark, markA_slc, markB, ↓reduceIte, Nat.reduceEqDiff, Int.reduceToNat, Int.reducePow, Nat.reduceAdd, Nat.reduceLeDiff, Nat.reduceMul, Nat.reduceBEq, reduceCtorEq, cuneiformref10_Add, cuneiformref10_Add.body, hkk, e1]
    exact h

/-! ### 64 truths -/

def upTo (n : Nat) : List Nat := if h : n = 0 then [] else upTo (n - 1) ++ [n - 1]
  termination_by n
theorem upTo_eq : ∀ n, upTo n = List.range n
  | 0 => by rw [upTo]; simp
  | n + 1 => by rw [upTo, dif_neg (by omega), Nat.add_sub_cancel, upTo_eq n, List.range_succ]

def arr (f : Nat → Bool) : List AVal := (upTo 64).map fun i => .bool (f i)
theorem arr_len (f : Nat → Bool) : (arr f).length = 64 := by simp [arr, upTo_eq]
theorem arr_get (f : Nat → Bool) {i : Nat} (h : i < 64) : (arr f).getD i .junk = .bool (f i) := by
  simp [arr, upTo_eq, List.getD_eq_getElem?_getD, List.getElem?_range h]
theorem arr_set (f : Nat → Bool) (i : Nat) (b : Bool) : (arr f).set i (.bool b) = arr fun x => if x = i then b else f x := by
  apply List.ext_getElem?
  intro j
  simp only [arr, upTo_eq, List.getElem?_set, List.length_map, List.length_range, List.getElem?_map]
  by_cases hj : j < 64
  · rw [List.getElem?_range hj]
    by_cases hi : i = j
    · subst hi; simp [hj]
    · rw [if_neg hi]; simp [show ¬ j = i from fun e => hi e.symm]
  · by_cases hi : i = j
    · subst hi; simp [hj]
    · rw [if_neg hi]; simp [hj]
theorem arr_congr {f g : Nat → Bool} (h : ∀ i, i < 64 → f i = g i) : arr f = arr g := by
  have : ∀ i ∈ upTo 64, (AVal.bool (f i)) = .bool (g i) := fun i hi => by rw [h i (by rw [upTo_eq] at hi; exact List.mem_range.1 hi)]
  exact List.map_congr_left this
theorem arr_take (f : Nat → Bool) : (arr f).take 64 = arr f := List.take_of_length_le (by rw [arr_len]; omega)
theorem arr_cellish (f : Nat → Bool) : (arr f).all AVal.cellish = true := by simp [arr, AVal.cellish]
theorem arr_closed {L : Nat} (f : Nat → Bool) : closeds L (arr f) := closeds_all fun a ha => by
  obtain ⟨i, _, rfl⟩ := List.mem_map.1 ha; trivial

theorem fill_key : ∀ (vs : List AVal) (cs : List AVal) (o : Nat), o + vs.length = cs.length → fillAt cs o vs = cs.take o ++ vs := by
  intro vs
  induction vs with
  | nil => intro cs o h; simp only [fillAt]; rw [List.take_of_length_le (by simp at h; omega), List.append_nil]
  | cons v vs ih =>
    intro cs o h
    simp only [fillAt]
    rw [ih _ _ (by simp at h ⊢; omega)]
    have ho : o < cs.length := by simp at h; omega
    rw [List.take_succ_eq_append_getElem (by simpa using ho), List.take_set, List.set_eq_of_length_le (by simp; omega)]
    simp

/-- A window of the document's. -/
def wc (top : Nat) (f : Nat → Bool) : List AVal := .int .u32 (top : Nat) :: arr f
theorem wc_len (t : Nat) (f : Nat → Bool) : (wc t f).length = 65 := by simp [wc, arr_len]
theorem wc_get0 (t : Nat) (f : Nat → Bool) : (wc t f).getD 0 .junk = .int .u32 (t : Nat) := rfl
theorem wc_get (t : Nat) (f : Nat → Bool) {i : Nat} (h : i < 64) : (wc t f).getD (1 + i) .junk = .bool (f i) := by
  rw [Nat.add_comm]; exact arr_get f h
theorem wc_set0 (t t' : Nat) (f : Nat → Bool) : (wc t f).set 0 (.int .u32 (t' : Nat)) = wc t' f := rfl
theorem wc_set (t : Nat) (f : Nat → Bool) (i : Nat) (b : Bool) : (wc t f).set (1 + i) (.bool b) = wc t fun x => if x = i then b else f x := by
  rw [Nat.add_comm, wc, List.set_cons_succ, arr_set]; rfl
theorem wc_take (t : Nat) (f : Nat → Bool) : (wc t f).take 65 = wc t f := List.take_of_length_le (by rw [wc_len]; omega)
theorem wc_cellish (t : Nat) (f : Nat → Bool) : (wc t f).all AVal.cellish = true := by simp [wc, AVal.cellish, arr]
theorem wc_closed {L : Nat} (t : Nat) (f : Nat → Bool) : closeds L (wc t f) := ⟨trivial, arr_closed f⟩
theorem wc_fill (t t' : Nat) (f g : Nat → Bool) : fillAt (wc t f) 0 (wc t' g) = wc t' g := by
  rw [fill_key _ _ _ (by rw [wc_len, wc_len])]; rfl
theorem wc_fill1 (t : Nat) (f g : Nat → Bool) : fillAt (wc t f) 1 (arr g) = wc t g := by
  rw [fill_key _ _ _ (by rw [wc_len, arr_len])]; rfl
theorem wc_congr {t : Nat} {f g : Nat → Bool} (h : ∀ i, i < 64 → f i = g i) : wc t f = wc t g := by rw [wc, wc, arr_congr h]
theorem wc_zero : AVal.int .u32 0 :: arr (fun _ => false) = wc 0 fun _ => false := rfl
theorem false64 : [AVal.bool false, AVal.bool false, AVal.bool false, AVal.bool false, AVal.bool false, AVal.bool false, AVal.bool false, AVal.bool false, AVal.bool false, AVal.bool false, AVal.bool false, AVal.bool false, AVal.bool false, AVal.bool false, AVal.bool false, AVal.bool false, AVal.bool false, AVal.bool false, AVal.bool false, AVal.bool false, AVal.bool false, AVal.bool false, AVal.bool false, AVal.bool false, AVal.bool false, AVal.bool false, AVal.bool false, AVal.bool false, AVal.bool false, AVal.bool false, AVal.bool false, AVal.bool false, AVal.bool false, AVal.bool false, AVal.bool false, AVal.bool false, AVal.bool false, AVal.bool false, AVal.bool false, AVal.bool false, AVal.bool false, AVal.bool false, AVal.bool false, AVal.bool false, AVal.bool false, AVal.bool false, AVal.bool false, AVal.bool false, AVal.bool false, AVal.bool false, AVal.bool false, AVal.bool false, AVal.bool false, AVal.bool false, AVal.bool false, AVal.bool false, AVal.bool false, AVal.bool false, AVal.bool false, AVal.bool false, AVal.bool false, AVal.bool false, AVal.bool false, AVal.bool false] = arr fun _ => false := by
  rw [arr, upTo_eq]; rfl

/-! ### The document's answers -/

abbrev rnewC : Ctx := ⟨F.cuneiformref11_New, 16, [.cell 2 (some 65)], none⟩

theorem rnew_loop (K : List AItem) (H : AHeap) (Q : AVal → AHeap → Prop) {t : Nat}
    (hK : ∀ r', rget r' 2 = .ptr H.length 0 → rget r' 3 = .ptr (H.length + 1) 0 → Run Try.prog rnewC K r' (H ++ [.cells (wc 0 fun _ => false) T.cuneiformref11_W, .cells (wc t fun _ => true) T.cuneiformref11_W]) Q) :
    ∀ (m i : Nat), 64 - i = m → i ≤ 64 →
    Rounds Try.prog rnewC cuneiformref11_New.b0 [.inBlock 0] K [(2, .ptr H.length 0), (3, .ptr (H.length + 1) 0), (4, .int .i64 (i : Nat))] (H ++ [.cells (wc 0 fun _ => false) T.cuneiformref11_W, .cells (wc t fun j => decide (j < i)) T.cuneiformref11_W]) Q
  | m, i, h1, h2 => by
    refine loop_V 100 cuneiformref11_New.b0.eq_1 ?_
    by_cases hi : i < 64
    · simp (disch := first | omega | (simp only [List.length_append, List.length_cons, List.length_nil, List.length_set, List.length_map, List.length_take, List.length_drop]; omega)) only [stdh, goK_s2b, dgoK_s2b, isEff_s2b, isPure_s2b, goK_b2s, dgoK_b2s, isEff_b2s, isPure_b2s, evalOp_s2b, s2bR, goK_mark, dgoK_mark, isEff_mark, isPure_mark, evalOp_mark, markA_slc, markB, ↓reduceIte, Nat.reduceEqDiff, Int.reduceToNat, Int.reducePow, Nat.reduceAdd, Nat.reduceLeDiff, Nat.reduceMul, Nat.reduceBEq, reduceCtorEq, wc_len, wc_set]
      rw [show (i : Int) + 1 = ((i + 1 : Nat) : Int) by omega]
      have e : wc t (fun x => if x = i then true else decide (x < i)) = wc t fun j => decide (j < i + 1) := wc_congr fun x hx => by
        by_cases hxi : x = i
        · rw [if_pos hxi]; simp; omega
        · rw [if_neg hxi, decide_eq_decide]; omega
      rw [e]
      exact rnew_loop K H Q hK _ (i + 1) rfl (by omega)
    · have : i = 64 := by omega
      subst this
      have e : wc t (fun j => decide (j < 64)) = wc t fun _ => true := wc_congr fun x hx => by simp [hx]
      rw [e]
      simp (disch := first | omega | (simp only [List.length_append, List.length_cons, List.length_nil, List.length_set, List.length_map, List.length_take, List.length_drop]; omega)) only [stdh, goK_s2b, dgoK_s2b, isEff_s2b, isPure_s2b, goK_b2s, dgoK_b2s, isEff_b2s, isPure_b2s, evalOp_s2b, s2bR, goK_mark, dgoK_mark, isEff_mark, isPure_mark, evalOp_mark, markA_slc, markB, ↓reduceIte, Nat.reduceEqDiff, Int.reduceToNat, Int.reducePow, Nat.reduceAdd, Nat.reduceLeDiff, Nat.reduceMul, Nat.reduceBEq, reduceCtorEq]
      exact hK _ rfl rfl
  termination_by m => m

theorem rnew_ok (H : AHeap) (s : Nat) (hs : s < 4294967296) (Q : AVal → AHeap → Prop) (h : Q (.agg (wc (addN s (-1)) fun _ => true)) H) : FunOK Try.prog F.cuneiformref11_New [.int .u32 (s : Nat)] H Q := by
  refine fun_iced cuneiformref11_New_code fun _ => ?_
  refine fun_V 100 cuneiformref11_New_code rfl ?_
  simp (disch := first | omega | (simp only [List.length_append, List.length_cons, List.length_nil, List.length_set, List.length_map, List.length_take, List.length_drop]; omega)) only [stdh, goK_s2b, dgoK_s2b, isEff_s2b, isPure_s2b, goK_b2s, dgoK_b2s, isEff_b2s, isPure_b2s, evalOp_s2b, s2bR, goK_mark, dgoK_mark, isEff_mark, isPure_mark, evalOp_mark, markA_slc, markB, ↓reduceIte, Nat.reduceEqDiff, Int.reduceToNat, Int.reducePow, Nat.reduceAdd, Nat.reduceLeDiff, Nat.reduceMul, Nat.reduceBEq, reduceCtorEq, cuneiformref11_New, cuneiformref11_New.body, false64, wc_zero]
  refine callK_fn (radd_ok _ _ _ hs (by omega) _ ?_)
  refine runL_V 60 ?_
  simp (disch := first | omega | (simp only [List.length_append, List.length_cons, List.length_nil, List.length_set, List.length_map, List.length_take, List.length_drop]; omega)) only [stdh, goK_s2b, dgoK_s2b, isEff_s2b, isPure_s2b, goK_b2s, dgoK_b2s, isEff_b2s, isPure_b2s, evalOp_s2b, s2bR, goK_mark, dgoK_mark, isEff_mark, isPure_mark, evalOp_mark, markA_slc, markB, ↓reduceIte, Nat.reduceEqDiff, Int.reduceToNat, Int.reducePow, Nat.reduceAdd, Nat.reduceLeDiff, Nat.reduceMul, Nat.reduceBEq, reduceCtorEq, false64, wc_zero, wc_len, wc_set0, wc_fill, wc_cellish]
  have e : wc (addN s (-1)) (fun _ => false) = wc (addN s (-1)) fun j => decide (j < 0) := wc_congr fun x hx => by simp
  rw [e]
  refine rnew_loop _ H _ ?_ _ 0 rfl (by omega)
  intro r' g2 g3
  refine run_V0 60 ?_
  simp (disch := first | omega | (simp only [List.length_append, List.length_cons, List.length_nil, List.length_set, List.length_map, List.length_take, List.length_drop]; omega)) only [stdh, goK_s2b, dgoK_s2b, isEff_s2b, isPure_s2b, goK_b2s, dgoK_b2s, isEff_b2s, isPure_b2s, evalOp_s2b, s2bR, goK_mark, dgoK_mark, isEff_mark, isPure_mark, evalOp_mark, markA_slc, markB, ↓reduceIte, Nat.reduceEqDiff, Int.reduceToNat, Int.reducePow, Nat.reduceAdd, Nat.reduceLeDiff, Nat.reduceMul, Nat.reduceBEq, reduceCtorEq, g2, g3, wc_len, wc_take, wc_fill, wc_cellish]
  exact ice_none (wc_closed _ _) h

theorem add_eq {top n i : Nat} (ht : top < 4294967296) (hn : n < 4294967296) (hi : i < 64) : addN top (0 - (i : Int)) = n ↔ wy n top = i := by unfold addN wy; omega

abbrev rlookC : Ctx := ⟨F.cuneiformref11_Look, 25, [.tmp 4], none⟩

theorem rlook_loop (K : List AItem) (H : AHeap) (Q : AVal → AHeap → Prop) {top n : Nat} {f : Nat → Bool} (ht : top < 4294967296) (hn : n < 4294967296)
    (hK : 64 ≤ wy n top → ∀ r', Run Try.prog rlookC K r' (H ++ [.cells (wc top f) T.cuneiformref11_W]) Q)
    (hQ : wy n top < 64 → Q (.int .i64 (if f (wy n top) = true then 14 else 0)) (H ++ [.cells (wc top f) T.cuneiformref11_W])) :
    ∀ (m i : Nat), 64 - i = m → i ≤ 64 → i ≤ wy n top →
    Rounds Try.prog rlookC cuneiformref11_Look.b0 [.inBlock 0] K [(1, .int .u32 (n : Nat)), (2, .ptr H.length 0), (5, .int .i64 (i : Nat))] (H ++ [.cells (wc top f) T.cuneiformref11_W]) Q
  | m, i, h1, h2, h3 => by
    refine loop_V 100 cuneiformref11_Look.b0.eq_1 ?_
    by_cases hi : i < 64
    · simp (disch := first | omega | (simp only [List.length_append, List.length_cons, List.length_nil, List.length_set, List.length_map, List.length_take, List.length_drop]; omega)) only [stdh, goK_s2b, dgoK_s2b, isEff_s2b, isPure_s2b, goK_b2s, dgoK_b2s, isEff_b2s, isPure_b2s, evalOp_s2b, s2bR, goK_mark, dgoK_mark, isEff_mark, isPure_mark, evalOp_mark, markA_slc, markB, ↓reduceIte, Nat.reduceEqDiff, Int.reduceToNat, Int.reducePow, Nat.reduceAdd, Nat.reduceLeDiff, Nat.reduceMul, Nat.reduceBEq, reduceCtorEq, wc_len, wc_get0]
      refine callK_fn (radd_ok _ _ _ ht (by omega) _ ?_)
      refine runL_V 60 ?_
      have ha := add_eq ht hn hi
      by_cases he : wy n top = i
      · have e1 : ((addN top (0 - (i : Int)) : Nat) : Int) = (n : Int) := by have := ha.2 he; omega
        have hq := hQ (by omega)
        rw [he] at hq
        cases hf : f i with
        | true =>
          rw [hf, if_pos rfl] at hq
          simp (disch := first | omega | (simp only [List.length_append, List.length_cons, List.length_nil, List.length_set, List.length_map, List.length_take, List.length_drop]; omega)) only [stdh, goK_s2b, dgoK_s2b, isEff_s2b, isPure_s2b, goK_b2s, dgoK_b2s, isEff_b2s, isPure_b2s, evalOp_s2b, s2bR, goK_mark, dgoK_mark, isEff_mark, isPure_mark, evalOp_mark, markA_slc, markB, ↓reduceIte, Nat.reduceEqDiff, Int.reduceToNat, Int.reducePow, Nat.reduceAdd, Nat.reduceLeDiff, Nat.reduceMul, Nat.reduceBEq, reduceCtorEq, e1, wc_len, wc_get, hf]
          exact hq
        | false =>
          rw [hf, if_neg (by simp)] at hq
          simp (disch := first | omega | (simp only [List.length_append, List.length_cons, List.length_nil, List.length_set, List.length_map, List.length_take, List.length_drop]; omega)) only [stdh, goK_s2b, dgoK_s2b, isEff_s2b, isPure_s2b, goK_b2s, dgoK_b2s, isEff_b2s, isPure_b2s, evalOp_s2b, s2bR, goK_mark, dgoK_mark, isEff_mark, isPure_mark, evalOp_mark, markA_slc, markB, ↓reduceIte, Nat.reduceEqDiff, Int.reduceToNat, Int.reducePow, Nat.reduceAdd, Nat.reduceLeDiff, Nat.reduceMul, Nat.reduceBEq, reduceCtorEq, e1, wc_len, wc_get, hf]
          exact hq
      · have e1 : ¬ ((addN top (0 - (i : Int)) : Nat) : Int) = (n : Int) := fun h => he (ha.1 (by omega))
        simp (disch := first | omega | (simp only [List.length_append, List.length_cons, List.length_nil, List.length_set, List.length_map, List.length_take, List.length_drop]; omega)) only [stdh, goK_s2b, dgoK_s2b, isEff_s2b, isPure_s2b, goK_b2s, dgoK_b2s, isEff_b2s, isPure_b2s, evalOp_s2b, s2bR, goK_mark, dgoK_mark, isEff_mark, isPure_mark, evalOp_mark, markA_slc, markB, ↓reduceIte, Nat.reduceEqDiff, Int.reduceToNat, Int.reducePow, Nat.reduceAdd, Nat.reduceLeDiff, Nat.reduceMul, Nat.reduceBEq, reduceCtorEq, e1]
        rw [show (i : Int) + 1 = ((i + 1 : Nat) : Int) by omega]
        exact rlook_loop K H Q ht hn hK hQ _ (i + 1) rfl (by omega) (by omega)
    · have : i = 64 := by omega
      subst this
      simp (disch := first | omega | (simp only [List.length_append, List.length_cons, List.length_nil, List.length_set, List.length_map, List.length_take, List.length_drop]; omega)) only [stdh, goK_s2b, dgoK_s2b, isEff_s2b, isPure_s2b, goK_b2s, dgoK_b2s, isEff_b2s, isPure_b2s, evalOp_s2b, s2bR, goK_mark, dgoK_mark, isEff_mark, isPure_mark, evalOp_mark, markA_slc, markB, ↓reduceIte, Nat.reduceEqDiff, Int.reduceToNat, Int.reducePow, Nat.reduceAdd, Nat.reduceLeDiff, Nat.reduceMul, Nat.reduceBEq, reduceCtorEq]
      exact hK h3 _
  termination_by m => m

theorem rlook_ok (H : AHeap) {top bts n : Nat} (ht : top < 4294967296) (hn : n < 4294967296) (Q : AVal → AHeap → Prop) (h : Q (.int .i64 (lookW top bts n)) H) : FunOK Try.prog F.cuneiformref11_Look [.agg (wc top fun j => bts.testBit j), .int .u32 (n : Nat)] H Q := by
  refine fun_iced cuneiformref11_Look_code fun _ => ?_
  refine fun_V 100 cuneiformref11_Look_code rfl ?_
  simp (disch := first | omega | (simp only [List.length_append, List.length_cons, List.length_nil, List.length_set, List.length_map, List.length_take, List.length_drop]; omega)) only [stdh, goK_s2b, dgoK_s2b, isEff_s2b, isPure_s2b, goK_b2s, dgoK_b2s, isEff_b2s, isPure_b2s, evalOp_s2b, s2bR, goK_mark, dgoK_mark, isEff_mark, isPure_mark, evalOp_mark, markA_slc, markB, ↓reduceIte, Nat.reduceEqDiff, Int.reduceToNat, Int.reducePow, Nat.reduceAdd, Nat.reduceLeDiff, Nat.reduceMul, Nat.reduceBEq, reduceCtorEq, cuneiformref11_Look, cuneiformref11_Look.body, wc_len, wc_get0, wc_cellish]
  refine callK_fn (raft_ok _ _ _ hn ht _ ?_)
  refine runL_V 60 ?_
  cases ha : aft n top with
  | true =>
    have e : lookW top bts n = 0 := by simp [lookW, ha]
    rw [e] at h
    simp (disch := first | omega | (simp only [List.length_append, List.length_cons, List.length_nil, List.length_set, List.length_map, List.length_take, List.length_drop]; omega)) only [stdh, goK_s2b, dgoK_s2b, isEff_s2b, isPure_s2b, goK_b2s, dgoK_b2s, isEff_b2s, isPure_b2s, evalOp_s2b, s2bR, goK_mark, dgoK_mark, isEff_mark, isPure_mark, evalOp_mark, markA_slc, markB, ↓reduceIte, Nat.reduceEqDiff, Int.reduceToNat, Int.reducePow, Nat.reduceAdd, Nat.reduceLeDiff, Nat.reduceMul, Nat.reduceBEq, reduceCtorEq]
    exact ice_none trivial h
  | false =>
    simp (disch := first | omega | (simp only [List.length_append, List.length_cons, List.length_nil, List.length_set, List.length_map, List.length_take, List.length_drop]; omega)) only [stdh, goK_s2b, dgoK_s2b, isEff_s2b, isPure_s2b, goK_b2s, dgoK_b2s, isEff_b2s, isPure_b2s, evalOp_s2b, s2bR, goK_mark, dgoK_mark, isEff_mark, isPure_mark, evalOp_mark, markA_slc, markB, ↓reduceIte, Nat.reduceEqDiff, Int.reduceToNat, Int.reducePow, Nat.reduceAdd, Nat.reduceLeDiff, Nat.reduceMul, Nat.reduceBEq, reduceCtorEq]
    refine rlook_loop _ H _ ht hn ?_ ?_ _ 0 rfl (by omega) (by omega)
    · intro hw r'
      have e : lookW top bts n = 15 := by simp [lookW, ha, hw]
      rw [e] at h
      refine run_V0 60 ?_
      simp (disch := first | omega | (simp only [List.length_append, List.length_cons, List.length_nil, List.length_set, List.length_map, List.length_take, List.length_drop]; omega)) only [stdh, goK_s2b, dgoK_s2b, isEff_s2b, isPure_s2b, goK_b2s, dgoK_b2s, isEff_b2s, isPure_b2s, evalOp_s2b, s2bR, goK_mark, dgoK_mark, isEff_mark, isPure_mark, evalOp_mark, markA_slc, markB, ↓reduceIte, Nat.reduceEqDiff, Int.reduceToNat, Int.reducePow, Nat.reduceAdd, Nat.reduceLeDiff, Nat.reduceMul, Nat.reduceBEq, reduceCtorEq]
      exact ice_none trivial h
    · intro hw
      have e : ((lookW top bts n : Nat) : Int) = if bts.testBit (wy n top) = true then 14 else 0 := by
        unfold lookW
        rw [ha, if_neg (by simp), if_neg (by omega)]
        split <;> rfl
      rw [e] at h
      exact ice_none trivial h

abbrev rbitsC : Ctx := ⟨F.cuneiformref11_Bits, 18, [.tmp 2], none⟩

theorem rbits_loop (K : List AItem) (H : AHeap) (Q : AVal → AHeap → Prop) {t w : Nat} (hw : w < 18446744073709551616)
    (hK : ∀ r', rget r' 3 = .int .u64 (w : Nat) → Run Try.prog rbitsC K r' (H ++ [.cells (wc t fun j => w.testBit j) T.cuneiformref11_W]) Q) :
    ∀ (k n : Nat), k ≤ 64 → n = w / 2 ^ k →
    Rounds Try.prog rbitsC cuneiformref11_Bits.b0 [.inBlock 0] K [(1, .ptr H.length 0), (3, .int .u64 (n : Nat)), (4, .int .i64 ((k : Int) - 1))] (H ++ [.cells (wc t fun j => w.testBit j) T.cuneiformref11_W]) Q
  | 0, n, h1, hn => by
    refine loop_V 100 cuneiformref11_Bits.b0.eq_1 ?_
    have hn' : n = w := by simpa using hn
    subst hn'
    simp (disch := first | omega | (simp only [List.length_append, List.length_cons, List.length_nil, List.length_set, List.length_map, List.length_take, List.length_drop]; omega)) only [stdh, goK_s2b, dgoK_s2b, isEff_s2b, isPure_s2b, goK_b2s, dgoK_b2s, isEff_b2s, isPure_b2s, evalOp_s2b, s2bR, goK_mark, dgoK_mark, isEff_mark, isPure_mark, evalOp_mark, markA_slc, markB, ↓reduceIte, Nat.reduceEqDiff, Int.reduceToNat, Int.reducePow, Nat.reduceAdd, Nat.reduceLeDiff, Nat.reduceMul, Nat.reduceBEq, reduceCtorEq]
    exact hK _ rfl
  | k + 1, n, h1, hn => by
    refine loop_V 100 cuneiformref11_Bits.b0.eq_1 ?_
    subst hn
    have hd : w / 2 ^ k = 2 * (w / 2 ^ (k + 1)) + (w / 2 ^ k) % 2 := by
      rw [Nat.pow_succ, ← Nat.div_div_eq_div_mul]; omega
    have hlt : w / 2 ^ k < 18446744073709551616 := Nat.lt_of_le_of_lt (Nat.div_le_self _ _) hw
    have hb : w.testBit k = decide ((w / 2 ^ k) % 2 = 1) := Nat.testBit_eq_decide_div_mod_eq
    have ek : (((k + 1 : Nat) : Int) - 1) = (k : Int) := by omega
    have e1 : IntKind.u64.wrap (2 * ((w / 2 ^ (k + 1) : Nat) : Int)) = ((2 * (w / 2 ^ (k + 1)) : Nat) : Int) := by rw [wrap_u64 (by omega)]; omega
    have hg := wc_get t (fun j => w.testBit j) (i := k) (by omega)
    rw [ek]
    rcases Nat.mod_two_eq_zero_or_one (w / 2 ^ k) with h0 | h0
    · rw [hb, h0] at hg
      have hg' : (wc t fun j => w.testBit j).getD (1 + k) .junk = .bool false := by rw [hg]; rfl
      simp (disch := first | omega | (simp only [List.length_append, List.length_cons, List.length_nil, List.length_set, List.length_map, List.length_take, List.length_drop]; omega)) only [stdh, goK_s2b, dgoK_s2b, isEff_s2b, isPure_s2b, goK_b2s, dgoK_b2s, isEff_b2s, isPure_b2s, evalOp_s2b, s2bR, goK_mark, dgoK_mark, isEff_mark, isPure_mark, evalOp_mark, markA_slc, markB, ↓reduceIte, Nat.reduceEqDiff, Int.reduceToNat, Int.reducePow, Nat.reduceAdd, Nat.reduceLeDiff, Nat.reduceMul, Nat.reduceBEq, reduceCtorEq, e1, wc_len, hg']
      exact rbits_loop K H Q hw hK k _ (by omega) (by omega)
    · rw [hb, h0] at hg
      have hg' : (wc t fun j => w.testBit j).getD (1 + k) .junk = .bool true := by rw [hg]; rfl
      have e2 : IntKind.u64.wrap (((2 * (w / 2 ^ (k + 1)) : Nat) : Int) + 1) = ((w / 2 ^ k : Nat) : Int) := by rw [wrap_u64 (by omega)]; omega
      simp (disch := first | omega | (simp only [List.length_append, List.length_cons, List.length_nil, List.length_set, List.length_map, List.length_take, List.length_drop]; omega)) only [stdh, goK_s2b, dgoK_s2b, isEff_s2b, isPure_s2b, goK_b2s, dgoK_b2s, isEff_b2s, isPure_b2s, evalOp_s2b, s2bR, goK_mark, dgoK_mark, isEff_mark, isPure_mark, evalOp_mark, markA_slc, markB, ↓reduceIte, Nat.reduceEqDiff, Int.reduceToNat, Int.reducePow, Nat.reduceAdd, Nat.reduceLeDiff, Nat.reduceMul, Nat.reduceBEq, reduceCtorEq, e1, wc_len, hg', e2]
      exact rbits_loop K H Q hw hK k _ (by omega) rfl

theorem rbits_ok (H : AHeap) {t w : Nat} (hw : w < 18446744073709551616) (Q : AVal → AHeap → Prop) (h : Q (.int .u64 (w : Nat)) H) : FunOK Try.prog F.cuneiformref11_Bits [.agg (wc t fun j => w.testBit j)] H Q := by
  refine fun_iced cuneiformref11_Bits_code fun _ => ?_
  refine fun_V 100 cuneiformref11_Bits_code rfl ?_
  simp (disch := first | omega | (simp only [List.length_append, List.length_cons, List.length_nil, List.length_set, List.length_map, List.length_take, List.length_drop]; omega)) only [stdh, goK_s2b, dgoK_s2b, isEff_s2b, isPure_s2b, goK_b2s, dgoK_b2s, isEff_b2s, isPure_b2s, evalOp_s2b, s2bR, goK_mark, dgoK_mark, isEff_mark, isPure_mark, evalOp_mark, markA_slc, markB, ↓reduceIte, Nat.reduceEqDiff, Int.reduceToNat, Int.reducePow, Nat.reduceAdd, Nat.reduceLeDiff, Nat.reduceMul, Nat.reduceBEq, reduceCtorEq, cuneiformref11_Bits, cuneiformref11_Bits.body, wc_cellish]
  refine rbits_loop _ H _ hw ?_ 64 0 (by omega) (by rw [Nat.div_eq_of_lt hw])
  intro r' e
  refine run_V0 60 ?_
  simp (disch := first | omega | (simp only [List.length_append, List.length_cons, List.length_nil, List.length_set, List.length_map, List.length_take, List.length_drop]; omega)) only [stdh, goK_s2b, dgoK_s2b, isEff_s2b, isPure_s2b, goK_b2s, dgoK_b2s, isEff_b2s, isPure_b2s, evalOp_s2b, s2bR, goK_mark, dgoK_mark, isEff_mark, isPure_mark, evalOp_mark, markA_slc, markB, ↓reduceIte, Nat.reduceEqDiff, Int.reduceToNat, Int.reducePow, Nat.reduceAdd, Nat.reduceLeDiff, Nat.reduceMul, Nat.reduceBEq, reduceCtorEq, e]
  exact ice_none trivial h
end Go.Proofs.Ytiklfnjmadcgfaa

namespace Go.Proofs.Ytiklfnjmadcgfaa
open Go Go.Am
set_option linter.unusedSimpArgs false
set_option linter.unusedVariables false

abbrev rmarkC : Ctx := ⟨F.cuneiformref11_Mark, 63, [.cell 4 (some 65), .tmp 5], none⟩

theorem rmark_loop0 (K : List AItem) (H : AHeap) (Q : AVal → AHeap → Prop) {top n w : Nat} {f : Nat → Bool} (hw : w ≤ 9223372036854775807)
    (hK : ∀ r', rget r' 1 = .int .u32 (n : Nat) → rget r' 2 = .ptr H.length 0 → rget r' 4 = .ptr (H.length + 1) 0 → rget r' 8 = .ptr (H.length + 2) 0 →
      Run Try.prog rmarkC K r' (H ++ [.cells (wc top f) T.cuneiformref11_W, .cells (wc 0 fun _ => false) T.cuneiformref11_W, .cells (arr fun j => decide (w ≤ j) && f (j - w)) T.n64_bool]) Q) :
    ∀ (m i : Nat) (g : Nat → Bool), 64 - i = m → i ≤ 64 → (∀ j, j < i → g j = (decide (w ≤ j) && f (j - w))) →
    Rounds Try.prog rmarkC cuneiformref11_Mark.b0 [.inBlock 0] K [(1, .int .u32 (n : Nat)), (2, .ptr H.length 0), (4, .ptr (H.length + 1) 0), (7, .int .i64 (w : Nat)), (8, .ptr (H.length + 2) 0), (9, .int .i64 (i : Nat))]
      (H ++ [.cells (wc top f) T.cuneiformref11_W, .cells (wc 0 fun _ => false) T.cuneiformref11_W, .cells (arr g) T.n64_bool]) Q
  | m, i, g, h1, h2, h3 => by
    refine loop_V 100 cuneiformref11_Mark.b0.eq_1 ?_
    by_cases hi : i < 64
    · by_cases hwi : w ≤ i
      · have e0 : (i : Int) - (w : Int) = ((i - w : Nat) : Int) := by omega
        simp (disch := first | omega | (simp only [List.length_append, List.length_cons, List.length_nil, List.length_set, List.length_map, List.length_take, List.length_drop]; omega)) only [stdh, goK_s2b, dgoK_s2b, isEff_s2b, isPure_s2b, goK_b2s, dgoK_b2s, isEff_b2s, isPure_b2s, evalOp_s2b, s2bR, goK_mark, dgoK_mark, isEff_mark, isPure_mark, evalOp_mark, markA_slc, markB, ↓reduceIte, Nat.reduceEqDiff, Int.reduceToNat, Int.reducePow, Nat.reduceAdd, Nat.reduceLeDiff, Nat.reduceMul, Nat.reduceBEq, reduceCtorEq, e0, wc_len, wc_get, arr_len, arr_set]
        rw [show (i : Int) + 1 = ((i + 1 : Nat) : Int) by omega]
        refine rmark_loop0 K H Q hw hK _ (i + 1) _ rfl (by omega) fun j hj => ?_
        by_cases hji : j = i
        · subst hji; rw [if_pos rfl, decide_eq_true hwi, Bool.true_and]
        · rw [if_neg hji]; exact h3 j (by omega)
      · simp (disch := first | omega | (simp only [List.length_append, List.length_cons, List.length_nil, List.length_set, List.length_map, List.length_take, List.length_drop]; omega)) only [stdh, goK_s2b, dgoK_s2b, isEff_s2b, isPure_s2b, goK_b2s, dgoK_b2s, isEff_b2s, isPure_b2s, evalOp_s2b, s2bR, goK_mark, dgoK_mark, isEff_mark, isPure_mark, evalOp_mark, markA_slc, markB, ↓reduceIte, Nat.reduceEqDiff, Int.reduceToNat, Int.reducePow, Nat.reduceAdd, Nat.reduceLeDiff, Nat.reduceMul, Nat.reduceBEq, reduceCtorEq, wc_len, wc_get, arr_len, arr_set]
        rw [show (i : Int) + 1 = ((i + 1 : Nat) : Int) by omega]
        refine rmark_loop0 K H Q hw hK _ (i + 1) _ rfl (by omega) fun j hj => ?_
        by_cases hji : j = i
        · subst hji; rw [if_pos rfl, decide_eq_false hwi, Bool.false_and]
        · rw [if_neg hji]; exact h3 j (by omega)
    · have : i = 64 := by omega
      subst this
      have e : arr g = arr fun j => decide (w ≤ j) && f (j - w) := arr_congr h3
      rw [e]
      simp (disch := first | omega | (simp only [List.length_append, List.length_cons, List.length_nil, List.length_set, List.length_map, List.length_take, List.length_drop]; omega)) only [stdh, goK_s2b, dgoK_s2b, isEff_s2b, isPure_s2b, goK_b2s, dgoK_b2s, isEff_b2s, isPure_b2s, evalOp_s2b, s2bR, goK_mark, dgoK_mark, isEff_mark, isPure_mark, evalOp_mark, markA_slc, markB, ↓reduceIte, Nat.reduceEqDiff, Int.reduceToNat, Int.reducePow, Nat.reduceAdd, Nat.reduceLeDiff, Nat.reduceMul, Nat.reduceBEq, reduceCtorEq]
      exact hK _ rfl rfl rfl rfl
  termination_by m => m

theorem rmark_loop2 (K : List AItem) (H L : AHeap) (Q : AVal → AHeap → Prop) {top n : Nat} {f : Nat → Bool} (ht : top < 4294967296) (hn : n < 4294967296)
    (hK : ∀ r', rget r' 2 = .ptr H.length 0 → rget r' 4 = .ptr (H.length + 1) 0 →
      Run Try.prog rmarkC K r' (H ++ .cells (wc top fun j => f j || decide (wy n top = j)) T.cuneiformref11_W :: L) Q) :
    ∀ (m i : Nat) (g : Nat → Bool), 64 - i = m → i ≤ 64 → (∀ j, j < 64 → g j = if j < i then (f j || decide (wy n top = j)) else f j) →
    Rounds Try.prog rmarkC cuneiformref11_Mark.b2 [.inBlock 2] K [(1, .int .u32 (n : Nat)), (2, .ptr H.length 0), (4, .ptr (H.length + 1) 0), (10, .int .i64 (i : Nat))]
      (H ++ .cells (wc top g) T.cuneiformref11_W :: L) Q
  | m, i, g, h1, h2, h3 => by
    refine loop_V 100 cuneiformref11_Mark.b2.eq_1 ?_
    by_cases hi : i < 64
    · simp (disch := first | omega | (simp only [List.length_append, List.length_cons, List.length_nil, List.length_set, List.length_map, List.length_take, List.length_drop]; omega)) only [stdh, goK_s2b, dgoK_s2b, isEff_s2b, isPure_s2b, goK_b2s, dgoK_b2s, isEff_b2s, isPure_b2s, evalOp_s2b, s2bR, goK_mark, dgoK_mark, isEff_mark, isPure_mark, evalOp_mark, markA_slc, markB, ↓reduceIte, Nat.reduceEqDiff, Int.reduceToNat, Int.reducePow, Nat.reduceAdd, Nat.reduceLeDiff, Nat.reduceMul, Nat.reduceBEq, reduceCtorEq, wc_len, wc_get0]
      refine callK_fn (radd_ok _ _ _ ht (by omega) _ ?_)
      refine runL_V 60 ?_
      have ha := add_eq ht hn hi
      by_cases he : wy n top = i
      · have e1 : ((addN top (0 - (i : Int)) : Nat) : Int) = (n : Int) := by have := ha.2 he; omega
        simp (disch := first | omega | (simp only [List.length_append, List.length_cons, List.length_nil, List.length_set, List.length_map, List.length_take, List.length_drop]; omega)) only [stdh, goK_s2b, dgoK_s2b, isEff_s2b, isPure_s2b, goK_b2s, dgoK_b2s, isEff_b2s, isPure_b2s, evalOp_s2b, s2bR, goK_mark, dgoK_mark, isEff_mark, isPure_mark, evalOp_mark, markA_slc, markB, ↓reduceIte, Nat.reduceEqDiff, Int.reduceToNat, Int.reducePow, Nat.reduceAdd, Nat.reduceLeDiff, Nat.reduceMul, Nat.reduceBEq, reduceCtorEq, e1, wc_len, wc_set]
        rw [show (i : Int) + 1 = ((i + 1 : Nat) : Int) by omega]
        refine rmark_loop2 K H L Q ht hn hK _ (i + 1) _ rfl (by omega) fun j hj => ?_
        by_cases hji : j = i
        · subst hji; rw [if_pos rfl, if_pos (by omega), decide_eq_true he, Bool.or_true]
        · rw [if_neg hji, h3 j hj]
          by_cases hlt : j < i
          · rw [if_pos hlt, if_pos (by omega)]
          · rw [if_neg hlt, if_neg (by omega)]
      · have e1 : ¬ ((addN top (0 - (i : Int)) : Nat) : Int) = (n : Int) := fun h => he (ha.1 (by omega))
        simp (disch := first | omega | (simp only [List.length_append, List.length_cons, List.length_nil, List.length_set, List.length_map, List.length_take, List.length_drop]; omega)) only [stdh, goK_s2b, dgoK_s2b, isEff_s2b, isPure_s2b, goK_b2s, dgoK_b2s, isEff_b2s, isPure_b2s, evalOp_s2b, s2bR, goK_mark, dgoK_mark, isEff_mark, isPure_mark, evalOp_mark, markA_slc, markB, ↓reduceIte, Nat.reduceEqDiff, Int.reduceToNat, Int.reducePow, Nat.reduceAdd, Nat.reduceLeDiff, Nat.reduceMul, Nat.reduceBEq, reduceCtorEq, e1]
        rw [show (i : Int) + 1 = ((i + 1 : Nat) : Int) by omega]
        refine rmark_loop2 K H L Q ht hn hK _ (i + 1) _ rfl (by omega) fun j hj => ?_
        rw [h3 j hj]
        by_cases hji : j = i
        · subst hji; rw [if_neg (by omega), if_pos (by omega), decide_eq_false he, Bool.or_false]
        · by_cases hlt : j < i
          · rw [if_pos hlt, if_pos (by omega)]
          · rw [if_neg hlt, if_neg (by omega)]
    · have : i = 64 := by omega
      subst this
      have e : wc top g = wc top fun j => f j || decide (wy n top = j) := wc_congr fun j hj => by rw [h3 j hj, if_pos hj]
      rw [e]
      simp (disch := first | omega | (simp only [List.length_append, List.length_cons, List.length_nil, List.length_set, List.length_map, List.length_take, List.length_drop]; omega)) only [stdh, goK_s2b, dgoK_s2b, isEff_s2b, isPure_s2b, goK_b2s, dgoK_b2s, isEff_b2s, isPure_b2s, evalOp_s2b, s2bR, goK_mark, dgoK_mark, isEff_mark, isPure_mark, evalOp_mark, markA_slc, markB, ↓reduceIte, Nat.reduceEqDiff, Int.reduceToNat, Int.reducePow, Nat.reduceAdd, Nat.reduceLeDiff, Nat.reduceMul, Nat.reduceBEq, reduceCtorEq]
      exact hK _ rfl rfl
  termination_by m => m

/-- What the document makes of it is the window that the program makes. -/
theorem rmark_up {top bts n : Nat} (hn : n < 4294967296) (hl : lookW top bts n = 0) (ha : aft n top = true) :
    wc n (fun j => (decide (wy top n ≤ j) && bts.testBit (j - wy top n)) || decide (wy n n = j)) = wc (markW top bts n).1 fun j => (markW top bts n).2.testBit j := by
  unfold markW
  rw [if_neg (by omega), if_pos ha]
  refine wc_congr fun j hj => ?_
  have q4 : (18446744073709551616 : Nat) = 2 ^ 64 := by decide
  show _ = Nat.testBit (bts * 2 ^ min (wy top n) 64 % 18446744073709551616 ||| 1) j
  rw [Nat.testBit_or, q4, Nat.testBit_mod_two_pow, Nat.testBit_mul_two_pow, decide_eq_true hj, Bool.true_and, wy_self n hn]
  have e1 : Nat.testBit 1 j = decide (0 = j) := by
    by_cases h0 : 0 = j
    · subst h0; simp
    · rw [decide_eq_false h0]; exact Nat.testBit_two_pow_of_ne (n := 0) (m := j) h0
  rw [e1]
  by_cases hw : wy top n ≤ j
  · have e5 : min (wy top n) 64 = wy top n := by omega
    rw [e5]
  · rw [decide_eq_false hw, decide_eq_false (show ¬ j ≥ min (wy top n) 64 by omega)]
    simp

theorem rmark_dn {top bts n : Nat} (hl : lookW top bts n = 0) (ha : aft n top = false) :
    wc top (fun j => bts.testBit j || decide (wy n top = j)) = wc (markW top bts n).1 fun j => (markW top bts n).2.testBit j := by
  unfold markW
  rw [if_neg (by omega), if_neg (by simp [ha])]
  refine wc_congr fun j hj => ?_
  show _ = Nat.testBit (bts ||| 2 ^ wy n top) j
  rw [Nat.testBit_or, Nat.testBit_two_pow]

theorem rmark_ok (H : AHeap) {top bts n : Nat} (ht : top < 4294967296) (hn : n < 4294967296) (Q : AVal → AHeap → Prop)
    (h : Q (.tup [.agg (wc (markW top bts n).1 fun j => (markW top bts n).2.testBit j), .int .i64 (lookW top bts n)]) H) : FunOK Try.prog F.cuneiformref11_Mark [.agg (wc top fun j => bts.testBit j), .int .u32 (n : Nat)] H Q := by
  refine fun_iced cuneiformref11_Mark_code fun _ => ?_
  refine fun_V 100 cuneiformref11_Mark_code rfl ?_
  simp (disch := first | omega | (simp only [List.length_append, List.length_cons, List.length_nil, List.length_set, List.length_map, List.length_take, List.length_drop]; omega)) only [stdh, goK_s2b, dgoK_s2b, isEff_s2b, isPure_s2b, goK_b2s, dgoK_b2s, isEff_b2s, isPure_b2s, evalOp_s2b, s2bR, goK_mark, dgoK_mark, isEff_mark, isPure_mark, evalOp_mark, markA_slc, markB, ↓reduceIte, Nat.reduceEqDiff, Int.reduceToNat, Int.reducePow, Nat.reduceAdd, Nat.reduceLeDiff, Nat.reduceMul, Nat.reduceBEq, reduceCtorEq, cuneiformref11_Mark, cuneiformref11_Mark.body, false64, wc_zero, wc_len, wc_take, wc_cellish]
  refine callK_fn (rlook_ok _ ht hn _ ?_)
  refine runL_V 60 ?_
  by_cases hl : lookW top bts n = 0
  · have hl' : ((lookW top bts n : Nat) : Int) = 0 := by omega
    rw [hl'] at h
    simp (disch := first | omega | (simp only [List.length_append, List.length_cons, List.length_nil, List.length_set, List.length_map, List.length_take, List.length_drop]; omega)) only [stdh, goK_s2b, dgoK_s2b, isEff_s2b, isPure_s2b, goK_b2s, dgoK_b2s, isEff_b2s, isPure_b2s, evalOp_s2b, s2bR, goK_mark, dgoK_mark, isEff_mark, isPure_mark, evalOp_mark, markA_slc, markB, ↓reduceIte, Nat.reduceEqDiff, Int.reduceToNat, Int.reducePow, Nat.reduceAdd, Nat.reduceLeDiff, Nat.reduceMul, Nat.reduceBEq, reduceCtorEq, hl', wc_len, wc_get0]
    refine callK_fn (raft_ok _ _ _ hn ht _ ?_)
    refine runL_V 60 ?_
    cases ha : aft n top with
    | true =>
      have hwl := wy_lt top n
      simp (disch := first | omega | (simp only [List.length_append, List.length_cons, List.length_nil, List.length_set, List.length_map, List.length_take, List.length_drop]; omega)) only [stdh, goK_s2b, dgoK_s2b, isEff_s2b, isPure_s2b, goK_b2s, dgoK_b2s, isEff_b2s, isPure_b2s, evalOp_s2b, s2bR, goK_mark, dgoK_mark, isEff_mark, isPure_mark, evalOp_mark, markA_slc, markB, ↓reduceIte, Nat.reduceEqDiff, Int.reduceToNat, Int.reducePow, Nat.reduceAdd, Nat.reduceLeDiff, Nat.reduceMul, Nat.reduceBEq, reduceCtorEq, wc_len, wc_get0, false64]
      refine callK_fn (rway_ok _ _ _ ht hn _ ?_)
      refine runL_V 60 ?_
      simp (disch := first | omega | (simp only [List.length_append, List.length_cons, List.length_nil, List.length_set, List.length_map, List.length_take, List.length_drop]; omega)) only [stdh, goK_s2b, dgoK_s2b, isEff_s2b, isPure_s2b, goK_b2s, dgoK_b2s, isEff_b2s, isPure_b2s, evalOp_s2b, s2bR, goK_mark, dgoK_mark, isEff_mark, isPure_mark, evalOp_mark, markA_slc, markB, ↓reduceIte, Nat.reduceEqDiff, Int.reduceToNat, Int.reducePow, Nat.reduceAdd, Nat.reduceLeDiff, Nat.reduceMul, Nat.reduceBEq, reduceCtorEq, false64]
      refine rmark_loop0 _ H _ (by omega) ?_ _ 0 _ rfl (by omega) (fun j hj => by omega)
      intro r' g1 g2 g4 g8
      refine run_V0 60 ?_
      simp (disch := first | omega | (simp only [List.length_append, List.length_cons, List.length_nil, List.length_set, List.length_map, List.length_take, List.length_drop]; omega)) only [stdh, goK_s2b, dgoK_s2b, isEff_s2b, isPure_s2b, goK_b2s, dgoK_b2s, isEff_b2s, isPure_b2s, evalOp_s2b, s2bR, goK_mark, dgoK_mark, isEff_mark, isPure_mark, evalOp_mark, markA_slc, markB, ↓reduceIte, Nat.reduceEqDiff, Int.reduceToNat, Int.reducePow, Nat.reduceAdd, Nat.reduceLeDiff, Nat.reduceMul, Nat.reduceBEq, reduceCtorEq, g1, g2, g4, g8, cuneiformref11_Mark.d1, wc_len, arr_len, arr_take, wc_set0, wc_fill1, arr_cellish]
      refine rmark_loop2 _ H _ _ hn hn ?_ _ 0 _ rfl (by omega) (f := fun j => decide (wy top n ≤ j) && bts.testBit (j - wy top n)) (fun j hj => by rw [if_neg (by omega)])
      intro r'' k2 k4
      rw [rmark_up hn hl ha]
      refine run_V0 60 ?_
      simp (disch := first | omega | (simp only [List.length_append, List.length_cons, List.length_nil, List.length_set, List.length_map, List.length_take, List.length_drop]; omega)) only [stdh, goK_s2b, dgoK_s2b, isEff_s2b, isPure_s2b, goK_b2s, dgoK_b2s, isEff_b2s, isPure_b2s, evalOp_s2b, s2bR, goK_mark, dgoK_mark, isEff_mark, isPure_mark, evalOp_mark, markA_slc, markB, ↓reduceIte, Nat.reduceEqDiff, Int.reduceToNat, Int.reducePow, Nat.reduceAdd, Nat.reduceLeDiff, Nat.reduceMul, Nat.reduceBEq, reduceCtorEq, k2, k4, wc_len, wc_take, wc_fill, wc_cellish]
      exact ice_none ⟨wc_closed _ _, trivial, trivial⟩ h
    | false =>
      simp (disch := first | omega | (simp only [List.length_append, List.length_cons, List.length_nil, List.length_set, List.length_map, List.length_take, List.length_drop]; omega)) only [stdh, goK_s2b, dgoK_s2b, isEff_s2b, isPure_s2b, goK_b2s, dgoK_b2s, isEff_b2s, isPure_b2s, evalOp_s2b, s2bR, goK_mark, dgoK_mark, isEff_mark, isPure_mark, evalOp_mark, markA_slc, markB, ↓reduceIte, Nat.reduceEqDiff, Int.reduceToNat, Int.reducePow, Nat.reduceAdd, Nat.reduceLeDiff, Nat.reduceMul, Nat.reduceBEq, reduceCtorEq]
      refine rmark_loop2 _ H _ _ ht hn ?_ _ 0 _ rfl (by omega) (f := fun j => bts.testBit j) (fun j hj => by rw [if_neg (by omega)])
      intro r'' k2 k4
      rw [rmark_dn hl ha]
      refine run_V0 60 ?_
      simp (disch := first | omega | (simp only [List.length_append, List.length_cons, List.length_nil, List.length_set, List.length_map, List.length_take, List.length_drop]; omega)) only [stdh, goK_s2b, dgoK_s2b, isEff_s2b, isPure_s2b, goK_b2s, dgoK_b2s, isEff_b2s, isPure_b2s, evalOp_s2b, s2bR, goK_mark, dgoK_mark, isEff_mark, isPure_mark, evalOp_mark, markA_slc, markB, ↓reduceIte, Nat.reduceEqDiff, Int.reduceToNat, Int.reducePow, Nat.reduceAdd, Nat.reduceLeDiff, Nat.reduceMul, Nat.reduceBEq, reduceCtorEq, k2, k4, wc_len, wc_take, wc_fill, wc_cellish]
      exact ice_none ⟨wc_closed _ _, trivial, trivial⟩ h
  · have hl' : ¬ ((lookW top bts n : Nat) : Int) = 0 := by omega
    have hm : markW top bts n = (top, bts) := by unfold markW; rw [if_pos hl]
    rw [hm] at h
    simp (disch := first | omega | (simp only [List.length_append, List.length_cons, List.length_nil, List.length_set, List.length_map, List.length_take, List.length_drop]; omega)) only [stdh, goK_s2b, dgoK_s2b, isEff_s2b, isPure_s2b, goK_b2s, dgoK_b2s, isEff_b2s, isPure_b2s, evalOp_s2b, s2bR, goK_mark, dgoK_mark, isEff_mark, isPure_mark, evalOp_mark, markA_slc, markB, ↓reduceIte, Nat.reduceEqDiff, Int.reduceToNat, Int.reducePow, Nat.reduceAdd, Nat.reduceLeDiff, Nat.reduceMul, Nat.reduceBEq, reduceCtorEq, hl', wc_len, wc_take, wc_fill, wc_cellish]
    exact ice_none ⟨wc_closed _ _, trivial, trivial⟩ h
end Go.Proofs.Ytiklfnjmadcgfaa
