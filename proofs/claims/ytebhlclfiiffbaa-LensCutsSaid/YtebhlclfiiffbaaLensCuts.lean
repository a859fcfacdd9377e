/-
  LensCutsSaid: whatever the bytes and the two numbers, the law LensCuts returns true, and the input reads as it did. No condition. By an AI agent. No person has read it.
-/
import Derived.Test.YtebhlclfiiffbaaLENS
import Derived.Test.YtebhlclfiiffbaaAm6
import Derived.OpenShut
import Derived.Test.YtebhlclfiiffbaaRows

namespace Go.Proofs.Ytebhlclfiiffbaa
open Go Go.Am
set_option linter.unusedSimpArgs false
set_option linter.unusedVariables false

theorem word_err (H : AHeap) {p : Nat} {ys : List Nat} {a e : Nat} {z : Int} (hp : H[p]? = some (lensB ys a e)) (he : e ≠ 0) (ha : a ≤ ys.length) (hlen : ys.length ≤ 1000000) (Q : AVal → AHeap → Prop) (h : Q (.int .u32 0) H) : FunOK Try.prog F.lens_Lens_word [.ptr p 0, .int .i64 z] H Q := by
  refine fun_iced lens_Lens_word_code fun _ => ?_
  refine fun_V 60 lens_Lens_word_code rfl ?_
  have hpl : p < H.length := (List.getElem?_eq_some_iff.1 hp).1
  simp (disch := first | omega | (simp only [List.length_append, List.length_cons, List.length_nil, List.length_set, List.length_map, List.length_take, List.length_drop]; omega)) only [stdh, goK_s2b, dgoK_s2b, isEff_s2b, isPure_s2b, goK_b2s, dgoK_b2s, isEff_b2s, isPure_b2s, evalOp_s2b, s2bR, goK_mark, dgoK_mark, isEff_mark, isPure_mark, evalOp_mark, markA_slc, markB, ↓reduceIte, Nat.reduceEqDiff, Int.reduceToNat, Int.reducePow, Nat.reduceAdd, Nat.reduceLeDiff, Nat.reduceMul, Nat.reduceBEq, reduceCtorEq, lens_Lens_word, lens_Lens_word.body]
  refine callK_fn (read_ok _ ((at_low hpl).trans hp) ha hlen _ ?_ (fun hh => absurd hh he))
  intro _
  refine runL_V 60 ?_
  simp (disch := first | omega | (simp only [List.length_append, List.length_cons, List.length_nil, List.length_set, List.length_map, List.length_take, List.length_drop]; omega)) only [stdh, goK_s2b, dgoK_s2b, isEff_s2b, isPure_s2b, goK_b2s, dgoK_b2s, isEff_b2s, isPure_b2s, evalOp_s2b, s2bR, goK_mark, dgoK_mark, isEff_mark, isPure_mark, evalOp_mark, markA_slc, markB, ↓reduceIte, Nat.reduceEqDiff, Int.reduceToNat, Int.reducePow, Nat.reduceAdd, Nat.reduceLeDiff, Nat.reduceMul, Nat.reduceBEq, reduceCtorEq]
  exact ice_none trivial h

theorem raw_err (H : AHeap) {p : Nat} {ys : List Nat} {a e : Nat} {z : Int} (hp : H[p]? = some (lensB ys a e)) (he : e ≠ 0) (ha : a ≤ ys.length) (hlen : ys.length ≤ 1000000) (Q : AVal → AHeap → Prop) (h : Q (nums .u8 false []) H) : FunOK Try.prog F.lens_Lens_Raw [.ptr p 0, .int .i64 z] H Q := by
  refine fun_iced lens_Lens_Raw_code fun _ => ?_
  refine fun_V 60 lens_Lens_Raw_code rfl ?_
  have hpl : p < H.length := (List.getElem?_eq_some_iff.1 hp).1
  simp (disch := first | omega | (simp only [List.length_append, List.length_cons, List.length_nil, List.length_set, List.length_map, List.length_take, List.length_drop]; omega)) only [stdh, goK_s2b, dgoK_s2b, isEff_s2b, isPure_s2b, goK_b2s, dgoK_b2s, isEff_b2s, isPure_b2s, evalOp_s2b, s2bR, goK_mark, dgoK_mark, isEff_mark, isPure_mark, evalOp_mark, markA_slc, markB, ↓reduceIte, Nat.reduceEqDiff, Int.reduceToNat, Int.reducePow, Nat.reduceAdd, Nat.reduceLeDiff, Nat.reduceMul, Nat.reduceBEq, reduceCtorEq, lens_Lens_Raw, lens_Lens_Raw.body]
  refine callK_fn (read_ok _ ((at_low hpl).trans hp) ha hlen _ ?_ (fun hh => absurd hh he))
  intro _
  refine runL_V 60 ?_
  simp (disch := first | omega | (simp only [List.length_append, List.length_cons, List.length_nil, List.length_set, List.length_map, List.length_take, List.length_drop]; omega)) only [stdh, goK_s2b, dgoK_s2b, isEff_s2b, isPure_s2b, goK_b2s, dgoK_b2s, isEff_b2s, isPure_b2s, evalOp_s2b, s2bR, goK_mark, dgoK_mark, isEff_mark, isPure_mark, evalOp_mark, markA_slc, markB, ↓reduceIte, Nat.reduceEqDiff, Int.reduceToNat, Int.reducePow, Nat.reduceAdd, Nat.reduceLeDiff, Nat.reduceMul, Nat.reduceBEq, reduceCtorEq]
  exact ice_nils (keeps_append _ _) h

theorem u32_err (H : AHeap) {p : Nat} {ys : List Nat} {a e : Nat} (hp : H[p]? = some (lensB ys a e)) (he : e ≠ 0) (ha : a ≤ ys.length) (hlen : ys.length ≤ 1000000) (Q : AVal → AHeap → Prop) (h : Q (.int .u32 0) H) : FunOK Try.prog F.lens_Lens_U32 [.ptr p 0] H Q := by
  refine fun_V 60 lens_Lens_U32_code rfl ?_
  simp (disch := first | omega | (simp only [List.length_append, List.length_cons, List.length_nil, List.length_set, List.length_map, List.length_take, List.length_drop]; omega)) only [stdh, goK_s2b, dgoK_s2b, isEff_s2b, isPure_s2b, goK_b2s, dgoK_b2s, isEff_b2s, isPure_b2s, evalOp_s2b, s2bR, goK_mark, dgoK_mark, isEff_mark, isPure_mark, evalOp_mark, markA_slc, markB, ↓reduceIte, Nat.reduceEqDiff, Int.reduceToNat, Int.reducePow, Nat.reduceAdd, Nat.reduceLeDiff, Nat.reduceMul, Nat.reduceBEq, reduceCtorEq, lens_Lens_U32, lens_Lens_U32.body]
  refine callK_fn (word_err _ hp he ha hlen _ ?_)
  refine runL_V 60 ?_
  simp (disch := first | omega | (simp only [List.length_append, List.length_cons, List.length_nil, List.length_set, List.length_map, List.length_take, List.length_drop]; omega)) only [stdh, goK_s2b, dgoK_s2b, isEff_s2b, isPure_s2b, goK_b2s, dgoK_b2s, isEff_b2s, isPure_b2s, evalOp_s2b, s2bR, goK_mark, dgoK_mark, isEff_mark, isPure_mark, evalOp_mark, markA_slc, markB, ↓reduceIte, Nat.reduceEqDiff, Int.reduceToNat, Int.reducePow, Nat.reduceAdd, Nat.reduceLeDiff, Nat.reduceMul, Nat.reduceBEq, reduceCtorEq]
  exact h

theorem rest_err (H : AHeap) {p : Nat} {ys : List Nat} {a e : Nat} (hp : H[p]? = some (lensB ys a e)) (he : e ≠ 0) (ha : a ≤ ys.length) (hlen : ys.length ≤ 1000000) (Q : AVal → AHeap → Prop) (h : Q (nums .u8 false []) H) : FunOK Try.prog F.lens_Lens_Rest [.ptr p 0] H Q := by
  refine fun_V 60 lens_Lens_Rest_code rfl ?_
  simp (disch := first | omega | (simp only [List.length_append, List.length_cons, List.length_nil, List.length_set, List.length_map, List.length_take, List.length_drop]; omega)) only [stdh, goK_s2b, dgoK_s2b, isEff_s2b, isPure_s2b, goK_b2s, dgoK_b2s, isEff_b2s, isPure_b2s, evalOp_s2b, s2bR, goK_mark, dgoK_mark, isEff_mark, isPure_mark, evalOp_mark, markA_slc, markB, ↓reduceIte, Nat.reduceEqDiff, Int.reduceToNat, Int.reducePow, Nat.reduceAdd, Nat.reduceLeDiff, Nat.reduceMul, Nat.reduceBEq, reduceCtorEq, lens_Lens_Rest, lens_Lens_Rest.body]
  refine callK_fn (leftn_ok _ hp ha hlen _ ?_)
  refine runL_V 60 ?_
  simp (disch := first | omega | (simp only [List.length_append, List.length_cons, List.length_nil, List.length_set, List.length_map, List.length_take, List.length_drop]; omega)) only [stdh, goK_s2b, dgoK_s2b, isEff_s2b, isPure_s2b, goK_b2s, dgoK_b2s, isEff_b2s, isPure_b2s, evalOp_s2b, s2bR, goK_mark, dgoK_mark, isEff_mark, isPure_mark, evalOp_mark, markA_slc, markB, ↓reduceIte, Nat.reduceEqDiff, Int.reduceToNat, Int.reducePow, Nat.reduceAdd, Nat.reduceLeDiff, Nat.reduceMul, Nat.reduceBEq, reduceCtorEq]
  refine callK_fn (raw_err _ hp he ha hlen _ ?_)
  refine runL_V 60 ?_
  simp (disch := first | omega | (simp only [List.length_append, List.length_cons, List.length_nil, List.length_set, List.length_map, List.length_take, List.length_drop]; omega)) only [stdh, goK_s2b, dgoK_s2b, isEff_s2b, isPure_s2b, goK_b2s, dgoK_b2s, isEff_b2s, isPure_b2s, evalOp_s2b, s2bR, goK_mark, dgoK_mark, isEff_mark, isPure_mark, evalOp_mark, markA_slc, markB, ↓reduceIte, Nat.reduceEqDiff, Int.reduceToNat, Int.reducePow, Nat.reduceAdd, Nat.reduceLeDiff, Nat.reduceMul, Nat.reduceBEq, reduceCtorEq]
  exact h

theorem fieldSpec_of {most : Int} {zs : List Nat} (h0 : (getSpec zs).2.2 = 0) (h1 : (getSpec zs).1 ≤ most.toNat) (h2 : (getSpec zs).1 ≤ zs.length - (getSpec zs).2.1) : fieldSpec most zs = ((getSpec zs).2.1 + (getSpec zs).1, (zs.drop (getSpec zs).2.1).take (getSpec zs).1, 0) := by
  have a0 : ¬ (getSpec zs).2.2 ≠ 0 := by omega
  have a1 : ¬ most.toNat < (getSpec zs).1 := by omega
  have a2 : ¬ zs.length - (getSpec zs).2.1 < (getSpec zs).1 := by omega
  unfold fieldSpec
  rw [if_neg a0, if_neg a1, if_neg a2]

theorem fieldSpec_inv {most : Int} {zs : List Nat} (h : (fieldSpec most zs).2.2 = 0) : (getSpec zs).2.2 = 0 ∧ (getSpec zs).1 ≤ most.toNat ∧ (getSpec zs).1 ≤ zs.length - (getSpec zs).2.1 := by
  unfold fieldSpec at h
  by_cases a0 : (getSpec zs).2.2 ≠ 0
  · rw [if_pos a0] at h; exact absurd h a0
  · rw [if_neg a0] at h
    by_cases a1 : most.toNat < (getSpec zs).1
    · rw [if_pos a1] at h; simp at h
    · rw [if_neg a1] at h
      by_cases a2 : zs.length - (getSpec zs).2.1 < (getSpec zs).1
      · rw [if_pos a2] at h; simp at h
      · exact ⟨by omega, by omega, by omega⟩

theorem fieldSpec_app {most : Int} {zs cs : List Nat} (h : (fieldSpec most zs).2.2 = 0) : fieldSpec most (zs ++ cs) = fieldSpec most zs := by
  obtain ⟨h0, h1, h2⟩ := fieldSpec_inv h
  have hg : getSpec (zs ++ cs) = getSpec zs := getFrom_app 10 0 0 zs cs h0
  obtain ⟨f1, f2, f3⟩ := getSpec_facts h0
  rw [fieldSpec_of h0 h1 h2, fieldSpec_of (by rw [hg]; exact h0) (by rw [hg]; exact h1) (by rw [hg, List.length_append]; omega), hg, List.drop_append_of_le_length f2, List.take_append_of_le_length (by rw [List.length_drop]; omega)]

theorem lensField_ok {ys : List Nat} {a : Nat} {most : Int} (h : (fieldSpec most (ys.drop a)).2.2 = 0) : lensField ys a 0 most = ((fieldSpec most (ys.drop a)).2.1, a + (fieldSpec most (ys.drop a)).1, 0) := by
  have a0 : ¬ (0 : Nat) ≠ 0 := by simp
  have a1 : ¬ (fieldSpec most (ys.drop a)).2.2 ≠ 0 := by omega
  unfold lensField
  rw [if_neg a0, if_neg a1]
theorem lensField_bad {ys : List Nat} {a : Nat} {most : Int} (h : (fieldSpec most (ys.drop a)).2.2 ≠ 0) : lensField ys a 0 most = ([], a, (fieldSpec most (ys.drop a)).2.2) := by
  have a0 : ¬ (0 : Nat) ≠ 0 := by simp
  unfold lensField
  rw [if_neg a0, if_pos h]

theorem lensField_err {ys : List Nat} {a : Nat} {most : Int} (h : (lensField ys a 0 most).2.2 ≠ 0) : (lensField ys a 0 most).1 = [] ∧ (lensField ys a 0 most).2.1 = a := by
  by_cases h1 : (fieldSpec most (ys.drop a)).2.2 = 0
  · rw [lensField_ok h1] at h; simp at h
  · rw [lensField_bad h1]; exact ⟨rfl, rfl⟩

theorem lensField_app {xs cs : List Nat} {a : Nat} {most : Int} (ha : a ≤ xs.length) (h : (lensField xs a 0 most).2.2 = 0) : lensField (xs ++ cs) a 0 most = lensField xs a 0 most ∧ (lensField xs a 0 most).2.1 ≤ xs.length ∧ (lensField xs a 0 most).1.length ≤ xs.length := by
  have hle := fieldSpec_le (most := most) (zs := xs.drop a)
  rw [List.length_drop] at hle
  by_cases h1 : (fieldSpec most (xs.drop a)).2.2 = 0
  · have h2 : (fieldSpec most ((xs ++ cs).drop a)).2.2 = 0 := by rw [List.drop_append_of_le_length ha, fieldSpec_app h1]; exact h1
    rw [lensField_ok h1, lensField_ok h2, List.drop_append_of_le_length ha, fieldSpec_app h1]
    exact ⟨rfl, by simp only; omega, by simp only; omega⟩
  · rw [lensField_bad h1] at h; exact absurd h h1

abbrev lcC : Ctx := ⟨F.cuneiformlaw03_LensCuts, 116, [.tmp 6], none⟩

theorem lc_loop (K : List AItem) {n : Int} (hn : -9223372036854775808 ≤ n ∧ n < 9223372036854775808) {xs cs : List Nat} (hb : ∀ b ∈ xs ++ cs, b < 256) (hlen : (xs ++ cs).length ≤ 1000)
    (hK : ∀ r' H, Run Try.prog lcC K r' H fun av _ => av = .bool true) :
    ∀ (m i a : Nat), i + m = 10 → a ≤ xs.length →
    Rounds Try.prog lcC cuneiformlaw03_LensCuts.b0 [.inBlock 0] K [(2, .int .i64 n), (8, .ptr 0 0), (9, .ptr 1 0), (10, .int .i64 (i : Nat))] [lensB xs a 0, lensB (xs ++ cs) a 0] fun av _ => av = .bool true
  | 0, i, a, h1, ha => by
    refine loop_V 100 cuneiformlaw03_LensCuts.b0.eq_1 ?_
    simp (disch := first | omega | (simp only [List.length_append, List.length_cons, List.length_nil, List.length_set, List.length_map, List.length_take, List.length_drop]; omega)) only [stdh, goK_s2b, dgoK_s2b, isEff_s2b, isPure_s2b, goK_b2s, dgoK_b2s, isEff_b2s, isPure_b2s, evalOp_s2b, s2bR, goK_mark, dgoK_mark, isEff_mark, isPure_mark, evalOp_mark, markA_slc, markB, ↓reduceIte, Nat.reduceEqDiff, Int.reduceToNat, Int.reducePow, Nat.reduceAdd, Nat.reduceLeDiff, Nat.reduceMul, Nat.reduceBEq, reduceCtorEq]
    exact hK _ _
  | m + 1, i, a, h1, ha => by
    refine loop_V 100 cuneiformlaw03_LensCuts.b0.eq_1 ?_
    have hbx : ∀ b ∈ xs, b < 256 := fun b h => hb b (List.mem_append_left _ h)
    have hlx : xs.length ≤ 1000 := by rw [List.length_append] at hlen; omega
    simp (disch := first | omega | (simp only [List.length_append, List.length_cons, List.length_nil, List.length_set, List.length_map, List.length_take, List.length_drop]; omega)) only [stdh, goK_s2b, dgoK_s2b, isEff_s2b, isPure_s2b, goK_b2s, dgoK_b2s, isEff_b2s, isPure_b2s, evalOp_s2b, s2bR, goK_mark, dgoK_mark, isEff_mark, isPure_mark, evalOp_mark, markA_slc, markB, ↓reduceIte, Nat.reduceEqDiff, Int.reduceToNat, Int.reducePow, Nat.reduceAdd, Nat.reduceLeDiff, Nat.reduceMul, Nat.reduceBEq, reduceCtorEq]
    refine callK_fn (field_ok _ hn (ys := xs) (a := a) (e := 0) rfl ha hbx (by omega) _ ?_)
    refine runL_V 60 ?_
    simp (disch := first | omega | (simp only [List.length_append, List.length_cons, List.length_nil, List.length_set, List.length_map, List.length_take, List.length_drop]; omega)) only [stdh, goK_s2b, dgoK_s2b, isEff_s2b, isPure_s2b, goK_b2s, dgoK_b2s, isEff_b2s, isPure_b2s, evalOp_s2b, s2bR, goK_mark, dgoK_mark, isEff_mark, isPure_mark, evalOp_mark, markA_slc, markB, ↓reduceIte, Nat.reduceEqDiff, Int.reduceToNat, Int.reducePow, Nat.reduceAdd, Nat.reduceLeDiff, Nat.reduceMul, Nat.reduceBEq, reduceCtorEq]
    refine callK_fn (field_ok _ hn (ys := xs ++ cs) (a := a) (e := 0) rfl (by rw [List.length_append]; omega) hb (by omega) _ ?_)
    refine runL_V 100 ?_
    have hE := lensField_err (ys := xs) (a := a) (most := n)
    have hA := lensField_app (xs := xs) (cs := cs) (a := a) (most := n) ha
    generalize lensField (xs ++ cs) a 0 n = Y at *
    generalize lensField xs a 0 n = X at *
    obtain ⟨f, a1, e1⟩ := X
    obtain ⟨g, a2, e2⟩ := Y
    dsimp only at hE hA ⊢
    by_cases he : e1 = 0
    · subst he
      obtain ⟨hY, h2, h3⟩ := hA rfl
      cases hY
      simp (disch := first | omega | (simp only [List.length_append, List.length_cons, List.length_nil, List.length_set, List.length_map, List.length_take, List.length_drop]; omega)) only [stdh, goK_s2b, dgoK_s2b, isEff_s2b, isPure_s2b, goK_b2s, dgoK_b2s, isEff_b2s, isPure_b2s, evalOp_s2b, s2bR, goK_mark, dgoK_mark, isEff_mark, isPure_mark, evalOp_mark, markA_slc, markB, ↓reduceIte, Nat.reduceEqDiff, Int.reduceToNat, Int.reducePow, Nat.reduceAdd, Nat.reduceLeDiff, Nat.reduceMul, Nat.reduceBEq, reduceCtorEq]
      refine callK_fn (err_ok _ (ys := xs) (a := a1) (e := 0) rfl _ ?_)
      refine runL_V 100 ?_
      simp (disch := first | omega | (simp only [List.length_append, List.length_cons, List.length_nil, List.length_set, List.length_map, List.length_take, List.length_drop]; omega)) only [stdh, goK_s2b, dgoK_s2b, isEff_s2b, isPure_s2b, goK_b2s, dgoK_b2s, isEff_b2s, isPure_b2s, evalOp_s2b, s2bR, goK_mark, dgoK_mark, isEff_mark, isPure_mark, evalOp_mark, markA_slc, markB, ↓reduceIte, Nat.reduceEqDiff, Int.reduceToNat, Int.reducePow, Nat.reduceAdd, Nat.reduceLeDiff, Nat.reduceMul, Nat.reduceBEq, reduceCtorEq]
      refine callK_fn (err_ok _ (ys := xs ++ cs) (a := a1) (e := 0) rfl _ ?_)
      refine runL_V 100 ?_
      simp (disch := first | omega | (simp only [List.length_append, List.length_cons, List.length_nil, List.length_set, List.length_map, List.length_take, List.length_drop]; omega)) only [stdh, goK_s2b, dgoK_s2b, isEff_s2b, isPure_s2b, goK_b2s, dgoK_b2s, isEff_b2s, isPure_b2s, evalOp_s2b, s2bR, goK_mark, dgoK_mark, isEff_mark, isPure_mark, evalOp_mark, markA_slc, markB, ↓reduceIte, Nat.reduceEqDiff, Int.reduceToNat, Int.reducePow, Nat.reduceAdd, Nat.reduceLeDiff, Nat.reduceMul, Nat.reduceBEq, reduceCtorEq]
      refine callK_fn (same_ok _ (nums_nats _ _ _ _) (nums_nats _ _ _ _) (by omega) _ ?_)
      rw [show decide (f = f) = true by simp]
      refine runL_V 100 ?_
      simp (disch := first | omega | (simp only [List.length_append, List.length_cons, List.length_nil, List.length_set, List.length_map, List.length_take, List.length_drop]; omega)) only [stdh, goK_s2b, dgoK_s2b, isEff_s2b, isPure_s2b, goK_b2s, dgoK_b2s, isEff_b2s, isPure_b2s, evalOp_s2b, s2bR, goK_mark, dgoK_mark, isEff_mark, isPure_mark, evalOp_mark, markA_slc, markB, ↓reduceIte, Nat.reduceEqDiff, Int.reduceToNat, Int.reducePow, Nat.reduceAdd, Nat.reduceLeDiff, Nat.reduceMul, Nat.reduceBEq, reduceCtorEq]
      refine callK_fn (place_ok _ (ys := xs) (a := a1) (e := 0) rfl _ ?_)
      refine runL_V 100 ?_
      simp (disch := first | omega | (simp only [List.length_append, List.length_cons, List.length_nil, List.length_set, List.length_map, List.length_take, List.length_drop]; omega)) only [stdh, goK_s2b, dgoK_s2b, isEff_s2b, isPure_s2b, goK_b2s, dgoK_b2s, isEff_b2s, isPure_b2s, evalOp_s2b, s2bR, goK_mark, dgoK_mark, isEff_mark, isPure_mark, evalOp_mark, markA_slc, markB, ↓reduceIte, Nat.reduceEqDiff, Int.reduceToNat, Int.reducePow, Nat.reduceAdd, Nat.reduceLeDiff, Nat.reduceMul, Nat.reduceBEq, reduceCtorEq]
      refine callK_fn (place_ok _ (ys := xs ++ cs) (a := a1) (e := 0) rfl _ ?_)
      refine runL_V 100 ?_
      simp (disch := first | omega | (simp only [List.length_append, List.length_cons, List.length_nil, List.length_set, List.length_map, List.length_take, List.length_drop]; omega)) only [stdh, goK_s2b, dgoK_s2b, isEff_s2b, isPure_s2b, goK_b2s, dgoK_b2s, isEff_b2s, isPure_b2s, evalOp_s2b, s2bR, goK_mark, dgoK_mark, isEff_mark, isPure_mark, evalOp_mark, markA_slc, markB, ↓reduceIte, Nat.reduceEqDiff, Int.reduceToNat, Int.reducePow, Nat.reduceAdd, Nat.reduceLeDiff, Nat.reduceMul, Nat.reduceBEq, reduceCtorEq]
      refine callK_fn (err_ok _ (ys := xs) (a := a1) (e := 0) rfl _ ?_)
      refine runL_V 100 ?_
      simp (disch := first | omega | (simp only [List.length_append, List.length_cons, List.length_nil, List.length_set, List.length_map, List.length_take, List.length_drop]; omega)) only [stdh, goK_s2b, dgoK_s2b, isEff_s2b, isPure_s2b, goK_b2s, dgoK_b2s, isEff_b2s, isPure_b2s, evalOp_s2b, s2bR, goK_mark, dgoK_mark, isEff_mark, isPure_mark, evalOp_mark, markA_slc, markB, ↓reduceIte, Nat.reduceEqDiff, Int.reduceToNat, Int.reducePow, Nat.reduceAdd, Nat.reduceLeDiff, Nat.reduceMul, Nat.reduceBEq, reduceCtorEq]
      refine callK_fn (err_ok _ (ys := xs) (a := a1) (e := 0) rfl _ ?_)
      refine runL_V 100 ?_
      simp (disch := first | omega | (simp only [List.length_append, List.length_cons, List.length_nil, List.length_set, List.length_map, List.length_take, List.length_drop]; omega)) only [stdh, goK_s2b, dgoK_s2b, isEff_s2b, isPure_s2b, goK_b2s, dgoK_b2s, isEff_b2s, isPure_b2s, evalOp_s2b, s2bR, goK_mark, dgoK_mark, isEff_mark, isPure_mark, evalOp_mark, markA_slc, markB, ↓reduceIte, Nat.reduceEqDiff, Int.reduceToNat, Int.reducePow, Nat.reduceAdd, Nat.reduceLeDiff, Nat.reduceMul, Nat.reduceBEq, reduceCtorEq]
      exact lc_loop K hn hb hlen hK m (i + 1) a1 (by omega) h2
    · obtain ⟨rfl, rfl⟩ := hE he
      simp (disch := first | omega | (simp only [List.length_append, List.length_cons, List.length_nil, List.length_set, List.length_map, List.length_take, List.length_drop]; omega)) only [stdh, goK_s2b, dgoK_s2b, isEff_s2b, isPure_s2b, goK_b2s, dgoK_b2s, isEff_b2s, isPure_b2s, evalOp_s2b, s2bR, goK_mark, dgoK_mark, isEff_mark, isPure_mark, evalOp_mark, markA_slc, markB, ↓reduceIte, Nat.reduceEqDiff, Int.reduceToNat, Int.reducePow, Nat.reduceAdd, Nat.reduceLeDiff, Nat.reduceMul, Nat.reduceBEq, reduceCtorEq]
      refine callK_fn (err_ok _ (ys := xs) (a := a1) (e := e1) rfl _ ?_)
      refine runL_V 100 ?_
      simp (disch := first | omega | (simp only [List.length_append, List.length_cons, List.length_nil, List.length_set, List.length_map, List.length_take, List.length_drop]; omega)) only [stdh, goK_s2b, dgoK_s2b, isEff_s2b, isPure_s2b, goK_b2s, dgoK_b2s, isEff_b2s, isPure_b2s, evalOp_s2b, s2bR, goK_mark, dgoK_mark, isEff_mark, isPure_mark, evalOp_mark, markA_slc, markB, ↓reduceIte, Nat.reduceEqDiff, Int.reduceToNat, Int.reducePow, Nat.reduceAdd, Nat.reduceLeDiff, Nat.reduceMul, Nat.reduceBEq, reduceCtorEq]
      refine callK_fn (err_ok _ (ys := xs) (a := a1) (e := e1) rfl _ ?_)
      refine runL_V 100 ?_
      simp (disch := first | omega | (simp only [List.length_append, List.length_cons, List.length_nil, List.length_set, List.length_map, List.length_take, List.length_drop]; omega)) only [stdh, goK_s2b, dgoK_s2b, isEff_s2b, isPure_s2b, goK_b2s, dgoK_b2s, isEff_b2s, isPure_b2s, evalOp_s2b, s2bR, goK_mark, dgoK_mark, isEff_mark, isPure_mark, evalOp_mark, markA_slc, markB, ↓reduceIte, Nat.reduceEqDiff, Int.reduceToNat, Int.reducePow, Nat.reduceAdd, Nat.reduceLeDiff, Nat.reduceMul, Nat.reduceBEq, reduceCtorEq]
      refine callK_fn (err_ok _ (ys := xs) (a := a1) (e := e1) rfl _ ?_)
      refine runL_V 100 ?_
      simp (disch := first | omega | (simp only [List.length_append, List.length_cons, List.length_nil, List.length_set, List.length_map, List.length_take, List.length_drop]; omega)) only [stdh, goK_s2b, dgoK_s2b, isEff_s2b, isPure_s2b, goK_b2s, dgoK_b2s, isEff_b2s, isPure_b2s, evalOp_s2b, s2bR, goK_mark, dgoK_mark, isEff_mark, isPure_mark, evalOp_mark, markA_slc, markB, ↓reduceIte, Nat.reduceEqDiff, Int.reduceToNat, Int.reducePow, Nat.reduceAdd, Nat.reduceLeDiff, Nat.reduceMul, Nat.reduceBEq, reduceCtorEq]
      refine callK_fn (err_ok _ (ys := xs) (a := a1) (e := e1) rfl _ ?_)
      refine runL_V 100 ?_
      simp (disch := first | omega | (simp only [List.length_append, List.length_cons, List.length_nil, List.length_set, List.length_map, List.length_take, List.length_drop]; omega)) only [stdh, goK_s2b, dgoK_s2b, isEff_s2b, isPure_s2b, goK_b2s, dgoK_b2s, isEff_b2s, isPure_b2s, evalOp_s2b, s2bR, goK_mark, dgoK_mark, isEff_mark, isPure_mark, evalOp_mark, markA_slc, markB, ↓reduceIte, Nat.reduceEqDiff, Int.reduceToNat, Int.reducePow, Nat.reduceAdd, Nat.reduceLeDiff, Nat.reduceMul, Nat.reduceBEq, reduceCtorEq]
      refine callK_fn (place_ok _ (ys := xs) (a := a1) (e := e1) rfl _ ?_)
      refine runL_V 100 ?_
      simp (disch := first | omega | (simp only [List.length_append, List.length_cons, List.length_nil, List.length_set, List.length_map, List.length_take, List.length_drop]; omega)) only [stdh, goK_s2b, dgoK_s2b, isEff_s2b, isPure_s2b, goK_b2s, dgoK_b2s, isEff_b2s, isPure_b2s, evalOp_s2b, s2bR, goK_mark, dgoK_mark, isEff_mark, isPure_mark, evalOp_mark, markA_slc, markB, ↓reduceIte, Nat.reduceEqDiff, Int.reduceToNat, Int.reducePow, Nat.reduceAdd, Nat.reduceLeDiff, Nat.reduceMul, Nat.reduceBEq, reduceCtorEq]
      refine callK_fn (u32_err _ (ys := xs) (a := a1) (e := e1) rfl he ha (by omega) _ ?_)
      refine runL_V 100 ?_
      simp (disch := first | omega | (simp only [List.length_append, List.length_cons, List.length_nil, List.length_set, List.length_map, List.length_take, List.length_drop]; omega)) only [stdh, goK_s2b, dgoK_s2b, isEff_s2b, isPure_s2b, goK_b2s, dgoK_b2s, isEff_b2s, isPure_b2s, evalOp_s2b, s2bR, goK_mark, dgoK_mark, isEff_mark, isPure_mark, evalOp_mark, markA_slc, markB, ↓reduceIte, Nat.reduceEqDiff, Int.reduceToNat, Int.reducePow, Nat.reduceAdd, Nat.reduceLeDiff, Nat.reduceMul, Nat.reduceBEq, reduceCtorEq]
      refine callK_fn (rest_err _ (ys := xs) (a := a1) (e := e1) rfl he ha (by omega) _ ?_)
      refine runL_V 100 ?_
      simp (disch := first | omega | (simp only [List.length_append, List.length_cons, List.length_nil, List.length_set, List.length_map, List.length_take, List.length_drop]; omega)) only [stdh, goK_s2b, dgoK_s2b, isEff_s2b, isPure_s2b, goK_b2s, dgoK_b2s, isEff_b2s, isPure_b2s, evalOp_s2b, s2bR, goK_mark, dgoK_mark, isEff_mark, isPure_mark, evalOp_mark, markA_slc, markB, ↓reduceIte, Nat.reduceEqDiff, Int.reduceToNat, Int.reducePow, Nat.reduceAdd, Nat.reduceLeDiff, Nat.reduceMul, Nat.reduceBEq, reduceCtorEq]
      refine callK_fn (known03_ok _ _ ?_)
      refine runL_V 100 ?_
      simp (disch := first | omega | (simp only [List.length_append, List.length_cons, List.length_nil, List.length_set, List.length_map, List.length_take, List.length_drop]; omega)) only [stdh, goK_s2b, dgoK_s2b, isEff_s2b, isPure_s2b, goK_b2s, dgoK_b2s, isEff_b2s, isPure_b2s, evalOp_s2b, s2bR, goK_mark, dgoK_mark, isEff_mark, isPure_mark, evalOp_mark, markA_slc, markB, ↓reduceIte, Nat.reduceEqDiff, Int.reduceToNat, Int.reducePow, Nat.reduceAdd, Nat.reduceLeDiff, Nat.reduceMul, Nat.reduceBEq, reduceCtorEq]
      refine callK_fn (err_ok _ (ys := xs) (a := a1) (e := e1) rfl _ ?_)
      refine runL_V 100 ?_
      simp (disch := first | omega | (simp only [List.length_append, List.length_cons, List.length_nil, List.length_set, List.length_map, List.length_take, List.length_drop]; omega)) only [stdh, goK_s2b, dgoK_s2b, isEff_s2b, isPure_s2b, goK_b2s, dgoK_b2s, isEff_b2s, isPure_b2s, evalOp_s2b, s2bR, goK_mark, dgoK_mark, isEff_mark, isPure_mark, evalOp_mark, markA_slc, markB, ↓reduceIte, Nat.reduceEqDiff, Int.reduceToNat, Int.reducePow, Nat.reduceAdd, Nat.reduceLeDiff, Nat.reduceMul, Nat.reduceBEq, reduceCtorEq]
      refine callK_fn (place_ok _ (ys := xs) (a := a1) (e := e1) rfl _ ?_)
      refine runL_V 100 ?_
      simp (disch := first | omega | (simp only [List.length_append, List.length_cons, List.length_nil, List.length_set, List.length_map, List.length_take, List.length_drop]; omega)) only [stdh, goK_s2b, dgoK_s2b, isEff_s2b, isPure_s2b, goK_b2s, dgoK_b2s, isEff_b2s, isPure_b2s, evalOp_s2b, s2bR, goK_mark, dgoK_mark, isEff_mark, isPure_mark, evalOp_mark, markA_slc, markB, ↓reduceIte, Nat.reduceEqDiff, Int.reduceToNat, Int.reducePow, Nat.reduceAdd, Nat.reduceLeDiff, Nat.reduceMul, Nat.reduceBEq, reduceCtorEq]
      refine callK_fn (end_ok _ (ys := xs) (a := a1) (e := e1) rfl ha (by omega) _ ?_)
      rw [if_neg (by omega)]
      refine runL_V 100 ?_
      simp (disch := first | omega | (simp only [List.length_append, List.length_cons, List.length_nil, List.length_set, List.length_map, List.length_take, List.length_drop]; omega)) only [stdh, goK_s2b, dgoK_s2b, isEff_s2b, isPure_s2b, goK_b2s, dgoK_b2s, isEff_b2s, isPure_b2s, evalOp_s2b, s2bR, goK_mark, dgoK_mark, isEff_mark, isPure_mark, evalOp_mark, markA_slc, markB, ↓reduceIte, Nat.reduceEqDiff, Int.reduceToNat, Int.reducePow, Nat.reduceAdd, Nat.reduceLeDiff, Nat.reduceMul, Nat.reduceBEq, reduceCtorEq]

theorem lenscuts_ok {bs : List Nat} (hb : ∀ b ∈ bs, b < 256) {at_ n : Int} (ha : -9223372036854775808 ≤ at_ ∧ at_ < 9223372036854775808) (hn : -9223372036854775808 ≤ n ∧ n < 9223372036854775808) :
    FunOK Try.prog F.cuneiformlaw03_LensCuts [nums .u8 false bs, .int .i64 at_, .int .i64 n] [] fun av _ => av = .bool true := by
  refine fun_V 100 cuneiformlaw03_LensCuts_code rfl ?_
  have min100 : ∀ n : Nat, (if 100 < (n : Int) then 100 else (n : Int)) = ((min n 100 : Nat) : Int) := fun n => by split <;> omega
  simp (disch := first | omega | (simp only [List.length_append, List.length_cons, List.length_nil, List.length_set, List.length_map, List.length_take, List.length_drop]; omega)) only [stdh, goK_s2b, dgoK_s2b, isEff_s2b, isPure_s2b, goK_b2s, dgoK_b2s, isEff_b2s, isPure_b2s, evalOp_s2b, s2bR, goK_mark, dgoK_mark, isEff_mark, isPure_mark, evalOp_mark, markA_slc, markB, ↓reduceIte, Nat.reduceEqDiff, Int.reduceToNat, Int.reducePow, Nat.reduceAdd, Nat.reduceLeDiff, Nat.reduceMul, Nat.reduceBEq, reduceCtorEq, cuneiformlaw03_LensCuts, cuneiformlaw03_LensCuts.body, min100]
  have hz : ∀ b ∈ bs.take (min bs.length 100), b < 256 := fun b hb' => hb b (List.mem_of_mem_take hb')
  have hzl : (bs.take (min bs.length 100)).length ≤ 100 := by rw [List.length_take]; omega
  generalize bs.take (min bs.length 100) = zs at *
  obtain ⟨kk, hk, hkl⟩ : ∃ kk : Nat, IntKind.i64.wrap ((IntKind.u64.wrap at_).tmod ((zs.length : Nat) + 1)) = (kk : Int) ∧ kk ≤ zs.length := by
    have h0 : 0 ≤ IntKind.u64.wrap at_ := by rw [wrap_u64']; omega
    rw [Int.tmod_eq_emod_of_nonneg h0]
    generalize IntKind.u64.wrap at_ = u at *
    have h1 := Int.emod_nonneg u (show ((zs.length : Nat) : Int) + 1 ≠ 0 by omega)
    have h2 := Int.emod_lt_of_pos u (show 0 < ((zs.length : Nat) : Int) + 1 by omega)
    refine ⟨(u % ((zs.length : Nat) + 1)).toNat, ?_, by omega⟩
    rw [wrap_i64 (by omega)]; omega
  obtain ⟨nn, hnn, hnl⟩ : ∃ nn : Nat, IntKind.i64.wrap ((IntKind.u64.wrap n).tmod 20) = (nn : Int) ∧ nn < 20 := by
    have h0 : 0 ≤ IntKind.u64.wrap n := by rw [wrap_u64']; omega
    rw [Int.tmod_eq_emod_of_nonneg h0]
    generalize IntKind.u64.wrap n = u at *
    refine ⟨(u % 20).toNat, ?_, by omega⟩
    rw [wrap_i64 (by omega)]; omega
  rw [hk, hnn]
  simp (disch := first | omega | (simp only [List.length_append, List.length_cons, List.length_nil, List.length_set, List.length_map, List.length_take, List.length_drop]; omega)) only [stdh, goK_s2b, dgoK_s2b, isEff_s2b, isPure_s2b, goK_b2s, dgoK_b2s, isEff_b2s, isPure_b2s, evalOp_s2b, s2bR, goK_mark, dgoK_mark, isEff_mark, isPure_mark, evalOp_mark, markA_slc, markB, ↓reduceIte, Nat.reduceEqDiff, Int.reduceToNat, Int.reducePow, Nat.reduceAdd, Nat.reduceLeDiff, Nat.reduceMul, Nat.reduceBEq, reduceCtorEq]
  refine callK_fn (lnew_ok _ (by simp; omega) _ ?_)
  refine runL_V 100 ?_
  simp (disch := first | omega | (simp only [List.length_append, List.length_cons, List.length_nil, List.length_set, List.length_map, List.length_take, List.length_drop]; omega)) only [stdh, goK_s2b, dgoK_s2b, isEff_s2b, isPure_s2b, goK_b2s, dgoK_b2s, isEff_b2s, isPure_b2s, evalOp_s2b, s2bR, goK_mark, dgoK_mark, isEff_mark, isPure_mark, evalOp_mark, markA_slc, markB, ↓reduceIte, Nat.reduceEqDiff, Int.reduceToNat, Int.reducePow, Nat.reduceAdd, Nat.reduceLeDiff, Nat.reduceMul, Nat.reduceBEq, reduceCtorEq]
  refine callK_fn (lnew_ok _ (by omega) _ ?_)
  refine runL_V 100 ?_
  simp (disch := first | omega | (simp only [List.length_append, List.length_cons, List.length_nil, List.length_set, List.length_map, List.length_take, List.length_drop]; omega)) only [stdh, goK_s2b, dgoK_s2b, isEff_s2b, isPure_s2b, goK_b2s, dgoK_b2s, isEff_b2s, isPure_b2s, evalOp_s2b, s2bR, goK_mark, dgoK_mark, isEff_mark, isPure_mark, evalOp_mark, markA_slc, markB, ↓reduceIte, Nat.reduceEqDiff, Int.reduceToNat, Int.reducePow, Nat.reduceAdd, Nat.reduceLeDiff, Nat.reduceMul, Nat.reduceBEq, reduceCtorEq, eqA]
  have hsplit : zs = zs.take kk ++ zs.drop kk := by rw [List.take_append_drop]
  have hl1 : (zs.take kk ++ zs.drop kk).length ≤ 1000 := by rw [← hsplit]; omega
  have hb1 : ∀ b ∈ zs.take kk ++ zs.drop kk, b < 256 := by rw [← hsplit]; exact hz
  have := lc_loop [.code (.seq (.region [⟨some 115, .call (.const (.fn F.cuneiformlaw03_known [] [])) [], none⟩, ⟨some 6, .mov (.tmp 115), none⟩] [6]) .ret)] (n := (nn : Int)) (by omega) hb1 hl1 (fun r' H => by
    refine run_V0 60 ?_
    simp (disch := first | omega | (simp only [List.length_append, List.length_cons, List.length_nil, List.length_set, List.length_map, List.length_take, List.length_drop]; omega)) only [stdh, goK_s2b, dgoK_s2b, isEff_s2b, isPure_s2b, goK_b2s, dgoK_b2s, isEff_b2s, isPure_b2s, evalOp_s2b, s2bR, goK_mark, dgoK_mark, isEff_mark, isPure_mark, evalOp_mark, markA_slc, markB, ↓reduceIte, Nat.reduceEqDiff, Int.reduceToNat, Int.reducePow, Nat.reduceAdd, Nat.reduceLeDiff, Nat.reduceMul, Nat.reduceBEq, reduceCtorEq]
    refine callK_fn (known03_ok _ _ ?_)
    refine runL_V 60 ?_
    simp (disch := first | omega | (simp only [List.length_append, List.length_cons, List.length_nil, List.length_set, List.length_map, List.length_take, List.length_drop]; omega)) only [stdh, goK_s2b, dgoK_s2b, isEff_s2b, isPure_s2b, goK_b2s, dgoK_b2s, isEff_b2s, isPure_b2s, evalOp_s2b, s2bR, goK_mark, dgoK_mark, isEff_mark, isPure_mark, evalOp_mark, markA_slc, markB, ↓reduceIte, Nat.reduceEqDiff, Int.reduceToNat, Int.reducePow, Nat.reduceAdd, Nat.reduceLeDiff, Nat.reduceMul, Nat.reduceBEq, reduceCtorEq]) 10 0 0 rfl (by omega)
  rw [← hsplit] at this
  exact this
end Go.Proofs.Ytebhlclfiiffbaa

namespace Go.Proofs.Ytebhlclfiiffbaa.lensCuts
open Go Go.Am Go.ChangeShapes Go.WideShapes Go.ChangeAt Go.RowKit
set_option linter.unusedVariables false

theorem own : ownKnob Try.prog.godebug = none := by kernel_rfl
theorem laidOut : laidOutB Try.prog = true := by kernel_rfl

set_option maxRecDepth 100000 in
theorem lifted (os : Os) (started : os.Started) (H : Type) (enc : TypeId × Value → H) :
    ReturnsInHanded {} Try.checked os F.cuneiformlaw03_LensCuts .any (Rows.lensCutsSpec.pre6 enc Try.prog Try.f3 Rows.lensCutsRow.domain false) (Rows.lensCutsSpec.post enc Try.prog Try.f3 false true false false) := by
  refine returnsInHanded_of_change (C := Try.checked) own started (by kernel_rfl) Try.func3
    (ChangeSpec.witness6 (enc := enc) (C := Try.checked) false ⟨#[], #[.slice none 0 0, .int .i64 0, .int .i64 0], []⟩ 8 (by kernel_rfl) (by kernel_rfl) (by kernel_rfl) (by kernel_rfl)) ?_
  intro W base args ds gs before hval hW hcnd _
  refine law_calls (shs := [.slice (.int .u8), .int .i64, .int .i64]) (tb := 4) laidOut (by kernel_rfl) ?_ (by kernel_rfl) Try.underlying4 rfl ?_ ?_ hval hW
  · intro t ht
    have : ∀ t ∈ Try.f3.params.toList, (Try.prog.readableRec t && decide (t < Try.prog.types.size)) = true := List.all_eq_true.1 (by kernel_rfl)
    simpa using this t ht
  · intro H ds hd
    match ds, hd with
    | [d0, d1, d2], _ => exact ⟨rfl, rfl, rfl⟩
  · rintro xs ⟨a, r, rfl, ha, b, r', rfl, ⟨n, hn, wn⟩, c, r'', rfl, ⟨i, hi, wi⟩, rfl⟩
    cases hn
    cases hi
    obtain ⟨bs, q1, q2, q3⟩ := nums_fits (k := .u8) rfl ha
    have hb : ∀ b ∈ bs, b < 256 := fun b hb => by
      have := q2 b hb
      simp only [Lit.wf, Bool.and_eq_true, decide_eq_true_eq, IntKind.min, IntKind.max, IntKind.signed, IntKind.bits] at this
      simp at this
      omega
    have bnd : ∀ z : Int, (Lit.int .i64 z).wf = true → -9223372036854775808 ≤ z ∧ z < 9223372036854775808 := fun z hz => by
      simp only [Lit.wf, Bool.and_eq_true, decide_eq_true_eq, IntKind.min, IntKind.max, IntKind.signed, IntKind.bits] at hz
      simp at hz
      omega
    exact fun_sees (.cons q1 (.cons (.refl _) (.cons (.refl _) .nil))) (lenscuts_ok hb (bnd _ wn) (bnd _ wi))

theorem proved : Rows.LensCutsSaid :=
  OpenClaim.holds_of_wide F.cuneiformlaw03_LensCuts Try.f3 rfl rfl rfl rfl rfl rfl rfl ⟨rfl, rfl, rfl, rfl, rfl⟩ rfl rfl rfl rfl rfl (by kernel_rfl) Try.func3 (by kernel_rfl)
    (of_decide_eq_true (by kernel_rfl)) (by unfold Func.isWrapper; first | (rw [if_pos (by decide +kernel)]; kernel_rfl) | (rw [if_neg (by decide +kernel)]; exact ⟨rfl, rfl⟩))
    (fun os started H enc _ => lifted os started H enc)
end Go.Proofs.Ytebhlclfiiffbaa.lensCuts
