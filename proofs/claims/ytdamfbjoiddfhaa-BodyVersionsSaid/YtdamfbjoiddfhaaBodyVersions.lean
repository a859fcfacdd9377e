/-
  whatever the message, the law BodyVersions returns true. No condition. By an AI agent. No person has read it.
-/
import Derived.Test.YtdamfbjoiddfhaaBODYC
import Derived.Test.YtdamfbjoiddfhaaBODYB
import Derived.Test.YtdamfbjoiddfhaaAm6
import Derived.OpenShut
import Derived.Test.YtdamfbjoiddfhaaRows

namespace Go.Proofs.Ytdamfbjoiddfhaa
open Go Go.Am
set_option linter.unusedSimpArgs false
set_option linter.unusedVariables false

def mk18 : Mg := ⟨2, 300, 2, 9, 0, 0, 0, [], [], ⟨#[]⟩, ⟨#[]⟩⟩
theorem mk18_check : checkM mk18 = 0 := by
  rw [checkM_zero]
  refine ⟨by decide +kernel, by decide +kernel, by decide +kernel⟩
theorem put300 : putOne 300 = [172, 2] := by rw [putOne_ge (by omega), putOne_lt (by omega)]
theorem mk18_1 : encB mk18 1 = [172, 2, 2] := by
  rw [encB_eq mk18_check (.inl rfl)]
  simp [bodyB, versionFields, fieldsOf, mk18, fRobot, partB, putAll, Mg.num, put300, putOne_lt]
theorem mk18_2 : encB mk18 2 = [172, 2, 2, 9] := by
  rw [encB_eq mk18_check (.inr rfl)]
  simp [bodyB, versionFields, fieldsOf, mk18, fRobot, partB, putAll, Mg.num, put300, putOne_lt]

set_option maxRecDepth 10000 in
theorem known18_ok (H : AHeap) (Q : AVal → AHeap → Prop) (h : Q (.bool true) H) : FunOK Try.prog F.cuneiformlaw18_known [] H Q := by
  refine fun_iced cuneiformlaw18_known_code fun _ => ?_
  refine fun_V 60 cuneiformlaw18_known_code rfl ?_
  have hf : mk18.fine := ⟨by decide, by decide, by decide, by decide⟩
  have hs : SeesL [AVal.agg [.int .i64 2, .int .i64 300, .int .i64 2, .int .i64 9, .int .i64 0, .int .i64 0, .int .i64 0, .nils, .nils, .str ⟨#[]⟩, .str ⟨#[]⟩], .int .i64 1] [.agg (encM mk18), .int .i64 1] :=
    .cons (.agg (.cons (.refl _) (.cons (.refl _) (.cons (.refl _) (.cons (.refl _) (.cons (.refl _) (.cons (.refl _) (.cons (.refl _) (.cons (.nils _) (.cons (.nils _) (.refl _))))))))))) (.refl _)
  have hs2 : SeesL [AVal.agg [.int .i64 2, .int .i64 300, .int .i64 2, .int .i64 9, .int .i64 0, .int .i64 0, .int .i64 0, .nils, .nils, .str ⟨#[]⟩, .str ⟨#[]⟩], .int .i64 2] [.agg (encM mk18), .int .i64 2] :=
    .cons (.agg (.cons (.refl _) (.cons (.refl _) (.cons (.refl _) (.cons (.refl _) (.cons (.refl _) (.cons (.refl _) (.cons (.refl _) (.cons (.nils _) (.cons (.nils _) (.refl _))))))))))) (.refl _)
  simp (disch := first | omega | (simp only [lnx]; omega)) only [stdh, stdx, ↓reduceIte, Nat.reduceEqDiff, Int.reduceToNat, Int.reducePow, Nat.reduceAdd, Nat.reduceLeDiff, Nat.reduceMul, Nat.reduceBEq, reduceCtorEq, cuneiformlaw18_known, cuneiformlaw18_known.body]
  refine callK_fn (fun_sees hs (encode_ok _ mk18 1 hf _ ?_))
  refine runL_V 60 ?_
  rw [mk18_1, show bcheckE mk18 1 = 0 by rw [bcheckE, if_neg (by omega)]; exact mk18_check]
  simp (disch := first | omega | (simp only [lnx]; omega)) only [stdh, stdx, ↓reduceIte, Nat.reduceEqDiff, Int.reduceToNat, Int.reducePow, Nat.reduceAdd, Nat.reduceLeDiff, Nat.reduceMul, Nat.reduceBEq, reduceCtorEq]
  refine callK_fn (fun_sees hs2 (encode_ok _ mk18 2 hf _ ?_))
  refine runL_V 60 ?_
  rw [mk18_2, show bcheckE mk18 2 = 0 by rw [bcheckE, if_neg (by omega)]; exact mk18_check]
  simp (disch := first | omega | (simp only [lnx]; omega)) only [stdh, stdx, ↓reduceIte, Nat.reduceEqDiff, Int.reduceToNat, Int.reducePow, Nat.reduceAdd, Nat.reduceLeDiff, Nat.reduceMul, Nat.reduceBEq, reduceCtorEq]
  have n1 : ∀ (H : AHeap) (n : Nat) (xs : List Nat) (el : TypeId), H[n]? = some (ABlk.vec (xs.map fun n : Nat => AVal.int .u8 (n : Int)) el 1) → Nats .u8 H (.slc n 0 xs.length 1) xs := fun H n xs el hn => ⟨rfl, by simp [view, hn, content, List.take_of_length_le], fun _ _ _ _ h => by cases h; rfl⟩
  refine callK_fn (bsame_ok _ (nums_nats .u8 false _ _) (n1 _ _ [172, 2, 2] T.uint8 at_k) (by decide) _ ?_)
  rw [decide_eq_true rfl]
  refine runL_V 60 ?_
  simp (disch := first | omega | (simp only [lnx]; omega)) only [stdh, stdx, ↓reduceIte, Nat.reduceEqDiff, Int.reduceToNat, Int.reducePow, Nat.reduceAdd, Nat.reduceLeDiff, Nat.reduceMul, Nat.reduceBEq, reduceCtorEq]
  refine callK_fn (bsame_ok _ (nums_nats .u8 false _ _) (n1 _ _ [172, 2, 2, 9] T.uint8 at_k) (by decide) _ ?_)
  rw [decide_eq_true rfl]
  refine runL_V 60 ?_
  simp (disch := first | omega | (simp only [lnx]; omega)) only [stdh, stdx, ↓reduceIte, Nat.reduceEqDiff, Int.reduceToNat, Int.reducePow, Nat.reduceAdd, Nat.reduceLeDiff, Nat.reduceMul, Nat.reduceBEq, reduceCtorEq]
  exact ice_none trivial h

theorem bodyB_filter (m : Mg) (p : Fld → Bool) : ∀ L : List Fld, (bodyB m (L.filter p)).length ≤ (bodyB m L).length
  | [] => by simp [bodyB]
  | f :: L => by
    have := bodyB_filter m p L
    rw [List.filter_cons]
    unfold bodyB at *
    split <;> simp only [List.flatMap_cons, List.length_append] <;> omega

theorem vf_two (k : Int) : versionFields k 2 = fieldsOf k := by
  rw [versionFields, List.filter_eq_self]
  intro f hf
  have := (fieldsOf_ok4 f hf).1
  exact decide_eq_true (by omega)

theorem encB_mono (m : Mg) : (encB m 1).length ≤ (encB m 2).length := by
  by_cases h : checkM m = 0
  · rw [encB_eq h (.inl rfl), encB_eq h (.inr rfl), vf_two]
    exact bodyB_filter m _ _
  · have h1 : encB m 1 = [] := by
      rw [encB, partFields, if_neg (by rw [bcheckE, if_neg (by omega)]; exact h)]; rfl
    rw [h1]; simp

theorem encB_len {m : Mg} (hm : m.fine) (v : Int) : (encB m v).length ≤ 1152 := by
  have h := bodyB_len (v := v) hm _ (Nat.le_refl _)
  rw [List.take_length] at h
  have := partFields_len m v
  unfold encB
  omega
theorem pathB_byte : ∀ (l : List (Int × Int)) (last : Int × Int), ∀ b ∈ pathB last l, b < 256
  | [], _ => by simp [pathB]
  | x :: l, last => fun b hb => by
    rw [pathB] at hb
    rcases List.mem_append.1 hb with h | h
    · exact putAll_byte _ b h
    · exact pathB_byte l x b h
theorem cellsB_byte : ∀ (l : List Int) (last : Int), ∀ b ∈ cellsB last l, b < 256
  | [], _ => by simp [cellsB]
  | x :: l, last => fun b hb => by
    rw [cellsB] at hb
    rcases List.mem_append.1 hb with h | h
    · exact putAll_byte _ b h
    · exact cellsB_byte l x b h
theorem partB_byte (m : Mg) (f : Fld) : ∀ b ∈ partB m f, b < 256 := fun b hb => by
  unfold partB at hb
  have two : ∀ X Y : List Nat, (∀ b ∈ X, b < 256) → (∀ b ∈ Y, b < 256) → b ∈ X ++ Y → b < 256 := fun X Y h1 h2 h => by
    rcases List.mem_append.1 h with h | h
    · exact h1 b h
    · exact h2 b h
  split at hb
  · exact putAll_byte _ b hb
  split at hb
  · exact putAll_byte _ b hb
  split at hb
  · exact two _ _ (putAll_byte _) (pathB_byte _ _) hb
  split at hb
  · exact two _ _ (putAll_byte _) (cellsB_byte _ _) hb
  split at hb
  · exact two _ _ (putAll_byte _) (bytesOf_lt _) hb
  · exact two _ _ (putAll_byte _) (bytesOf_lt _) hb
theorem encB_byte (m : Mg) (v : Int) : ∀ b ∈ encB m v, b < 256 := fun b hb => by
  obtain ⟨f, _, hf⟩ := List.mem_flatMap.1 hb
  exact partB_byte m f b hf

set_option maxRecDepth 10000 in
set_option maxHeartbeats 4000000 in
theorem bodyversions_ok {a : Mg} (ha : a.fine) : FunOK Try.prog F.cuneiformlaw18_BodyVersions [.agg (encM a)] [] fun av _ => av = .bool true := by
  refine fun_V 60 cuneiformlaw18_BodyVersions_code rfl ?_
  simp (disch := first | omega | (simp only [lnx]; omega)) only [stdh, stdx, ↓reduceIte, Nat.reduceEqDiff, Int.reduceToNat, Int.reducePow, Nat.reduceAdd, Nat.reduceLeDiff, Nat.reduceMul, Nat.reduceBEq, reduceCtorEq, cuneiformlaw18_BodyVersions, cuneiformlaw18_BodyVersions.body, encM]
  refine callK_fn (cut17_ok _ a ha _ ?_)
  have sm := cutM_small a
  have fm := (cutM_fine2 a).fine
  generalize cutM a = m at *
  refine runL_V 60 ?_
  simp (disch := first | omega | (simp only [lnx]; omega)) only [stdh, stdx, ↓reduceIte, Nat.reduceEqDiff, Int.reduceToNat, Int.reducePow, Nat.reduceAdd, Nat.reduceLeDiff, Nat.reduceMul, Nat.reduceBEq, reduceCtorEq, encM]
  refine callK_fn (encode_ok _ m 1 fm _ ?_)
  refine runL_V 60 ?_
  have e1 : bcheckE m 1 = checkM m := by rw [bcheckE, if_neg (by omega)]
  have e2 : bcheckE m 2 = checkM m := by rw [bcheckE, if_neg (by omega)]
  rw [e1]
  simp (disch := first | omega | (simp only [lnx]; omega)) only [stdh, stdx, ↓reduceIte, Nat.reduceEqDiff, Int.reduceToNat, Int.reducePow, Nat.reduceAdd, Nat.reduceLeDiff, Nat.reduceMul, Nat.reduceBEq, reduceCtorEq, encM]
  refine callK_fn (encode_ok _ m 2 fm _ ?_)
  refine runL_V 60 ?_
  rw [e2]
  have l1 := encB_len fm 1
  have l2 := encB_len fm 2
  have b1 := encB_byte m 1
  have b2 := encB_byte m 2
  have mono := encB_mono m
  have d1 := dec_enc (m := m) (v := 1) (rest := [])
  have d2 := dec_enc (m := m) (v := 2) (rest := [])
  rw [List.append_nil, if_pos rfl] at d1 d2
  rw [projectM_ne (by omega : (2 : Int) ≠ 1)] at d2
  generalize encB m 1 = x at *
  generalize encB m 2 = y at *
  have hne : decide (checkM m = checkM m) = true := decide_eq_true rfl
  by_cases hc : checkM m = 0
  · have hd : decide (checkM m = 0) = true := decide_eq_true hc
    have d1 := d1 hc fm (.inl rfl)
    have d2 := d2 hc fm (.inr rfl)
    simp (disch := first | omega | (simp only [lnx]; omega)) only [stdh, stdx, ↓reduceIte, Nat.reduceEqDiff, Int.reduceToNat, Int.reducePow, Nat.reduceAdd, Nat.reduceLeDiff, Nat.reduceMul, Nat.reduceBEq, reduceCtorEq, hne, hd]
    refine callK_fn (decode_ok _ b1 (by omega) _ ?_)
    rw [d1]
    refine runL_V 60 ?_
    have sp := projectM_small sm 1
    generalize hP : projectM m 1 = p at *
    simp (disch := first | omega | (simp only [lnx]; omega)) only [stdh, stdx, ↓reduceIte, Nat.reduceEqDiff, Int.reduceToNat, Int.reducePow, Nat.reduceAdd, Nat.reduceLeDiff, Nat.reduceMul, Nat.reduceBEq, reduceCtorEq, encM]
    refine callK_fn (decode_ok _ b2 (by omega) _ ?_)
    rw [d2]
    refine runL_V 60 ?_
    simp (disch := first | omega | (simp only [lnx]; omega)) only [stdh, stdx, ↓reduceIte, Nat.reduceEqDiff, Int.reduceToNat, Int.reducePow, Nat.reduceAdd, Nat.reduceLeDiff, Nat.reduceMul, Nat.reduceBEq, reduceCtorEq, encM]
    simp (disch := first | omega | (simp only [lnx]; omega)) only [stdh, stdx, ↓reduceIte, Nat.reduceEqDiff, Int.reduceToNat, Int.reducePow, Nat.reduceAdd, Nat.reduceLeDiff, Nat.reduceMul, Nat.reduceBEq, reduceCtorEq, cuneiformlaw18_BodyVersions.d0]
    refine callD_fn (known18_ok _ _ ?_)
    refine ⟨by simp (disch := first | omega | (simp only [lnx]; omega)) only [stdh, stdx, ↓reduceIte, Nat.reduceEqDiff, Int.reduceToNat, Int.reducePow, Nat.reduceAdd, Nat.reduceLeDiff, Nat.reduceMul, Nat.reduceBEq, reduceCtorEq], ?_⟩
    refine runD_V 60 ?_
    have hge : decide ((x.length : Int) ≤ (y.length : Int)) = true := decide_eq_true (by omega)
    have hge2 : decide ((y.length : Int) < (x.length : Int)) = false := decide_eq_false (by omega)
    simp (disch := first | omega | (simp only [lnx]; omega)) only [stdh, stdx, ↓reduceIte, Nat.reduceEqDiff, Int.reduceToNat, Int.reducePow, Nat.reduceAdd, Nat.reduceLeDiff, Nat.reduceMul, Nat.reduceBEq, reduceCtorEq, hge, hge2, encM]
    refine callD_fn (same_ok _ m m sm.fits _ ?_)
    rw [decide_eq_true rfl]
    refine ⟨by simp (disch := first | omega | (simp only [lnx]; omega)) only [stdh, stdx, ↓reduceIte, Nat.reduceEqDiff, Int.reduceToNat, Int.reducePow, Nat.reduceAdd, Nat.reduceLeDiff, Nat.reduceMul, Nat.reduceBEq, reduceCtorEq, encM], ?_⟩
    refine runD_V 60 ?_
    simp (disch := first | omega | (simp only [lnx]; omega)) only [stdh, stdx, ↓reduceIte, Nat.reduceEqDiff, Int.reduceToNat, Int.reducePow, Nat.reduceAdd, Nat.reduceLeDiff, Nat.reduceMul, Nat.reduceBEq, reduceCtorEq, encM]
    refine callD_fn (project_ok _ m 1 sm _ ?_)
    rw [hP]
    refine ⟨by simp (disch := first | omega | (simp only [lnx]; omega)) only [stdh, stdx, ↓reduceIte, Nat.reduceEqDiff, Int.reduceToNat, Int.reducePow, Nat.reduceAdd, Nat.reduceLeDiff, Nat.reduceMul, Nat.reduceBEq, reduceCtorEq, encM], ?_⟩
    refine runD_V 60 ?_
    simp (disch := first | omega | (simp only [lnx]; omega)) only [stdh, stdx, ↓reduceIte, Nat.reduceEqDiff, Int.reduceToNat, Int.reducePow, Nat.reduceAdd, Nat.reduceLeDiff, Nat.reduceMul, Nat.reduceBEq, reduceCtorEq, encM]
    refine callD_fn (same_ok _ p p sp.fits _ ?_)
    rw [decide_eq_true rfl]
    refine ⟨by simp (disch := first | omega | (simp only [lnx]; omega)) only [stdh, stdx, ↓reduceIte, Nat.reduceEqDiff, Int.reduceToNat, Int.reducePow, Nat.reduceAdd, Nat.reduceLeDiff, Nat.reduceMul, Nat.reduceBEq, reduceCtorEq, encM], ?_⟩
    refine runD_V 60 ?_
    simp (disch := first | omega | (simp only [lnx]; omega)) only [stdh, stdx, ↓reduceIte, Nat.reduceEqDiff, Int.reduceToNat, Int.reducePow, Nat.reduceAdd, Nat.reduceLeDiff, Nat.reduceMul, Nat.reduceBEq, reduceCtorEq, encM]
  · have hd : decide (checkM m = 0) = false := decide_eq_false hc
    simp (disch := first | omega | (simp only [lnx]; omega)) only [stdh, stdx, ↓reduceIte, Nat.reduceEqDiff, Int.reduceToNat, Int.reducePow, Nat.reduceAdd, Nat.reduceLeDiff, Nat.reduceMul, Nat.reduceBEq, reduceCtorEq, hne, hd]
    refine callK_fn (known18_ok _ _ ?_)
    refine runL_V 60 ?_
    simp (disch := first | omega | (simp only [lnx]; omega)) only [stdh, stdx, ↓reduceIte, Nat.reduceEqDiff, Int.reduceToNat, Int.reducePow, Nat.reduceAdd, Nat.reduceLeDiff, Nat.reduceMul, Nat.reduceBEq, reduceCtorEq]
end Go.Proofs.Ytdamfbjoiddfhaa

namespace Go.Proofs.Ytdamfbjoiddfhaa.bodyVersions
open Go Go.Am Go.ChangeShapes Go.WideShapes Go.ChangeAt Go.RowKit
set_option linter.unusedVariables false

theorem own : ownKnob Try.prog.godebug = none := by kernel_rfl
theorem laidOut : laidOutB Try.prog = true := by kernel_rfl

set_option maxRecDepth 100000 in
theorem lifted (os : Os) (started : os.Started) (H : Type) (enc : TypeId × Value → H) :
    ReturnsInHanded {} Try.checked os F.cuneiformlaw18_BodyVersions .any (Rows.bodyVersionsSpec.pre6 enc Try.prog Try.f5 Rows.bodyVersionsRow.domain false) (Rows.bodyVersionsSpec.post enc Try.prog Try.f5 false true false false) := by
  refine returnsInHanded_of_change (C := Try.checked) own started (by kernel_rfl) Try.func5
    (ChangeSpec.witness6 (enc := enc) (C := Try.checked) false ⟨#[], #[.agg #[.int .i64 0, .int .i64 0, .int .i64 0, .int .i64 0, .int .i64 0, .int .i64 0, .int .i64 0, .slice none 0 0, .slice none 0 0, .string ⟨#[]⟩, .string ⟨#[]⟩]], []⟩ 8 (by kernel_rfl) (by kernel_rfl) (by kernel_rfl) (by kernel_rfl)) ?_
  intro W base args ds gs before hval hW hcnd _
  refine law_calls (shs := [shMsg]) (tb := 4) laidOut (by kernel_rfl) ?_ (by kernel_rfl) Try.underlying4 rfl ?_ ?_ hval hW
  · intro t ht
    have : ∀ t ∈ Try.f5.params.toList, (Try.prog.readableRec t && decide (t < Try.prog.types.size)) = true := List.all_eq_true.1 (by kernel_rfl)
    simpa using this t ht
  · intro H ds hd
    match ds, hd with
    | [d0], _ => exact ⟨rfl, rfl, rfl⟩
  · rintro xs ⟨a, r, rfl, ha, rfl⟩
    obtain ⟨x, x1, x2, _⟩ := msg_fits2 ha
    exact fun_sees (.cons x1 .nil) (bodyversions_ok ⟨x2.p, x2.c, x2.t, x2.g⟩)

theorem proved : Rows.BodyVersionsSaid :=
  OpenClaim.holds_of_wide F.cuneiformlaw18_BodyVersions Try.f5 rfl rfl rfl rfl rfl rfl rfl ⟨rfl, rfl, rfl, rfl, rfl⟩ rfl rfl rfl rfl rfl (by kernel_rfl) Try.func5 (by kernel_rfl)
    (of_decide_eq_true (by kernel_rfl)) (by unfold Func.isWrapper; first | (rw [if_pos (by decide +kernel)]; kernel_rfl) | (rw [if_neg (by decide +kernel)]; exact ⟨rfl, rfl⟩))
    (fun os started H enc _ => lifted os started H enc)
end Go.Proofs.Ytdamfbjoiddfhaa.bodyVersions
