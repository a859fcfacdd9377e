/-
  Lemmas on the way to the statements of this seat. By an AI agent. No person has read it.
-/
import Derived.Test.YtdamfbjoiddfhaaBODYC
import Derived.Test.YtdamfbjoiddfhaaBODYB

namespace Go.Proofs.Ytdamfbjoiddfhaa
open Go Go.Am
set_option linter.unusedSimpArgs false
set_option linter.unusedVariables false

def mk18 : Mg := ⟨2, 300, 2, 9, 0, 0, 0, [], [], ⟨#[]⟩, ⟨#[]⟩⟩
theorem mk18_check : checkM mk18 = 0 := by
  rw [checkM_zero]
  refine ⟨by decide +kernel, by decide +kernel, by decide +kernel⟩
theorem put300 : putOne 300 = [172, 2] := by rw [putOne_ge (by omega), putOne_lt (by omega)]
theorem mk18_1 : encB mk18 1 = [172, 2, 2] := by
  rw [encB_eq mk18_check (.inl rfl)]
  simp [bodyB, versionFields, fieldsOf, mk18, fRobot, partB, putAll, Mg.num, put300, putOne_lt]
theorem mk18_2 : encB mk18 2 = [172, 2, 2, 9] := by
  rw [encB_eq mk18_check (.inr rfl)]
  simp [bodyB, versionFields, fieldsOf, mk18, fRobot, partB, putAll, Mg.num, put300, putOne_lt]

set_option maxRecDepth 10000 in
theorem known18_ok (H : AHeap) (Q : AVal → AHeap → Prop) (h : Q (.bool true) H) : FunOK Try.prog F.cuneiformlaw18_known [] H Q := by
  refine fun_iced cuneiformlaw18_known_code fun _ => ?_
  refine fun_V 60 cuneiformlaw18_known_code rfl ?_
  have hf : mk18.fine := ⟨by decide, by decide, by decide, by decide⟩
  have hs : SeesL [AVal.agg [.int .i64 2, .int .i64 300, .int .i64 2, .int .i64 9, .int .i64 0, .int .i64 0, .int .i64 0, .nils, .nils, .str ⟨#[]⟩, .str ⟨#[]⟩], .int .i64 1] [.agg (encM mk18), .int .i64 1] :=
    .cons (.agg (.cons (.refl _) (.cons (.refl _) (.cons (.refl _) (.cons (.refl _) (.cons (.refl _) (.cons (.refl _) (.cons (.refl _) (.cons (.nils _) (.cons (.nils _) (.refl _))))))))))) (.refl _)
  have hs2 : SeesL [AVal.agg [.int .i64 2, .int .i64 300, .int .i64 2, .int .i64 9, .int .i64 0, .int .i64 0, .int .i64 0, .nils, .nils, .str ⟨#[]⟩, .str ⟨#[]⟩], .int .i64 2] [.agg (encM mk18), .int .i64 2] :=
    .cons (.agg (.cons (.refl _) (.cons (.refl _) (.cons (.refl _) (.cons (.refl _) (.cons (.refl _) (.cons (.refl _) (.cons (.refl _) (.cons (.nils _) (.cons (.nils _) (.refl _))))))))))) (.refl _)
  simp (disch := first | omega | (simp only [lnx]; omega)) only [stdh, stdx, ↓reduceIte, Nat.reduceEqDiff, Int.reduceToNat, Int.reducePow, Nat.reduceAdd, Nat.reduceLeDiff, Nat.reduceMul, Nat.reduceBEq, reduceCtorEq, cuneiformlaw18_known, cuneiformlaw18_known.body]
  refine callK_fn (fun_sees hs (encode_ok _ mk18 1 hf _ ?_))
  refine runL_V 60 ?_
  rw [mk18_1, show bcheckE mk18 1 = 0 by rw [bcheckE, if_neg (by omega)]; exact mk18_check]
  simp (disch := first | omega | (simp only [lnx]; omega)) only [stdh, stdx, ↓reduceIte, Nat.reduceEqDiff, Int.reduceToNat, Int.reducePow, Nat.reduceAdd, Nat.reduceLeDiff, Nat.reduceMul, Nat.reduceBEq, reduceCtorEq]
  refine callK_fn (fun_sees hs2 (encode_ok _ mk18 2 hf _ ?_))
  refine runL_V 60 ?_
  rw [mk18_2, show bcheckE mk18 2 = 0 by rw [bcheckE, if_neg (by omega)]; exact mk18_check]
  simp (disch := first | omega | (simp only [lnx]; omega)) only [stdh, stdx, ↓reduceIte, Nat.reduceEqDiff, Int.reduceToNat, Int.reducePow, Nat.reduceAdd, Nat.reduceLeDiff, Nat.reduceMul, Nat.reduceBEq, reduceCtorEq]
  have n1 : ∀ (H : AHeap) (n : Nat) (xs : List Nat) (el : TypeId), H[n]? = some (ABlk.vec (xs.map fun n : Nat => AVal.int .u8 (n : Int)) el 1) → Nats .u8 H (.slc n 0 xs.length 1) xs := fun H n xs el hn => ⟨rfl, by simp [view, hn, content, List.take_of_length_le], fun _ _ _ _ h => by cases h; rfl⟩
  refine callK_fn (bsame_ok _ (nums_nats .u8 false _ _) (n1 _ _ [172, 2, 2] T.uint8 at_k) (by decide) _ ?_)
  rw [decide_eq_true rfl]
  refine runL_V 60 ?_
  simp (disch := first | omega | (simp only [lnx]; omega)) only [stdh, stdx, ↓reduceIte, Nat.reduceEqDiff, Int.reduceToNat, Int.reducePow, Nat.reduceAdd, Nat.reduceLeDiff, Nat.reduceMul, Nat.reduceBEq, reduceCtorEq]
  refine callK_fn (bsame_ok _ (nums_nats .u8 false _ _) (n1 _ _ [172, 2, 2, 9] T.uint8 at_k) (by decide) _ ?_)
  rw [decide_eq_true rfl]
  refine runL_V 60 ?_
  simp (disch := first | omega | (simp only [lnx]; omega)) only [stdh, stdx, ↓reduceIte, Nat.reduceEqDiff, Int.reduceToNat, Int.reducePow, Nat.reduceAdd, Nat.reduceLeDiff, Nat.reduceMul, Nat.reduceBEq, reduceCtorEq]
  exact ice_none trivial h

theorem bodyB_filter (m : Mg) (p : Fld → Bool) : ∀ L : List Fld, (bodyB m (L.filter p)).length ≤ (bodyB m L).length
  | [] => by simp [bodyB]
  | f :: L => by
    have := bodyB_filter m p L
    rw [List.filter_cons]
    unfold bodyB at *
    split <;> simp only [List.flatMap_cons, List.length_append] <;> omega

theorem vf_two (k : Int) : versionFields k 2 = fieldsOf k := by
  rw [versionFields, List.filter_eq_self]
  intro f hf
  have := (fieldsOf_ok4 f hf).1
  exact decide_eq_true (by omega)

theorem encB_mono (m : Mg) : (encB m 1).length ≤ (encB m 2).length := by
  by_cases h : checkM m = 0
  · rw [encB_eq h (.inl rfl), encB_eq h (.inr rfl), vf_two]
    exact bodyB_filter m _ _
  · have h1 : encB m 1 = [] := by
      rw [encB, partFields, if_neg (by rw [bcheckE, if_neg (by omega)]; exact h)]; rfl
    rw [h1]; simp

theorem encB_len {m : Mg} (hm : m.fine) (v : Int) : (encB m v).length ≤ 1152 := by
  have h := bodyB_len (v := v) hm _ (Nat.le_refl _)
  rw [List.take_length] at h
  have := partFields_len m v
  unfold encB
  omega
theorem pathB_byte : ∀ (l : List (Int × Int)) (last : Int × Int), ∀ b ∈ pathB last l, b < 256
  | [], _ => by simp [pathB]
  | x :: l, last => fun b hb => by
    rw [pathB] at hb
    rcases List.mem_append.1 hb with h | h
    · exact putAll_byte _ b h
    · exact pathB_byte l x b h
theorem cellsB_byte : ∀ (l : List Int) (last : Int), ∀ b ∈ cellsB last l, b < 256
  | [], _ => by simp [cellsB]
  | x :: l, last => fun b hb => by
    rw [cellsB] at hb
    rcases List.mem_append.1 hb with h | h
    · exact putAll_byte _ b h
    · exact cellsB_byte l x b h
theorem partB_byte (m : Mg) (f : Fld) : ∀ b ∈ partB m f, b < 256 := fun b hb => by
  unfold partB at hb
  have two : ∀ X Y : List Nat, (∀ b ∈ X, b < 256) → (∀ b ∈ Y, b < 256) → b ∈ X ++ Y → b < 256 := fun X Y h1 h2 h => by
    rcases List.mem_append.1 h with h | h
    · exact h1 b h
    · exact h2 b h
  split at hb
  · exact putAll_byte _ b hb
  split at hb
  · exact putAll_byte _ b hb
  split at hb
  · exact two _ _ (putAll_byte _) (pathB_byte _ _) hb
  split at hb
  · exact two _ _ (putAll_byte _) (cellsB_byte _ _) hb
  split at hb
  · exact two _ _ (putAll_byte _) (bytesOf_lt _) hb
  · exact two _ _ (putAll_byte _) (bytesOf_lt _) hb
theorem encB_byte (m : Mg) (v : Int) : ∀ b ∈ encB m v, b < 256 := fun b hb => by
  obtain ⟨f, _, hf⟩ := List.mem_flatMap.1 hb
  exact partB_byte m f b hf

set_option maxRecDepth 10000 in
set_option maxHeartbeats 4000000 in
theorem bodyversions_ok {a : Mg} (ha : a.fine) : FunOK Try.prog F.cuneiformlaw18_BodyVersions [.agg (encM a)] [] fun av _ => av = .bool true := by
  refine fun_V 60 cuneiformlaw18_BodyVersions_code rfl ?_
  simp (disch := first | omega | (simp only [lnx]; omega)) only [stdh, stdx, ↓reduceIte, Nat.reduceEqDiff, Int.reduceToNat, Int.reducePow, Nat.reduceAdd, Nat.reduceLeDiff, Nat.reduceMul, Nat.reduceBEq, reduceCtorEq, cuneiformlaw18_BodyVersions, cuneiformlaw18_BodyVersions.body, encM]
  refine callK_fn (cut17_ok _ a ha _ ?_)
  have sm := cutM_small a
  have fm := (cutM_fine2 a).fine
  generalize cutM a = m at *
  refine runL_V 60 ?_
  simp (disch := first | omega | (simp only [lnx]; omega)) only [stdh, stdx, ↓reduceIte, Nat.reduceEqDiff, Int.reduceToNat, Int.reducePow, Nat.reduceAdd, Nat.reduceLeDiff, Nat.reduceMul, Nat.reduceBEq, reduceCtorEq, encM]
  refine callK_fn (encode_ok _ m 1 fm _ ?_)
  refine runL_V 60 ?_
  have e1 : bcheckE m 1 = checkM m := by rw [bcheckE, if_neg (by omega)]
  have e2 : bcheckE m 2 = checkM m := by rw [bcheckE, if_neg (by omega)]
  rw [e1]
  simp (disch := first | omega | (simp only [lnx]; omega)) only [stdh, stdx, ↓reduceIte, Nat.reduceEqDiff, Int.reduceToNat, Int.reducePow, Nat.reduceAdd, Nat.reduceLeDiff, Nat.reduceMul, Nat.reduceBEq, reduceCtorEq, encM]
  refine callK_fn (encode_ok _ m 2 fm _ ?_)
  refine runL_V 60 ?_
  rw [e2]
  have l1 := encB_len fm 1
  have l2 := encB_len fm 2
  have b1 := encB_byte m 1
  have b2 := encB_byte m 2
  have mono := encB_mono m
  have d1 := dec_enc (m := m) (v := 1) (rest := [])
  have d2 := dec_enc (m := m) (v := 2) (rest := [])
  rw [List.append_nil, if_pos rfl] at d1 d2
  rw [projectM_ne (by omega : (2 : Int) ≠ 1)] at d2
  generalize encB m 1 = x at *
  generalize encB m 2 = y at *
  have hne : decide (checkM m = checkM m) = true := decide_eq_true rfl
  by_cases hc : checkM m = 0
  · have hd : decide (checkM m = 0) = true := decide_eq_true hc
    have d1 := d1 hc fm (.inl rfl)
    have d2 := d2 hc fm (.inr rfl)
    simp (disch := first | omega | (simp only [lnx]; omega)) only [stdh, stdx, ↓reduceIte, Nat.reduceEqDiff, Int.reduceToNat, Int.reducePow, Nat.reduceAdd, Nat.reduceLeDiff, Nat.reduceMul, Nat.reduceBEq, reduceCtorEq, hne, hd]
    refine callK_fn (decode_ok _ b1 (by omega) _ ?_)
    rw [d1]
    refine runL_V 60 ?_
    have sp := projectM_small sm 1
    generalize hP : projectM m 1 = p at *
    simp (disch := first | omega | (simp only [lnx]; omega)) only [stdh, stdx, ↓reduceIte, Nat.reduceEqDiff, Int.reduceToNat, Int.reducePow, Nat.reduceAdd, Nat.reduceLeDiff, Nat.reduceMul, Nat.reduceBEq, reduceCtorEq, encM]
    refine callK_fn (decode_ok _ b2 (by omega) _ ?_)
    rw [d2]
    refine runL_V 60 ?_
    simp (disch := first | omega | (simp only [lnx]; omega)) only [stdh, stdx, ↓reduceIte, Nat.reduceEqDiff, Int.reduceToNat, Int.reducePow, Nat.reduceAdd, Nat.reduceLeDiff, Nat.reduceMul, Nat.reduceBEq, reduceCtorEq, encM]
    simp (disch := first | omega | (simp only [lnx]; omega)) only [stdh, stdx, ↓reduceIte, Nat.reduceEqDiff, Int.reduceToNat, Int.reducePow, Nat.reduceAdd, Nat.reduceLeDiff, Nat.reduceMul, Nat.reduceBEq, reduceCtorEq, cuneiformlaw18_BodyVersions.d0]
    refine callD_fn (known18_ok _ _ ?_)
    refine ⟨by simp (disch := first | omega | (simp only [lnx]; omega)) only [stdh, stdx, ↓reduceIte, Nat.reduceEqDiff, Int.reduceToNat, Int.reducePow, Nat.reduceAdd, Nat.reduceLeDiff, Nat.reduceMul, Nat.reduceBEq, reduceCtorEq], ?_⟩
    refine runD_V 60 ?_
    have hge : decide ((x.length : Int) ≤ (y.length : Int)) = true := decide_eq_true (by omega)
    have hge2 : decide ((y.length : Int) < (x.length : Int)) = false := decide_eq_false (by omega)
    simp (disch := first | omega | (simp only [lnx]; omega)) only [stdh, stdx, ↓reduceIte, Nat.reduceEqDiff, Int.reduceToNat, Int.reducePow, Nat.reduceAdd, Nat.reduceLeDiff, Nat.reduceMul, Nat.reduceBEq, reduceCtorEq, hge, hge2, encM]
    refine callD_fn (same_ok _ m m sm.fits _ ?_)
    rw [decide_eq_true rfl]
    refine ⟨by simp (disch := first | omega | (simp only [lnx]; omega)) only [stdh, stdx, ↓reduceIte, Nat.reduceEqDiff, Int.reduceToNat, Int.reducePow, Nat.reduceAdd, Nat.reduceLeDiff, Nat.reduceMul, Nat.reduceBEq, reduceCtorEq, encM], ?_⟩
    refine runD_V 60 ?_
    simp (disch := first | omega | (simp only [lnx]; omega)) only [stdh, stdx, ↓reduceIte, Nat.reduceEqDiff, Int.reduceToNat, Int.reducePow, Nat.reduceAdd, Nat.reduceLeDiff, Nat.reduceMul, Nat.reduceBEq, reduceCtorEq, encM]
    refine callD_fn (project_ok _ m 1 sm _ ?_)
    rw [hP]
    refine ⟨by simp (disch := first | omega | (simp only [lnx]; omega)) only [stdh, stdx, ↓reduceIte, Nat.reduceEqDiff, Int.reduceToNat, Int.reducePow, Nat.reduceAdd, Nat.reduceLeDiff, Nat.reduceMul, Nat.reduceBEq, reduceCtorEq, encM], ?_⟩
    refine runD_V 60 ?_
    simp (disch := first | omega | (simp only [lnx]; omega)) only [stdh, stdx, ↓reduceIte, Nat.reduceEqDiff, Int.reduceToNat, Int.reducePow, Nat.reduceAdd, Nat.reduceLeDiff, Nat.reduceMul, Nat.reduceBEq, reduceCtorEq, encM]
    refine callD_fn (same_ok _ p p sp.fits _ ?_)
    rw [decide_eq_true rfl]
    refine ⟨by simp (disch := first | omega | (simp only [lnx]; omega)) only [stdh, stdx, ↓reduceIte, Nat.reduceEqDiff, Int.reduceToNat, Int.reducePow, Nat.reduceAdd, Nat.reduceLeDiff, Nat.reduceMul, Nat.reduceBEq, reduceCtorEq, encM], ?_⟩
    refine runD_V 60 ?_
    simp (disch := first | omega | (simp only [lnx]; omega)) only [stdh, stdx, ↓reduceIte, Nat.reduceEqDiff, Int.reduceToNat, Int.reducePow, Nat.reduceAdd, Nat.reduceLeDiff, Nat.reduceMul, Nat.reduceBEq, reduceCtorEq, encM]
  · have hd : decide (checkM m = 0) = false := decide_eq_false hc
    simp (disch := first | omega | (simp only [lnx]; omega)) only [stdh, stdx, ↓reduceIte, Nat.reduceEqDiff, Int.reduceToNat, Int.reducePow, Nat.reduceAdd, Nat.reduceLeDiff, Nat.reduceMul, Nat.reduceBEq, reduceCtorEq, hne, hd]
    refine callK_fn (known18_ok _ _ ?_)
    refine runL_V 60 ?_
    simp (disch := first | omega | (simp only [lnx]; omega)) only [stdh, stdx, ↓reduceIte, Nat.reduceEqDiff, Int.reduceToNat, Int.reducePow, Nat.reduceAdd, Nat.reduceLeDiff, Nat.reduceMul, Nat.reduceBEq, reduceCtorEq]
end Go.Proofs.Ytdamfbjoiddfhaa

namespace Go.Proofs.Ytdamfbjoiddfhaa
open Go Go.Am
set_option linter.unusedSimpArgs false
set_option linter.unusedVariables false

theorem lensR_app {α : Type} {d : α} {ys cs : List Nat} {a e : Nat} {sp : List Nat → Nat × α × Nat} (ha : a ≤ ys.length) (hsp : ∀ zs, (sp zs).2.2 = 0 → sp (zs ++ cs) = sp zs) (h : (lensR d ys a e sp).2.2 = 0) : lensR d (ys ++ cs) a e sp = lensR d ys a e sp := by
  unfold lensR at *
  by_cases he : e ≠ 0
  · rw [if_pos he, if_pos he]
  · rw [if_neg he] at h ⊢
    rw [if_neg he, List.drop_append_of_le_length ha]
    by_cases h0 : (sp (ys.drop a)).2.2 ≠ 0
    · rw [if_pos h0] at h; exact absurd h h0
    · rw [hsp _ (by omega)]
theorem getSpec_app {zs : List Nat} (cs : List Nat) (h : (getSpec zs).2.2 = 0) : getSpec (zs ++ cs) = getSpec zs := getFrom_app _ _ _ _ _ h
theorem numSpec_app {most : Nat} {zs : List Nat} (cs : List Nat) (h : (numSpec most zs).2.2 = 0) : numSpec most (zs ++ cs) = numSpec most zs := by
  unfold numSpec at *
  by_cases h0 : (getSpec zs).2.2 ≠ 0
  · rw [if_pos h0] at h; exact absurd h h0
  · rw [getSpec_app cs (by omega)]
theorem sgnSpec_app {lo hi : Int} {zs : List Nat} (cs : List Nat) (h : (sgnSpec lo hi zs).2.2 = 0) : sgnSpec lo hi (zs ++ cs) = sgnSpec lo hi zs := by
  unfold sgnSpec at *
  by_cases h0 : (getSpec zs).2.2 ≠ 0
  · rw [if_pos h0] at h; exact absurd h h0
  · rw [getSpec_app cs (by omega)]

theorem err_zero {s : RD} (h : s.err = 0) : s.w = 0 ∧ s.e = 0 := by
  unfold RD.err at h
  split at h
  · exact ⟨by assumption, h⟩
  · exact absurd h (by assumption)
theorem num_app {ys cs : List Nat} {s : RD} {most : Nat} (ha : s.a ≤ ys.length) (h : (s.num ys most).2.err = 0) : s.num (ys ++ cs) most = s.num ys most := by
  have := (err_zero h).2
  unfold RD.num at *
  rw [lensR_app ha (fun zs hz => numSpec_app cs hz) this]
theorem sgn_app {ys cs : List Nat} {s : RD} {lo hi : Int} (ha : s.a ≤ ys.length) (h : (s.sgn ys lo hi).2.err = 0) : s.sgn (ys ++ cs) lo hi = s.sgn ys lo hi := by
  have := (err_zero h).2
  unfold RD.sgn at *
  rw [lensR_app ha (fun zs hz => sgnSpec_app cs hz) this]
theorem fld_app {ys cs : List Nat} {s : RD} {most : Int} (ha : s.a ≤ ys.length) (h : (s.fld ys most).2.err = 0) : s.fld (ys ++ cs) most = s.fld ys most := by
  have := (err_zero h).2
  unfold RD.fld at *
  rw [lensR_app ha (fun zs hz => fieldSpec_app hz) this]

theorem note_err0 {s : RD} {b : Bool} {x : Nat} (hx : x ≠ 0) (h : (s.note b x).err = 0) : s.err = 0 ∧ b = false ∧ s.note b x = s := by
  unfold RD.note at h ⊢
  by_cases hb : b = true ∧ s.err = 0
  · rw [if_pos hb] at h
    have := (err_zero h).1
    exact absurd this hx
  · rw [if_neg hb] at h ⊢
    refine ⟨h, ?_, rfl⟩
    cases hbb : b
    · rfl
    · exact absurd ⟨hbb, h⟩ hb
theorem lensR_stick {α : Type} {d : α} {ys : List Nat} {a e : Nat} {sp : List Nat → Nat × α × Nat} (h : (lensR d ys a e sp).2.2 = 0) : e = 0 := by
  unfold lensR at h
  by_cases he : e ≠ 0
  · rw [if_pos he] at h; exact h
  · omega
theorem sgn_stick {ys : List Nat} {s : RD} {lo hi : Int} (h : (s.sgn ys lo hi).2.err = 0) : s.err = 0 := by
  obtain ⟨h1, h2⟩ := err_zero h
  unfold RD.sgn at h1 h2
  have := lensR_stick h2
  unfold RD.err; rw [if_pos h1]; exact this
theorem num_stick {ys : List Nat} {s : RD} {most : Nat} (h : (s.num ys most).2.err = 0) : s.err = 0 := by
  obtain ⟨h1, h2⟩ := err_zero h
  unfold RD.num at h1 h2
  have := lensR_stick h2
  unfold RD.err; rw [if_pos h1]; exact this
theorem count_app {ys cs : List Nat} {s : RD} {most : Nat} (ha : s.a ≤ ys.length) (h : (s.count ys most).2.err = 0) : s.count (ys ++ cs) most = s.count ys most := by
  have hn := ((count_fst (ys := ys) (s := s) (most := most)).2 h).2.2.1
  unfold RD.count
  rw [num_app ha hn]
theorem pt_app {ys cs : List Nat} {s : RD} {l : Int × Int} (ha : s.a ≤ ys.length) (h : (s.pt ys l).2.err = 0) : s.pt (ys ++ cs) l = s.pt ys l := by
  unfold RD.pt at *
  have h1 := sgn_stick h
  rw [sgn_app ha h1, sgn_app (sgn_le ha _ _) h]
theorem pts_app {ys cs : List Nat} : ∀ (n : Nat) (l : Int × Int) (s : RD), s.a ≤ ys.length → (RD.pts ys n l s).2.err = 0 → RD.pts (ys ++ cs) n l s = RD.pts ys n l s
  | 0, l, s, _, _ => rfl
  | n + 1, l, s, ha, h => by
    rw [RD.pts] at h ⊢
    rw [RD.pts]
    by_cases hp : (s.pt ys l).2.err = 0
    · rw [if_pos hp] at h
      rw [pt_app ha hp, if_pos hp, if_pos hp, pts_app n _ _ (pt_le ha _) h]
    · rw [if_neg hp] at h; exact absurd h hp
theorem cls_app {ys cs : List Nat} : ∀ (n : Nat) (l : Int) (s : RD), s.a ≤ ys.length → (RD.cls ys n l s).2.err = 0 → RD.cls (ys ++ cs) n l s = RD.cls ys n l s
  | 0, l, s, _, _ => rfl
  | n + 1, l, s, ha, h => by
    rw [RD.cls] at h ⊢
    rw [RD.cls]
    by_cases hp : ((s.num ys 65535).2.note (decide (65535 < l + (((s.num ys 65535).1 : Int) + 1))) 5).err = 0
    · rw [if_pos hp] at h
      have hn := (note_err0 (by omega) hp).1
      rw [num_app ha hn, if_pos hp, if_pos hp, cls_app n _ _ (note_le (num_le ha _) _ _) h]
    · rw [if_neg hp] at h; exact absurd h hp
theorem path_err {ys : List Nat} : ∀ (n : Nat) (l : Int × Int) (s : RD), (RD.pts ys n l s).2.err = 0 → s.err = 0
  | 0, l, s, h => h
  | n + 1, l, s, h => by
    rw [RD.pts] at h
    by_cases hp : (s.pt ys l).2.err = 0
    · exact sgn_stick (sgn_stick hp)
    · rw [if_neg hp] at h; exact absurd h hp
theorem cls_err {ys : List Nat} : ∀ (n : Nat) (l : Int) (s : RD), (RD.cls ys n l s).2.err = 0 → s.err = 0
  | 0, l, s, h => h
  | n + 1, l, s, h => by
    rw [RD.cls] at h
    by_cases hp : ((s.num ys 65535).2.note (decide (65535 < l + (((s.num ys 65535).1 : Int) + 1))) 5).err = 0
    · exact num_stick (note_err0 (by omega) hp).1
    · rw [if_neg hp] at h; exact absurd h hp

theorem field_app {ys cs : List Nat} {s : RD} {m : Mg} {f : Fld} (ha : s.a ≤ ys.length) (h : (s.field ys m f).2.err = 0) : s.field (ys ++ cs) m f = s.field ys m f := by
  unfold RD.field at *
  by_cases s1 : f.sort = 1
  · rw [if_pos s1] at h ⊢
    rw [if_pos s1, num_app ha (note_err0 (by omega) h).1]
  rw [if_neg s1] at h ⊢
  rw [if_neg s1]
  by_cases s2 : f.sort = 2
  · rw [if_pos s2] at h ⊢
    rw [if_pos s2, sgn_app ha h]
  rw [if_neg s2] at h ⊢
  rw [if_neg s2]
  by_cases s3 : f.sort = 3
  · rw [if_pos s3] at h ⊢
    rw [if_pos s3]
    have h1 := path_err _ _ _ h
    have : s.path (ys ++ cs) = s.path ys := by
      unfold RD.path
      rw [count_app ha h1, pts_app _ _ _ (count_le ha _) h]
    rw [this]
  rw [if_neg s3] at h ⊢
  rw [if_neg s3]
  by_cases s4 : f.sort = 4
  · rw [if_pos s4] at h ⊢
    rw [if_pos s4]
    have h1 := cls_err _ _ _ h
    have : s.cells (ys ++ cs) = s.cells ys := by
      unfold RD.cells
      rw [count_app ha h1, cls_app _ _ _ (count_le ha _) h]
    rw [this]
  rw [if_neg s4] at h ⊢
  rw [if_neg s4]
  have ht : ∀ most, (s.text ys most).2.err = 0 → s.text (ys ++ cs) most = s.text ys most := fun most hh => by
    unfold RD.text at hh ⊢
    rw [fld_app ha (note_err0 (by omega) hh).1]
  by_cases s5 : f.sort = 5
  · rw [if_pos s5] at h ⊢
    rw [if_pos s5, ht _ h]
  · rw [if_neg s5] at h ⊢
    rw [if_neg s5, ht _ h]

theorem last_zero {ys : List Nat} {L : List Fld} {m0 : Mg} (h : (lastS ys L m0).2.err = 0) : (∀ j, j < L.length → (stS ys L m0 (j + 1)).2.err = 0) ∧ lastS ys L m0 = stS ys L m0 L.length := by
  unfold lastS at *
  obtain ⟨a, b, c⟩ := endS_spec (ys := ys) (L := L) (m0 := m0) L.length 0 (by intro i hi; omega)
  rcases c with ⟨c1, c2⟩ | ⟨c1, c2⟩
  · have c3 : endS ys L m0 L.length 0 = L.length := by omega
    refine ⟨fun j hj => ?_, by rw [c3]⟩
    have := c1 j (by omega)
    unfold stopS at this
    by_cases he : (stS ys L m0 (j + 1)).2.err = 0
    · exact he
    · rw [if_neg he] at this; cases this
  · have := (stopS_cases c2).2
    rw [show endS ys L m0 L.length 0 - 1 + 1 = endS ys L m0 L.length 0 by omega] at this
    exact absurd h this

theorem stS_app {ys cs : List Nat} {L : List Fld} {m0 : Mg} (h : ∀ j, j < L.length → (stS ys L m0 (j + 1)).2.err = 0) : ∀ j, j ≤ L.length → stS (ys ++ cs) L m0 j = stS ys L m0 j
  | 0, _ => rfl
  | j + 1, hj => by
    have he := h j (by omega)
    rw [stS] at he
    rw [stS, stS_app h j (by omega), field_app (stS_le j) he, ← stS]

theorem dec_app {kind v : Int} {ys cs : List Nat} (h : (decM kind v ys).2 = 0) (hc : cs ≠ []) : decM kind v (ys ++ cs) = (mg0, 3) := by
  unfold decM at h ⊢
  by_cases hv : v ≠ 1 ∧ v ≠ 2
  · rw [if_pos hv] at h; cases h
  rw [if_neg hv] at h ⊢
  by_cases hf : fieldsOf kind = []
  · rw [if_pos hf] at h; cases h
  rw [if_neg hf] at h ⊢
  by_cases he : (lastS ys (versionFields kind v) { mg0 with k := kind }).2.err ≠ 0
  · rw [if_pos he] at h; exact absurd h he
  rw [if_neg he] at h
  have he : (lastS ys (versionFields kind v) { mg0 with k := kind }).2.err = 0 := by omega
  obtain ⟨h1, h2⟩ := last_zero he
  have hs := stS_app (cs := cs) h1
  have hl : lastS (ys ++ cs) (versionFields kind v) { mg0 with k := kind } = lastS ys (versionFields kind v) { mg0 with k := kind } := by
    rw [h2, ← hs _ (Nat.le_refl _)]
    unfold lastS
    rw [endS_all (fun i hi => by rw [stopS, hs (i + 1) (by omega), if_pos (h1 i hi)])]
  rw [hl, if_neg (by omega)]
  have hle : (lastS ys (versionFields kind v) { mg0 with k := kind }).2.a ≤ ys.length := by rw [h2]; exact stS_le _
  rw [if_pos (by rw [List.length_append]; have := List.length_pos_iff.2 hc; omega)]

theorem dec_cut {m : Mg} {v : Int} (h : checkM m = 0) (hm : m.fine) (hv : v = 1 ∨ v = 2) (hne : encB m v ≠ []) : (decM m.k v (encB m v).dropLast).2 ≠ 0 := fun h0 => by
  have h1 := dec_app (cs := [(encB m v).getLast hne]) h0 (by simp)
  rw [List.dropLast_concat_getLast] at h1
  have h2 := dec_enc (rest := []) h hm hv
  rw [List.append_nil, if_pos rfl] at h2
  rw [h2] at h1
  have := congrArg Prod.snd h1
  simp at this
end Go.Proofs.Ytdamfbjoiddfhaa
